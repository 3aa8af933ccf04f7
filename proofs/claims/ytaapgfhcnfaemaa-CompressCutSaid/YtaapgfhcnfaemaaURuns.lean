/- The decoding of runs, of the program. -/
import Derived.Test.YtaapgfhcnfaemaaPack
namespace Go.Proofs.Ytaapgfhcnfaemaa
open Go.RowKit Go.Over Go.Zip Go.Seg
theorem Bytes.drop {w : World} {b off : Nat} {d : List Int} (h : Bytes w (some ⟨b, off, none⟩) d) (k : Nat) : Bytes w (some ⟨b, off + k, none⟩) (d.drop k) := by
  refine ⟨by have := h.1; simp; omega, fun h0 => ?_, fun x hx => h.2.2 x (List.mem_of_mem_drop hx)⟩
  have h1 : k < d.length := by simp at h0; omega
  obtain ⟨b', off', ha, hc⟩ := h.2.1 (by omega)
  cases ha
  refine ⟨b, off + k, rfl, fun i hi => ?_⟩
  have := hc (k + i) (by simp at hi; omega)
  rw [show off + k + i = off + (k + i) by omega, this]
  simp only [Zip.get, List.getD_eq_getElem?_getD, List.getElem?_drop]
theorem Bytes.take {w : World} {a : Option Addr} {d : List Int} (h : Bytes w a d) (k : Nat) : Bytes w a (d.take k) := by
  refine ⟨by have := h.1; simp; omega, fun h0 => ?_, fun x hx => h.2.2 x (List.mem_of_mem_take hx)⟩
  obtain ⟨b, off, ha, hc⟩ := h.2.1 (by simp at h0; omega)
  refine ⟨b, off, ha, fun i hi => ?_⟩
  simp at hi
  rw [hc i (by omega)]
  simp only [Zip.get, List.getD_eq_getElem?_getD]
  rw [List.getElem?_take, if_pos (by omega)]
/-- What a decoding answers. -/
def Dec (w w' : World) (v : Value) (r : Bool) (o : Option (List Int)) : Prop :=
  (r = true → ∃ p, o = some p ∧ Owns w' w.heap.size v p ∧ p.length ≤ 32 ∧ ∀ x ∈ p, 0 ≤ x ∧ x ≤ 255) ∧ (r = false → o = none)
/-- A decoding's answer: a slice and whether it is one. -/
def Ans (w : World) (o : Option (List Int)) (e : Ending) (w' : World) : Prop := ∃ v r, e = .returned (.tuple #[v, .bool r]) ∧ Dec w w' v r o ∧ Below w.heap.size w w'
theorem Ans.no {w w' : World} {o : Option (List Int)} {e : Ending} (v : Value) (he : e = .returned (.tuple #[v, .bool false])) (ho : o = none) (hb : Below w.heap.size w w') : Ans w o e w' :=
  ⟨v, false, he, ⟨by simp, fun _ => ho⟩, hb⟩
theorem Ans.yes {w w' : World} {o : Option (List Int)} {e : Ending} (v : Value) (p : List Int) (he : e = .returned (.tuple #[v, .bool true])) (ho : o = some p) (hO : Owns w' w.heap.size v p) (hl : p.length ≤ 32) (hp : ∀ x ∈ p, 0 ≤ x ∧ x ≤ 255) (hb : Below w.heap.size w w') : Ans w o e w' :=
  ⟨v, true, he, ⟨fun _ => ⟨p, ho, hO, hl, hp⟩, by simp⟩, hb⟩
theorem two_of {l : List Int} (h : 2 ≤ l.length) : ∃ y x rest, l = y :: x :: rest := by
  match l, h with
  | y :: x :: rest, _ => exact ⟨y, x, rest, rfl⟩
theorem UR_two (y x : Int) (rest out : List Int) : UR (y :: x :: rest) out = if y < 1 ∨ y > 32 - (out.length : Int) then none else UR rest (out ++ List.replicate y.toNat x) := by
  simp only [UR]
set_option maxHeartbeats 6400000 in
theorem unruns_26 (a : Option Addr) (d : List Int) (n c : Nat) (w : World) (H : Bytes w a d) (hn : d.length = n) (h80 : n ≤ 80) (hc : n ≤ c) (hcm : c ≤ maxLen) :
    Calls Try.prog 26 #[.slice a n c] w (Ans w (UR d [])) := by
  obtain ⟨i0, hi0, hz0, hz1, hz2⟩ := info_parts Try.info5
  unfold maxLen at hcm
  have HN := Lib.hid hn; clear hn
  go_enter Try.func26, Try.ntmps26
  go_wp2
  go_loopg [0, 4] 80 (fun g s0 v0 wr => ∃ (a' : Option Addr) (d' out : List Int) (v : Value) (n' c' m : Nat), n' ≤ g ∧ d'.length = n' ∧ out.length = m ∧ s0 = .slice a' n' c' ∧ v = v0 ∧ n' ≤ c' ∧ c' ≤ c ∧ Bytes w a' d' ∧ Owns wr w.heap.size v out ∧ m ≤ 32 ∧ (∀ x ∈ out, 0 ≤ x ∧ x ≤ 255) ∧ UR d [] = UR d' out ∧ Below w.heap.size w wr)
  case atStart => exact ⟨a, d, [], _, n, c, 0, h80, HN.out, rfl, rfl, rfl, hc, Nat.le_refl _, H, Owns.nil _ _, by omega, by simp, rfl, Below.refl _ _⟩
  case round =>
    obtain ⟨a', d', out, v, n', c', m, hg, hn', hm, rfl, rfl, hc', hcc, hB, hO, hm32, hob, hU, hbel⟩ := hrel
    obtain ⟨bo, co, rfl⟩ := owns_len hO hm
    by_cases h2 : n' < 2
    · have HU := Lib.hid hU; clear hU
      by_cases h0 : n' = 0
      · subst h0
        have hd : d' = [] := List.eq_nil_of_length_eq_zero hn'
        clear hn'
        go_wp2
        go_ret2
        exact Ans.yes _ out rfl (by rw [HU.out, hd]; rfl) hO (by omega) hob hbel
      · have h1 : n' = 1 := by omega
        subst h1
        obtain ⟨y, rfl⟩ := List.length_eq_one_iff.1 hn'
        clear hn'
        go_wp2
        go_ret2
        exact Ans.no _ rfl (by rw [HU.out]; rfl) hbel
    · obtain ⟨y, x, rest, rfl⟩ := two_of (l := d') (by omega)
      rw [UR_two] at hU
      obtain ⟨b', off', rfl, hcell⟩ := (hB.below hbel).ne (by simp)
      have hy := hB.2.2 y (by simp)
      have hx := hB.2.2 x (by simp)
      obtain ⟨k, rfl⟩ : ∃ k : Nat, y = (k : Int) := ⟨y.toNat, by omega⟩
      have c0 : wr.cell? ⟨b', off', none⟩ = some (.int .u8 k) := hcell 0 (by simp)
      clear hcell
      have hn2 : rest.length + 2 = n' := by simpa using hn'
      clear hn'
      have hk9 : (k : Int) ≤ 255 := hy.2
      have HM := Lib.hid hm; clear hm
      by_cases hk : k < 1
      · rw [if_pos (by omega)] at hU
        have HU := Lib.hid hU; clear hU
        go_wp2
        go_ret2
        exact Ans.no _ rfl HU.out hbel
      · by_cases hk2 : 32 < k + m
        · rw [if_pos (by have := HM.out; omega)] at hU
          have HU := Lib.hid hU; clear hU
          go_wp2
          go_ret2
          exact Ans.no _ rfl HU.out hbel
        · rw [if_neg (by have := HM.out; omega)] at hU
          have HU := Lib.hid hU; clear hU
          have hB1 : Bytes wr (some ⟨b', off' + 1, none⟩) [x] := ((hB.drop 1).take 1).below hbel
          have hB2 : Bytes w (some ⟨b', off' + 2, none⟩) rest := hB.drop 2
          cases gk with
          | zero => omega
          | succ g =>
          cases g with
          | zero => omega
          | succ g =>
          go_wp2_with (first | (go_at_call 25; refine (repeat_any _ _ k x _ hB1 (by omega) (by omega)).mono ?_; rintro e w1 ⟨v1, rfl, ⟨a2, c2, rfl, hN1, hN2, hN3, _⟩, hb1⟩; obtain ⟨b2, off2, rfl, _⟩ := hN3.ne (by rw [Ne, List.replicate_eq_nil_iff]; omega); rw [List.length_replicate] at hN1; rw [List.length_replicate]) | (at_builtin; refine wpList_append_where rfl (.tmp 24) (.tmp 28) rfl hi0 hz0 hz1 hz2 _ out rfl (hO.kept (below_grown hb1) (own_none _)) ⟨b2, off2, none⟩ k c2 (List.replicate k x) rfl (List.length_replicate ..) (Bytes.cells hN3) ?c1 ?c2 ?_))
          case c1 => have := HM.out; omega
          case c2 => have := hbel.size; have := hb1.size; omega
          intro v3 w3 hown hgrow _
          have hb3 : Below w.heap.size w w3 := (below_then hbel hb1).grown hgrow (by have := hbel.size; have := hb1.size; omega) (fun q hq => (hO.lt q hq).1)
          clear hgrow
          have hob2 : ∀ z ∈ out ++ List.replicate k x, 0 ≤ z ∧ z ≤ 255 := by
            intro z hz
            rcases List.mem_append.1 hz with h | h
            · exact hob z h
            · rw [List.eq_of_mem_replicate h]; exact hx
          have hlen2 : (out ++ List.replicate k x).length = m + k := by rw [List.length_append, List.length_replicate, HM.out]
          have HU2 := Lib.hid (show UR d [] = UR rest (out ++ List.replicate k x) from HU.out)
          have HL2 := Lib.hid hlen2
          have HO2 := Lib.hid hob2
          clear hlen2 hob2 hob hO
          by_cases hz : c' = 2
          · have hr : rest = [] := List.eq_nil_of_length_eq_zero (by omega)
            subst hr
            subst hz
            obtain rfl : n' = 2 := by omega
            go_wp2
            go_roundg g
            case rel => exact ⟨_, [], _, _, 0, _, m + k, by omega, rfl, HL2.out, rfl, rfl, by omega, by omega, Bytes.empty _ _, hown, by omega, HO2.out, HU2.out, hb3⟩
            case measure => omega
          · go_wp2
            go_roundg g
            case rel => exact ⟨_, rest, _, _, n' - 2, _, m + k, by omega, by omega, HL2.out, rfl, rfl, by omega, by omega, hB2, hown, by omega, HO2.out, HU2.out, hb3⟩
            case measure => omega
end Go.Proofs.Ytaapgfhcnfaemaa
