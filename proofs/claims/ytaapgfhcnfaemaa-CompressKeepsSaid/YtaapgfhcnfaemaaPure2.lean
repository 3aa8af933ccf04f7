/- The plain laws of the encodings. -/
import Derived.Test.YtaapgfhcnfaemaaPure
namespace Go.Zip

/-- Are all bytes of a page equal? -/
def fullB (l : List Int) : Bool := decide (l.length = 32) && l.all fun x => x == get l 0
/-- The encoding of a page of 32 bytes. -/
def shorter (l : List Int) : List Int := if (2 :: matL l 33 0 0).length < (1 :: runsL l 32 0).length then 2 :: matL l 33 0 0 else 1 :: runsL l 32 0
def packL (l : List Int) : List Int := if fullB l = true then [0, get l 0] else if (shorter l).length > 33 then 3 :: l else shorter l
def unpackL : List Int → Option (List Int)
  | [] => none
  | m :: rest =>
    if m = 0 then (if rest.length = 1 then some (List.replicate 32 (get rest 0)) else none)
    else if m = 1 then (match UR rest [] with | some p => if p.length = 32 then some p else none | none => none)
    else if m = 2 then UM (rest.length + 65) rest []
    else if m = 3 then (if rest.length = 32 then some rest else none)
    else none
theorem unpackL_cons (m : Int) (rest : List Int) : unpackL (m :: rest) = (
    if m = 0 then (if rest.length = 1 then some (List.replicate 32 (get rest 0)) else none)
    else if m = 1 then (match UR rest [] with | some p => if p.length = 32 then some p else none | none => none)
    else if m = 2 then UM (rest.length + 65) rest []
    else if m = 3 then (if rest.length = 32 then some rest else none)
    else none) := rfl
theorem full_eq {l : List Int} (h : fullB l = true) : l = List.replicate 32 (get l 0) := by
  simp only [fullB, Bool.and_eq_true, decide_eq_true_eq, List.all_eq_true, beq_iff_eq] at h
  rw [← h.1]
  exact List.eq_replicate_iff.2 ⟨rfl, h.2⟩
/-- Fuel makes no difference once it is enough. -/
theorem UM_more : ∀ (f : Nat) (d out p : List Int), UM f d out = some p → ∀ g, f ≤ g → UM g d out = some p
  | 0, _, _, _, h, _, _ => by simp [UM] at h
  | f + 1, d, out, p, h, g, hg => by
    obtain ⟨g, rfl⟩ : ∃ k, g = k + 1 := ⟨g - 1, by omega⟩
    rw [UM_succ] at h ⊢
    split at h
    · rename_i c1
      rw [if_pos c1]
      split at h
      · cases h
      · rename_i c2
        rw [if_neg c2]
        split at h
        · rename_i c3
          rw [if_pos c3]
          split at h
          · cases h
          · rename_i c4
            rw [if_neg c4]
            exact UM_more f _ _ _ h g (by omega)
        · rename_i c3
          rw [if_neg c3]
          split at h
          · cases h
          · rename_i c4
            rw [if_neg c4]
            exact UM_more f _ _ _ h g (by omega)
    · rename_i c1
      rw [if_neg c1]
      exact h
theorem unpack_pack {l : List Int} (hl : l.length = 32) : unpackL (packL l) = some l := by
  unfold packL
  split
  · rename_i h
    have := full_eq h
    simp only [unpackL, if_true, List.length_singleton]
    rw [show get [get l 0] 0 = get l 0 from rfl, ← this]
  · split
    · simp [unpackL, hl]
    · unfold shorter
      split
      · have h := UM_mat hl 33 0 0 65 (Nat.le_refl _) (by omega) (by omega) (by omega)
        simp only [List.take_zero] at h
        have h2 := UM_more _ _ _ _ h ((matL l 33 0 0).length + 65) (by omega)
        simp [unpackL, h2]
      · have h := UR_runs hl 32 0 (by omega) (by omega)
        simp only [List.take_zero] at h
        simp [unpackL, h, hl]
theorem packL_length {l : List Int} (hl : l.length = 32) : (packL l).length ≤ 33 := by
  unfold packL
  split
  · simp
  · split
    · simp [hl]
    · omega

/-! ### A cut or lengthened encoding is none -/
theorem UR_ext : ∀ (d out p : List Int) (m : Int), UR d out = some p → UR (d ++ [m]) out = none
  | [], _, _, _, _ => rfl
  | [_], _, _, _, h => by simp [UR] at h
  | n :: v :: rest, out, p, m, h => by
    unfold UR at h
    simp only [List.cons_append]
    unfold UR
    split at h
    · cases h
    · rename_i c
      rw [if_neg c]
      exact UR_ext rest _ p m h
theorem UR_cut : ∀ (d out p : List Int), UR d out = some p → d ≠ [] → UR d.dropLast out = none
  | [], _, _, _, h => by cases h rfl
  | [_], _, _, h, _ => by simp [UR] at h
  | [n, v], _, _, _, _ => by simp [UR]
  | n :: v :: x :: rest, out, p, h, _ => by
    unfold UR at h
    simp only [List.dropLast_cons_cons]
    unfold UR
    split at h
    · cases h
    · rename_i c
      rw [if_neg c]
      have := UR_cut (x :: rest) _ p h (by simp)
      simpa using this
theorem get_append {d e : List Int} {i : Nat} (h : i < d.length) : get (d ++ e) i = get d i := by
  simp [get, List.getElem?_append_left h]
theorem UM_ext : ∀ (f : Nat) (d out p : List Int) (m : Int) (g : Nat), UM f d out = some p → UM g (d ++ [m]) out = none
  | 0, _, _, _, _, _, h => by simp [UM] at h
  | f + 1, d, out, p, m, 0, h => rfl
  | f + 1, d, out, p, m, g + 1, h => by
    rw [UM_succ] at h ⊢
    split at h
    · rename_i c1
      rw [if_pos c1]
      split at h
      · cases h
      · rename_i c2
        have h0 : get (d ++ [m]) 0 = get d 0 := get_append (by omega)
        have h1 : get (d ++ [m]) 1 = get d 1 := get_append (by omega)
        have hl : (d ++ [m]).length = d.length + 1 := by simp
        rw [h0, h1, hl, if_neg (by omega)]
        split at h
        · rename_i c3
          rw [if_pos c3]
          split at h
          · cases h
          · rename_i c4
            rw [if_neg (by omega)]
            have e1 : (d ++ [m]).drop ((get d 0).toNat + 2) = d.drop ((get d 0).toNat + 2) ++ [m] := by
              by_cases hx : 0 ≤ get d 0
              · rw [List.drop_append_of_le_length (by omega)]
              · rw [List.drop_append_of_le_length (by omega)]
            have e2 : ((d ++ [m]).drop 1).take ((get d 0).toNat + 1) = (d.drop 1).take ((get d 0).toNat + 1) := by
              rw [List.drop_append_of_le_length (by omega), List.take_append_of_le_length]
              simp; omega
            rw [e1, e2]
            exact UM_ext f _ _ _ m g h
        · rename_i c3
          rw [if_neg c3]
          split at h
          · cases h
          · rename_i c4
            rw [if_neg c4]
            have e1 : (d ++ [m]).drop 2 = d.drop 2 ++ [m] := List.drop_append_of_le_length (by omega)
            rw [e1]
            exact UM_ext f _ _ _ m g h
    · rename_i c1
      rw [if_neg c1, if_neg (by simp)]
theorem UM_cut : ∀ (f : Nat) (d out p : List Int) (g : Nat), UM f d out = some p → d ≠ [] → UM g d.dropLast out = none
  | 0, _, _, _, _, h, _ => by simp [UM] at h
  | f + 1, d, out, p, 0, h, _ => rfl
  | f + 1, d, out, p, g + 1, h, hd => by
    have hp : 0 < d.length := List.length_pos_iff.2 hd
    have hl : d.dropLast.length = d.length - 1 := by simp
    have hg : ∀ i, i < d.length - 1 → get d.dropLast i = get d i := by
      intro i hi
      simp only [get, List.getD_eq_getElem?_getD, List.getElem?_dropLast, if_pos hi]
    rw [UM_succ] at h ⊢
    split at h
    · rename_i c1
      rw [if_pos c1]
      split at h
      · cases h
      · rename_i c2
        rw [hl]
        by_cases h2 : d.length - 1 < 2 ∨ get d 0 > 61
        · rcases h2 with h2 | h2
          · rw [if_pos (.inl h2)]
          · omega
        · have h0 : get d.dropLast 0 = get d 0 := hg 0 (by omega)
          have h1 : get d.dropLast 1 = get d 1 := hg 1 (by omega)
          rw [h0, h1, if_neg h2]
          split at h
          · rename_i c3
            rw [if_pos c3]
            split at h
            · cases h
            · rename_i c4
              by_cases c5 : get d 0 + 1 > ((d.length - 1 : Nat) : Int) - 1
              · rw [if_pos (.inr c5)]
              · rw [if_neg (by omega)]
                have e1 : d.dropLast.drop ((get d 0).toNat + 2) = (d.drop ((get d 0).toNat + 2)).dropLast := by
                  rw [List.dropLast_eq_take, List.dropLast_eq_take, List.drop_take, List.length_drop]
                  congr 1; omega
                have e2 : (d.dropLast.drop 1).take ((get d 0).toNat + 1) = (d.drop 1).take ((get d 0).toNat + 1) := by
                  rw [List.dropLast_eq_take, List.drop_take, List.take_take]
                  congr 1; omega
                rw [e1, e2]
                refine UM_cut f _ _ _ g h ?_
                intro e
                have := congrArg List.length e
                simp at this; omega
          · rename_i c3
            rw [if_neg c3]
            split at h
            · cases h
            · rename_i c4
              rw [if_neg c4]
              have e1 : d.dropLast.drop 2 = (d.drop 2).dropLast := by
                rw [List.dropLast_eq_take, List.dropLast_eq_take, List.drop_take, List.length_drop]
                congr 1
              rw [e1]
              refine UM_cut f _ _ _ g h ?_
              intro e
              have := congrArg List.length e
              simp at this; omega
    · rename_i c1
      split at h
      · omega
      · cases h
theorem UM_len : ∀ (f : Nat) (d out p : List Int), UM f d out = some p → out.length ≤ 32 → p.length = 32
  | 0, _, _, _, h, _ => by simp [UM] at h
  | f + 1, d, out, p, h, ho => by
    rw [UM_succ] at h
    split at h
    · split at h
      · cases h
      · rename_i c2
        split at h
        · split at h
          · cases h
          · rename_i c4
            refine UM_len f _ _ _ h ?_
            simp only [List.length_append, List.length_take, List.length_drop]
            omega
        · split at h
          · cases h
          · rename_i c4
            refine UM_len f _ _ _ h ?_
            rw [copyN_length]
            omega
    · split at h
      · cases h; omega
      · cases h
theorem unpack_len {d p : List Int} (h : unpackL d = some p) : p.length = 32 := by
  unfold unpackL at h
  split at h
  · cases h
  · rename_i m rest
    split at h
    · split at h
      · cases h; simp
      · cases h
    · split at h
      · split at h
        · rename_i q hq
          split at h
          · cases h; assumption
          · cases h
        · cases h
      · split at h
        · exact UM_len _ _ _ _ h (by simp)
        · split at h
          · split at h
            · cases h; assumption
            · cases h
          · cases h
theorem unpack_ext {d p : List Int} (m : Int) (h : unpackL d = some p) : unpackL (d ++ [m]) = none := by
  unfold unpackL at h
  split at h
  · cases h
  · rename_i k rest
    rw [List.cons_append, unpackL_cons]
    split at h
    · rename_i c
      rw [if_pos c]
      split at h
      · rw [if_neg (by simp_all)]
      · cases h
    · rename_i c
      rw [if_neg c]
      split at h
      · rename_i c1
        rw [if_pos c1]
        split at h
        · rename_i q hq
          rw [UR_ext rest [] q m hq]
        · cases h
      · rename_i c1
        rw [if_neg c1]
        split at h
        · rename_i c2
          rw [if_pos c2]
          exact UM_ext _ _ _ _ m _ h
        · rename_i c2
          rw [if_neg c2]
          split at h
          · rename_i c3
            rw [if_pos c3]
            split at h
            · rw [if_neg (by simp; omega)]
            · cases h
          · cases h
theorem unpack_cut {d p : List Int} (h : unpackL d = some p) : unpackL d.dropLast = none := by
  have hp := unpack_len h
  unfold unpackL at h
  split at h
  · cases h
  · rename_i k rest
    cases rest with
    | nil => rfl
    | cons x rest =>
      rw [List.dropLast_cons_cons, unpackL_cons]
      split at h
      · rename_i c
        rw [if_pos c]
        split at h
        · rw [if_neg (by simp_all)]
        · cases h
      · rename_i c
        rw [if_neg c]
        split at h
        · rename_i c1
          rw [if_pos c1]
          split at h
          · rename_i q hq
            rw [UR_cut _ [] q hq (by simp)]
          · cases h
        · rename_i c1
          rw [if_neg c1]
          split at h
          · rename_i c2
            rw [if_pos c2]
            exact UM_cut _ _ _ _ _ h (by simp)
          · rename_i c2
            rw [if_neg c2]
            split at h
            · rename_i c3
              rw [if_pos c3]
              split at h
              · rw [if_neg (by simp_all)]
              · cases h
            · cases h
end Go.Zip
