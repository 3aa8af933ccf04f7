/- Unpack, of the program. -/
import Derived.Test.YtaapgfhcnfaemaaRUMats
namespace Go.Proofs.Ytaapgfhcnfaemaa
open Go.RowKit Go.Over Go.Zip Go.Seg
/-- What Unpack answers: the page, or an error. -/
def UAns (w : World) (o : Option (List Int)) (e : Ending) (w' : World) : Prop :=
  ∃ v k, e = .returned (.tuple #[v, .int .i64 k]) ∧ Below w.heap.size w w' ∧ (∀ p, o = some p → k = 0 ∧ New w' w.heap.size v p) ∧ (o = none → k = 22 ∧ v = .slice none 0 0)
theorem UAns.no {w w' : World} {o : Option (List Int)} {e : Ending} (he : e = .returned (.tuple #[.slice none 0 0, .int .i64 22])) (ho : o = none) (hb : Below w.heap.size w w') : UAns w o e w' :=
  ⟨_, _, he, hb, (fun p hp => by rw [ho] at hp; cases hp), fun _ => ⟨rfl, rfl⟩⟩
theorem UAns.yes {w w' : World} {o : Option (List Int)} {e : Ending} (v : Value) (p : List Int) (he : e = .returned (.tuple #[v, .int .i64 0])) (ho : o = some p) (hN : New w' w.heap.size v p) (hb : Below w.heap.size w w') : UAns w o e w' :=
  ⟨_, _, he, hb, (fun q hq => by rw [ho] at hq; cases hq; exact ⟨rfl, hN⟩), fun h => by rw [ho] at h; cases h⟩
theorem unpack_eq {d : List Int} (h : 0 < d.length) : unpackL d = (
    if get d 0 = 0 then (if (d.drop 1).length = 1 then some (List.replicate 32 (get (d.drop 1) 0)) else none)
    else if get d 0 = 1 then (match UR (d.drop 1) [] with | some p => if p.length = 32 then some p else none | none => none)
    else if get d 0 = 2 then UM ((d.drop 1).length + 65) (d.drop 1) []
    else if get d 0 = 3 then (if (d.drop 1).length = 32 then some (d.drop 1) else none)
    else none) := by
  cases d with
  | nil => simp at h
  | cons m rest => exact unpackL_cons m rest
theorem New.mono {w : World} {b b' : Nat} {v : Value} {l : List Int} (h : New w b v l) (hb : b' ≤ b) : New w b' v l := by
  obtain ⟨a, c, rfl, h1, h2, h3, h4⟩ := h
  exact ⟨a, c, rfl, h1, h2, h3, fun h0 => by obtain ⟨g, off, e, hg, hf⟩ := h4 h0; exact ⟨g, off, e, by omega, hf⟩⟩
theorem ne_of {n k : Nat} (h : n ≠ k) : ((n : Int) == (k : Int)) = false := by simp; omega
set_option maxRecDepth 100000 in set_option maxHeartbeats 800000 in
theorem unpack_m0 (b off : Nat) (d : List Int) (n c : Nat) (w : World) (H : Bytes w (some ⟨b, off, none⟩) d) (HN : Hid (d.length = n)) (h80 : n ≤ 81) (hc : n ≤ c) (hcm : c ≤ 2 ^ 63 - 1) (h1 : 1 ≤ n) (HM : Hid (get d 0 = ((0 : Nat) : Int)))
    (c0 : w.cell? ⟨b, off, none⟩ = some (.int .u8 ((0 : Nat) : Int))) :
    Calls Try.prog 16 #[.slice (some ⟨b, off, none⟩) n c] w (UAns w (unpackL d)) := by
  have hz0 : ((n : Int) == 0) = false := by simp; omega
  have HR := Lib.hid (show (d.drop 1).length = n - 1 by rw [List.length_drop, HN.out])
  have HD := Lib.hid (unpack_eq (d := d) (by rw [HN.out]; omega))
  by_cases hc1 : c = 1
  · subst hc1
    obtain rfl : n = 1 := by omega
    have HB : Bytes w (some ⟨b, off, none⟩) (d.drop 1) := by
      rw [List.drop_eq_nil_of_le (by rw [HN.out]; exact Nat.le_refl _)]; exact Bytes.empty _ _
    clear hz0
    have HE := Lib.hid (show unpackL d = if 1 - 1 = 1 then some (List.replicate 32 (get (d.drop 1) 0)) else none by rw [HD.out, HM.out, HR.out, if_pos (by decide)])
    have HU := Lib.hid (show unpackL d = none by rw [HE.out, if_neg (by omega)])
    have hb : ((1 - 1 : Nat) : Int) = (1 : Int) - 1 := by omega
    have hb2 : ((((1 - 1 : Nat) : Int)) == 1) = false := by first | decide | (simp; omega)
    clear hb
    go_enter Try.func16, Try.ntmps16
    go_wp2; go_ret2; exact UAns.no rfl HU.out (by repeat (first | with_reducible exact Below.refl _ _ | with_reducible assumption | with_reducible refine below_alloc ?_ _ | with_reducible refine Below.drew ?_ | with_reducible refine below_drewN ?_ _ | with_reducible refine below_then ?_ (by with_reducible assumption)))
  · have HB : Bytes w (some ⟨b, off + 1, none⟩) (d.drop 1) := H.drop 1
    have HE := Lib.hid (show unpackL d = if n - 1 = 1 then some (List.replicate 32 (get (d.drop 1) 0)) else none by rw [HD.out, HM.out, HR.out, if_pos (by decide)])
    by_cases h2 : n = 2
    · subst h2
      have hb1 : Bytes w (some ⟨b, off + 1, none⟩) [get (d.drop 1) 0] := (H.drop 1).one (by rw [HR.out]; decide)
      have HU := Lib.hid (show unpackL d = some (List.replicate 32 (get (d.drop 1) 0)) by rw [HE.out]; rfl)
      have hc2 : 2 ≤ c := hc
      go_enter Try.func16, Try.ntmps16
      go_wp2_with (go_at_call 25; refine (repeat_any _ _ 32 _ _ hb1 (by decide) (by decide)).mono ?_; rintro e w1 ⟨v, rfl, ⟨a2, c2, rfl, hN1, hN2, hN3, hN4⟩, hbel⟩; rw [List.length_replicate] at hN1; rw [List.length_replicate])
      go_ret2
      exact UAns.yes (.slice a2 32 c2) _ rfl HU.out ⟨a2, c2, by rw [List.length_replicate], by rw [List.length_replicate]; exact hN1, hN2, hN3, hN4⟩ (by repeat (first | with_reducible exact Below.refl _ _ | with_reducible assumption | with_reducible refine below_alloc ?_ _ | with_reducible refine Below.drew ?_ | with_reducible refine below_drewN ?_ _ | with_reducible refine below_then ?_ (by with_reducible assumption)))
    · have HU := Lib.hid (show unpackL d = none by rw [HE.out, if_neg (by omega)])
      have hb : ((n - 1 : Nat) : Int) = (n : Int) - 1 := by omega
      have hb2 : ((((n - 1 : Nat) : Int)) == 1) = false := by first | decide | (simp; omega)
      clear hb
      go_enter Try.func16, Try.ntmps16
      go_wp2; go_ret2; exact UAns.no rfl HU.out (by repeat (first | with_reducible exact Below.refl _ _ | with_reducible assumption | with_reducible refine below_alloc ?_ _ | with_reducible refine Below.drew ?_ | with_reducible refine below_drewN ?_ _ | with_reducible refine below_then ?_ (by with_reducible assumption)))
set_option maxRecDepth 100000 in set_option maxHeartbeats 800000 in
theorem unpack_m1 (b off : Nat) (d : List Int) (n c : Nat) (w : World) (H : Bytes w (some ⟨b, off, none⟩) d) (HN : Hid (d.length = n)) (h80 : n ≤ 81) (hc : n ≤ c) (hcm : c ≤ 2 ^ 63 - 1) (h1 : 1 ≤ n) (HM : Hid (get d 0 = ((1 : Nat) : Int)))
    (c0 : w.cell? ⟨b, off, none⟩ = some (.int .u8 ((1 : Nat) : Int))) :
    Calls Try.prog 16 #[.slice (some ⟨b, off, none⟩) n c] w (UAns w (unpackL d)) := by
  have hz0 : ((n : Int) == 0) = false := by simp; omega
  have HR := Lib.hid (show (d.drop 1).length = n - 1 by rw [List.length_drop, HN.out])
  have HD := Lib.hid (unpack_eq (d := d) (by rw [HN.out]; omega))
  by_cases hc1 : c = 1
  · subst hc1
    obtain rfl : n = 1 := by omega
    have HB : Bytes w (some ⟨b, off, none⟩) (d.drop 1) := by
      rw [List.drop_eq_nil_of_le (by rw [HN.out]; exact Nat.le_refl _)]; exact Bytes.empty _ _
    clear hz0
    have HE := Lib.hid (show unpackL d = only32 (UR (d.drop 1) []) by rw [HD.out, HM.out, if_neg (by decide), if_pos (by decide)]; rfl)
    go_enter Try.func16, Try.ntmps16
    go_wp2_with fail
    refine (unruns_26 _ (d.drop 1) _ _ _ HB HR.out (by omega) (by omega) (by unfold maxLen; omega)).mono ?_
    rintro e w1 ⟨v, r, rfl, ⟨hy, hn'⟩, hbel⟩
    cases r with
    | false =>
      have HU := Lib.hid (show unpackL d = none by rw [HE.out, hn' rfl]; rfl)
      clear hy hn'
      go_wp2; go_ret2; exact UAns.no rfl HU.out (by repeat (first | with_reducible exact Below.refl _ _ | with_reducible assumption | with_reducible refine below_alloc ?_ _ | with_reducible refine Below.drew ?_ | with_reducible refine below_drewN ?_ _ | with_reducible refine below_then ?_ (by with_reducible assumption)))
    | true =>
      obtain ⟨p, hp, hO, hpl, hpb⟩ := hy rfl
      clear hy hn'
      obtain ⟨k, hk⟩ : ∃ k, p.length = k := ⟨_, rfl⟩
      obtain ⟨b5, c5, rfl⟩ := owns_len hO hk
      have HU := Lib.hid (show unpackL d = if k = 32 then some p else none by rw [HE.out, hp, ← hk]; rfl)
      have HK := Lib.hid hk; clear hp hk hpl
      by_cases h32 : k = 32
      · subst h32
        have HPB := Lib.hid hpb; clear hpb
        go_wp2
        go_ret2
        exact UAns.yes _ p rfl (by rw [HU.out]; rfl) (Owns.new hO HPB.out (by rw [HK.out]; decide)) (by repeat (first | with_reducible exact Below.refl _ _ | with_reducible assumption | with_reducible refine below_alloc ?_ _ | with_reducible refine Below.drew ?_ | with_reducible refine below_drewN ?_ _ | with_reducible refine below_then ?_ (by with_reducible assumption)))
      · have hne : ((k : Int) != 32) = true := by simp; omega
        have HU := Lib.hid (show unpackL d = none by rw [HU.out, if_neg h32])
        clear h32 hpb
        go_wp2; go_ret2; exact UAns.no rfl HU.out (by repeat (first | with_reducible exact Below.refl _ _ | with_reducible assumption | with_reducible refine below_alloc ?_ _ | with_reducible refine Below.drew ?_ | with_reducible refine below_drewN ?_ _ | with_reducible refine below_then ?_ (by with_reducible assumption)))
  · have HB : Bytes w (some ⟨b, off + 1, none⟩) (d.drop 1) := H.drop 1
    have HE := Lib.hid (show unpackL d = only32 (UR (d.drop 1) []) by rw [HD.out, HM.out, if_neg (by decide), if_pos (by decide)]; rfl)
    go_enter Try.func16, Try.ntmps16
    go_wp2_with fail
    refine (unruns_26 _ (d.drop 1) _ _ _ HB HR.out (by omega) (by omega) (by unfold maxLen; omega)).mono ?_
    rintro e w1 ⟨v, r, rfl, ⟨hy, hn'⟩, hbel⟩
    cases r with
    | false =>
      have HU := Lib.hid (show unpackL d = none by rw [HE.out, hn' rfl]; rfl)
      clear hy hn'
      go_wp2; go_ret2; exact UAns.no rfl HU.out (by repeat (first | with_reducible exact Below.refl _ _ | with_reducible assumption | with_reducible refine below_alloc ?_ _ | with_reducible refine Below.drew ?_ | with_reducible refine below_drewN ?_ _ | with_reducible refine below_then ?_ (by with_reducible assumption)))
    | true =>
      obtain ⟨p, hp, hO, hpl, hpb⟩ := hy rfl
      clear hy hn'
      obtain ⟨k, hk⟩ : ∃ k, p.length = k := ⟨_, rfl⟩
      obtain ⟨b5, c5, rfl⟩ := owns_len hO hk
      have HU := Lib.hid (show unpackL d = if k = 32 then some p else none by rw [HE.out, hp, ← hk]; rfl)
      have HK := Lib.hid hk; clear hp hk hpl
      by_cases h32 : k = 32
      · subst h32
        have HPB := Lib.hid hpb; clear hpb
        go_wp2
        go_ret2
        exact UAns.yes _ p rfl (by rw [HU.out]; rfl) (Owns.new hO HPB.out (by rw [HK.out]; decide)) (by repeat (first | with_reducible exact Below.refl _ _ | with_reducible assumption | with_reducible refine below_alloc ?_ _ | with_reducible refine Below.drew ?_ | with_reducible refine below_drewN ?_ _ | with_reducible refine below_then ?_ (by with_reducible assumption)))
      · have hne : ((k : Int) != 32) = true := by simp; omega
        have HU := Lib.hid (show unpackL d = none by rw [HU.out, if_neg h32])
        clear h32 hpb
        go_wp2; go_ret2; exact UAns.no rfl HU.out (by repeat (first | with_reducible exact Below.refl _ _ | with_reducible assumption | with_reducible refine below_alloc ?_ _ | with_reducible refine Below.drew ?_ | with_reducible refine below_drewN ?_ _ | with_reducible refine below_then ?_ (by with_reducible assumption)))
set_option maxRecDepth 100000 in set_option maxHeartbeats 800000 in
theorem unpack_m2 (b off : Nat) (d : List Int) (n c : Nat) (w : World) (H : Bytes w (some ⟨b, off, none⟩) d) (HN : Hid (d.length = n)) (h80 : n ≤ 81) (hc : n ≤ c) (hcm : c ≤ 2 ^ 63 - 1) (h1 : 1 ≤ n) (HM : Hid (get d 0 = ((2 : Nat) : Int)))
    (c0 : w.cell? ⟨b, off, none⟩ = some (.int .u8 ((2 : Nat) : Int))) :
    Calls Try.prog 16 #[.slice (some ⟨b, off, none⟩) n c] w (UAns w (unpackL d)) := by
  have hz0 : ((n : Int) == 0) = false := by simp; omega
  have HR := Lib.hid (show (d.drop 1).length = n - 1 by rw [List.length_drop, HN.out])
  have HD := Lib.hid (unpack_eq (d := d) (by rw [HN.out]; omega))
  by_cases hc1 : c = 1
  · subst hc1
    obtain rfl : n = 1 := by omega
    have HB : Bytes w (some ⟨b, off, none⟩) (d.drop 1) := by
      rw [List.drop_eq_nil_of_le (by rw [HN.out]; exact Nat.le_refl _)]; exact Bytes.empty _ _
    clear hz0
    have HE := Lib.hid (show unpackL d = UM ((1 - 1) + 65) (d.drop 1) [] by rw [HD.out, HM.out, HR.out, if_neg (by decide), if_neg (by decide), if_pos (by decide)])
    go_enter Try.func16, Try.ntmps16
    go_wp2_with fail
    refine (unmats_27 _ (d.drop 1) _ _ _ HB HR.out (by omega) (by omega) (by unfold maxLen; omega)).mono ?_
    rintro e w1 ⟨v, r, rfl, ⟨hy, hn'⟩, hbel⟩
    cases r with
    | false =>
      have HU := Lib.hid (show unpackL d = none by rw [HE.out, hn' rfl])
      clear hy hn'
      go_wp2; go_ret2; exact UAns.no rfl HU.out (by repeat (first | with_reducible exact Below.refl _ _ | with_reducible assumption | with_reducible refine below_alloc ?_ _ | with_reducible refine Below.drew ?_ | with_reducible refine below_drewN ?_ _ | with_reducible refine below_then ?_ (by with_reducible assumption)))
    | true =>
      obtain ⟨p, hp, hO, hpl, hpb⟩ := hy rfl
      clear hy hn'
      have hk : p.length = 32 := UM_len _ _ _ _ hp (by simp)
      obtain ⟨b5, c5, rfl⟩ := owns_len hO hk
      have HU := Lib.hid (show unpackL d = some p by rw [HE.out, hp])
      have HK := Lib.hid hk; have HPB := Lib.hid hpb; clear hp hk hpl hpb
      go_wp2
      go_ret2
      exact UAns.yes _ p rfl HU.out (Owns.new hO HPB.out (by rw [HK.out]; decide)) (by repeat (first | with_reducible exact Below.refl _ _ | with_reducible assumption | with_reducible refine below_alloc ?_ _ | with_reducible refine Below.drew ?_ | with_reducible refine below_drewN ?_ _ | with_reducible refine below_then ?_ (by with_reducible assumption)))
  · have HB : Bytes w (some ⟨b, off + 1, none⟩) (d.drop 1) := H.drop 1
    have HE := Lib.hid (show unpackL d = UM ((n - 1) + 65) (d.drop 1) [] by rw [HD.out, HM.out, HR.out, if_neg (by decide), if_neg (by decide), if_pos (by decide)])
    go_enter Try.func16, Try.ntmps16
    go_wp2_with fail
    refine (unmats_27 _ (d.drop 1) _ _ _ HB HR.out (by omega) (by omega) (by unfold maxLen; omega)).mono ?_
    rintro e w1 ⟨v, r, rfl, ⟨hy, hn'⟩, hbel⟩
    cases r with
    | false =>
      have HU := Lib.hid (show unpackL d = none by rw [HE.out, hn' rfl])
      clear hy hn'
      go_wp2; go_ret2; exact UAns.no rfl HU.out (by repeat (first | with_reducible exact Below.refl _ _ | with_reducible assumption | with_reducible refine below_alloc ?_ _ | with_reducible refine Below.drew ?_ | with_reducible refine below_drewN ?_ _ | with_reducible refine below_then ?_ (by with_reducible assumption)))
    | true =>
      obtain ⟨p, hp, hO, hpl, hpb⟩ := hy rfl
      clear hy hn'
      have hk : p.length = 32 := UM_len _ _ _ _ hp (by simp)
      obtain ⟨b5, c5, rfl⟩ := owns_len hO hk
      have HU := Lib.hid (show unpackL d = some p by rw [HE.out, hp])
      have HK := Lib.hid hk; have HPB := Lib.hid hpb; clear hp hk hpl hpb
      go_wp2
      go_ret2
      exact UAns.yes _ p rfl HU.out (Owns.new hO HPB.out (by rw [HK.out]; decide)) (by repeat (first | with_reducible exact Below.refl _ _ | with_reducible assumption | with_reducible refine below_alloc ?_ _ | with_reducible refine Below.drew ?_ | with_reducible refine below_drewN ?_ _ | with_reducible refine below_then ?_ (by with_reducible assumption)))
set_option maxRecDepth 100000 in set_option maxHeartbeats 800000 in
theorem unpack_m3 (b off : Nat) (d : List Int) (n c : Nat) (w : World) (H : Bytes w (some ⟨b, off, none⟩) d) (HN : Hid (d.length = n)) (h80 : n ≤ 81) (hc : n ≤ c) (hcm : c ≤ 2 ^ 63 - 1) (h1 : 1 ≤ n) (HM : Hid (get d 0 = ((3 : Nat) : Int)))
    (c0 : w.cell? ⟨b, off, none⟩ = some (.int .u8 ((3 : Nat) : Int))) :
    Calls Try.prog 16 #[.slice (some ⟨b, off, none⟩) n c] w (UAns w (unpackL d)) := by
  have hz0 : ((n : Int) == 0) = false := by simp; omega
  have HR := Lib.hid (show (d.drop 1).length = n - 1 by rw [List.length_drop, HN.out])
  have HD := Lib.hid (unpack_eq (d := d) (by rw [HN.out]; omega))
  by_cases hc1 : c = 1
  · subst hc1
    obtain rfl : n = 1 := by omega
    have HB : Bytes w (some ⟨b, off, none⟩) (d.drop 1) := by
      rw [List.drop_eq_nil_of_le (by rw [HN.out]; exact Nat.le_refl _)]; exact Bytes.empty _ _
    clear hz0
    have HE := Lib.hid (show unpackL d = if 1 - 1 = 32 then some (d.drop 1) else none by rw [HD.out, HM.out, HR.out, if_neg (by decide), if_neg (by decide), if_neg (by decide), if_pos (by decide)])
    obtain ⟨k, hk⟩ : ∃ k, k = 1 - 1 := ⟨_, rfl⟩
    have HC := Lib.hid (show ∀ a', Bytes w a' (d.drop 1) → a' ≠ none → Calls Try.prog 28 #[.slice a' (1 - 1) (1 - 1)] w fun e w' => ∃ v, e = .returned v ∧ New w' w.heap.size v (d.drop 1) ∧ Below w.heap.size w w' by
      intro a' hb hne
      have := clone_any a' (d.drop 1) (1 - 1) w hb (fun h => absurd h hne)
      rw [HR.out] at this; exact this)
    have HK := Lib.hid hk; clear hk
    go_enter Try.func16, Try.ntmps16
    go_wp2_with fail
    refine (HC.out _ HB (by simp)).mono ?_
    rintro e w1 ⟨v, rfl, ⟨a2, c2, rfl, hN1, hN2, hN3, hN4⟩, hbel⟩
    rw [HR.out, ← HK.out] at hN1 hN4
    rw [HR.out, ← HK.out]
    by_cases h32 : k = 32
    · have HU := Lib.hid (show unpackL d = some (d.drop 1) by rw [HE.out, if_pos (by rw [← HK.out]; exact h32)])
      have hL : (d.drop 1).length = 32 := by rw [HR.out, ← HK.out, h32]
      subst h32
      have HN4 := Lib.hid hN4; have HL := Lib.hid hL; clear hN4 hL
      go_wp2
      go_ret2
      exact UAns.yes (.slice a2 32 c2) _ rfl HU.out ⟨a2, c2, by rw [HL.out], by rw [HL.out]; exact hN1, hN2, hN3, by rw [HL.out]; exact HN4.out⟩ (by repeat (first | with_reducible exact Below.refl _ _ | with_reducible assumption | with_reducible refine below_alloc ?_ _ | with_reducible refine Below.drew ?_ | with_reducible refine below_drewN ?_ _ | with_reducible refine below_then ?_ (by with_reducible assumption)))
    · have hne : ((k : Int) != 32) = true := by simp; omega
      have HU := Lib.hid (show unpackL d = none by rw [HE.out, if_neg (by rw [← HK.out]; exact h32)])
      clear h32 hN4
      go_wp2; go_ret2; exact UAns.no rfl HU.out (by repeat (first | with_reducible exact Below.refl _ _ | with_reducible assumption | with_reducible refine below_alloc ?_ _ | with_reducible refine Below.drew ?_ | with_reducible refine below_drewN ?_ _ | with_reducible refine below_then ?_ (by with_reducible assumption)))
  · have HB : Bytes w (some ⟨b, off + 1, none⟩) (d.drop 1) := H.drop 1
    have HE := Lib.hid (show unpackL d = if n - 1 = 32 then some (d.drop 1) else none by rw [HD.out, HM.out, HR.out, if_neg (by decide), if_neg (by decide), if_neg (by decide), if_pos (by decide)])
    obtain ⟨k, hk⟩ : ∃ k, k = n - 1 := ⟨_, rfl⟩
    have HC := Lib.hid (show ∀ a', Bytes w a' (d.drop 1) → a' ≠ none → Calls Try.prog 28 #[.slice a' (n - 1) (c - 1)] w fun e w' => ∃ v, e = .returned v ∧ New w' w.heap.size v (d.drop 1) ∧ Below w.heap.size w w' by
      intro a' hb hne
      have := clone_any a' (d.drop 1) (c - 1) w hb (fun h => absurd h hne)
      rw [HR.out] at this; exact this)
    have HK := Lib.hid hk; clear hk
    go_enter Try.func16, Try.ntmps16
    go_wp2_with fail
    refine (HC.out _ HB (by simp)).mono ?_
    rintro e w1 ⟨v, rfl, ⟨a2, c2, rfl, hN1, hN2, hN3, hN4⟩, hbel⟩
    rw [HR.out, ← HK.out] at hN1 hN4
    rw [HR.out, ← HK.out]
    by_cases h32 : k = 32
    · have HU := Lib.hid (show unpackL d = some (d.drop 1) by rw [HE.out, if_pos (by rw [← HK.out]; exact h32)])
      have hL : (d.drop 1).length = 32 := by rw [HR.out, ← HK.out, h32]
      subst h32
      have HN4 := Lib.hid hN4; have HL := Lib.hid hL; clear hN4 hL
      go_wp2
      go_ret2
      exact UAns.yes (.slice a2 32 c2) _ rfl HU.out ⟨a2, c2, by rw [HL.out], by rw [HL.out]; exact hN1, hN2, hN3, by rw [HL.out]; exact HN4.out⟩ (by repeat (first | with_reducible exact Below.refl _ _ | with_reducible assumption | with_reducible refine below_alloc ?_ _ | with_reducible refine Below.drew ?_ | with_reducible refine below_drewN ?_ _ | with_reducible refine below_then ?_ (by with_reducible assumption)))
    · have hne : ((k : Int) != 32) = true := by simp; omega
      have HU := Lib.hid (show unpackL d = none by rw [HE.out, if_neg (by rw [← HK.out]; exact h32)])
      clear h32 hN4
      go_wp2; go_ret2; exact UAns.no rfl HU.out (by repeat (first | with_reducible exact Below.refl _ _ | with_reducible assumption | with_reducible refine below_alloc ?_ _ | with_reducible refine Below.drew ?_ | with_reducible refine below_drewN ?_ _ | with_reducible refine below_then ?_ (by with_reducible assumption)))
set_option maxRecDepth 100000 in set_option maxHeartbeats 800000 in
theorem unpack_m4 (b off : Nat) (d : List Int) (n c m : Nat) (w : World) (H : Bytes w (some ⟨b, off, none⟩) d) (HN : Hid (d.length = n)) (h80 : n ≤ 81) (hc : n ≤ c) (hcm : c ≤ 2 ^ 63 - 1) (h1 : 1 ≤ n) (h4 : 4 ≤ m) (HM : Hid (get d 0 = ((m : Nat) : Int)))
    (c0 : w.cell? ⟨b, off, none⟩ = some (.int .u8 ((m : Nat) : Int))) :
    Calls Try.prog 16 #[.slice (some ⟨b, off, none⟩) n c] w (UAns w (unpackL d)) := by
  have hz0 : ((n : Int) == 0) = false := by simp; omega
  have HR := Lib.hid (show (d.drop 1).length = n - 1 by rw [List.length_drop, HN.out])
  have HD := Lib.hid (unpack_eq (d := d) (by rw [HN.out]; omega))
  by_cases hc1 : c = 1
  · subst hc1
    obtain rfl : n = 1 := by omega
    have HB : Bytes w (some ⟨b, off, none⟩) (d.drop 1) := by
      rw [List.drop_eq_nil_of_le (by rw [HN.out]; exact Nat.le_refl _)]; exact Bytes.empty _ _
    clear hz0
    have HU := Lib.hid (show unpackL d = none by rw [HD.out, HM.out, if_neg (by omega), if_neg (by omega), if_neg (by omega), if_neg (by omega)])
    have t0 : ((m : Int) == 0) = false := by simp; omega
    have t1 : ((m : Int) == 1) = false := by first | decide | (simp; omega)
    have t2 : ((m : Int) == 2) = false := by simp; omega
    have t3 : ((m : Int) == 3) = false := by simp; omega
    clear h4
    go_enter Try.func16, Try.ntmps16
    go_wp2; go_ret2; exact UAns.no rfl HU.out (by repeat (first | with_reducible exact Below.refl _ _ | with_reducible assumption | with_reducible refine below_alloc ?_ _ | with_reducible refine Below.drew ?_ | with_reducible refine below_drewN ?_ _ | with_reducible refine below_then ?_ (by with_reducible assumption)))
  · have HB : Bytes w (some ⟨b, off + 1, none⟩) (d.drop 1) := H.drop 1
    have HU := Lib.hid (show unpackL d = none by rw [HD.out, HM.out, if_neg (by omega), if_neg (by omega), if_neg (by omega), if_neg (by omega)])
    have t0 : ((m : Int) == 0) = false := by simp; omega
    have t1 : ((m : Int) == 1) = false := by first | decide | (simp; omega)
    have t2 : ((m : Int) == 2) = false := by simp; omega
    have t3 : ((m : Int) == 3) = false := by simp; omega
    clear h4
    go_enter Try.func16, Try.ntmps16
    go_wp2; go_ret2; exact UAns.no rfl HU.out (by repeat (first | with_reducible exact Below.refl _ _ | with_reducible assumption | with_reducible refine below_alloc ?_ _ | with_reducible refine Below.drew ?_ | with_reducible refine below_drewN ?_ _ | with_reducible refine below_then ?_ (by with_reducible assumption)))
set_option maxRecDepth 100000 in set_option maxHeartbeats 800000 in
theorem unpack_16 (a : Option Addr) (d : List Int) (n c : Nat) (w : World) (H : Bytes w a d) (hn : d.length = n) (h80 : n ≤ 81) (hc : n ≤ c) (hcm : c ≤ maxLen) :
    Calls Try.prog 16 #[.slice a n c] w (UAns w (unpackL d)) := by
  unfold maxLen at hcm
  by_cases h0 : n = 0
  · subst h0
    have HU := Lib.hid (show unpackL d = none by rw [List.eq_nil_of_length_eq_zero hn]; rfl)
    clear hn
    go_enter Try.func16, Try.ntmps16
    go_wp2; go_ret2; exact UAns.no rfl HU.out (by repeat (first | with_reducible exact Below.refl _ _ | with_reducible assumption | with_reducible refine below_alloc ?_ _ | with_reducible refine Below.drew ?_ | with_reducible refine below_drewN ?_ _ | with_reducible refine below_then ?_ (by with_reducible assumption)))
  · obtain ⟨b, off, rfl, hcell⟩ := H.2.1 (by omega)
    have hy := H.bound (i := 0) (by omega)
    obtain ⟨m, hm⟩ : ∃ m : Nat, get d 0 = (m : Int) := ⟨(get d 0).toNat, by omega⟩
    have c0 : w.cell? ⟨b, off, none⟩ = some (.int .u8 (get d 0)) := hcell 0 (by omega)
    rw [hm] at c0 hy
    rcases (by omega : m = 0 ∨ m = 1 ∨ m = 2 ∨ m = 3 ∨ 4 ≤ m) with rfl | rfl | rfl | rfl | h4
    · exact unpack_m0 b off d n c w H (Lib.hid hn) h80 hc hcm (by omega) (Lib.hid hm) c0
    · exact unpack_m1 b off d n c w H (Lib.hid hn) h80 hc hcm (by omega) (Lib.hid hm) c0
    · exact unpack_m2 b off d n c w H (Lib.hid hn) h80 hc hcm (by omega) (Lib.hid hm) c0
    · exact unpack_m3 b off d n c w H (Lib.hid hn) h80 hc hcm (by omega) (Lib.hid hm) c0
    · exact unpack_m4 b off d n c m w H (Lib.hid hn) h80 hc hcm (by omega) h4 (Lib.hid hm) c0
end Go.Proofs.Ytaapgfhcnfaemaa
