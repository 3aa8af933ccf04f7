/- Unpack, of the reference. -/
import Derived.Test.YtaapgfhcnfaemaaUnpack
namespace Go.Proofs.Ytaapgfhcnfaemaa
open Go.RowKit Go.Over Go.Zip Go.Seg
theorem page_of {d : List Int} {n : Nat} {x : Int} (h : n = 2) (hn : d.length = n) (h0 : get d 0 = 0) (hx : get (d.drop 1) 0 = x) : unpackL d = some (List.replicate 32 x) := by
  rw [unpack_eq (by omega), if_pos h0, if_pos (by simp; omega), hx]
set_option maxRecDepth 100000 in set_option maxHeartbeats 800000 in
theorem runpack_fill (b off : Nat) (d : List Int) (n c : Nat) (w : World) (H : Bytes w (some ⟨b, off, none⟩) d) (HN : Hid (d.length = n)) (h80 : n ≤ 81) (hc : n ≤ c) (hcm : c ≤ 2 ^ 63 - 1) (h1 : 1 ≤ n) (h2 : n = 2) (HM : Hid (get d 0 = 0)) (c0 : w.cell? ⟨b, off, none⟩ = some (.int .u8 0)) :
    Calls Try.prog 17 #[.slice (some ⟨b, off, none⟩) n c] w (UAns w (unpackL d)) := by
  have _ := hcm
  subst h2
  obtain ⟨i0, hi0, hz0, hz1, hz2⟩ := info_parts Try.info5
  obtain ⟨x, hx⟩ : ∃ x, get d 1 = x := ⟨_, rfl⟩
  have hxb := H.bound (i := 1) (by rw [HN.out]; decide)
  obtain ⟨b', off', hab, hcell⟩ := H.2.1 (by rw [HN.out]; decide)
  cases hab
  have cx := hcell 1 (by rw [HN.out]; decide)
  rw [hx] at cx hxb
  have HU := Lib.hid (show unpackL d = some (List.replicate 32 x) from page_of rfl HN.out HM.out (by rw [← hx, get_drop]))
  have HCX := Lib.hid cx
  clear hcell hx
  go_enter Try.func17, Try.ntmps17
  go_wp2
  go_loopg [4, 6] 32 (fun g v0 x0 wr => ∃ (j : Nat) (v : Value), j + g = 32 ∧ v = v0 ∧ x0 = .int .i64 j ∧ Owns wr w.heap.size v (List.replicate j x) ∧ Below w.heap.size w wr)
  case atStart => exact ⟨0, _, by omega, rfl, rfl, Owns.nil _ _, Below.refl _ _⟩
  case round =>
    obtain ⟨j, v, hjg, rfl, rfl, hO, hb⟩ := hrel
    clear cx
    obtain ⟨bo, co, rfl⟩ := owns_len hO (List.length_replicate ..)
    cases gk with
    | zero =>
      obtain rfl : j = 32 := by omega
      clear hjg
      have c0' := cell_later hb c0
      go_wp2
      go_ret2
      exact UAns.yes _ _ rfl HU.out (Owns.new hO (fun y hy => by rw [List.eq_of_mem_replicate hy]; exact hxb) (by simp)) hb
    | succ g =>
      obtain ⟨b9, off9, hab, hcell⟩ := (H.below hb).2.1 (by rw [HN.out]; decide)
      cases hab
      have cx := cell_later hb HCX.out
      have HJG := Lib.hid hjg; clear hjg hcell
      have hj : j < 32 := by have := HJG.out; omega
      go_wp2_with (at_builtin; refine wpList_append_where rfl (.tmp 20) (.tmp 24) rfl hi0 hz0 hz1 hz2 _ _ rfl (hO.alloc _) ⟨wr.heap.size, 0, none⟩ 1 1 [x] rfl rfl (one_cell wr _) ?c1 ?c2 ?_)
      case c1 => simp; omega
      case c2 => have := hb.size; simp; omega
      intro v3 w3 hown hgrow _
      have hb3 : Below w.heap.size w w3 := (below_alloc hb _).grown hgrow (by have := hb.size; simp; omega) (fun q hq => (hO.lt q hq).1)
      have hO3 : Owns w3 w.heap.size v3 (List.replicate (j + 1) x) := by
        rw [List.replicate_succ']; exact hown
      clear hown hgrow
      go_wp2
      go_roundg g
      case rel => exact ⟨j + 1, v3, by have := HJG.out; omega, rfl, by go_num, hO3, hb3⟩
      case measure => omega
set_option maxRecDepth 100000 in set_option maxHeartbeats 800000 in
theorem runpack_m1 (b off : Nat) (d : List Int) (n c : Nat) (w : World) (H : Bytes w (some ⟨b, off, none⟩) d) (HN : Hid (d.length = n)) (h80 : n ≤ 81) (hc : n ≤ c) (hcm : c ≤ 2 ^ 63 - 1) (h1 : 1 ≤ n) (HM : Hid (get d 0 = ((1 : Nat) : Int))) (c0 : w.cell? ⟨b, off, none⟩ = some (.int .u8 ((1 : Nat) : Int))) :
    Calls Try.prog 17 #[.slice (some ⟨b, off, none⟩) n c] w (UAns w (unpackL d)) := by
  have hz0 : decide (0 < (n : Int)) = true := by simp; omega
  have HR := Lib.hid (show (d.drop 1).length = n - 1 by rw [List.length_drop, HN.out])
  have HD := Lib.hid (unpack_eq (d := d) (by rw [HN.out]; omega))
  by_cases hc1 : c = 1
  · subst hc1
    obtain rfl : n = 1 := by omega
    have HB : Bytes w (some ⟨b, off, none⟩) (d.drop 1) := by
      rw [List.drop_eq_nil_of_le (by rw [HN.out]; exact Nat.le_refl _)]; exact Bytes.empty _ _
    clear hz0
    have HE := Lib.hid (show unpackL d = only32 (UR (d.drop 1) []) by rw [HD.out, HM.out, if_neg (by decide), if_pos (by decide)]; rfl)
    go_enter Try.func17, Try.ntmps17
    go_wp2_with fail
    all_goals
      refine (unruns_29 _ (d.drop 1) _ _ _ HB HR.out (by omega)).mono ?_
      rintro e w1 ⟨v, r, rfl, ⟨hy, hn'⟩, hbel⟩
      have c1 := cell_later hbel c0
      cases r with
      | false =>
        have HU := Lib.hid (show unpackL d = none by rw [HE.out, hn' rfl])
        clear hy hn'
        go_wp2; all_goals (go_ret2; exact UAns.no rfl HU.out (by repeat (first | with_reducible exact Below.refl _ _ | with_reducible assumption | with_reducible refine below_alloc ?_ _ | with_reducible refine Below.drew ?_ | with_reducible refine below_drewN ?_ _ | with_reducible refine below_then ?_ (by with_reducible assumption))))
      | true =>
        obtain ⟨p, hp, hO, hpl, hpb⟩ := hy rfl
        clear hy hn'
        obtain ⟨k, hk⟩ : ∃ k, p.length = k := ⟨_, rfl⟩
        obtain ⟨b5, c5, rfl⟩ := owns_len hO hk
        have HU := Lib.hid (show unpackL d = some p by rw [HE.out, hp])
        have HK := Lib.hid hk; have HPB := Lib.hid hpb; clear hp hk hpb
        go_wp2
        all_goals (go_ret2; exact UAns.yes _ p rfl HU.out (Owns.new hO HPB.out (by rw [HK.out]; have := HK.out; omega)) (by repeat (first | with_reducible exact Below.refl _ _ | with_reducible assumption | with_reducible refine below_alloc ?_ _ | with_reducible refine Below.drew ?_ | with_reducible refine below_drewN ?_ _ | with_reducible refine below_then ?_ (by with_reducible assumption))))
  · have HB : Bytes w (some ⟨b, off + 1, none⟩) (d.drop 1) := H.drop 1
    have HE := Lib.hid (show unpackL d = only32 (UR (d.drop 1) []) by rw [HD.out, HM.out, if_neg (by decide), if_pos (by decide)]; rfl)
    go_enter Try.func17, Try.ntmps17
    go_wp2_with fail
    all_goals
      refine (unruns_29 _ (d.drop 1) _ _ _ HB HR.out (by omega)).mono ?_
      rintro e w1 ⟨v, r, rfl, ⟨hy, hn'⟩, hbel⟩
      have c1 := cell_later hbel c0
      cases r with
      | false =>
        have HU := Lib.hid (show unpackL d = none by rw [HE.out, hn' rfl])
        clear hy hn'
        go_wp2; all_goals (go_ret2; exact UAns.no rfl HU.out (by repeat (first | with_reducible exact Below.refl _ _ | with_reducible assumption | with_reducible refine below_alloc ?_ _ | with_reducible refine Below.drew ?_ | with_reducible refine below_drewN ?_ _ | with_reducible refine below_then ?_ (by with_reducible assumption))))
      | true =>
        obtain ⟨p, hp, hO, hpl, hpb⟩ := hy rfl
        clear hy hn'
        obtain ⟨k, hk⟩ : ∃ k, p.length = k := ⟨_, rfl⟩
        obtain ⟨b5, c5, rfl⟩ := owns_len hO hk
        have HU := Lib.hid (show unpackL d = some p by rw [HE.out, hp])
        have HK := Lib.hid hk; have HPB := Lib.hid hpb; clear hp hk hpb
        go_wp2
        all_goals (go_ret2; exact UAns.yes _ p rfl HU.out (Owns.new hO HPB.out (by rw [HK.out]; have := HK.out; omega)) (by repeat (first | with_reducible exact Below.refl _ _ | with_reducible assumption | with_reducible refine below_alloc ?_ _ | with_reducible refine Below.drew ?_ | with_reducible refine below_drewN ?_ _ | with_reducible refine below_then ?_ (by with_reducible assumption))))
set_option maxRecDepth 100000 in set_option maxHeartbeats 800000 in
theorem runpack_m2 (b off : Nat) (d : List Int) (n c : Nat) (w : World) (H : Bytes w (some ⟨b, off, none⟩) d) (HN : Hid (d.length = n)) (h80 : n ≤ 81) (hc : n ≤ c) (hcm : c ≤ 2 ^ 63 - 1) (h1 : 1 ≤ n) (HM : Hid (get d 0 = ((2 : Nat) : Int))) (c0 : w.cell? ⟨b, off, none⟩ = some (.int .u8 ((2 : Nat) : Int))) :
    Calls Try.prog 17 #[.slice (some ⟨b, off, none⟩) n c] w (UAns w (unpackL d)) := by
  have hz0 : decide (0 < (n : Int)) = true := by simp; omega
  have HR := Lib.hid (show (d.drop 1).length = n - 1 by rw [List.length_drop, HN.out])
  have HD := Lib.hid (unpack_eq (d := d) (by rw [HN.out]; omega))
  by_cases hc1 : c = 1
  · subst hc1
    obtain rfl : n = 1 := by omega
    have HB : Bytes w (some ⟨b, off, none⟩) (d.drop 1) := by
      rw [List.drop_eq_nil_of_le (by rw [HN.out]; exact Nat.le_refl _)]; exact Bytes.empty _ _
    clear hz0
    have HE := Lib.hid (show unpackL d = UM ((1 - 1) + 65) (d.drop 1) [] by rw [HD.out, HM.out, HR.out, if_neg (by decide), if_neg (by decide), if_pos (by decide)])
    go_enter Try.func17, Try.ntmps17
    go_wp2_with fail
    all_goals
      refine (unmats_30 _ (d.drop 1) _ _ _ HB HR.out (by omega) (by omega) (by unfold maxLen; omega)).mono ?_
      rintro e w1 ⟨v, r, rfl, ⟨hy, hn'⟩, hbel⟩
      have c1 := cell_later hbel c0
      cases r with
      | false =>
        have HU := Lib.hid (show unpackL d = none by rw [HE.out, hn' rfl])
        clear hy hn'
        go_wp2; all_goals (go_ret2; exact UAns.no rfl HU.out (by repeat (first | with_reducible exact Below.refl _ _ | with_reducible assumption | with_reducible refine below_alloc ?_ _ | with_reducible refine Below.drew ?_ | with_reducible refine below_drewN ?_ _ | with_reducible refine below_then ?_ (by with_reducible assumption))))
      | true =>
        obtain ⟨p, hp, hO, hpl, hpb⟩ := hy rfl
        clear hy hn'
        have hk : p.length = 32 := UM_len _ _ _ _ hp (by simp)
        obtain ⟨b5, c5, rfl⟩ := owns_len hO hk
        have HU := Lib.hid (show unpackL d = some p by rw [HE.out, hp])
        have HK := Lib.hid hk; have HPB := Lib.hid hpb; clear hp hk hpl hpb
        go_wp2
        all_goals (go_ret2; exact UAns.yes _ p rfl HU.out (Owns.new hO HPB.out (by rw [HK.out]; decide)) (by repeat (first | with_reducible exact Below.refl _ _ | with_reducible assumption | with_reducible refine below_alloc ?_ _ | with_reducible refine Below.drew ?_ | with_reducible refine below_drewN ?_ _ | with_reducible refine below_then ?_ (by with_reducible assumption))))
  · have HB : Bytes w (some ⟨b, off + 1, none⟩) (d.drop 1) := H.drop 1
    have HE := Lib.hid (show unpackL d = UM ((n - 1) + 65) (d.drop 1) [] by rw [HD.out, HM.out, HR.out, if_neg (by decide), if_neg (by decide), if_pos (by decide)])
    go_enter Try.func17, Try.ntmps17
    go_wp2_with fail
    all_goals
      refine (unmats_30 _ (d.drop 1) _ _ _ HB HR.out (by omega) (by omega) (by unfold maxLen; omega)).mono ?_
      rintro e w1 ⟨v, r, rfl, ⟨hy, hn'⟩, hbel⟩
      have c1 := cell_later hbel c0
      cases r with
      | false =>
        have HU := Lib.hid (show unpackL d = none by rw [HE.out, hn' rfl])
        clear hy hn'
        go_wp2; all_goals (go_ret2; exact UAns.no rfl HU.out (by repeat (first | with_reducible exact Below.refl _ _ | with_reducible assumption | with_reducible refine below_alloc ?_ _ | with_reducible refine Below.drew ?_ | with_reducible refine below_drewN ?_ _ | with_reducible refine below_then ?_ (by with_reducible assumption))))
      | true =>
        obtain ⟨p, hp, hO, hpl, hpb⟩ := hy rfl
        clear hy hn'
        have hk : p.length = 32 := UM_len _ _ _ _ hp (by simp)
        obtain ⟨b5, c5, rfl⟩ := owns_len hO hk
        have HU := Lib.hid (show unpackL d = some p by rw [HE.out, hp])
        have HK := Lib.hid hk; have HPB := Lib.hid hpb; clear hp hk hpl hpb
        go_wp2
        all_goals (go_ret2; exact UAns.yes _ p rfl HU.out (Owns.new hO HPB.out (by rw [HK.out]; decide)) (by repeat (first | with_reducible exact Below.refl _ _ | with_reducible assumption | with_reducible refine below_alloc ?_ _ | with_reducible refine Below.drew ?_ | with_reducible refine below_drewN ?_ _ | with_reducible refine below_then ?_ (by with_reducible assumption))))
set_option maxRecDepth 100000 in set_option maxHeartbeats 800000 in
theorem runpack_raw (b off : Nat) (d : List Int) (n c : Nat) (w : World) (H : Bytes w (some ⟨b, off, none⟩) d) (HN : Hid (d.length = n)) (h80 : n ≤ 81) (hc : n ≤ c) (hcm : c ≤ 2 ^ 63 - 1) (h1 : 1 ≤ n) (h33 : n = 33) (HM : Hid (get d 0 = ((3 : Nat) : Int))) (c0 : w.cell? ⟨b, off, none⟩ = some (.int .u8 ((3 : Nat) : Int))) :
    Calls Try.prog 17 #[.slice (some ⟨b, off, none⟩) n c] w (UAns w (unpackL d)) := by
  obtain ⟨i0, hi0, hz0, hz1, hz2⟩ := info_parts Try.info5
  subst h33
  have HR := Lib.hid (show (d.drop 1).length = 32 by rw [List.length_drop, HN.out])
  have HU := Lib.hid (show unpackL d = some (d.drop 1) by rw [unpack_eq (by rw [HN.out]; decide), HM.out, HR.out, if_neg (by decide), if_neg (by decide), if_neg (by decide), if_pos (by decide)]; rfl)
  have HB : Bytes w (some ⟨b, off + 1, none⟩) (d.drop 1) := H.drop 1
  go_enter Try.func17, Try.ntmps17
  go_wp2_with (at_builtin; refine wpList_append_where rfl (.tmp 65) (.tmp 67) rfl hi0 hz0 hz1 hz2 _ [] rfl (Owns.nil w w.heap.size) ⟨b, off + 1, none⟩ 32 _ (d.drop 1) rfl HR.out (Bytes.cells HB) (by simp) (Nat.le_refl _) ?_)
  intro v3 w3 hown hgrow _
  have hb3 : Below w.heap.size w w3 := (Below.refl _ _).grown hgrow (Nat.le_refl _) (fun q hq => by simp [Value.ownBlock] at hq)
  clear hgrow
  have hown : Owns w3 w.heap.size v3 (d.drop 1) := by simpa using hown
  obtain ⟨b5, c5, rfl⟩ := owns_len hown HR.out
  go_wp2
  go_ret2
  exact UAns.yes _ _ rfl HU.out (Owns.new hown HB.2.2 (by rw [HR.out]; decide)) hb3
set_option maxRecDepth 100000 in set_option maxHeartbeats 800000 in
theorem runpack_no (b off : Nat) (d : List Int) (n c : Nat) (w : World) (H : Bytes w (some ⟨b, off, none⟩) d) (HN : Hid (d.length = n)) (h80 : n ≤ 81) (hc : n ≤ c) (hcm : c ≤ 2 ^ 63 - 1) (h1 : 1 ≤ n) (m : Nat) (hm : (m = 0 ∧ n ≠ 2) ∨ (m = 3 ∧ n ≠ 33) ∨ 4 ≤ m) (HM : Hid (get d 0 = (m : Int))) (c0 : w.cell? ⟨b, off, none⟩ = some (.int .u8 (m : Int))) :
    Calls Try.prog 17 #[.slice (some ⟨b, off, none⟩) n c] w (UAns w (unpackL d)) := by
  have _ := hcm; have _ := H
  have HR := Lib.hid (show (d.drop 1).length = n - 1 by rw [List.length_drop, HN.out])
  have HU := Lib.hid (show unpackL d = none by
    rw [unpack_eq (by rw [HN.out]; omega), HM.out, HR.out]
    rcases hm with ⟨rfl, h⟩ | ⟨rfl, h⟩ | h
    · rw [if_pos (by decide), if_neg (by omega)]
    · rw [if_neg (by decide), if_neg (by decide), if_neg (by decide), if_pos (by decide), if_neg (by omega)]
    · rw [if_neg (by omega), if_neg (by omega), if_neg (by omega), if_neg (by omega)])
  have t1 : ((m : Int) == 1) = false := by simp; omega
  have t2 : ((m : Int) == 2) = false := by simp; omega
  have hz0 : decide (0 < (n : Int)) = true := by simp; omega
  have T := Lib.hid hm
  by_cases h2 : n = 2
  · have t0 : ((m : Int) == 0) = false := by have := T.out; simp; omega
    subst h2
    clear hm
    go_enter Try.func17, Try.ntmps17
    go_wp2; all_goals (go_ret2; exact UAns.no rfl HU.out (by repeat (first | with_reducible exact Below.refl _ _ | with_reducible assumption | with_reducible refine below_alloc ?_ _ | with_reducible refine Below.drew ?_ | with_reducible refine below_drewN ?_ _ | with_reducible refine below_then ?_ (by with_reducible assumption))))
  · have n2 : ((n : Int) == 2) = false := by simp; omega
    by_cases h3 : n = 33
    · have t3 : ((m : Int) == 3) = false := by have := T.out; simp; omega
      subst h3
      clear hm
      go_enter Try.func17, Try.ntmps17
      go_wp2; all_goals (go_ret2; exact UAns.no rfl HU.out (by repeat (first | with_reducible exact Below.refl _ _ | with_reducible assumption | with_reducible refine below_alloc ?_ _ | with_reducible refine Below.drew ?_ | with_reducible refine below_drewN ?_ _ | with_reducible refine below_then ?_ (by with_reducible assumption))))
    · have n3 : ((n : Int) == 33) = false := by simp; omega
      clear hm
      go_enter Try.func17, Try.ntmps17
      go_wp2; all_goals (go_ret2; exact UAns.no rfl HU.out (by repeat (first | with_reducible exact Below.refl _ _ | with_reducible assumption | with_reducible refine below_alloc ?_ _ | with_reducible refine Below.drew ?_ | with_reducible refine below_drewN ?_ _ | with_reducible refine below_then ?_ (by with_reducible assumption))))
set_option maxRecDepth 100000 in set_option maxHeartbeats 800000 in
theorem runpack_17 (a : Option Addr) (d : List Int) (n c : Nat) (w : World) (H : Bytes w a d) (hn : d.length = n) (h80 : n ≤ 81) (hc : n ≤ c) (hcm : c ≤ maxLen) :
    Calls Try.prog 17 #[.slice a n c] w (UAns w (unpackL d)) := by
  unfold maxLen at hcm
  by_cases h0 : n = 0
  · subst h0
    have HU := Lib.hid (show unpackL d = none by rw [List.eq_nil_of_length_eq_zero hn]; rfl)
    clear hn
    go_enter Try.func17, Try.ntmps17
    go_wp2; all_goals (go_ret2; exact UAns.no rfl HU.out (by repeat (first | with_reducible exact Below.refl _ _ | with_reducible assumption | with_reducible refine below_alloc ?_ _ | with_reducible refine Below.drew ?_ | with_reducible refine below_drewN ?_ _ | with_reducible refine below_then ?_ (by with_reducible assumption))))
  · obtain ⟨b, off, rfl, hcell⟩ := H.2.1 (by omega)
    have hy := H.bound (i := 0) (by omega)
    obtain ⟨m, hm⟩ : ∃ m : Nat, get d 0 = (m : Int) := ⟨(get d 0).toNat, by omega⟩
    have c0 : w.cell? ⟨b, off, none⟩ = some (.int .u8 (get d 0)) := hcell 0 (by omega)
    rw [hm] at c0 hy
    by_cases h1 : m = 1
    · subst h1
      exact runpack_m1 b off d n c w H (Lib.hid hn) h80 hc hcm (by omega) (Lib.hid hm) c0
    · by_cases h2 : m = 2
      · subst h2
        exact runpack_m2 b off d n c w H (Lib.hid hn) h80 hc hcm (by omega) (Lib.hid hm) c0
      · by_cases h3 : m = 0 ∧ n = 2
        · obtain ⟨rfl, h3⟩ := h3
          exact runpack_fill b off d n c w H (Lib.hid hn) h80 hc hcm (by omega) h3 (Lib.hid hm) c0
        · by_cases h4 : m = 3 ∧ n = 33
          · obtain ⟨rfl, h4⟩ := h4
            exact runpack_raw b off d n c w H (Lib.hid hn) h80 hc hcm (by omega) h4 (Lib.hid hm) c0
          · exact runpack_no b off d n c w H (Lib.hid hn) h80 hc hcm (by omega) m (by omega) (Lib.hid hm) c0
end Go.Proofs.Ytaapgfhcnfaemaa
