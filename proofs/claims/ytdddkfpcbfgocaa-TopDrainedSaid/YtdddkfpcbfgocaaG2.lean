/- A zone whose lower rows are a call's own. Walks: a given frame is taken out of its zone. Walks: a block is taken out of a zone. Parts of blocks: a struct or an array is loaded from, or stored into, a place inside a block of memory. Walks: the zone of a set of frames. A set of numbers that a call has made: a map of numbers whose elements are all true. A processor's cache in memory; the set of its frames; its check. Rows that a call makes, and copies of numbers. Walks: the cache of a processor: its error, a new one, and a copy with another list. Walks: a copy of a cache with another list for a zone. Walks: the list of a zone is taken out of a cache; the frame that was freed last is taken. Walks: frames are added to a cache. Walks: a freed frame is put into a cache. Zones in a row; walks: the check of zones, the distance of nodes. -/
import Derived.Laws.Rows
import Derived.Laws.Tables
import Derived.Maps.Own
import Derived.Laws.MakeOwn
import Derived.Test.YtdddkfpcbfgocaaG1
import Derived.Test.YtdddkfpcbfgocaaG0
namespace Go.Proofs.Ytdddkfpcbfgocaa
open Go.RowKit Go.Over Go.Zn Go.Can Go.Seg Go.Grow
/-- Five rows: those below m are the call's own. -/
structure MixZ (W : World) (B : Nat) (cs : List Value) (z : Z) (m : Nat) : Prop where
  h : Hd5 cs z
  row : ∀ r, r < 5 → ∃ v, cs[5 + r]? = some v ∧ Sl W v (z.fr r) ∧ (r < m → Own W B v (z.fr r))
  ap : ∀ r s u v, r < s → s < m → cs[5 + r]? = some u → cs[5 + s]? = some v → u.ownBlock = none ∨ u.ownBlock ≠ v.ownBlock
  up : ∀ r s u a n c, r < m → m ≤ s → s < 5 → cs[5 + r]? = some u → cs[5 + s]? = some (.slice (some a) n c) → u.ownBlock ≠ some a.block
section
variable {W W' : World} {B m : Nat} {cs : List Value} {z : Z}
theorem MixZ.zv (h : MixZ W B cs z m) : ZV W cs z :=
  ⟨h.h.len, h.h.nd, h.h.kd, h.h.st, h.h.ct, h.h.mn, fun k hk => by obtain ⟨v, h1, h2, _⟩ := h.row k hk; exact ⟨v, h1, h2⟩⟩
theorem MixZ.later (h : MixZ W B cs z m) (hb : Below W.heap.size W W') : MixZ W' B cs z m :=
  ⟨h.h, fun r hr => by obtain ⟨v, h1, h2, h3⟩ := h.row r hr; exact ⟨v, h1, h2.below hb, fun hm => (h3 hm).later hb⟩, h.ap, h.up⟩
/-- A slice of numbers is read as before where its block is not the one that changes. -/
theorem Sl.kept {v : Value} {l : List Int} {row : Option Nat} (h : Sl W v l) (hg : W.grownBy W' row) (hne : ∀ a n c, v = .slice (some a) n c → some a.block ≠ row) : Sl W' v l := by
  obtain ⟨a, c, h1, h2, h3, h4, h5⟩ := h
  refine ⟨a, c, h1, h2, h3, h4, fun h0 => ?_⟩
  obtain ⟨b, off, ha, ⟨bs, hbs⟩, hc⟩ := h5 h0
  have h6 := hne ⟨b, off, none⟩ l.length c (by rw [h1, ha])
  exact ⟨b, off, ha, ⟨bs, hbs.grown hg (Ne.symm h6)⟩, fun i hi => hg.cell (hc i hi) h6⟩
theorem MixZ.put {r : Nat} {u u' : Value} {l' : List Int} (h : MixZ W B cs z m) (hm : m ≤ 5) (hr : r < m) (hu : cs[5 + r]? = some u) (hg : W.grownBy W' u.ownBlock) (hO : Own W' B u' l') (hk : ∀ k, u'.ownBlock = some k → u.ownBlock = some k ∨ W.heap.size ≤ k)
    (hlt : ∀ s a n c, m ≤ s → s < 5 → cs[5 + s]? = some (.slice (some a) n c) → a.block < W.heap.size) : MixZ W' B (cs.set (5 + r) u') (setF z r l') m := by
  have hl := h.h.len
  have apart : ∀ s v, s ≠ r → s < m → cs[5 + s]? = some v → v.ownBlock = none ∨ v.ownBlock ≠ u.ownBlock := fun s v hs hsm hv => by
    rcases Nat.lt_or_ge s r with h3 | h3
    · exact h.ap s r v u h3 hr hv hu
    · rcases h.ap r s u v (by omega) hsm hu hv with h4 | h4
      · rcases hb : v.ownBlock with _ | b
        · exact .inl rfl
        · exact .inr (by rw [h4]; simp)
      · exact .inr (Ne.symm h4)
  have apt : ∀ s v, s ≠ r → s < m → cs[5 + s]? = some v → v.ownBlock = none ∨ v.ownBlock ≠ u'.ownBlock := fun s v hs hsm hv => by
    rcases hb : v.ownBlock with _ | b
    · exact .inl rfl
    · refine .inr fun e => ?_
      obtain ⟨v', q1, _, q2⟩ := h.row s (by omega)
      rw [hv] at q1
      cases q1
      rcases hk b e.symm with h1 | h1
      · rcases apart s v hs hsm hv with h2 | h2
        · rw [hb] at h2; cases h2
        · exact h2 (by rw [hb, h1])
      · have := (World.ownsRow.lt (q2 hsm) b hb).2
        omega
  refine ⟨h.h.set r u' l', fun s hs => ?_, fun s t x y h1 h2 g1 g2 => ?_, fun s t x a n c h1 h2 h3 g1 g2 => ?_⟩
  · by_cases e : s = r
    · subst e
      rw [setF_self]
      exact ⟨u', List.getElem?_set_self (by omega), hO.sl, fun _ => hO⟩
    · obtain ⟨v, q1, q2, q3⟩ := h.row s hs
      rw [setF_ne e]
      refine ⟨v, by rw [List.getElem?_set_ne (by omega)]; exact q1, ?_, fun hsm => (q3 hsm).kept hg (apart s v e hsm q1)⟩
      rcases Nat.lt_or_ge s m with hsm | hsm
      · exact ((q3 hsm).kept hg (apart s v e hsm q1)).sl
      · exact Sl.kept q2 hg fun a n c hv hh => h.up r s u a n c hr hsm hs hu (by rw [q1, hv]) hh.symm
  · by_cases e1 : s = r
    · subst e1
      rw [List.getElem?_set_self (by omega)] at g1
      cases g1
      rw [List.getElem?_set_ne (by omega)] at g2
      rcases apt t y (by omega) h2 g2 with h3 | h3
      · rcases hb : u'.ownBlock with _ | b
        · exact .inl rfl
        · exact .inr (by rw [h3]; simp)
      · exact .inr (Ne.symm h3)
    · rw [List.getElem?_set_ne (by omega)] at g1
      by_cases e2 : t = r
      · subst e2
        rw [List.getElem?_set_self (by omega)] at g2
        cases g2
        exact apt s x e1 (by omega) g1
      · rw [List.getElem?_set_ne (by omega)] at g2
        exact h.ap s t x y h1 h2 g1 g2
  · rw [List.getElem?_set_ne (by omega)] at g2
    by_cases e1 : s = r
    · subst e1
      rw [List.getElem?_set_self (by omega)] at g1
      cases g1
      intro hb
      rcases hk a.block hb with h4 | h4
      · exact h.up s t u a n c h1 h2 h3 hu g2 h4
      · have := hlt t a n c h2 h3 g2; omega
    · rw [List.getElem?_set_ne (by omega)] at g1
      exact h.up s t x a n c h1 h2 h3 g1 g2
end
end Go.Proofs.Ytdddkfpcbfgocaa
namespace Go.Zn
open Go.Can
/-- The half of a block that a frame lies in. -/
theorem Put.half {st ct : Int} {fr : Nat → List Int} {f x : Int} {k : Nat} {S : Int → Prop} (h : Put st ct fr f (k + 1) S) (hx : In f (k + 1) x) {g o : Int} (hg : (g = f ∧ o = f + pw k ∧ x < f + pw k) ∨ (g = f + pw k ∧ o = f ∧ f + pw k ≤ x)) :
    Put st ct (upd fr k (ins (fr k) o)) g k S ∧ In g k x := by
  refine ⟨h.split (by rcases hg with ⟨a, b, _⟩ | ⟨a, b, _⟩; exact .inl ⟨a, b⟩; exact .inr ⟨a, b⟩), ?_⟩
  unfold In at hx ⊢
  rw [pw_succ] at hx
  omega
end Go.Zn
namespace Go.Proofs.Ytdddkfpcbfgocaa
open Go.RowKit Go.Over Go.Zn Go.Can Go.Seg Go.Grow
set_option maxRecDepth 100000 in set_option maxHeartbeats 3200000 in
theorem take (v : Value) (z : Z) (x : Int) (w : World) (H : Rz w v z) (hz : VZ z) (hc : Cov (F z.fr) x) : Calls Try.prog 40 #[v, .int .i64 x] w (AnsV w z (fun y => Cov (F z.fr) y ∧ y ≠ x)) := by
  have HZ := Lib.hid hz
  have hci := cov_in hz.l hc
  have h0 : 0 ≤ x := by have := hz.r.st0; omega
  have h1 : x < 256 := by have := hz.r.ct1; omega
  have HX := Lib.hid (insB_of (show R z.st z.ct x 0 from ⟨by omega, hci.1, by rw [pw_zero]; omega, by rw [pw_zero]; omega⟩))
  have HC := Lib.hid hc
  clear hz hc hci
  obtain ⟨cs, rfl, hV⟩ := H
  have X0 := ZZ.new hV
  clear hV
  go_enter Try.func40, Try.ntmps40
  go_upto_region 1 with fail
  obtain ⟨w1, hw1⟩ : ∃ W, W = (w.alloc (.cells cs.toArray 39)).alloc (.cells #[.int .i64 0, .int .i64 0, .int .i64 0, .int .i64 0, .int .i64 0, .slice none 0 0, .slice none 0 0, .slice none 0 0, .slice none 0 0, .slice none 0 0] 39) := ⟨_, rfl⟩
  rw [← hw1] at X0 ⊢
  obtain ⟨gr, hgr⟩ : ∃ g, w.heap.size + 1 = g := ⟨_, rfl⟩
  obtain ⟨g, hg0⟩ : ∃ g, w.heap.size = g := ⟨_, rfl⟩
  have X1 : ZZ w g gr cs z w1 := by rw [← hgr, ← hg0]; exact X0
  rw [hgr, hg0]
  clear hw1 X0 hg0 hgr
  go_wp2_with ((with_reducible refine ld ?_ X1.x.x X1.x.v.len ?_); (focus rfl))
  refine (check _ z w1 X1.x.rz HZ.out).mono ?_
  rintro e w2 ⟨rfl, b2⟩
  have X2 := X1.below b2
  clear X1 b2
  go_wp2_with ((with_reducible refine ld ?_ X2.x.x X2.x.v.len ?_); (focus rfl))
  refine (inside_0 _ z x w2 X2.x.rz HZ.out.r).mono ?_
  rw [HX.out]
  rintro e w3 ⟨rfl, b3⟩
  have X3 := X2.below b3
  clear X2 b3
  go_wp2_with ((with_reducible refine ld ?_ X3.x.x X3.x.v.len ?_); (focus rfl))
  refine (block _ z x w3 X3.x.rz HZ.out h0 h1).mono ?_
  rintro e w4 ⟨hA, b4⟩
  have X4 := X3.below b4
  clear X3 b4
  rcases hA with ⟨k, hk, hm, rfl⟩ | ⟨hn, rfl⟩
  case inr => exact absurd HC.out hn
  have tk : decide (0 ≤ (k : Int)) = true := by simp
  have hf := Put.of HZ.out.l hk hm
  have hin : In (x - x % pw k) k x := by
    unfold In
    rcases pw_cases (show k ≤ 4 by omega) with ⟨k1, k2⟩ | ⟨k1, k2⟩ | ⟨k1, k2⟩ | ⟨k1, k2⟩ | ⟨k1, k2⟩ <;> (rw [k2]; omega)
  obtain ⟨f, hfd⟩ : ∃ y, x - x % pw k = y := ⟨_, rfl⟩
  rw [hfd] at hm hf hin ⊢
  have HF := Lib.hid hf; have HIN := Lib.hid hin; have HM := Lib.hid hm
  clear hf hin hm hfd
  go_wp2_with ((with_reducible refine ld ?_ X4.x.x X4.x.v.len ?_); (focus rfl))
  refine (zclone _ z w4 X4.x.rz HZ.out).mono ?_
  rintro e w5 ⟨cs2, rfl, hO, b5⟩
  have hO2 := hO.weaken X4.x.b.size
  have X5 := X4.below b5
  clear X4 b5 hO
  have hz2 := Blk.new w5 39 #[.int .i64 0, .int .i64 0, .int .i64 0, .int .i64 0, .int .i64 0, .slice none 0 0, .slice none 0 0, .slice none 0 0, .slice none 0 0, .slice none 0 0] zP rfl
  have hZ2 := X5.z.later (below_box w5 (.cells #[.int .i64 0, .int .i64 0, .int .i64 0, .int .i64 0, .int .i64 0, .slice none 0 0, .slice none 0 0, .slice none 0 0, .slice none 0 0, .slice none 0 0] 39))
  have h1c := hO2.zv.one
  have hl2 := hO2.h.len
  have hne : gr ≠ w5.heap.size := by have := X5.z.lt; omega
  go_upto_region 10 with ((with_reducible refine stZ (cs := cs2) ?_ ?_ hz2 zP_len hl2 h1c ?_); (focus rfl); (focus rfl); intro w6 hB6 hg6)
  have V6 := ZP.new hO2 X5.x.b hz2 hB6 hg6
  have Z6 := hZ2.grown hg6 (by simpa using Ne.symm hne)
  have hlr := X5.l
  obtain ⟨g2, hg2⟩ : ∃ g, w5.heap.size = g := ⟨_, rfl⟩
  rw [hg2] at V6 hne ⊢
  clear hg2 hB6 hg6 hZ2 hz2 h1c hO2 X5 hl2
  obtain ⟨v, hu, hO, dc, df⟩ := V6.at hk
  have hlen := HZ.out.len hk
  obtain ⟨a', c', rfl, q1, q2, q3, hI⟩ := hO.sl
  obtain ⟨n, hn⟩ : ∃ n, (z.fr k).length = n := ⟨_, rfl⟩
  have hse := search a' (z.fr k) n c' f w6 hI hn (by omega) (HZ.out.l.asc k hk)
  have hil := (pos_lt (HZ.out.l.asc k hk) HM.out).1
  have hcm : (z.fr k).contains f = true := by simpa using HM.out
  obtain ⟨i, hip⟩ : ∃ i, pos (z.fr k) f = i := ⟨_, rfl⟩
  rw [hip] at hse hil
  rw [hcm] at hse
  have hde := dele w.heap.size _ (z.fr k) i w6 hO hil (by omega)
  have hdd : (z.fr k).eraseIdx i = del (z.fr k) f := by unfold del; rw [hip]
  rw [hdd] at hde
  rw [hn] at hde dc hil hlen
  have HSE := Lib.hid hse; have HDE := Lib.hid hde; have HNN := Lib.hid hn; have HOO := Lib.hid hO; have HU := Lib.hid hu
  clear hse hde hip hcm hdd q1 q2 q3 hI hn hO hu
  go_wp2_with fail
  refine HSE.out.mono ?_
  rintro e w7 ⟨rfl, rfl⟩
  go_wp2_with fail
  refine HDE.out.mono ?_
  rintro e w8 ⟨v', rfl, hO8, hg8, hn8⟩
  have hu := HU.out
  rw [← HNN.out] at hg8 hn8
  have V8 := V6.put hk hu hg8 hO8 hn8
  have K8 := Kn.put (g := g2) HOO.out hg8 (5 + k) (u := v')
  have Z8 := K8 gr 39 zP hne (by decide) Z6
  have hx8 := V6.x.grown hg8 (V6.x.not_own HOO.out (by decide))
  have df8 := hx8.frozen (5 + k)
  have dc8 : w8.cell? ⟨g2, 5 + k, none⟩ = some (.slice a' n c') := by rw [hx8.cell, ← V6.x.cell]; exact dc
  obtain ⟨a3, c3, rfl, _⟩ := own_form hO8
  clear V6 Z6 HOO HU dc df hO8 hg8 hn8 K8 hx8 hu HSE HDE HNN hlen hil
  go_upto_region 12 with fail
  clear dc8 df8
  obtain ⟨w9, hw9⟩ : ∃ W, W = w8.setCell ⟨g2, 5 + k, none⟩ (.slice a3 (del (z.fr k) f).length c3) := ⟨_, rfl⟩
  rw [← hw9] at V8 Z8 ⊢
  clear hw9 HC HM HX
  go_wp2
  go_loopg [7, 8] k (fun gg v7 v8 wr => ∃ (f : Int) (fr : Nat → List Int) (cs : List Value), v7 = .int .i64 (gg : Nat) ∧ v8 = .int .i64 f ∧ ZP w g2 cs { z with fr := fr } wr ∧ Blk wr gr 39 zP ∧ Put z.st z.ct fr f gg (Cov (F z.fr)) ∧ In f gg x)
  case atStart => exact ⟨f, _, _, rfl, rfl, V8, Z8, HF.out, HIN.out⟩
  case round =>
    clear V8 Z8 HF HIN
    obtain ⟨f, fr, cs', rfl, rfl, V9, Z9, hp, hin⟩ := hrel
    have HP := Lib.hid hp; have HI := Lib.hid hin
    clear hp hin
    cases gk with
    | zero =>
      have hfx : f = x := by have := HI.out; unfold In at this; rw [pw_zero] at this; omega
      have HE := Lib.hid (show ∀ y, Cov (F fr) y ↔ Cov (F z.fr) y ∧ y ≠ x from fun y => by
        rw [HP.out.left]
        unfold In
        rw [pw_zero, ← hfx]
        constructor
        · rintro ⟨h1, h2⟩; exact ⟨h1, by omega⟩
        · rintro ⟨h1, h2⟩; exact ⟨h1, by omega⟩)
      have h1c := V9.v.one
      clear hfx
      go_wp2_with first | ((with_reducible refine ld ?_ V9.x V9.v.len ?_); (focus rfl)) | ((with_reducible refine stZ (cs := cs') ?_ ?_ Z9 zP_len V9.v.len h1c ?_); (focus rfl); (focus rfl); intro wA hBA hgA)
      refine bodyPost_ret (results_p1 rfl _ _ gr cs' _ rfl hBA V9.v.len rfl) rfl ?_
      exact ⟨cs', fr, rfl, V9.o.grown Z9 (by decide) hgA, HP.out.v, HE.out, V9.b.grown hgA V9.b.size (fun k hk => by cases hk; exact hlr)⟩
    | succ k' =>
      have hk5 : k' < 5 := by have := HP.out.r.1; omega
      have ek : ((k' + 1 : Nat) : Int) - 1 = (k' : Int) := by omega
      have tg : decide ((((k' + 1 : Nat)) : Int) > 0) = true := by simp
      obtain ⟨m, hm⟩ : ∃ m, 2 ^ k' = m := ⟨_, rfl⟩
      have hwm : ∀ j : Nat, j = k' → wrap64 ((2 : Int) ^ j) = (m : Int) := fun j hj => by subst hj; rw [← hm]; exact wrap_pow hk5
      have hm16 : m ≤ 16 := by rw [← hm]; exact pow_le16 hk5
      have hpm : pw k' = (m : Int) := by rw [← hm]; rfl
      have hf0 : 0 ≤ f := by have := HP.out.r.2.1; have := HZ.out.r.st0; omega
      have hf1 : f ≤ 256 := by have := HP.out.r.2.2.1; have := HZ.out.r.ct1; have := pw_pos (k' + 1); omega
      have hcase : ∃ gi oo : Int, ((gi = f ∧ oo = f + (m : Int) ∧ x < f + (m : Int)) ∨ (gi = f + (m : Int) ∧ oo = f ∧ f + (m : Int) ≤ x)) := by
        by_cases h : x < f + (m : Int)
        · exact ⟨f, _, .inl ⟨rfl, rfl, h⟩⟩
        · exact ⟨_, f, .inr ⟨rfl, rfl, by omega⟩⟩
      obtain ⟨gi, oo, hcase⟩ := hcase
      have HH := Lib.hid (HP.out.half HI.out (g := gi) (o := oo) (by rw [hpm]; exact hcase))
      obtain ⟨v, hu, hO, dc, df⟩ := V9.at hk5
      have hlen := vd_len HZ.out.r HP.out.v hk5
      simp only at hO
      obtain ⟨a', c', rfl, q1, q2, q3, hI⟩ := hO.sl
      obtain ⟨n, hn⟩ : ∃ n, (fr k').length = n := ⟨_, rfl⟩
      have hse := search a' (fr k') n c' oo wr hI hn (by omega) (HP.out.v.asc k' hk5)
      obtain ⟨i, hip⟩ : ∃ i, pos (fr k') oo = i := ⟨_, rfl⟩
      obtain ⟨ct, hct⟩ : ∃ b, (fr k').contains oo = b := ⟨_, rfl⟩
      have bN := below_box wr (.cells #[.int .i64 oo] 3)
      have hB := Blk.new wr 3 #[.int .i64 oo] [.int .i64 oo] rfl
      have VN := V9.below bN
      have ZN := Z9.later bN
      have hON := hO.later bN
      have hne5 : (Value.slice a' (fr k').length c').ownBlock ≠ some wr.heap.size := fun h => by have := (World.ownsRow.lt hO _ h).2; omega
      have hin := inse w.heap.size (.slice a' (fr k').length c') (fr k') oo wr.heap.size _ hON hB hne5 (by omega) VN.b.size
      rw [hip] at hse hin
      rw [hct] at hse
      rw [hn] at hin dc
      have HSE := Lib.hid hse; have HIN := Lib.hid hin; have HNN := Lib.hid hn; have HOO := Lib.hid hON; have HU := Lib.hid hu
      have HVN := Lib.hid VN; have HZN := Lib.hid ZN
      clear hse hin hip hct q1 q2 q3 hI hn hO hON hu hB bN hne5 VN ZN hm hlen hpm V9 Z9
      have dcN : (wr.alloc (.cells #[.int .i64 oo] 3)).cell? ⟨g2, 5 + k', none⟩ = some (.slice a' n c') := by
        obtain ⟨v2, u1, _, u2, _⟩ := HVN.out.at hk5
        rw [HU.out] at u1
        cases u1
        rw [u2, HNN.out]
      have fin : ∀ (w8 : World) (v' : Value), Own w8 w.heap.size v' (ins (fr k') oo) → (wr.alloc (.cells #[.int .i64 oo] 3)).grownBy w8 (Value.slice a' n c').ownBlock → (∀ k, v'.ownBlock = some k → (Value.slice a' n c').ownBlock = some k ∨ (wr.alloc (.cells #[.int .i64 oo] 3)).heap.size ≤ k) →
          ZP w g2 (cs'.set (5 + k') v') { z with fr := upd fr k' (ins (fr k') oo) } (w8.setCell ⟨g2, 5 + k', none⟩ v') ∧ Blk (w8.setCell ⟨g2, 5 + k', none⟩ v') gr 39 zP ∧ w8.frozen? ⟨g2, 5 + k', none⟩ = false ∧ w8.cell? ⟨g2, 5 + k', none⟩ = some (.slice a' n c') := fun w8 v' hO8 hg8 hn8 => by
        have hu := HU.out
        rw [← HNN.out] at hg8 hn8
        have V8 := HVN.out.put hk5 hu hg8 hO8 hn8
        have K8 := Kn.put (g := g2) HOO.out hg8 (5 + k') (u := v')
        have hx8 := HVN.out.x.grown hg8 (HVN.out.x.not_own HOO.out (by decide))
        exact ⟨V8, K8 gr 39 zP hne (by decide) HZN.out, hx8.frozen (5 + k'), by rw [hx8.cell, ← HVN.out.x.cell]; exact dcN⟩
      have FIN := Lib.hid fin
      clear fin HVN HZN
      rcases hcase with ⟨rfl, rfl, hlt⟩ | ⟨rfl, rfl, hlt⟩
      · go_wp2_with fail
        refine HSE.out.mono ?_
        rintro e w7 ⟨rfl, rfl⟩
        go_wp2_with fail
        refine HIN.out.mono ?_
        rintro e w8 ⟨v', rfl, hO8, hg8, hn8⟩
        obtain ⟨V8, Z8, df8, dc8⟩ := FIN.out w8 v' hO8 hg8 hn8
        obtain ⟨a3, c3, rfl, _⟩ := own_form hO8
        clear hO8 hg8 hn8 FIN HIN HSE dc df dcN
        go_wp2
        go_roundg k'
        case rel => exact ⟨_, _, _, rfl, rfl, V8, Z8, HH.out.1, HH.out.2⟩
        case measure => omega
      · go_wp2_with fail
        refine HSE.out.mono ?_
        rintro e w7 ⟨rfl, rfl⟩
        go_wp2_with fail
        refine HIN.out.mono ?_
        rintro e w8 ⟨v', rfl, hO8, hg8, hn8⟩
        obtain ⟨V8, Z8, df8, dc8⟩ := FIN.out w8 v' hO8 hg8 hn8
        obtain ⟨a3, c3, rfl, _⟩ := own_form hO8
        clear hO8 hg8 hn8 FIN HIN HSE dc df dcN
        go_wp2
        go_roundg k'
        case rel => exact ⟨_, _, _, rfl, rfl, V8, Z8, HH.out.1, HH.out.2⟩
        case measure => omega
end Go.Proofs.Ytdddkfpcbfgocaa
namespace Go.Zn
open Go.Can
/-- The first block of the lists from an order on. -/
def First (fr : Nat → List Int) (k : Nat) (f : Int) : Prop := ∃ j r, k ≤ j ∧ j < 5 ∧ (∀ i, k ≤ i → i < j → fr i = []) ∧ fr j = f :: r
theorem del_head {f : Int} {l : List Int} : del (f :: l) f = l := by
  unfold del pos
  rw [List.takeWhile_cons, if_neg (by simp)]
  rfl
end Go.Zn
namespace Go.Proofs.Ytdddkfpcbfgocaa
open Go.RowKit Go.Over Go.Zn Go.Can Go.Seg Go.Grow
/-- Rows that lie in blocks from B on. -/
def Lo (B : Nat) (cs : List Value) : Prop := ∀ (s : Nat) (a : Addr) (n c : Nat), s < 5 → cs[5 + s]? = some (.slice (some a) n c) → B ≤ a.block
theorem Lo.set {B r : Nat} {cs : List Value} {v : Value} (h : Lo B cs) (hv : ∀ a n c, v = .slice (some a) n c → B ≤ a.block) : Lo B (cs.set (5 + r) v) := fun s a n c hs h3 => by
  by_cases e : s = r
  · subst e
    by_cases hl : 5 + s < cs.length
    · rw [List.getElem?_set_self hl] at h3
      cases h3
      exact hv a n c rfl
    · rw [List.getElem?_eq_none (by simp; omega)] at h3
      cases h3
  · rw [List.getElem?_set_ne (by omega)] at h3
    exact h s a n c hs h3
theorem OwnZ.lo {W : World} {B : Nat} {cs : List Value} {z : Z} (h : OwnZ W B cs z) : Lo B cs := fun s a n c hs h3 => by
  obtain ⟨v, q1, q2⟩ := h.row s hs
  rw [h3] at q1
  cases q1
  exact (World.ownsRow.lt q2 a.block rfl).1
/-- A zone whose rows lie in late blocks is read as before when earlier ones change. -/
theorem ZV.late {W W' : World} {B : Nat} {cs : List Value} {z : Z} (h : ZV W cs z) (hl : Lo B cs) (hk : ∀ b bs, B ≤ b → Blk W b 3 bs → Blk W' b 3 bs) : ZV W' cs z :=
  ⟨h.len, h.nd, h.kd, h.st, h.ct, h.mn, fun k hk5 => by
    obtain ⟨v, h1, a, c, rfl, h2, h3, h4, h5⟩ := h.fr k hk5
    refine ⟨_, h1, a, c, rfl, h2, h3, h4, fun h0 => ?_⟩
    obtain ⟨b, off, ha, ⟨ds, hcs⟩, hc⟩ := h5 h0
    subst ha
    have h6 := hk b ds (hl k _ _ _ hk5 h1) hcs
    exact ⟨b, off, rfl, ⟨ds, h6⟩, fun i hi => by rw [h6.cell, ← hcs.cell]; exact hc i hi⟩⟩
/-- A variable that holds a zone whose lower rows are the call's own. -/
structure MP (w : World) (g : Nat) (cs : List Value) (z : Z) (m : Nat) (W : World) : Prop where
  b : Below w.heap.size w W
  l : w.heap.size ≤ g
  x : Blk W g 39 cs
  o : MixZ W w.heap.size cs z m
  m5 : m ≤ 5
  up : ∀ s a n c, m ≤ s → s < 5 → cs[5 + s]? = some (.slice (some a) n c) → a.block < W.heap.size
  lo : Lo w.heap.size cs
section
variable {w W W' : World} {g m : Nat} {cs : List Value} {z : Z}
theorem MP.below (h : MP w g cs z m W) (hb : Below W.heap.size W W') : MP w g cs z m W' := ⟨below_then h.b hb, h.l, h.x.later hb, h.o.later hb, h.m5, fun s a n c h1 h2 h3 => Nat.lt_of_lt_of_le (h.up s a n c h1 h2 h3) hb.size, h.lo⟩
theorem MP.v (h : MP w g cs z m W) : ZV W cs z := h.o.zv
theorem MP.put {r : Nat} {u u' : Value} {l' : List Int} (h : MP w g cs z m W) (hr : r < m) (hu : cs[5 + r]? = some u) (hg : W.grownBy W' u.ownBlock) (hO : Own W' w.heap.size u' l') (hk : ∀ k, u'.ownBlock = some k → u.ownBlock = some k ∨ W.heap.size ≤ k) :
    MP w g (cs.set (5 + r) u') (setF z r l') m (W'.setCell ⟨g, 5 + r, none⟩ u') := by
  have hm := h.m5
  have hl := h.o.h.len
  obtain ⟨v, q1, _, q2⟩ := h.o.row r (by omega)
  rw [hu] at q1
  cases q1
  have q3 := q2 hr
  have hx := h.x.grown hg (h.x.not_own q3 (by decide))
  have hb : Below w.heap.size w W' := h.b.grown hg h.b.size (fun k hk => (World.ownsRow.lt q3 k hk).1)
  have ho := h.o.put hm hr hu hg hO hk h.up
  have hgr : W'.grownBy (W'.setCell ⟨g, 5 + r, none⟩ u') (some g) := ⟨rfl, rfl, rfl, by simp [World.setCell], fun k _ hk => Below.heap_setCell W' ⟨g, 5 + r, none⟩ u' k (fun e => hk (by rw [e]))⟩
  refine ⟨hb.setCell (p := ⟨g, 5 + r, none⟩) h.l _, h.l, hx.set (5 + r) u', ⟨ho.h, fun s hs => ?_, ho.ap, ho.up⟩, hm, fun s a n c h1 h2 h3 => ?_, h.lo.set fun a n c e => (World.ownsRow.lt hO a.block (by rw [e]; rfl)).1⟩
  · obtain ⟨v, g1, g2, g3⟩ := ho.row s hs
    exact ⟨v, g1, g2.grown hx (by decide) hgr, fun hsm => (g3 hsm).far hx (by decide) _ _⟩
  · rw [List.getElem?_set_ne (by omega)] at h3
    have := h.up s a n c h1 h2 h3
    exact Nat.lt_of_lt_of_le this (Nat.le_trans hg.size hgr.size)
theorem MP.at (h : MP w g cs z m W) {k : Nat} (hk : k < m) : ∃ v, cs[5 + k]? = some v ∧ Own W w.heap.size v (z.fr k) ∧ W.cell? ⟨g, 5 + k, none⟩ = some v ∧ W.frozen? ⟨g, 5 + k, none⟩ = false := by
  obtain ⟨v, h1, _, h2⟩ := h.o.row k (by have := h.m5; omega)
  exact ⟨v, h1, h2 hk, by rw [h.x.cell]; exact h1, h.x.frozen _⟩
/-- The head of a row is cut off. -/
theorem ZP.cut {k : Nat} {l : List Int} {u u' : Value} {b : Nat} (h : ZP w g cs z W) (hk : k < 5) (hu : cs[5 + k]? = some u) (hb : u.ownBlock = some b) (hs : Sl W u' l) (hu' : ∀ a n c, u' = .slice (some a) n c → a.block = b) :
    MP w g (cs.set (5 + k) u') (setF z k l) k (W.setCell ⟨g, 5 + k, none⟩ u') := by
  have hl := h.o.h.len
  have hgr : W.grownBy (W.setCell ⟨g, 5 + k, none⟩ u') (some g) := ⟨rfl, rfl, rfl, by simp [World.setCell], fun j _ hj => Below.heap_setCell W ⟨g, 5 + k, none⟩ u' j (fun e => hj (by rw [e]))⟩
  have hblk : ∀ s v a n c, s < 5 → cs[5 + s]? = some v → v = .slice (some a) n c → a.block < W.heap.size := fun s v a n c hs hv e => by
    obtain ⟨v', q1, q2⟩ := h.o.row s hs
    rw [hv] at q1
    cases q1
    exact (World.ownsRow.lt q2 a.block (by rw [e]; rfl)).2
  refine ⟨h.b.setCell (p := ⟨g, 5 + k, none⟩) h.l _, h.l, h.x.set _ _, ⟨h.o.h.set k u' l, fun r hr => ?_, fun r s x y h1 h2 g1 g2 => ?_, fun r s x a n c h1 h2 h3 g1 g2 => ?_⟩, by omega, fun s a n c h1 h2 h3 => ?_, h.o.lo.set fun a n c e => by
    rw [hu' a n c e]
    obtain ⟨v', q1, q2⟩ := h.o.row k hk
    rw [hu] at q1; cases q1
    exact (World.ownsRow.lt q2 b hb).1⟩
  · by_cases e : r = k
    · subst e
      rw [setF_self]
      exact ⟨u', List.getElem?_set_self (by omega), hs.far h.x (by decide) _ _, fun h => by omega⟩
    · obtain ⟨v, q1, q2⟩ := h.o.row r hr
      rw [setF_ne e]
      have q3 := q2.far h.x (by decide) (5 + k) u'
      exact ⟨v, by rw [List.getElem?_set_ne (by omega)]; exact q1, q3.sl, fun _ => q3⟩
  · rw [List.getElem?_set_ne (by omega)] at g1 g2
    exact h.o.ap r s x y h1 (by omega) g1 g2
  · rw [List.getElem?_set_ne (by omega)] at g1
    by_cases e : s = k
    · subst e
      rw [List.getElem?_set_self (by omega)] at g2
      cases g2
      rw [hu' a n c rfl, ← hb]
      rcases h.o.apart (Nat.ne_of_lt h1) (by omega) h3 g1 hu with h4 | h4
      · rw [h4, hb]; simp
      · exact h4
    · rw [List.getElem?_set_ne (by omega)] at g2
      rcases h.o.apart (show r ≠ s by omega) (by omega) h3 g1 g2 with h4 | h4
      · rw [h4]; simp
      · exact h4
  · have hsz := hgr.size
    by_cases e : s = k
    · subst e
      rw [List.getElem?_set_self (by omega)] at h3
      cases h3
      have hlt := (World.ownsRow.lt (show Own W w.heap.size u (z.fr s) from by
        obtain ⟨v', q1, q2⟩ := h.o.row s h2
        rw [hu] at q1; cases q1; exact q2) b hb).2
      rw [hu' a n c rfl]; omega
    · rw [List.getElem?_set_ne (by omega)] at h3
      have := hblk s _ a n c h2 h3 rfl
      omega
end
/-- What a call gives that takes a block. -/
def AllocAns (w : World) (z : Z) (k : Nat) (e : Ending) (w' : World) : Prop :=
  Below w.heap.size w w' ∧
    ((∃ cs f fr, e = .returned (.tuple #[.agg cs.toArray, .int .i64 f, .int .i64 0]) ∧ (ZV w' cs { z with fr := fr } ∧ Lo w.heap.size cs) ∧ Vd z.st z.ct fr ∧ R z.st z.ct f k ∧ (∀ x, In f k x → Cov (F z.fr) x) ∧ (∀ x, Cov (F fr) x ↔ Cov (F z.fr) x ∧ ¬ In f k x) ∧ First z.fr k f) ∨
     ((∀ j, k ≤ j → j < 5 → z.fr j = []) ∧ e = .returned (.tuple #[.agg (newC noZ).toArray, .int .i64 0, .int .i64 16])))
set_option maxRecDepth 100000 in set_option maxHeartbeats 3200000 in
theorem alloc (v : Value) (z : Z) (k0 : Nat) (w : World) (H : Rz w v z) (hz : VZ z) (hk0 : k0 < 5) : Calls Try.prog 25 #[v, .int .i64 k0] w (AllocAns w z k0) := by
  have HZ := Lib.hid hz
  clear hz
  obtain ⟨cs, rfl, hV⟩ := H
  have X0 := ZZ.new hV
  clear hV
  go_enter Try.func25, Try.ntmps25
  go_upto_region 1 with fail
  obtain ⟨w1, hw1⟩ : ∃ W, W = (w.alloc (.cells cs.toArray 39)).alloc (.cells #[.int .i64 0, .int .i64 0, .int .i64 0, .int .i64 0, .int .i64 0, .slice none 0 0, .slice none 0 0, .slice none 0 0, .slice none 0 0, .slice none 0 0] 39) := ⟨_, rfl⟩
  rw [← hw1] at X0 ⊢
  obtain ⟨gr, hgr⟩ : ∃ g, w.heap.size + 1 = g := ⟨_, rfl⟩
  obtain ⟨g, hg0⟩ : ∃ g, w.heap.size = g := ⟨_, rfl⟩
  have X1 : ZZ w g gr cs z w1 := by rw [← hgr, ← hg0]; exact X0
  rw [hgr, hg0]
  clear hw1 X0 hg0 hgr
  go_wp2_with ((with_reducible refine ld ?_ X1.x.x X1.x.v.len ?_); (focus rfl))
  refine (check _ z w1 X1.x.rz HZ.out).mono ?_
  rintro e w2 ⟨rfl, b2⟩
  have X2 := X1.below b2
  clear X1 b2
  go_wp2
  go_loopg [8] (5 - k0) (fun gg v8 wr => ∃ k : Nat, k + gg = 5 ∧ k0 ≤ k ∧ v8 = .int .i64 k ∧ (∀ j, k0 ≤ j → j < k → z.fr j = []) ∧ w2 = wr)
  case atStart => exact ⟨k0, by omega, by omega, rfl, fun j _ _ => by omega, rfl⟩
  case round =>
    obtain ⟨k, hk, hk1, rfl, hno, rfl⟩ := hrel
    have HNO := Lib.hid hno
    clear hno
    cases gk with
    | zero =>
      obtain rfl : k = 5 := by omega
      have HN5 := Lib.hid (show ∀ j, k0 ≤ j → j < 5 → z.fr j = [] from HNO.out)
      have h1c := (ownZ_new w2 0 noZ).zv.one
      have hzl : (newC noZ).length = 10 := rfl
      clear hk
      go_wp2_with ((with_reducible refine stZ (cs := newC noZ) ?_ ?_ X2.z zP_len hzl h1c ?_); (focus rfl); (focus rfl); intro wA hBA hgA)
      refine bodyPost_ret (results_p2 rfl _ _ gr (newC noZ) _ _ rfl hBA hzl rfl rfl) rfl ?_
      exact ⟨X2.x.b.grown hgA X2.x.b.size (fun k hk => by cases hk; exact X2.l), .inr ⟨HN5.out, rfl⟩⟩
    | succ gg =>
      have hk5 : k < 5 := by omega
      have tk : decide ((k : Int) ≤ 4) = true := by simp; omega
      have HK := Lib.hid hk
      obtain ⟨a, n, c, hc, hn, _, _, _, _⟩ := X2.x.v.list X2.x.x hk5
      clear hk
      by_cases hn0 : n = 0
      · subst hn0
        have HN := Lib.hid hn
        clear hn
        go_wp2
        go_roundg gg
        case rel => exact ⟨k + 1, by have := HK.out; omega, by omega, by go_num, fun j h1 h2 => by
          by_cases e : j = k
          · subst e; exact List.eq_nil_of_length_eq_zero HN.out
          · exact HNO.out j h1 (by omega), rfl⟩
        case measure => omega
      · have tn : ((n : Int) == 0) = false := by simp; omega
        have t4 : decide ((k : Int) > 4) = false := by simp; omega
        have hne0 : 0 < (z.fr k).length := by omega
        obtain ⟨f, l, hfl⟩ : ∃ f l, z.fr k = f :: l := by
          cases h : z.fr k with
          | nil => rw [h] at hne0; simp at hne0
          | cons f l => exact ⟨f, l, rfl⟩
        have hmem : f ∈ z.fr k := by rw [hfl]; simp
        have hp := Put.of HZ.out.l hk5 hmem
        rw [hfl, del_head] at hp
        have HP := Lib.hid hp; have HFL := Lib.hid hfl; have HM := Lib.hid hmem
        clear hp hfl hmem hne0 hn
        go_wp2_with ((with_reducible refine ld ?_ X2.x.x X2.x.v.len ?_); (focus rfl))
        refine (zclone _ z w2 X2.x.rz HZ.out).mono ?_
        rintro e w5 ⟨cs2, rfl, hO, b5⟩
        have hO2 := hO.weaken X2.x.b.size
        have X5 := X2.below b5
        clear X2 b5 hO hc
        have hz2 := Blk.new w5 39 #[.int .i64 0, .int .i64 0, .int .i64 0, .int .i64 0, .int .i64 0, .slice none 0 0, .slice none 0 0, .slice none 0 0, .slice none 0 0, .slice none 0 0] zP rfl
        have hZ2 := X5.z.later (below_box w5 (.cells #[.int .i64 0, .int .i64 0, .int .i64 0, .int .i64 0, .int .i64 0, .slice none 0 0, .slice none 0 0, .slice none 0 0, .slice none 0 0, .slice none 0 0] 39))
        have h1c := hO2.zv.one
        have hl2 := hO2.h.len
        have hne : gr ≠ w5.heap.size := by have := X5.z.lt; omega
        go_upto_region 12 with ((with_reducible refine stZ (cs := cs2) ?_ ?_ hz2 zP_len hl2 h1c ?_); (focus rfl); (focus rfl); intro w6 hB6 hg6)
        have V6 := ZP.new hO2 X5.x.b hz2 hB6 hg6
        have Z6 := hZ2.grown hg6 (by simpa using Ne.symm hne)
        have hlr := X5.l
        obtain ⟨g2, hg2⟩ : ∃ g, w5.heap.size = g := ⟨_, rfl⟩
        rw [hg2] at V6 hne ⊢
        clear hg2 hB6 hg6 hZ2 hz2 h1c hO2 X5 hl2
        obtain ⟨v, hu, hO, dc, df⟩ := V6.at hk5
        rw [HFL.out] at hO
        obtain ⟨bk, cap, cur, rfl, _, hB, hnc, hcm, hcl, htk, _⟩ := row_open hO (by simp)
        obtain ⟨q, hq⟩ : ∃ q, l.length = q := ⟨_, rfl⟩
        have hlq : (f :: l).length = q + 1 := by rw [List.length_cons, hq]
        rw [hlq] at dc hu hnc htk
        have hcur : ∀ i, i < q + 1 → cur[i]? = (nums (f :: l))[i]? := fun i hi => by rw [← htk, List.getElem?_take, if_pos hi]
        have c0 : w6.cell? ⟨bk, 0, none⟩ = some (.int .i64 f) := by rw [hB.cell, hcur 0 (by omega)]; rfl
        have hq256 : q + 1 ≤ 256 := by have := HZ.out.len hk5; rw [HFL.out, hlq] at this; exact this
        have hsl : ∀ off c, (0 < q → off = 1) → q ≤ c → c ≤ maxLen → Sl w6 (.slice (some ⟨bk, off, none⟩) q c) l := fun off c ho h1 h2 => by
          refine ⟨some ⟨bk, off, none⟩, c, by rw [hq], by omega, h2, fun h => (by cases h), fun h0 => ⟨bk, off, rfl, ⟨cur, hB⟩, fun i hi => ?_⟩⟩
          rw [hB.cell, ho (by omega), show 1 + i = i + 1 by omega, hcur (i + 1) (by omega)]
          simp [nums, List.getElem?_eq_getElem hi, List.getD_eq_getElem?_getD]
        have hcut : ∀ off c, (0 < q → off = 1) → q ≤ c → c ≤ maxLen → MP w g2 (cs2.set (5 + k) (.slice (some ⟨bk, off, none⟩) q c)) { z with fr := upd z.fr k l } k (w6.setCell ⟨g2, 5 + k, none⟩ (.slice (some ⟨bk, off, none⟩) q c)) ∧ Blk (w6.setCell ⟨g2, 5 + k, none⟩ (.slice (some ⟨bk, off, none⟩) q c)) gr 39 zP := fun off c ho h1 h2 =>
          ⟨V6.cut hk5 hu rfl (hsl off c ho h1 h2) (fun a n c' e => by cases e; rfl), Z6.far (p := ⟨g2, 5 + k, none⟩) hne _⟩
        have HCUT := Lib.hid hcut
        unfold maxLen at hcm
        have hfin : ∀ (u : Value) (W : World) (cs : List Value), MP w g2 cs { z with fr := upd z.fr k l } k W → Blk W gr 39 zP → True := fun _ _ _ _ _ => trivial
        clear hcut hsl hcur hO hB hcl htk hu hlq hfin V6 Z6
        by_cases hc1 : cap = 1
        · subst hc1
          obtain rfl : q = 0 := by omega
          go_upto_region 14 with fail
          clear dc df c0
          obtain ⟨V8, Z8⟩ := HCUT.out 0 (0) (by omega) (by omega) (by unfold maxLen; omega)
          obtain ⟨w9, hw9⟩ : ∃ W, W = w6.setCell ⟨g2, 5 + k, none⟩ (.slice (some ⟨bk, 0, none⟩) 0 0) := ⟨_, rfl⟩
          rw [← hw9] at V8 Z8 ⊢
          clear hw9 HCUT
          have HFR := Lib.hid hk5
          go_wp2
          go_loopg [8] (k - k0) (fun gg v8 wr => ∃ (fr : Nat → List Int) (cs : List Value), v8 = .int .i64 ((k0 + gg : Nat) : Int) ∧ MP w g2 cs { z with fr := fr } k wr ∧ Blk wr gr 39 zP ∧ Put z.st z.ct fr f (k0 + gg) (Cov (F z.fr)) ∧ k0 + gg ≤ k)
          case atStart => exact ⟨_, _, by rw [show k0 + (k - k0) = k by omega], V8, Z8, by rw [show k0 + (k - k0) = k by omega]; exact HP.out, by omega⟩
          case round =>
            clear V8 Z8 HP
            obtain ⟨fr, cs', rfl, V9, Z9, hp, hle⟩ := hrel
            have HP := Lib.hid hp
            clear hp
            cases gk with
            | zero =>
              have hr := HP.out.r
              have HE := Lib.hid (show AllocAns w z k0 (.returned (.tuple #[.agg cs'.toArray, .int .i64 f, .int .i64 0])) wr from by
                refine ⟨V9.b, .inl ⟨cs', f, fr, rfl, ⟨V9.v, V9.lo⟩, HP.out.v, HP.out.r, fun x hx => (HP.out.c x).1 (.inr hx), HP.out.left, ⟨k, l, hk1, hk5, HNO.out, HFL.out⟩⟩⟩)
              have h1c := V9.v.one
              clear hr
              go_wp2_with first | ((with_reducible refine ld ?_ V9.x V9.v.len ?_); (focus rfl)) | ((with_reducible refine stZ (cs := cs') ?_ ?_ Z9 zP_len V9.v.len h1c ?_); (focus rfl); (focus rfl); intro wA hBA hgA)
              refine bodyPost_ret (results_p2 rfl _ _ gr cs' _ _ rfl hBA V9.v.len rfl rfl) rfl ?_
              have hvA : ZV wA cs' { z with fr := fr } := ⟨V9.v.len, V9.v.nd, V9.v.kd, V9.v.st, V9.v.ct, V9.v.mn, fun k hk => by obtain ⟨v, h1, h2⟩ := V9.v.fr k hk; exact ⟨v, h1, h2.grown Z9 (by decide) hgA⟩⟩
              exact ⟨V9.b.grown hgA V9.b.size (fun k hk => by cases hk; exact hlr), .inl ⟨cs', f, fr, rfl, ⟨hvA, V9.lo⟩, HP.out.v, HP.out.r, fun x hx => (HP.out.c x).1 (.inr hx), HP.out.left, ⟨k, l, hk1, hk5, HNO.out, HFL.out⟩⟩⟩
            | succ g' =>
              obtain ⟨k', hk'⟩ : ∃ k', k0 + g' = k' := ⟨_, rfl⟩
              have HK' := Lib.hid hk'
              rw [show k0 + (g' + 1) = k' + 1 by omega] at HP hle ⊢
              have hkk : k0 ≤ k' := by omega
              clear hk'
              have hk'5 : k' < 5 := by omega
              have ek : ((k' + 1 : Nat) : Int) - 1 = (k' : Int) := by omega
              have tg : decide ((k0 : Int) < ((k' + 1 : Nat) : Int)) = true := by simp; omega
              obtain ⟨m, hm⟩ : ∃ m, 2 ^ k' = m := ⟨_, rfl⟩
              have hwm : ∀ j : Nat, j = k' → wrap64 ((2 : Int) ^ j) = (m : Int) := fun j hj => by subst hj; rw [← hm]; exact wrap_pow hk'5
              have hm16 : m ≤ 16 := by rw [← hm]; exact pow_le16 hk'5
              have hpm : pw k' = (m : Int) := by rw [← hm]; rfl
              have hf0 : 0 ≤ f := by have := HP.out.r.2.1; have := HZ.out.r.st0; omega
              have hf1 : f ≤ 256 := by have := HP.out.r.2.2.1; have := HZ.out.r.ct1; have := pw_pos (k' + 1); omega
              have HH := Lib.hid (HP.out.split (g := f) (o := f + (m : Int)) (.inl ⟨rfl, by rw [hpm]⟩))
              obtain ⟨v, hu, hO, dc, df⟩ := V9.at (show k' < k by omega)
              have hlen := vd_len HZ.out.r HP.out.v hk'5
              obtain ⟨oo, hoo⟩ : ∃ o, f + (m : Int) = o := ⟨_, rfl⟩
              rw [hoo] at HH
              simp only at hO
              obtain ⟨a', c', rfl, q1, q2, q3, hI⟩ := hO.sl
              obtain ⟨n, hn⟩ : ∃ n, (fr k').length = n := ⟨_, rfl⟩
              have hse := search a' (fr k') n c' oo wr hI hn (by omega) (HP.out.v.asc k' hk'5)
              obtain ⟨i, hip⟩ : ∃ i, pos (fr k') oo = i := ⟨_, rfl⟩
              obtain ⟨ct, hct⟩ : ∃ b, (fr k').contains oo = b := ⟨_, rfl⟩
              have bN := below_box wr (.cells #[.int .i64 oo] 3)
              have hB := Blk.new wr 3 #[.int .i64 oo] [.int .i64 oo] rfl
              have VN := V9.below bN
              have ZN := Z9.later bN
              have hON := hO.later bN
              have hne5 : (Value.slice a' (fr k').length c').ownBlock ≠ some wr.heap.size := fun h => by have := (World.ownsRow.lt hO _ h).2; omega
              have hin := inse w.heap.size (.slice a' (fr k').length c') (fr k') oo wr.heap.size _ hON hB hne5 (by omega) VN.b.size
              rw [hip] at hse hin
              rw [hct] at hse
              rw [hn] at hin dc
              have HSE := Lib.hid hse; have HIN := Lib.hid hin; have HNN := Lib.hid hn; have HOO := Lib.hid hON; have HU := Lib.hid hu
              have HVN := Lib.hid VN; have HZN := Lib.hid ZN; have HLE := Lib.hid hle
              clear hse hin hip hct q1 q2 q3 hI hn hO hON hu hB bN hne5 VN ZN hm hlen hpm V9 Z9 hle
              have dcN : (wr.alloc (.cells #[.int .i64 oo] 3)).cell? ⟨g2, 5 + k', none⟩ = some (.slice a' n c') := by
                obtain ⟨v2, u1, _, u2, _⟩ := HVN.out.at (show k' < k by have := HLE.out; omega)
                rw [HU.out] at u1
                cases u1
                rw [u2, HNN.out]
              have fin : ∀ (w8 : World) (v' : Value), Own w8 w.heap.size v' (ins (fr k') oo) → (wr.alloc (.cells #[.int .i64 oo] 3)).grownBy w8 (Value.slice a' n c').ownBlock → (∀ k, v'.ownBlock = some k → (Value.slice a' n c').ownBlock = some k ∨ (wr.alloc (.cells #[.int .i64 oo] 3)).heap.size ≤ k) →
                  MP w g2 (cs'.set (5 + k') v') { z with fr := upd fr k' (ins (fr k') oo) } k (w8.setCell ⟨g2, 5 + k', none⟩ v') ∧ Blk (w8.setCell ⟨g2, 5 + k', none⟩ v') gr 39 zP ∧ w8.frozen? ⟨g2, 5 + k', none⟩ = false ∧ w8.cell? ⟨g2, 5 + k', none⟩ = some (.slice a' n c') := fun w8 v' hO8 hg8 hn8 => by
                have hu := HU.out
                rw [← HNN.out] at hg8 hn8
                have V8 := HVN.out.put (show k' < k by have := HLE.out; omega) hu hg8 hO8 hn8
                have K8 := Kn.put (g := g2) HOO.out hg8 (5 + k') (u := v')
                have hx8 := HVN.out.x.grown hg8 (HVN.out.x.not_own HOO.out (by decide))
                exact ⟨V8, K8 gr 39 zP hne (by decide) HZN.out, hx8.frozen (5 + k'), by rw [hx8.cell, ← HVN.out.x.cell]; exact dcN⟩
              have FIN := Lib.hid fin
              clear fin HVN HZN
              go_wp2_with fail
              refine HSE.out.mono ?_
              rintro e w7 ⟨rfl, rfl⟩
              go_wp2_with fail
              refine HIN.out.mono ?_
              rintro e w8 ⟨v', rfl, hO8, hg8, hn8⟩
              obtain ⟨V8, Z8, df8, dc8⟩ := FIN.out w8 v' hO8 hg8 hn8
              obtain ⟨a3, c3, rfl, _⟩ := own_form hO8
              clear hO8 hg8 hn8 FIN HIN HSE dc df dcN
              go_wp2
              go_roundg g'
              case rel => exact ⟨_, _, by rw [HK'.out], V8, Z8, by rw [HK'.out]; exact HH.out, by have := HLE.out; have := HK'.out; omega⟩
              case measure => omega
        · go_upto_region 14 with fail
          clear dc df c0
          obtain ⟨V8, Z8⟩ := HCUT.out 1 ((cap - 1)) (by omega) (by omega) (by unfold maxLen; omega)
          obtain ⟨w9, hw9⟩ : ∃ W, W = w6.setCell ⟨g2, 5 + k, none⟩ (.slice (some ⟨bk, 1, none⟩) q (cap - 1)) := ⟨_, rfl⟩
          rw [← hw9] at V8 Z8 ⊢
          clear hw9 HCUT
          have HFR := Lib.hid hk5
          go_wp2
          go_loopg [8] (k - k0) (fun gg v8 wr => ∃ (fr : Nat → List Int) (cs : List Value), v8 = .int .i64 ((k0 + gg : Nat) : Int) ∧ MP w g2 cs { z with fr := fr } k wr ∧ Blk wr gr 39 zP ∧ Put z.st z.ct fr f (k0 + gg) (Cov (F z.fr)) ∧ k0 + gg ≤ k)
          case atStart => exact ⟨_, _, by rw [show k0 + (k - k0) = k by omega], V8, Z8, by rw [show k0 + (k - k0) = k by omega]; exact HP.out, by omega⟩
          case round =>
            clear V8 Z8 HP
            obtain ⟨fr, cs', rfl, V9, Z9, hp, hle⟩ := hrel
            have HP := Lib.hid hp
            clear hp
            cases gk with
            | zero =>
              have hr := HP.out.r
              have HE := Lib.hid (show AllocAns w z k0 (.returned (.tuple #[.agg cs'.toArray, .int .i64 f, .int .i64 0])) wr from by
                refine ⟨V9.b, .inl ⟨cs', f, fr, rfl, ⟨V9.v, V9.lo⟩, HP.out.v, HP.out.r, fun x hx => (HP.out.c x).1 (.inr hx), HP.out.left, ⟨k, l, hk1, hk5, HNO.out, HFL.out⟩⟩⟩)
              have h1c := V9.v.one
              clear hr
              go_wp2_with first | ((with_reducible refine ld ?_ V9.x V9.v.len ?_); (focus rfl)) | ((with_reducible refine stZ (cs := cs') ?_ ?_ Z9 zP_len V9.v.len h1c ?_); (focus rfl); (focus rfl); intro wA hBA hgA)
              refine bodyPost_ret (results_p2 rfl _ _ gr cs' _ _ rfl hBA V9.v.len rfl rfl) rfl ?_
              have hvA : ZV wA cs' { z with fr := fr } := ⟨V9.v.len, V9.v.nd, V9.v.kd, V9.v.st, V9.v.ct, V9.v.mn, fun k hk => by obtain ⟨v, h1, h2⟩ := V9.v.fr k hk; exact ⟨v, h1, h2.grown Z9 (by decide) hgA⟩⟩
              exact ⟨V9.b.grown hgA V9.b.size (fun k hk => by cases hk; exact hlr), .inl ⟨cs', f, fr, rfl, ⟨hvA, V9.lo⟩, HP.out.v, HP.out.r, fun x hx => (HP.out.c x).1 (.inr hx), HP.out.left, ⟨k, l, hk1, hk5, HNO.out, HFL.out⟩⟩⟩
            | succ g' =>
              obtain ⟨k', hk'⟩ : ∃ k', k0 + g' = k' := ⟨_, rfl⟩
              have HK' := Lib.hid hk'
              rw [show k0 + (g' + 1) = k' + 1 by omega] at HP hle ⊢
              have hkk : k0 ≤ k' := by omega
              clear hk'
              have hk'5 : k' < 5 := by omega
              have ek : ((k' + 1 : Nat) : Int) - 1 = (k' : Int) := by omega
              have tg : decide ((k0 : Int) < ((k' + 1 : Nat) : Int)) = true := by simp; omega
              obtain ⟨m, hm⟩ : ∃ m, 2 ^ k' = m := ⟨_, rfl⟩
              have hwm : ∀ j : Nat, j = k' → wrap64 ((2 : Int) ^ j) = (m : Int) := fun j hj => by subst hj; rw [← hm]; exact wrap_pow hk'5
              have hm16 : m ≤ 16 := by rw [← hm]; exact pow_le16 hk'5
              have hpm : pw k' = (m : Int) := by rw [← hm]; rfl
              have hf0 : 0 ≤ f := by have := HP.out.r.2.1; have := HZ.out.r.st0; omega
              have hf1 : f ≤ 256 := by have := HP.out.r.2.2.1; have := HZ.out.r.ct1; have := pw_pos (k' + 1); omega
              have HH := Lib.hid (HP.out.split (g := f) (o := f + (m : Int)) (.inl ⟨rfl, by rw [hpm]⟩))
              obtain ⟨v, hu, hO, dc, df⟩ := V9.at (show k' < k by omega)
              have hlen := vd_len HZ.out.r HP.out.v hk'5
              obtain ⟨oo, hoo⟩ : ∃ o, f + (m : Int) = o := ⟨_, rfl⟩
              rw [hoo] at HH
              simp only at hO
              obtain ⟨a', c', rfl, q1, q2, q3, hI⟩ := hO.sl
              obtain ⟨n, hn⟩ : ∃ n, (fr k').length = n := ⟨_, rfl⟩
              have hse := search a' (fr k') n c' oo wr hI hn (by omega) (HP.out.v.asc k' hk'5)
              obtain ⟨i, hip⟩ : ∃ i, pos (fr k') oo = i := ⟨_, rfl⟩
              obtain ⟨ct, hct⟩ : ∃ b, (fr k').contains oo = b := ⟨_, rfl⟩
              have bN := below_box wr (.cells #[.int .i64 oo] 3)
              have hB := Blk.new wr 3 #[.int .i64 oo] [.int .i64 oo] rfl
              have VN := V9.below bN
              have ZN := Z9.later bN
              have hON := hO.later bN
              have hne5 : (Value.slice a' (fr k').length c').ownBlock ≠ some wr.heap.size := fun h => by have := (World.ownsRow.lt hO _ h).2; omega
              have hin := inse w.heap.size (.slice a' (fr k').length c') (fr k') oo wr.heap.size _ hON hB hne5 (by omega) VN.b.size
              rw [hip] at hse hin
              rw [hct] at hse
              rw [hn] at hin dc
              have HSE := Lib.hid hse; have HIN := Lib.hid hin; have HNN := Lib.hid hn; have HOO := Lib.hid hON; have HU := Lib.hid hu
              have HVN := Lib.hid VN; have HZN := Lib.hid ZN; have HLE := Lib.hid hle
              clear hse hin hip hct q1 q2 q3 hI hn hO hON hu hB bN hne5 VN ZN hm hlen hpm V9 Z9 hle
              have dcN : (wr.alloc (.cells #[.int .i64 oo] 3)).cell? ⟨g2, 5 + k', none⟩ = some (.slice a' n c') := by
                obtain ⟨v2, u1, _, u2, _⟩ := HVN.out.at (show k' < k by have := HLE.out; omega)
                rw [HU.out] at u1
                cases u1
                rw [u2, HNN.out]
              have fin : ∀ (w8 : World) (v' : Value), Own w8 w.heap.size v' (ins (fr k') oo) → (wr.alloc (.cells #[.int .i64 oo] 3)).grownBy w8 (Value.slice a' n c').ownBlock → (∀ k, v'.ownBlock = some k → (Value.slice a' n c').ownBlock = some k ∨ (wr.alloc (.cells #[.int .i64 oo] 3)).heap.size ≤ k) →
                  MP w g2 (cs'.set (5 + k') v') { z with fr := upd fr k' (ins (fr k') oo) } k (w8.setCell ⟨g2, 5 + k', none⟩ v') ∧ Blk (w8.setCell ⟨g2, 5 + k', none⟩ v') gr 39 zP ∧ w8.frozen? ⟨g2, 5 + k', none⟩ = false ∧ w8.cell? ⟨g2, 5 + k', none⟩ = some (.slice a' n c') := fun w8 v' hO8 hg8 hn8 => by
                have hu := HU.out
                rw [← HNN.out] at hg8 hn8
                have V8 := HVN.out.put (show k' < k by have := HLE.out; omega) hu hg8 hO8 hn8
                have K8 := Kn.put (g := g2) HOO.out hg8 (5 + k') (u := v')
                have hx8 := HVN.out.x.grown hg8 (HVN.out.x.not_own HOO.out (by decide))
                exact ⟨V8, K8 gr 39 zP hne (by decide) HZN.out, hx8.frozen (5 + k'), by rw [hx8.cell, ← HVN.out.x.cell]; exact dcN⟩
              have FIN := Lib.hid fin
              clear fin HVN HZN
              go_wp2_with fail
              refine HSE.out.mono ?_
              rintro e w7 ⟨rfl, rfl⟩
              go_wp2_with fail
              refine HIN.out.mono ?_
              rintro e w8 ⟨v', rfl, hO8, hg8, hn8⟩
              obtain ⟨V8, Z8, df8, dc8⟩ := FIN.out w8 v' hO8 hg8 hn8
              obtain ⟨a3, c3, rfl, _⟩ := own_form hO8
              clear hO8 hg8 hn8 FIN HIN HSE dc df dcN
              go_wp2
              go_roundg g'
              case rel => exact ⟨_, _, by rw [HK'.out], V8, Z8, by rw [HK'.out]; exact HH.out, by have := HLE.out; have := HK'.out; omega⟩
              case measure => omega
end Go.Proofs.Ytdddkfpcbfgocaa
namespace Go.Grow
open Go.RowKit Go.Over
theorem add_off (g o j : Nat) : (⟨g, o, none⟩ : Addr).add j = ⟨g, o + j, none⟩ := by unfold Addr.add; split <;> simp_all
/-- A part of a row. -/
def seg (zs : List Value) (o n : Nat) : List Value := (zs.drop o).take n
theorem seg_len {zs : List Value} {o n : Nat} (h : o + n ≤ zs.length) : (seg zs o n).length = n := by simp [seg]; omega
theorem seg_get {zs : List Value} {o n j : Nat} (hj : j < n) : (seg zs o n)[j]? = zs[o + j]? := by
  simp [seg, List.getElem?_drop, hj]
theorem lay_same {L cs : List Value} {o : Nat} (h : o + cs.length ≤ L.length) : seg (lay L o cs) o cs.length = cs := by
  apply List.ext_getElem?
  intro j
  rcases Nat.lt_or_ge j cs.length with hj | hj
  · rw [seg_get hj]
    unfold lay
    have h1 : (L.take o).length = o := by simp; omega
    rw [List.append_assoc, List.getElem?_append_right (by omega), h1, show o + j - o = j by omega, List.getElem?_append_left hj]
  · rw [List.getElem?_eq_none hj, List.getElem?_eq_none (by rw [seg_len]; exact hj; rw [lay_len h]; exact h)]
theorem lay_get {L cs : List Value} {o j : Nat} (h : o + cs.length ≤ L.length) (hj : j < o ∨ o + cs.length ≤ j) : (lay L o cs)[j]? = L[j]? := by
  unfold lay
  have h1 : (L.take o).length = o := by simp; omega
  rcases hj with hj | hj
  · rw [List.append_assoc, List.getElem?_append_left (by omega), List.getElem?_take, if_pos hj]
  · rw [List.getElem?_append_right (by simp; omega), List.getElem?_drop]
    congr 1
    simp; omega
theorem lay_other {L cs : List Value} {o p n : Nat} (h : o + cs.length ≤ L.length) (hj : p + n ≤ o ∨ o + cs.length ≤ p) : seg (lay L o cs) p n = seg L p n := by
  apply List.ext_getElem?
  intro j
  rcases Nat.lt_or_ge j n with hjn | hjn
  · rw [seg_get hjn, seg_get hjn, lay_get h (by omega)]
  · simp [seg, List.getElem?_take, Nat.not_lt.2 hjn]
section
variable {P : Program}
theorem run_loadVar_part {w : World} {g o : Nat} {t ty : TypeId} {zs cs : List Value} {d : TypeDesc} (hB : Blk w g t zs) (hcs : ∀ j v, cs[j]? = some v → zs[o + j]? = some v)
    (hu : P.underlying ty = some d) (hd : (match d with | .struct _ | .array _ _ => true | _ => false) = true) (hi : (P.info? ty).map (·.size) = some cs.length) :
    (loadVar ty ⟨g, o, none⟩).run P w = .ok (.agg cs.toArray) w := by
  have hl : (loadCells ⟨g, o, none⟩ cs.length).run P w = .ok cs.toArray w :=
    run_loadCells_list (P := P) w ⟨g, o, none⟩ cs (fun j v hv => by
      rw [add_off, hB.cell]
      exact hcs j v hv)
  cases hq : P.info? ty with
  | none => simp [hq] at hi
  | some i =>
    have hs : i.size = cs.length := by simpa [hq] using hi
    have hagg : (isAgg ty).run P w = .ok true w := by
      unfold isAgg
      rw [Sem.run_bind, run_underlying hu w]
      cases d <;> simp_all
    simp [loadVar, Sem.run_bind, hagg, sizeOf, typeInfo, hq, hs, hl]
theorem wp_load_part {o : Oper} {a : Act} {w : World} {K : Act → World → Prop} {Q : Exit → Act → World → Prop} (ty : TypeId) (x : Operand) (ho : o.op = .load ty x)
    (g off : Nat) (hx : a.eval x = .pointer (some ⟨g, off, none⟩)) (t : TypeId) (zs cs : List Value) (d : TypeDesc) (hB : Blk w g t zs) (hcs : ∀ j v, cs[j]? = some v → zs[off + j]? = some v)
    (hu : P.underlying ty = some d) (hd : (match d with | .struct _ | .array _ _ => true | _ => false) = true) (hi : (P.info? ty).map (·.size) = some cs.length)
    (h : K (a.put o.dst (.agg cs.toArray)) w) : o.wp P a w K Q := by
  unfold Oper.wp execOp
  simp only [ho, hx, Instr.loadAt, Instr.sureAddr, Sem.run_bind, Sem.run_pure, Result.andThen_ok, run_loadVar_part hB hcs hu hd hi]
  exact h
theorem run_load_part {w : World} {ρ : Operand → Value} {o : Oper} {ty : TypeId} {x : Operand} (ho : o.op = .load ty x) (g off : Nat) (hx : ρ x = .pointer (some ⟨g, off, none⟩)) (t : TypeId) (zs cs : List Value) (d : TypeDesc) (hB : Blk w g t zs) (hcs : ∀ j v, cs[j]? = some v → zs[off + j]? = some v)
    (hu : P.underlying ty = some d) (hd : (match d with | .struct _ | .array _ _ => true | _ => false) = true) (hi : (P.info? ty).map (·.size) = some cs.length) :
    (execOp ρ o).run P w = .ok (.value (.agg cs.toArray)) w := by
  unfold execOp
  simp only [ho, hx, Instr.loadAt, Instr.sureAddr, Sem.run_bind, Sem.run_pure, Result.andThen_ok, run_loadVar_part hB hcs hu hd hi]
theorem run_storeVar_part {w : World} {g off : Nat} {t ty : TypeId} {zs cs : List Value} (hB : Blk w g t zs) (hfit : off + cs.length ≤ zs.length) (hi : (P.info? ty).map (·.size) = some cs.length) (h1 : ∀ v ∈ cs, v.oneCell' = true) :
    (storeVar ty ⟨g, off, none⟩ (.agg cs.toArray)).run P w = .ok () (w.setRow g (lay zs off cs).toArray) := by
  have := run_storeCells_at P g off t cs 0 zs.toArray w hB (by simpa using hfit) h1
  simp only [Nat.add_zero] at this
  cases hq : P.info? ty with
  | none => simp [hq] at hi
  | some i =>
    have hs : i.size = cs.length := by simpa [hq] using hi
    simp [storeVar, sizeOf, typeInfo, hq, Value.cells, hs, this, lay]
theorem wp_store_part {o : Oper} {a : Act} {w : World} {K : Act → World → Prop} {Q : Exit → Act → World → Prop} (ty : TypeId) (x y : Operand) (ho : o.op = .store ty x y)
    (g off : Nat) (hx : a.eval x = .pointer (some ⟨g, off, none⟩)) (t : TypeId) (zs cs : List Value) (hy : a.eval y = .agg cs.toArray) (hB : Blk w g t zs) (hfit : off + cs.length ≤ zs.length)
    (hi : (P.info? ty).map (·.size) = some cs.length) (h1 : ∀ v ∈ cs, v.oneCell' = true)
    (h : ∀ W, Blk W g t (lay zs off cs) → w.grownBy W (some g) → K (a.put o.dst undef) W) : o.wp P a w K Q := by
  obtain ⟨q1, q2⟩ := blk_setRow (new := lay zs off cs) hB
  unfold Oper.wp execOp
  simp only [ho, hx, hy, Instr.storeAt, Instr.sureAddr, Sem.run_bind, Sem.run_pure, Result.andThen_ok, run_storeVar_part hB hfit hi h1]
  exact h _ q1 q2
section
variable {ops : Array Oper} {rest : List Oper} {a : Act} {w : World} {Q : Exit → Act → World → Prop} {g off d i j : Nat} {t ty ty' : TypeId} {pos : String} {af : Array Edge} {zs cs : List Value} {D : TypeDesc}
/-- A part is loaded. -/
theorem wpList_load_part (hu : P.underlying ty = some D) (hd : (match D with | .struct _ | .array _ _ => true | _ => false) = true) (hi : (P.info? ty).map (·.size) = some cs.length)
    (hx : a.eval (.tmp i) = .pointer (some ⟨g, off, none⟩)) (hB : Blk w g t zs) (hcs : ∀ j v, cs[j]? = some v → zs[off + j]? = some v)
    (h : wpList P ops Q rest (a.put (some d) (.agg cs.toArray)) w) :
    wpList P ops Q ({ dst := some d, op := .load ty (.tmp i), type := ty', pos := pos, after := af, guard := none } :: rest) a w :=
  wpList_plain rfl fun _ hK => wp_load_part ty (.tmp i) rfl g off hx t zs cs D hB hcs hu hd hi (hK _ _ h)
theorem wpList_load_part_g {gd : Nat × Bool} (hu : P.underlying ty = some D) (hd : (match D with | .struct _ | .array _ _ => true | _ => false) = true) (hi : (P.info? ty).map (·.size) = some cs.length)
    (hw : Region.wanted { dst := some d, op := .load ty (.tmp i), type := ty', pos := pos, after := af, guard := some gd } (yielded ops a.tmps) = true)
    (hx : a.eval (.tmp i) = .pointer (some ⟨g, off, none⟩)) (hB : Blk w g t zs) (hcs : ∀ j v, cs[j]? = some v → zs[off + j]? = some v)
    (h : wpList P ops Q rest (a.put (some d) (.agg cs.toArray)) w) :
    wpList P ops Q ({ dst := some d, op := .load ty (.tmp i), type := ty', pos := pos, after := af, guard := some gd } :: rest) a w := by
  refine wpList_step fun K hK => ?_
  simp only [hw, if_true]
  exact wp_load_part ty (.tmp i) rfl g off hx t zs cs D hB hcs hu hd hi (hK _ _ h)
/-- A part is stored. -/
theorem wpList_store_part (hi : (P.info? ty).map (·.size) = some cs.length)
    (hx : a.eval (.tmp i) = .pointer (some ⟨g, off, none⟩)) (hy : a.eval (.tmp j) = .agg cs.toArray) (hB : Blk w g t zs) (hfit : off + cs.length ≤ zs.length) (h1 : ∀ v ∈ cs, v.oneCell' = true)
    (h : ∀ W, Blk W g t (lay zs off cs) → w.grownBy W (some g) → wpList P ops Q rest (a.put none undef) W) :
    wpList P ops Q ({ dst := none, op := .store ty (.tmp i) (.tmp j), type := ty', pos := pos, after := af, guard := none } :: rest) a w :=
  wpList_plain rfl fun _ hK => wp_store_part ty (.tmp i) (.tmp j) rfl g off hx t zs cs hy hB hfit hi h1 (fun W q1 q2 => hK _ _ (h W q1 q2))
/-- A constant is stored into a part. -/
theorem wpList_store_part_c (hi : (P.info? ty).map (·.size) = some cs.length) {v : Value}
    (hx : a.eval (.tmp i) = .pointer (some ⟨g, off, none⟩)) (hy : a.eval (.const v) = .agg cs.toArray) (hB : Blk w g t zs) (hfit : off + cs.length ≤ zs.length) (h1 : ∀ v ∈ cs, v.oneCell' = true)
    (h : ∀ W, Blk W g t (lay zs off cs) → w.grownBy W (some g) → wpList P ops Q rest (a.put none undef) W) :
    wpList P ops Q ({ dst := none, op := .store ty (.tmp i) (.const v), type := ty', pos := pos, after := af, guard := none } :: rest) a w :=
  wpList_plain rfl fun _ hK => wp_store_part ty (.tmp i) (.const v) rfl g off hx t zs cs hy hB hfit hi h1 (fun W q1 q2 => hK _ _ (h W q1 q2))
end
end
end Go.Grow
namespace Go.Zn
theorem take_mem {l : List Int} {i : Nat} {x y : Int} (h : l[i]? = some x) : y ∈ l.take (i + 1) ↔ y ∈ l.take i ∨ y = x := by
  rw [List.take_add_one, h, List.mem_append]
  simp
theorem take_not {l : List Int} (hs : List.Pairwise (· < ·) l) {i : Nat} {x : Int} (h : l[i]? = some x) : x ∉ l.take i := by
  intro hm
  obtain ⟨j, hj⟩ := List.getElem?_of_mem hm
  rw [List.getElem?_take] at hj
  split at hj
  · rename_i hji
    have hj2 : j < l.length := by rw [List.getElem?_eq_some_iff] at hj; exact hj.1
    have hi2 : i < l.length := by rw [List.getElem?_eq_some_iff] at h; exact h.1
    have := List.pairwise_iff_getElem.1 hs j i hj2 hi2 hji
    rw [List.getElem?_eq_getElem hj2] at hj
    rw [List.getElem?_eq_getElem hi2] at h
    have e1 := Option.some.inj hj
    have e2 := Option.some.inj h
    omega
  · cases hj
end Go.Zn
namespace Go.Proofs.Ytdddkfpcbfgocaa
open Go.RowKit Go.Over Go.Zn Go.Can Go.Seg Go.Grow
def nils : List Value := [.slice none 0 0, .slice none 0 0, .slice none 0 0, .slice none 0 0, .slice none 0 0]
theorem infoF : (Try.prog.info? 37).map (·.size) = some nils.length := by kernel_rfl
theorem ZV.empty {w : World} {cs : List Value} {z : Z} (h : ZV w cs z) : lay cs 5 nils = newC z := by
  obtain ⟨s0, s1, s2, s3, s4, rfl⟩ := h.open
  rfl
set_option maxRecDepth 100000 in set_option maxHeartbeats 3200000 in
theorem build (v : Value) (z : Z) (vl : Value) (l : List Int) (w : World) (H : Rz w v z) (hz : Rng z) (hl : Sl w vl l) (hs : List.Pairwise (· < ·) l) (hr : ∀ x ∈ l, inZ z x) : Calls Try.prog 8 #[v, vl] w (AnsV w z (fun x => x ∈ l)) := by
  have HZ := Lib.hid hz; have HL := Lib.hid hl; have HS := Lib.hid hs; have HR := Lib.hid hr
  have hlen : l.length ≤ 256 := asc_len (a := 0) hs fun x hx => by have h := hr x hx; have := hz.st0; have := hz.ct1; unfold inZ at h; omega
  obtain ⟨a, c, hvl, hlc, hcm, hca, _⟩ := hl
  obtain ⟨n, hn⟩ : ∃ n, l.length = n := ⟨_, rfl⟩
  rw [hn] at hvl hlc hlen
  have HN := Lib.hid hn
  subst hvl
  clear hz hs hr hn hcm hca
  obtain ⟨cs, rfl, hV⟩ := H
  have X0 := ZZ.new hV
  clear hV
  go_enter Try.func8, Try.ntmps8
  go_upto_region 1 with fail
  obtain ⟨w1, hw1⟩ : ∃ W, W = (w.alloc (.cells cs.toArray 39)).alloc (.cells #[.int .i64 0, .int .i64 0, .int .i64 0, .int .i64 0, .int .i64 0, .slice none 0 0, .slice none 0 0, .slice none 0 0, .slice none 0 0, .slice none 0 0] 39) := ⟨_, rfl⟩
  rw [← hw1] at X0 ⊢
  have hgg : w.heap.size + 1 ≠ w.heap.size := by omega
  obtain ⟨gr, hgr⟩ : ∃ g, w.heap.size + 1 = g := ⟨_, rfl⟩
  rw [hgr] at hgg
  obtain ⟨g, hg0⟩ : ∃ g, w.heap.size = g := ⟨_, rfl⟩
  have hgg : gr ≠ g := by rw [← hg0]; exact hgg
  have X1 : ZZ w g gr cs z w1 := by rw [← hgr, ← hg0]; exact X0
  rw [hgr, hg0]
  clear hw1 X0 hg0 hgr
  go_wp2_with ((with_reducible refine ld ?_ X1.x.x X1.x.v.len ?_); (focus rfl))
  refine (ranges _ z w1 X1.x.rz HZ.out).mono ?_
  rintro e w2 ⟨rfl, b2⟩
  have X2 := X1.below b2
  have hx2 := X2.x.x
  have hl2 := X2.x.v.len
  have he2 := Lib.hid X2.x.v.empty
  have hn5 : ∀ v ∈ nils, v.oneCell' = true := by decide
  clear X1 b2
  go_upto_region 4 with ((with_reducible refine wpList_store_part (off := 5) (cs := nils) infoF ?_ ?_ hx2 ?_ hn5 ?_); (focus rfl); (focus rfl); (focus (rw [hl2]; decide)); intro w3 hB3 hg3)
  rw [he2.out] at hB3
  have V3 : ZP w g (newC z) { z with fr := fun _ => [] } w3 := ⟨X2.x.b.grown hg3 X2.x.b.size (fun k hk => by cases hk; exact X2.x.l), X2.x.l, hB3, ownZ_new _ _ _⟩
  have Z3 := X2.z.grown hg3 (by simpa using Ne.symm hgg)
  have hlr := X2.l
  clear hB3 hg3 he2 hl2 hx2 X2
  go_wp2
  go_loopg [18] n (fun gg v18 wr => ∃ i : Nat, i + gg = n ∧ v18 = .int .i64 i ∧ ZP w g (newC z) { z with fr := fun _ => [] } wr ∧ Blk wr gr 39 zP)
  case atStart => exact ⟨0, by omega, rfl, V3, Z3⟩
  case round =>
    clear V3 Z3
    obtain ⟨i, hi, rfl, V4, Z4⟩ := hrel
    cases gk with
    | zero =>
      have hin : ¬ i < n := by omega
      clear hi
      go_wp2
      go_loopg [43] n (fun gg v43 wr => ∃ (i : Nat) (fr : Nat → List Int) (cs : List Value), i + gg = n ∧ v43 = .int .i64 i ∧ ZP w g cs { z with fr := fr } wr ∧ Blk wr gr 39 zP ∧ Vd z.st z.ct fr ∧ ∀ x, Cov (F fr) x ↔ x ∈ l.take i)
      case atStart => exact ⟨0, _, _, by omega, rfl, V4, Z4, vd_empty, fun x => ⟨fun h => absurd h cov_empty, fun h => by simp at h⟩⟩
      case round =>
        clear V4 Z4 hin
        obtain ⟨i, fr, cs, hi, rfl, V5, Z5, hv, hc⟩ := hrel
        have HV := Lib.hid hv; have HC := Lib.hid hc
        clear hv hc
        cases gk with
        | zero =>
          have hin : ¬ i < n := by omega
          have HE := Lib.hid (show ∀ x, Cov (F fr) x ↔ x ∈ l from fun x => by
            rw [HC.out, List.take_of_length_le (by rw [HN.out]; omega)])
          have h1c := V5.v.one
          clear hi
          go_wp2_with first | ((with_reducible refine ld ?_ V5.x V5.v.len ?_); (focus rfl)) | ((with_reducible refine stZ (cs := cs) ?_ ?_ Z5 zP_len V5.v.len h1c ?_); (focus rfl); (focus rfl); intro w6 hB6 hg6)
          refine bodyPost_ret (results_p1 rfl _ _ gr cs _ rfl hB6 V5.v.len rfl) rfl ?_
          exact ⟨cs, fr, rfl, V5.o.grown Z5 (by decide) hg6, HV.out, HE.out, V5.b.grown hg6 V5.b.size (fun k hk => by cases hk; exact hlr)⟩
        | succ gg =>
          have hin : i < n := by omega
          have HI := Lib.hid hi
          obtain ⟨x, hx⟩ := get_some HN.out hin
          have hxz := HR.out x (List.mem_of_getElem? hx)
          obtain ⟨a', c', hva, _, _, _, hI⟩ := HL.out.below V5.b
          rw [HN.out] at hva
          obtain ⟨b, off, hab, cx⟩ := hI.at hx
          cases hva
          subst hab
          have hp := put w g cs { z with fr := fr } x 0 wr _ V5 (rng_fr HZ.out fr) (Put.start HV.out (by
            unfold inZ at hxz
            exact ⟨by omega, hxz.1, by rw [pw_zero]; show _ ≤ z.st + z.ct; omega, by rw [pw_zero]; omega⟩) (fun y hy hcv => by
            have h1 := (HC.out y).1 hcv
            unfold In at hy
            rw [pw_zero] at hy
            rw [show y = x by omega] at h1
            exact take_not HS.out hx h1))
          have HP := Lib.hid hp; have HX := Lib.hid hx
          clear hi hp hx hxz hI
          go_wp2_with fail
          refine HP.out.mono ?_
          rintro e w6 ⟨rfl, ⟨cs', fr', V6, hv6, hc6⟩, K6⟩
          have Z6 := K6 gr 39 zP hgg (by decide) Z5
          have HV6 := Lib.hid hv6
          have HC6 := Lib.hid (show ∀ y, Cov (F fr') y ↔ y ∈ l.take (i + 1) from fun y => by
            rw [hc6, take_mem HX.out, ← HC.out]
            simp only
            unfold In
            rw [pw_zero]
            constructor
            · rintro (h | h)
              · exact .inl h
              · exact .inr (by omega)
            · rintro (h | h)
              · exact .inl h
              · exact .inr (by omega))
          clear HP V5 Z5 K6 hv6 hc6 cx
          go_wp2
          go_roundg gg
          case rel => exact ⟨i + 1, fr', cs', by have := HI.out; omega, by go_num, V6, Z6, HV6.out, HC6.out⟩
          case measure => omega
    | succ gg =>
      have hin : i < n := by omega
      have HI := Lib.hid hi
      obtain ⟨x, hx⟩ := get_some HN.out hin
      have hxz := HR.out x (List.mem_of_getElem? hx)
      have HIN := Lib.hid (show insB z.st z.ct x 0 = true from insB_of (by
        unfold inZ at hxz
        exact ⟨by omega, hxz.1, by rw [pw_zero]; omega, by rw [pw_zero]; omega⟩))
      obtain ⟨a', c', hva, _, _, _, hI⟩ := HL.out.below V4.b
      rw [HN.out] at hva
      obtain ⟨b, off, hab, cx⟩ := hI.at hx
      cases hva
      subst hab
      have HX := Lib.hid hx
      clear hi hx hxz hI
      go_wp2_with ((with_reducible refine ld ?_ V4.x V4.v.len ?_); (focus rfl))
      refine (inside_0 _ { z with fr := fun _ => [] } x wr V4.rz (rng_fr HZ.out _)).mono ?_
      simp only
      rw [HIN.out]
      rintro e w6 ⟨rfl, b6⟩
      have V6 := V4.below b6
      have Z6 := Z4.later b6
      have cx6 := cell_later b6 cx
      clear V4 Z4 b6 cx
      by_cases hi0 : i = 0
      · subst hi0
        go_wp2
        go_roundg gg
        case rel => exact ⟨0 + 1, by have := HI.out; omega, by go_num, V6, Z6⟩
        case measure => omega
      · obtain ⟨i', rfl⟩ : ∃ i', i = i' + 1 := ⟨i - 1, by omega⟩
        obtain ⟨y, hy⟩ := get_some HN.out (show i' < n by omega)
        obtain ⟨a'', c'', hva, _, _, _, hI⟩ := HL.out.below V6.b
        rw [HN.out] at hva
        obtain ⟨_, _, hV, cy⟩ := hI.at hy
        cases hva
        cases hV
        have hyx : y < x := pair_get HS.out hy HX.out (by omega)
        have ej : ((i' + 1 : Nat) : Int) - 1 = (i' : Int) := by omega
        clear hy hI
        go_wp2
        go_roundg gg
        case rel => exact ⟨i' + 1 + 1, by have := HI.out; omega, by go_num, V6, Z6⟩
        case measure => omega
end Go.Proofs.Ytdddkfpcbfgocaa
namespace Go.Grow
open Go.RowKit Go.Over Go.ChangeMaps Go.MapKept
open Go.WideElems (Fit rd_mk rd_key rd_val)
open Go.Maps (Keyed fit_look int_keyed keyOf_int_mk)
/-- Block m is a map whose keys are the numbers of l, and whose elements are true. -/
def MapS (P : Program) (k e : TypeId) (w : World) (m : Nat) (l : List Int) : Prop :=
  ∃ es clock, w.heap[m]? = some (.map es clock) ∧ Fit P k (plainElem (H := Unit) P e) es clock ∧ es.size = l.length ∧ (∀ x, (∃ y ∈ es.toList, y.key = .int .i64 x) ↔ x ∈ l) ∧ ∀ y ∈ es.toList, y.val = .bool true
section
variable {P : Program} {k e t ty : TypeId} {w w' : World} {m : Nat} {l : List Int}
theorem MapS.made (w : World) (P : Program) (k e : TypeId) : MapS P k e (w.alloc (.map #[] 0)) w.heap.size [] :=
  ⟨#[], 0, (MapKept.heap_alloc w _).1, ⟨by simp, stamped_empty 0, by simp⟩, rfl, by simp, by simp⟩
theorem MapS.lt (h : MapS P k e w m l) : m < w.heap.size := by
  obtain ⟨es, clock, hb, _⟩ := h
  exact (Array.getElem?_eq_some_iff.1 hb).1
theorem MapS.later (h : MapS P k e w m l) (hb : Below w.heap.size w w') : MapS P k e w' m l := by
  have hlt := h.lt
  obtain ⟨es, clock, h1, h2⟩ := h
  exact ⟨es, clock, (hb.block m hlt).trans h1, h2⟩
theorem MapS.kept {row : Option Nat} (h : MapS P k e w m l) (hg : w.grownBy w' row) (hne : some m ≠ row) : MapS P k e w' m l := by
  have hlt := h.lt
  obtain ⟨es, clock, h1, h2⟩ := h
  exact ⟨es, clock, (hg.block m hlt hne).trans h1, h2⟩
theorem MapS.look (h : MapS P k e w m l) (ht : P.underlying t = some (.map k e)) (hk : P.underlying k = some (.int .i64)) (hz : (zeroValue e).run P w = .ok (.bool false) w) {x : Int} (hx : (Lit.int .i64 x).wf = true) :
    (Instr.lookup t (.map (some m)) (.int .i64 x) false).run P w = .ok (.bool (l.contains x)) w := by
  obtain ⟨es, clock, h1, h2, h3, h4, h5⟩ := h
  rcases fit_look false (int_keyed hk) ht hz h1 h2 (keyOf_int_mk hk hx) with ⟨hr, hn, _⟩ | ⟨e0, y, hm, hkey, hr, _⟩
  · have : ¬ x ∈ l := fun hm => by obtain ⟨y, hy, hk⟩ := (h4 x).2 hm; exact hn y hy hk
    rw [hr, show l.contains x = false by simpa using this]
    rfl
  · have : x ∈ l := (h4 x).1 ⟨e0, hm, hkey⟩
    rw [hr, show l.contains x = true by simpa using this]
    simp [h5 e0 hm]
theorem MapS.add (h : MapS P k e w m l) (ht : P.underlying t = some (.map k e)) (hk : P.underlying k = some (.int .i64)) (he : P.underlying e = some .bool) {x : Int} (hx : (Lit.int .i64 x).wf = true) (hn : x ∉ l) (hl : l.length < maxLen) :
    ∃ w', (Instr.mapUpdate t (.map (some m)) (.int .i64 x) (.bool true)).run P w = .ok () w' ∧ MapS P k e w' m (l ++ [x]) ∧ w.grownBy w' (some m) := by
  obtain ⟨es, clock, h1, h2, h3, h4, h5⟩ := h
  have K := int_keyed (P := P) hk
  have hkey := keyOf_int_mk (P := P) hk hx
  rcases K.find w hkey es.toList (fun y hy => by obtain ⟨z, hz⟩ := h2.reads y hy; exact ⟨_, rd_key hz⟩) with ⟨q1, q2⟩ | ⟨j, e0, q1, q2, q3⟩
  · refine ⟨setBlock w m (.map (es.push ⟨.int .i64 x, .bool true, clock⟩) (clock + 1)), ?_, ⟨es.push ⟨.int .i64 x, .bool true, clock⟩, clock + 1, heap_setBlock_same h1 _, ⟨by simp; omega, stamped_push h2.stamped q2, ?_⟩, by simp [h3], fun y => ?_, ?_⟩, ⟨rfl, rfl, rfl, by simp [setBlock], fun i _ hi => heap_setBlock_other h1 _ (fun e => hi (by rw [e]))⟩⟩
    · simp [Instr.mapUpdate, run_underlying ht, MapKept.run_getObj_map h1, K.check w false hkey, q1, MapKept.run_setObj_map _ h1, Result.andThen, setBlock]
    · intro y hy
      simp only [Array.toList_push, List.mem_append, List.mem_singleton] at hy
      rcases hy with hy | rfl
      · exact h2.reads y hy
      · exact ⟨_, rd_mk hkey (plainElem_bool he true)⟩
    · simp only [Array.toList_push, List.mem_append, List.mem_singleton]
      constructor
      · rintro ⟨z, hz | rfl, hzk⟩
        · exact .inl ((h4 y).1 ⟨z, hz, hzk⟩)
        · simp at hzk; exact .inr hzk.symm
      · rintro (hy | rfl)
        · obtain ⟨z, hz, hzk⟩ := (h4 y).2 hy
          exact ⟨z, .inl hz, hzk⟩
        · exact ⟨_, .inr rfl, rfl⟩
    · intro y hy
      simp only [Array.toList_push, List.mem_append, List.mem_singleton] at hy
      rcases hy with hy | rfl
      · exact h5 y hy
      · rfl
  · exact absurd ((h4 x).1 ⟨e0, List.mem_of_getElem? q2, q3⟩) hn
theorem MapS.len (h : MapS P k e w m l) (ht : P.underlying t = some (.map k e)) : (Builtin.len_ #[t] ty #[.map (some m)]).run P w = .ok (goInt l.length) w := by
  obtain ⟨es, clock, h1, _, h3, _⟩ := h
  rw [← h3]
  exact run_len_map w t ty m es clock (by simp [Program.mapKeyOf, Program.mapElemOf, ht]) h1
/-- The operation, for the walk. -/
theorem wpList_add {ops : Array Oper} {rest : List Oper} {dst : Option Nat} {i j : Nat} {ty : TypeId} {pos : String} {af : Array Edge} {a : Act} {Q : Exit → Act → World → Prop} {x : Int}
    (ht : P.underlying t = some (.map k e)) (hk : P.underlying k = some (.int .i64)) (he : P.underlying e = some .bool)
    (hi : a.eval (.tmp i) = .map (some m)) (hj : a.eval (.tmp j) = .int .i64 x) (h : MapS P k e w m l) (hx : (Lit.int .i64 x).wf = true) (hn : x ∉ l) (hl : l.length < maxLen)
    (hK : ∀ w', MapS P k e w' m (l ++ [x]) → w.grownBy w' (some m) → wpList P ops Q rest (a.put dst undef) w') :
    wpList P ops Q ({ dst := dst, op := .mapUpdate t (.tmp i) (.tmp j) (.const (.bool true)), type := ty, pos := pos, after := af, guard := none } :: rest) a w := by
  refine wpList_plain rfl fun K' hK' => ?_
  obtain ⟨w', hrun, r1, r2⟩ := h.add ht hk he hx hn hl
  unfold Oper.wp
  have hc : a.eval (.const (.bool true)) = .bool true := rfl
  simp only [execOp, hi, hj, hc, Sem.run_bind, hrun, Result.andThen_ok, Sem.run_pure]
  exact hK' _ _ (hK w' r1 r2)
end
end Go.Grow
namespace Go.Zn
theorem flat_take {L : List (List Int)} {i : Nat} {l : List Int} (h : L[i]? = some l) : (L.take (i + 1)).flatten = (L.take i).flatten ++ l := by
  rw [List.take_add_one, h]
  simp
theorem flat_at {L : List (List Int)} {i : Nat} {l : List Int} (h : L[i]? = some l) {j : Nat} {x : Int} (hx : l[j]? = some x) : ∃ r, L.flatten = ((L.take i).flatten ++ l.take j) ++ x :: r := by
  have hi : i < L.length := by rw [List.getElem?_eq_some_iff] at h; exact h.1
  have hj : j < l.length := by rw [List.getElem?_eq_some_iff] at hx; exact hx.1
  have e1 : L = L.take i ++ l :: L.drop (i + 1) := by
    have hd : L.drop i = l :: L.drop (i + 1) := by
      rw [List.drop_eq_getElem_cons hi]
      rw [List.getElem?_eq_getElem hi] at h
      rw [Option.some.inj h]
    rw [← hd, List.take_append_drop]
  have e2 : l = l.take j ++ x :: l.drop (j + 1) := by
    have hd : l.drop j = x :: l.drop (j + 1) := by
      rw [List.drop_eq_getElem_cons hj]
      rw [List.getElem?_eq_getElem hj] at hx
      rw [Option.some.inj hx]
    rw [← hd, List.take_append_drop]
  refine ⟨l.drop (j + 1) ++ (L.drop (i + 1)).flatten, ?_⟩
  conv => lhs; rw [e1]
  rw [List.flatten_append, List.flatten_cons]
  conv => lhs; rw [e2]
  simp
/-- The lists of a valid cache. -/
structure VC (L : List (List Int)) : Prop where
  l1 : 1 ≤ L.length
  l6 : L.length ≤ 6
  nd : L.flatten.Nodup
  rg : ∀ x ∈ L.flatten, 0 ≤ x ∧ x < 256
theorem VC.flat_len {L : List (List Int)} (h : VC L) : L.flatten.length ≤ 256 := by
  have := nodup_len h.nd (cov_nodup (n := 256) (f := 0)) fun x hx => mem_cov.2 (by have := h.rg x hx; omega)
  rw [cov_len] at this
  exact this
theorem VC.new {L : List (List Int)} (h : VC L) {i j : Nat} {l : List Int} {x : Int} (hl : L[i]? = some l) (hx : l[j]? = some x) : x ∉ (L.take i).flatten ++ l.take j ∧ ((L.take i).flatten ++ l.take j).length < 256 ∧ 0 ≤ x ∧ x < 256 := by
  obtain ⟨r, hr⟩ := flat_at hl hx
  have h1 := h.nd
  have h2 := h.flat_len
  have h3 := h.rg x (by rw [hr]; simp)
  rw [hr] at h1 h2
  refine ⟨fun hm => ?_, by rw [List.length_append] at h2; simp only [List.length_cons] at h2; omega, h3⟩
  rw [List.nodup_append] at h1
  exact h1.2.2 x hm x (by simp) rfl
theorem VC.mem {L : List (List Int)} (_ : VC L) {i : Nat} {l : List Int} (hl : L[i]? = some l) : ∀ x ∈ l, x ∈ L.flatten := fun _ hx => List.mem_flatten.2 ⟨l, List.mem_of_getElem? hl, hx⟩
theorem VC.len {L : List (List Int)} (h : VC L) {i : Nat} {l : List Int} (hl : L[i]? = some l) : l.length ≤ 256 := by
  have h2 := h.flat_len
  have h1 : l.length ≤ L.flatten.length := (List.sublist_flatten_of_mem (List.mem_of_getElem? hl)).length_le
  omega
end Go.Zn
namespace Go.Proofs.Ytdddkfpcbfgocaa
open Go.RowKit Go.Over Go.Zn Go.Can Go.Seg Go.Grow
/-- Rows of numbers behind a block of slices. -/
structure LV (w : World) (b : Nat) (bs : List Value) (L : List (List Int)) : Prop where
  x : Blk w b 28 bs
  n : L.length ≤ bs.length
  row : ∀ (i : Nat) (l : List Int), L[i]? = some l → ∃ v, bs[i]? = some v ∧ Sl w v l
theorem LV.below {w w' : World} {b : Nat} {bs : List Value} {L : List (List Int)} (h : LV w b bs L) (hb : Below w.heap.size w w') : LV w' b bs L :=
  ⟨h.x.later hb, h.n, fun i l hl => by obtain ⟨v, h1, h2⟩ := h.row i l hl; exact ⟨v, h1, h2.below hb⟩⟩
theorem LV.at {w : World} {b : Nat} {bs : List Value} {L : List (List Int)} (h : LV w b bs L) {i : Nat} {l : List Int} (hl : L[i]? = some l) :
    ∃ a n c, w.cell? ⟨b, i, none⟩ = some (.slice a n c) ∧ l.length = n ∧ n ≤ c ∧ c ≤ maxLen ∧ (a = none → c = 0) ∧ Ints w a l := by
  obtain ⟨v, h1, a, c, rfl, h2⟩ := h.row i l hl
  exact ⟨a, _, c, by rw [h.x.cell]; exact h1, rfl, h2⟩
theorem LV.grown {w w' : World} {b : Nat} {bs : List Value} {L : List (List Int)} {g t : Nat} {cs : List Value} (h : LV w b bs L) (hB : Blk w g t cs) (ht : 3 ≠ t) (hne : g ≠ b) (hg : w.grownBy w' (some g)) : LV w' b bs L :=
  ⟨h.x.grown hg (by simpa using hne), h.n, fun i l hl => by obtain ⟨v, h1, h2⟩ := h.row i l hl; exact ⟨v, h1, h2.grown hB ht hg⟩⟩
/-- The value of a cache. -/
def Lc (w : World) (v : Value) (L : List (List Int)) : Prop := ∃ b c bs, v = .slice (some ⟨b, 0, none⟩) L.length c ∧ L.length ≤ c ∧ c ≤ maxLen ∧ LV w b bs L
def Rc (w : World) (v : Value) (L : List (List Int)) : Prop := ∃ v0, v = .agg #[v0] ∧ Lc w v0 L
theorem Lc.below {w w' : World} {v : Value} {L : List (List Int)} (h : Lc w v L) (hb : Below w.heap.size w w') : Lc w' v L := by
  obtain ⟨b, c, bs, h1, h2, h3, h4⟩ := h
  exact ⟨b, c, bs, h1, h2, h3, h4.below hb⟩
theorem Rc.below {w w' : World} {v : Value} {L : List (List Int)} (h : Rc w v L) (hb : Below w.heap.size w w') : Rc w' v L := by
  obtain ⟨v0, h1, h2⟩ := h
  exact ⟨v0, h1, h2.below hb⟩
/-- A variable that holds a cache, in a call that makes new memory alone. -/
structure CX (w : World) (g : Nat) (r c : Nat) (bs : List Value) (L : List (List Int)) (W : World) : Prop where
  b : Below w.heap.size w W
  l : w.heap.size ≤ g
  x : Blk W g 77 [.slice (some ⟨r, 0, none⟩) L.length c]
  v : LV W r bs L
theorem CX.below {w W W' : World} {g b c : Nat} {bs : List Value} {L : List (List Int)} (h : CX w g b c bs L W) (hb : Below W.heap.size W W') : CX w g b c bs L W' := ⟨below_then h.b hb, h.l, h.x.later hb, h.v.below hb⟩
theorem CX.new {w : World} {b c : Nat} {bs : List Value} {L : List (List Int)} (h : LV w b bs L) : CX w w.heap.size b c bs L (w.alloc (.cells #[.slice (some ⟨b, 0, none⟩) L.length c] 77)) :=
  ⟨below_box _ _, Nat.le_refl _, Blk.new _ _ _ _ rfl, h.below (below_box _ _)⟩
theorem CX.c0 {w W : World} {g b c : Nat} {bs : List Value} {L : List (List Int)} (h : CX w g b c bs L W) : W.cell? ⟨g, 0, none⟩ = some (.slice (some ⟨b, 0, none⟩) L.length c) := by rw [h.x.cell]; rfl
/-- The set of the program's numbers. -/
abbrev Ms (w : World) (m : Nat) (l : List Int) : Prop := MapS Try.prog 3 4 w m l
theorem wf_small {x : Int} (h0 : 0 ≤ x) (h1 : x < 256) : (Lit.int .i64 x).wf = true := by
  have key : ∀ n : Fin 256, (Lit.int .i64 ((n.val : Nat) : Int)).wf = true := by decide +kernel
  have h := key ⟨x.toNat, by omega⟩
  rw [show ((x.toNat : Nat) : Int) = x by omega] at h
  exact h
theorem zero_bool (w : World) : (zeroValue 4).run Try.prog w = .ok (.bool false) w := by
  have h : (Try.prog.info? 4).map (fun i => i.zero) = some (some (.bool false)) := by kernel_rfl
  cases hi : Try.prog.info? 4 with
  | none => rw [hi] at h; cases h
  | some i =>
    rw [hi] at h
    simp at h
    simp [zeroValue, typeInfo, hi, h, go_sem]
theorem Ms.run {w : World} {m : Nat} {l : List Int} (h : Ms w m l) {x : Int} (h0 : 0 ≤ x) (h1 : x < 256) : (Instr.lookup 94 (.map (some m)) (.int .i64 x) false).run Try.prog w = .ok (.bool (l.contains x)) w :=
  MapS.look h Try.underlying94 Try.underlying3 (zero_bool w) (wf_small h0 h1)
theorem Ms.num {w : World} {m : Nat} {l : List Int} (h : Ms w m l) (ty : TypeId) : (Builtin.len_ #[94] ty #[.map (some m)]).run Try.prog w = .ok (goInt l.length) w := MapS.len h Try.underlying94
/-- A block of cells is none that is a map. -/
theorem Ms.ne {w : World} {m g t : Nat} {l : List Int} {cs : List Value} (h : Ms w m l) (hB : Blk w g t cs) : m ≠ g := by
  intro e
  subst e
  obtain ⟨es, clock, hb, _⟩ := h
  unfold Blk at hB
  rw [hb] at hB
  cases hB
theorem Ints.kept {w w' : World} {a : Option Addr} {l s : List Int} {m : Nat} (h : Ints w a l) (hg : w.grownBy w' (some m)) (hm : Ms w m s) : Ints w' a l := fun h0 => by
  obtain ⟨b, off, ha, ⟨cs, hcs⟩, hc⟩ := h h0
  have h6 := hcs.grown hg (by simpa using hm.ne hcs)
  exact ⟨b, off, ha, ⟨cs, h6⟩, fun i hi => by rw [h6.cell, ← hcs.cell]; exact hc i hi⟩
theorem LV.kept {w w' : World} {b : Nat} {bs : List Value} {L : List (List Int)} {m : Nat} {s : List Int} (h : LV w b bs L) (hg : w.grownBy w' (some m)) (hm : Ms w m s) : LV w' b bs L :=
  ⟨h.x.grown hg (by simpa using hm.ne h.x), h.n, fun i l hl => by
    obtain ⟨v, h1, a, c, h2, h3, h4, h5, h6⟩ := h.row i l hl
    exact ⟨v, h1, a, c, h2, h3, h4, h5, h6.kept hg hm⟩⟩
theorem CX.kept {w W W' : World} {g b c m : Nat} {bs : List Value} {L : List (List Int)} {s : List Int} (h : CX w g b c bs L W) (hg : W.grownBy W' (some m)) (hm : Ms W m s) (hl : w.heap.size ≤ m) : CX w g b c bs L W' :=
  ⟨h.b.grown hg h.b.size (fun k hk => by cases hk; exact hl), h.l, h.x.grown hg (by simpa using hm.ne h.x), h.v.kept hg hm⟩
set_option maxRecDepth 100000 in set_option maxHeartbeats 3200000 in
theorem isframe (x : Int) (w : World) (h0 : 0 ≤ x) (h1 : x < 256) : Calls Try.prog 66 #[.int .i64 x] w fun e w' => e = .returned (.bool true) ∧ w = w' := by
  go_enter Try.func66, Try.ntmps66
  go_wp2
  go_ret
  exact ⟨rfl, rfl⟩
set_option maxRecDepth 100000 in set_option maxHeartbeats 3200000 in
theorem frames (v : Value) (L : List (List Int)) (w : World) (H : Rc w v L) (hL : VC L) : Calls Try.prog 67 #[v] w fun e w' => ∃ m, e = .returned (.map (some m)) ∧ Ms w' m L.flatten ∧ Below w.heap.size w w' ∧ w.heap.size ≤ m := by
  have HL := Lib.hid hL
  have hn6 := hL.l6
  clear hL
  obtain ⟨_, rfl, b, c, bs, rfl, hlc, hcm, hV⟩ := H
  have X0 := CX.new (c := c) hV
  clear hV
  obtain ⟨n, hn⟩ : ∃ n, L.length = n := ⟨_, rfl⟩
  rw [hn] at hlc hn6 ⊢
  have HN := Lib.hid hn
  clear hn
  go_enter Try.func67, Try.ntmps67
  go_upto_region 1 with fail
  obtain ⟨w1, hw1⟩ : ∃ W, W = w.alloc (.cells #[.slice (some ⟨b, 0, none⟩) n c] 77) := ⟨_, rfl⟩
  have X1 : CX w w.heap.size b c bs L w1 := by rw [hw1, ← HN.out]; exact X0
  rw [← hw1]
  obtain ⟨g, hg0⟩ : ∃ g, w.heap.size = g := ⟨_, rfl⟩
  rw [hg0] at X1 ⊢
  clear hw1 X0 hg0
  have hmk := run_makeMap (P := Try.prog) 94 w1
  go_upto_region 2 with fail
  clear hmk
  have b2 := below_box w1 (.map #[] 0)
  have M2 : Ms (w1.alloc (.map #[] 0)) w1.heap.size (L.take 0).flatten := MapS.made _ _ _ _
  have X2 := X1.below b2
  have hlm : w.heap.size ≤ w1.heap.size := X1.b.size
  obtain ⟨w2, hw2⟩ : ∃ W, W = w1.alloc (.map #[] 0) := ⟨_, rfl⟩
  obtain ⟨m, hm⟩ : ∃ m, w1.heap.size = m := ⟨_, rfl⟩
  rw [← hw2] at M2 X2 ⊢
  rw [hm] at M2 hlm ⊢
  clear hw2 hm b2 X1
  have c0 := X2.c0
  rw [HN.out] at c0
  go_wp2
  go_loopg [12] n (fun gg v12 wr => ∃ i : Nat, i + gg = n ∧ v12 = .int .i64 i ∧ Below w.heap.size w wr ∧ CX w g b c bs L wr ∧ Ms wr m (L.take i).flatten)
  case atStart => exact ⟨0, by omega, rfl, X2.b, X2, M2⟩
  case round =>
    clear X2 M2 c0
    obtain ⟨i, hi, rfl, B3, X3, M3⟩ := hrel
    cases gk with
    | zero =>
      have hin : ¬ i < n := by omega
      rw [List.take_of_length_le (by rw [HN.out]; omega)] at M3
      clear hi
      go_wp2
      go_ret
      exact ⟨m, rfl, M3, B3, hlm⟩
    | succ gg =>
      have hin : i < n := by omega
      have HI := Lib.hid hi
      obtain ⟨l, hl⟩ := get_some HN.out hin
      obtain ⟨a', nl, c', cl, hnl, h2, h3, h4, hI⟩ := X3.v.at hl
      have hnl6 := HL.out.len hl
      rw [hnl] at hnl6
      have HNL := Lib.hid hnl; have HLL := Lib.hid hl
      have M30 : Ms wr m ((L.take i).flatten ++ l.take 0) := by simpa using M3
      clear hi hl hnl h2 h3 h4 M3
      go_wp2
      go_loopg [18] nl (fun g2 v18 wj => ∃ j : Nat, j + g2 = nl ∧ v18 = .int .i64 j ∧ Below w.heap.size w wj ∧ CX w g b c bs L wj ∧ Ints wj a' l ∧ Ms wj m ((L.take i).flatten ++ l.take j))
      case atStart => exact ⟨0, by omega, rfl, B3, X3, hI, M30⟩
      case round =>
        clear B3 X3 hI M30 cl
        obtain ⟨j, hj, rfl, B4, X4, hI, M4⟩ := hrel
        cases gk with
        | zero =>
          have hjn : ¬ j < nl := by omega
          have HE := Lib.hid (show (L.take (i + 1)).flatten = (L.take i).flatten ++ l.take j by
            rw [flat_take HLL.out, List.take_of_length_le (l := l) (by rw [HNL.out]; omega)])
          clear hj
          go_wp2
          go_roundg gg
          case rel => exact ⟨i + 1, by have := HI.out; omega, by go_num, B4, X4, by rw [HE.out]; exact M4⟩
          case measure => omega
        | succ g2 =>
          have hjn : j < nl := by omega
          obtain ⟨x, hx⟩ := get_some HNL.out hjn
          obtain ⟨q1, q2, q3, q4⟩ := HL.out.new HLL.out hx
          obtain ⟨b', off, rfl, cx⟩ := hI.at hx
          have hwf := wf_small q3 q4
          have hln : ((L.take i).flatten ++ l.take j).length < maxLen := by unfold maxLen; omega
          have HE := Lib.hid (show (L.take i).flatten ++ l.take (j + 1) = ((L.take i).flatten ++ l.take j) ++ [x] by
            rw [List.take_add_one, hx, List.append_assoc]; rfl)
          have HJ := Lib.hid hj
          clear hj hx q2
          go_wp2_with ((with_reducible refine wpList_add Try.underlying94 Try.underlying3 Try.underlying4 ?_ ?_ M4 hwf q1 hln ?_); (focus rfl); (focus rfl); intro w5 M5 hg5)
          have B5 : Below w.heap.size w w5 := B4.grown hg5 B4.size (fun k hk => by cases hk; exact hlm)
          have X5 : CX w g b c bs L w5 := X4.kept hg5 M4 hlm
          have hI5 := hI.kept hg5 M4
          rw [← HE.out] at M5
          clear M4 hg5 B4 X4 hI cx
          go_wp2
          go_roundg g2
          case rel => exact ⟨j + 1, by have := HJ.out; omega, by go_num, B5, X5, hI5, M5⟩
          case measure => omega
theorem sum_le {L : List (List Int)} (h : VC L) (i : Nat) : (L.take i).flatten.length ≤ 256 := by
  have h2 := h.flat_len
  have h1 : (L.take i).flatten.length ≤ L.flatten.length := by
    conv => rhs; rw [← List.take_append_drop i L]
    rw [List.flatten_append, List.length_append]
    omega
  omega
set_option maxRecDepth 100000 in set_option maxHeartbeats 3200000 in
theorem pcheck (v : Value) (L : List (List Int)) (w : World) (H : Rc w v L) (hL : VC L) : Calls Try.prog 42 #[v, .int .i64 L.length] w fun e w' => e = .returned (.int .i64 0) ∧ Below w.heap.size w w' := by
  have HL := Lib.hid hL
  have hn6 := hL.l6
  have hn1 := hL.l1
  clear hL
  obtain ⟨_, rfl, b, c, bs, rfl, hlc, hcm, hV⟩ := H
  have X0 := CX.new (c := c) hV
  clear hV
  obtain ⟨n, hn⟩ : ∃ n, L.length = n := ⟨_, rfl⟩
  rw [hn] at hlc hn6 ⊢
  have HN := Lib.hid hn
  clear hn
  go_enter Try.func42, Try.ntmps42
  go_upto_region 1 with fail
  obtain ⟨w1, hw1⟩ : ∃ W, W = w.alloc (.cells #[.slice (some ⟨b, 0, none⟩) n c] 77) := ⟨_, rfl⟩
  have X1 : CX w w.heap.size b c bs L w1 := by rw [hw1, ← HN.out]; exact X0
  rw [← hw1]
  obtain ⟨g, hg0⟩ : ∃ g, w.heap.size = g := ⟨_, rfl⟩
  rw [hg0] at X1 ⊢
  clear hw1 X0 hg0
  rw [HN.out] at hn1
  have c0 := X1.c0
  rw [HN.out] at c0
  go_wp2
  go_loopg [24, 5] n (fun gg v24 v5 wr => ∃ i : Nat, i + gg = n ∧ v24 = .int .i64 i ∧ v5 = .int .i64 (((L.take i).flatten.length : Nat) : Int) ∧ CX w g b c bs L wr)
  case atStart => exact ⟨0, by omega, rfl, rfl, X1⟩
  case round =>
    clear X1 c0
    obtain ⟨i, hi, rfl, rfl, X3⟩ := hrel
    cases gk with
    | zero =>
      have hin : ¬ i < n := by omega
      have HE := Lib.hid (show (L.take i).flatten = L.flatten by rw [List.take_of_length_le (by rw [HN.out]; omega)])
      rw [HE.out]
      have hfl := HL.out.flat_len
      obtain ⟨q, hq⟩ : ∃ q, L.flatten.length = q := ⟨_, rfl⟩
      have HQ := Lib.hid hq
      rw [hq] at hfl ⊢
      have c0 := X3.c0
      rw [HN.out] at c0
      have hfr := frames (.agg #[.slice (some ⟨b, 0, none⟩) n c]) L wr ⟨_, rfl, b, c, bs, by rw [HN.out], by rw [HN.out]; exact hlc, hcm, X3.v⟩ HL.out
      have HFR := Lib.hid hfr
      clear hi hq hfr HE
      go_wp2_with fail
      refine HFR.out.mono ?_
      rintro e w5 ⟨m, rfl, M5, b5, _⟩
      have hnum := fun ty => Ms.num M5 ty
      rw [HQ.out] at hnum
      have X5 := X3.below b5
      clear X3 c0 M5 b5
      go_wp2
      go_ret
      exact ⟨rfl, X5.b⟩
    | succ gg =>
      have hin : i < n := by omega
      have HI := Lib.hid hi
      obtain ⟨l, hl⟩ := get_some HN.out hin
      obtain ⟨a', nl, c', cl, hnl, h2, h3, h4, hI⟩ := X3.v.at hl
      have hnl6 := HL.out.len hl
      rw [hnl] at hnl6
      have hT := sum_le HL.out i
      have HE := Lib.hid (show (L.take (i + 1)).flatten.length = (L.take i).flatten.length + nl by
        rw [flat_take hl, List.length_append, hnl])
      obtain ⟨T, hTT⟩ : ∃ T, (L.take i).flatten.length = T := ⟨_, rfl⟩
      rw [hTT] at hT ⊢
      have HNL := Lib.hid hnl; have HLL := Lib.hid hl; have HT := Lib.hid hTT
      clear hi hl hnl h2 h3 h4 hTT
      go_wp2
      go_loopg [30] nl (fun g2 v30 wj => ∃ j : Nat, j + g2 = nl ∧ v30 = .int .i64 j ∧ wr = wj)
      case atStart => exact ⟨0, by omega, rfl, rfl⟩
      case round =>
        obtain ⟨j, hj, rfl, rfl⟩ := hrel
        cases gk with
        | zero =>
          have hjn : ¬ j < nl := by omega
          clear hj
          go_wp2
          go_roundg gg
          case rel => exact ⟨i + 1, by have := HI.out; omega, by go_num, by rw [HE.out, HT.out]; go_num, X3⟩
          case measure => omega
        | succ g2 =>
          have hjn : j < nl := by omega
          obtain ⟨x, hx⟩ := get_some HNL.out hjn
          obtain ⟨q1, q2, q3, q4⟩ := HL.out.new HLL.out hx
          obtain ⟨b', off, rfl, cx⟩ := hI.at hx
          have HJ := Lib.hid hj
          clear hj hx q2 q1
          go_wp2_with fail
          refine (isframe x _ q3 q4).mono ?_
          rintro e w5 ⟨rfl, rfl⟩
          go_wp2
          go_roundg g2
          case rel => exact ⟨j + 1, by have := HJ.out; omega, by go_num, rfl⟩
          case measure => omega
end Go.Proofs.Ytdddkfpcbfgocaa
namespace Go.Proofs.Ytdddkfpcbfgocaa
open Go.RowKit Go.Over Go.Zn Go.Can Go.Seg Go.Grow
section
variable {P : Program} {ops : Array Oper} {rest : List Oper} {d i j : Nat} {ty : TypeId} {pos : String} {af : Array Edge} {a : Act} {w : World} {Q : Exit → Act → World → Prop}
theorem made_rep (z : Value) (n : Nat) : (madeCells #[z] n).toList = List.replicate n z := by
  apply List.ext_getElem?
  intro k
  by_cases hk : k < n
  · simp [madeCells, hk, Nat.mod_one]
  · simp [madeCells, hk]
/-- A row of zero values is made. -/
theorem wpList_mk {t e : TypeId} (z : Value) {bytes : Nat} (ht : P.underlying t = some (.slice e)) (hinfo : (P.info? e).map (fun i => (i.zero, i.size, i.bytes)) = some (some z, 1, bytes)) (hz1 : z.cells = #[z]) {n c : Nat}
    (hl : a.eval (.tmp i) = .int .i64 (n : Int)) (hc : a.eval (.tmp j) = .int .i64 (c : Int)) (hnc : n ≤ c) (hb : bytes * c ≤ 281474976710656) (h63 : c ≤ 1000000)
    (hK : ∀ W, Blk W w.heap.size e (List.replicate c z) → Below w.heap.size w W → W.heap.size = w.heap.size + 1 → wpList P ops Q rest (a.put (some d) (.slice (some ⟨w.heap.size, 0, none⟩) n c)) W) :
    wpList P ops Q ({ dst := some d, op := .makeSlice t (.tmp i) (.tmp j), type := ty, pos := pos, after := af, guard := none } :: rest) a w := by
  obtain ⟨inf, hi, hzz⟩ := Option.map_eq_some_iff.1 hinfo
  simp only [Prod.mk.injEq] at hzz
  obtain ⟨hz, hs, hby⟩ := hzz
  have hr := run_make (P := P) w t e inf z ht hi hz .i64 .i64 (n : Int) (c : Int) (by omega) (by omega) (by rw [hby]; omega) (by omega)
  simp only [Int.toNat_natCast, hs, Nat.mul_one, hz1] at hr
  refine wpList_plain rfl fun K hK' => ?_
  unfold Oper.wp
  simp only [execOp, hl, hc, Sem.run_bind, hr, Result.andThen_ok, Sem.run_pure]
  exact hK' _ _ (hK _ (Blk.new _ _ _ _ (by rw [← made_rep, Array.toArray_toList])) (below_box _ _) (by simp))
end
section
variable {ops : Array Oper} {rest : List Oper} {dst : Option Nat} {i j : Nat} {ty : TypeId} {pos : String} {af : Array Edge} {a : Act} {w : World} {Q : Exit → Act → World → Prop}
theorem Sl.src {v : Value} {l : List Int} {m : Nat} (H : Sl w v l) (hm : m ≤ l.length) : (v = .slice none 0 0 ∧ l = []) ∨ ∃ ad c, v = .slice (some ad) l.length c ∧ ∀ k u, (nums (l.take m))[k]? = some u → w.cell? (ad.add k) = some u := by
  obtain ⟨ad, c, rfl, h1, h2, h3, h4⟩ := H
  cases ad with
  | none =>
    have := h3 rfl
    have h0 : l.length = 0 := by omega
    obtain rfl := List.eq_nil_of_length_eq_zero h0
    exact .inl ⟨by rw [this]; rfl, rfl⟩
  | some ad =>
    refine .inr ⟨ad, c, rfl, fun k u hk => ?_⟩
    have hkm : k < m := by
      rw [List.getElem?_eq_some_iff] at hk
      obtain ⟨h, _⟩ := hk
      simp only [nums, List.length_map, List.length_take] at h
      omega
    obtain ⟨b, off, ha, _, hc⟩ := h4 (by omega)
    cases ha
    rw [add_off, hc k (by omega)]
    rw [← hk]
    simp [nums, hkm, List.getElem?_eq_getElem (show k < l.length by omega), List.getD_eq_getElem?_getD]
/-- Numbers are copied. -/
theorem wpList_cp {g off n c m : Nat} {v : Value} {l : List Int} {cur : List Value} (hd : a.eval (.tmp i) = .slice (some ⟨g, off, none⟩) n c) (hs : a.eval (.tmp j) = v) (H : Sl w v l) (hB : Blk w g 3 cur) (hm : m = Nat.min l.length n) (hfit : off + m ≤ cur.length)
    (h : ∀ w', Blk w' g 3 (lay cur off (nums (l.take m))) → w.grownBy w' (some g) → wpList Try.prog ops Q rest (a.put dst (goInt m)) w') :
    wpList Try.prog ops Q ({ dst := dst, op := .call { callee := .builtin .copy, args := #[.tmp i, .tmp j], argTypes := #[28, 28] }, type := ty, pos := pos, after := af, guard := none } :: rest) a w := by
  have hml : m ≤ l.length := by rw [hm]; exact Nat.min_le_left _ _
  rcases H.src hml with ⟨rfl, rfl⟩ | ⟨ad, cc, rfl, hsrc⟩
  · obtain rfl : m = 0 := by rw [hm]; simp
    have hz : (Try.prog.info? 3).map (·.size) = some 1 := by kernel_rfl
    obtain ⟨inf, hi, hsz⟩ := Option.map_eq_some_iff.1 hz
    refine wpList_plain rfl fun K hK => ?_
    have hr : (Builtin.copy_ #[28, 28] ty #[.slice (some ⟨g, off, none⟩) n c, .slice none 0 0]).run Try.prog w = .ok (goInt 0) w := by
      simp [Builtin.copy_, run_underlying Try.underlying28, Builtin.lenOf, Builtin.firstCells, sizeOf, typeInfo, hi, storeCells]
    unfold Oper.wp execOp
    simp only [resolve, invoke, builtin, Sem.run_bind, Sem.run_pure, Result.andThen_ok, List.map_toArray, List.map_cons, List.map_nil, hd, hs, hr]
    refine hK _ _ (h w ?_ ⟨rfl, rfl, rfl, Nat.le_refl _, fun _ _ _ => rfl⟩)
    have : lay cur off (nums ((([] : List Int)).take 0)) = cur := by simp [lay, nums]
    rw [this]; exact hB
  · refine wpList_copy_k K22 rfl (.tmp i) (.tmp j) rfl g off n c ad l.length cc hd hs cur 3 (nums (l.take m)) hB ?_ hsrc ?_ nums_one ?_
    · simp only [nums, List.length_map, List.length_take, Nat.mul_one]; rw [← hm]; omega
    · simp only [nums, List.length_map, List.length_take]; omega
    · intro w' h1 h2
      have := h w' h1 h2
      rw [hm] at this
      exact this
end
end Go.Proofs.Ytdddkfpcbfgocaa
namespace Go.Proofs.Ytdddkfpcbfgocaa
open Go.RowKit Go.Over Go.Zn Go.Can Go.Seg Go.Grow
theorem CX.rc {w W : World} {g b c n : Nat} {bs : List Value} {L : List (List Int)} (h : CX w g b c bs L W) (hn : L.length = n) (hlc : n ≤ c) (hcm : c ≤ maxLen) : Rc W (.agg #[.slice (some ⟨b, 0, none⟩) n c]) L := ⟨_, rfl, b, c, bs, by rw [hn], by rw [hn]; exact hlc, hcm, h.v⟩
set_option maxRecDepth 100000 in set_option maxHeartbeats 3200000 in
theorem pcerr (v : Value) (L : List (List Int)) (z : Nat) (w : World) (H : Rc w v L) (hL : VC L) (hz : z < L.length) : Calls Try.prog 62 #[v, .int .i64 z] w fun e w' => e = .returned (.int .i64 0) ∧ Below w.heap.size w w' := by
  have HL := Lib.hid hL
  have hn6 := hL.l6
  clear hL
  obtain ⟨_, rfl, b, c, bs, rfl, hlc, hcm, hV⟩ := H
  have X0 := CX.new (c := c) hV
  clear hV
  obtain ⟨n, hn⟩ : ∃ n, L.length = n := ⟨_, rfl⟩
  rw [hn] at hlc hn6 ⊢
  have HN := Lib.hid hn
  clear hn
  go_enter Try.func62, Try.ntmps62
  go_upto_region 1 with fail
  obtain ⟨w1, hw1⟩ : ∃ W, W = w.alloc (.cells #[.slice (some ⟨b, 0, none⟩) n c] 77) := ⟨_, rfl⟩
  have X1 : CX w w.heap.size b c bs L w1 := by rw [hw1, ← HN.out]; exact X0
  rw [← hw1]
  obtain ⟨g, hg0⟩ : ∃ g, w.heap.size = g := ⟨_, rfl⟩
  rw [hg0] at X1 ⊢
  clear hw1 X0 hg0
  rw [HN.out] at hz
  have c0 := X1.c0
  rw [HN.out] at c0
  have hch := pcheck _ L w1 (X1.rc HN.out hlc hcm) HL.out
  rw [HN.out] at hch
  have HCH := Lib.hid hch
  clear hch
  go_wp2_with fail
  refine HCH.out.mono ?_
  rintro e w5 ⟨rfl, b5⟩
  have X5 := X1.below b5
  have c5 := cell_later b5 c0
  have tz : decide ((n : Int) ≤ (z : Int)) = false := by simp; omega
  clear X1 c0 b5
  go_wp2
  go_ret
  exact ⟨rfl, X5.b⟩
theorem infoI : (Try.prog.info? 3).map (fun i => (i.zero, i.size, i.bytes)) = some (some (.int .i64 0), 1, 8) := by kernel_rfl
theorem infoL : (Try.prog.info? 28).map (fun i => (i.zero, i.size, i.bytes)) = some (some (.slice none 0 0), 1, 24) := by kernel_rfl
theorem rep_get {α : Type} {v : α} {n i : Nat} (h : i < n) : (List.replicate n v)[i]? = some v := by rw [List.getElem?_replicate, if_pos h]
theorem Sl.nil (w : World) : Sl w (.slice none 0 0) [] := ⟨none, 0, rfl, Nat.le_refl _, Nat.zero_le _, fun _ => rfl, fun h => by simp at h⟩
theorem infoC : (Try.prog.info? 77).map (·.size) = some 1 := by kernel_rfl
section
variable {ops : Array Oper} {rest : List Oper} {i j d : Nat} {ty : TypeId} {pos : String} {af : Array Edge} {a : Act} {w : World} {Q : Exit → Act → World → Prop} {g : Nat} {u v : Value}
/-- A cache is stored whole. -/
theorem stC (hx : a.eval (.tmp i) = .pointer (some ⟨g, 0, none⟩)) (hy : a.eval (.tmp j) = .agg #[v]) (hB : Blk w g 77 [u]) (h1 : v.oneCell' = true)
    (h : ∀ W, Blk W g 77 [v] → w.grownBy W (some g) → wpList Try.prog ops Q rest (a.put none undef) W) :
    wpList Try.prog ops Q ({ dst := none, op := .store 77 (.tmp i) (.tmp j), type := ty, pos := pos, after := af, guard := none } :: rest) a w :=
  wpList_store_part (cs := [v]) infoC hx hy hB (by simp) (by intro x hx; simp at hx; subst hx; exact h1) fun W q1 q2 => h W q1 q2
theorem ldC (hx : a.eval (.tmp i) = .pointer (some ⟨g, 0, none⟩)) (hB : Blk w g 77 [v]) (h : wpList Try.prog ops Q rest (a.put (some d) (.agg #[v])) w) :
    wpList Try.prog ops Q ({ dst := some d, op := .load 77 (.tmp i), type := ty, pos := pos, after := af, guard := none } :: rest) a w :=
  wpList_load_row rfl 77 (.tmp i) rfl g hx 77 #[v] (0, 0) _ hB Try.underlying77 rfl (by rw [infoC]; rfl) h
theorem resC {fn : Func} {p : Tmp} (h : fn.results = #[.cell p 77]) (tmps : Array Value) (w : World) (g : Nat) (v : Value) (hp : tmps.getD p undef = .pointer (some ⟨g, 0, none⟩)) (hg : Blk w g 77 [v]) :
    (results fn tmps).run Try.prog w = .ok (.agg #[v]) w :=
  results_cell_row h tmps w g 77 #[v] (0, 0) _ hp hg Try.underlying77 rfl (by rw [infoC]; rfl)
theorem resC1 {fn : Func} {p q : Tmp} (h : fn.results = #[.cell p 77, .tmp q]) (tmps : Array Value) (w : World) (g : Nat) (v y : Value) (hp : tmps.getD p undef = .pointer (some ⟨g, 0, none⟩)) (hg : Blk w g 77 [v]) (hv : tmps.getD q undef = y) :
    (results fn tmps).run Try.prog w = .ok (.tuple #[.agg #[v], y]) w := by
  have hp' : tmps[p]?.getD undef = .pointer (some ⟨g, 0, none⟩) := by simpa using hp
  have hv' : tmps[q]?.getD undef = y := by simpa using hv
  have hl := run_loadVar_row (P := Try.prog) w g 77 77 #[v] (0, 0) _ hg Try.underlying77 rfl (by rw [infoC]; rfl)
  simp [results, h, hp', hv', asAddr, hl]
theorem resC2 {fn : Func} {p q r : Tmp} (h : fn.results = #[.cell p 77, .tmp q, .tmp r]) (tmps : Array Value) (w : World) (g : Nat) (v y z : Value) (hp : tmps.getD p undef = .pointer (some ⟨g, 0, none⟩)) (hg : Blk w g 77 [v]) (hv : tmps.getD q undef = y) (hz : tmps.getD r undef = z) :
    (results fn tmps).run Try.prog w = .ok (.tuple #[.agg #[v], y, z]) w := by
  have hp' : tmps[p]?.getD undef = .pointer (some ⟨g, 0, none⟩) := by simpa using hp
  have hv' : tmps[q]?.getD undef = y := by simpa using hv
  have hz' : tmps[r]?.getD undef = z := by simpa using hz
  have hl := run_loadVar_row (P := Try.prog) w g 77 77 #[v] (0, 0) _ hg Try.underlying77 rfl (by rw [infoC]; rfl)
  simp [results, h, hp', hv', hz', asAddr, hl]
end
set_option maxRecDepth 100000 in set_option maxHeartbeats 3200000 in
theorem pcnew (n : Nat) (w : World) (h1 : 1 ≤ n) (h6 : n ≤ 6) : Calls Try.prog 29 #[.int .i64 n] w fun e w' => ∃ v, e = .returned (.tuple #[v, .int .i64 0]) ∧ Rc w' v (List.replicate n []) ∧ Below w.heap.size w w' := by
  have b1 := below_box w (.cells #[.slice none 0 0] 77)
  have Z1 := Blk.new w 77 #[.slice none 0 0] [.slice none 0 0] rfl
  have tn : decide ((6 : Int) < (n : Int)) = false := by simp; omega
  go_enter Try.func29, Try.ntmps29
  go_upto_region 1 with fail
  obtain ⟨w1, hw1⟩ : ∃ W, W = w.alloc (.cells #[.slice none 0 0] 77) := ⟨_, rfl⟩
  rw [← hw1] at b1 Z1 ⊢
  obtain ⟨gr, hgr⟩ : ∃ g, w.heap.size = g := ⟨_, rfl⟩
  rw [hgr] at Z1 ⊢
  clear hw1
  have c1 : w1.cell? ⟨gr, 0, none⟩ = some (.slice none 0 0) := by rw [Z1.cell]; rfl
  have hne : gr ≠ w1.heap.size := by have := Z1.lt; omega
  go_wp2_with first | ((with_reducible refine wpList_mk (.slice none 0 0) Try.underlying75 infoL rfl ?_ ?_ (Nat.le_refl n) (by omega) (by omega) ?_); (focus rfl); (focus rfl); intro w2 hB2 b2 hs2; have Z2 := Z1.later b2) | ((with_reducible refine stC (u := .slice none 0 0) (v := .slice (some ⟨w1.heap.size, 0, none⟩) n n) ?_ ?_ Z2 ?_ ?_); (focus rfl); (focus rfl); (focus rfl); intro w3 hB3 hg3)
  refine bodyPost_ret (resC1 rfl _ _ gr _ _ rfl hB3 rfl) rfl ?_
  have hB3' := hB2.grown hg3 (by simpa using hne)
  refine ⟨_, rfl, ⟨_, rfl, w1.heap.size, n, List.replicate n (.slice none 0 0), by rw [List.length_replicate], by simp, by unfold maxLen; omega, hB3', by simp, fun i l hl => ?_⟩, ?_⟩
  · have hin : i < n := by rw [List.getElem?_eq_some_iff] at hl; obtain ⟨h, _⟩ := hl; simpa using h
    rw [rep_get hin] at hl
    cases hl
    exact ⟨_, rep_get hin, Sl.nil _⟩
  · exact (below_then b1 b2).grown hg3 (Nat.le_trans b1.size b2.size) (fun k hk => by cases hk; omega)
end Go.Proofs.Ytdddkfpcbfgocaa
namespace Go.Proofs.Ytdddkfpcbfgocaa
open Go.RowKit Go.Over Go.Zn Go.Can Go.Seg Go.Grow
/-- Numbers stay where blocks of numbers stay. -/
theorem Sl.past {w w' : World} {v : Value} {l : List Int} (h : Sl w v l) (hk : ∀ b bs, Blk w b 3 bs → Blk w' b 3 bs) : Sl w' v l := by
  obtain ⟨a, c, h1, h2, h3, h4, h5⟩ := h
  refine ⟨a, c, h1, h2, h3, h4, fun h0 => ?_⟩
  obtain ⟨b, off, ha, ⟨cs, hcs⟩, hc⟩ := h5 h0
  have h6 := hk b cs hcs
  exact ⟨b, off, ha, ⟨cs, h6⟩, fun i hi => by rw [h6.cell, ← hcs.cell]; exact hc i hi⟩
/-- A whole row of numbers. -/
theorem Sl.row {w : World} {b n c : Nat} {l : List Int} {zs : List Value} (hB : Blk w b 3 zs) (hl : l.length = n) (hnc : n ≤ c) (hc : c ≤ maxLen) (hz : ∀ i, i < n → zs[i]? = (nums l)[i]?) : Sl w (.slice (some ⟨b, 0, none⟩) n c) l := by
  refine ⟨some ⟨b, 0, none⟩, c, by rw [hl], by omega, hc, fun h => (by cases h), fun h0 => ⟨b, 0, rfl, ⟨zs, hB⟩, fun i hi => ?_⟩⟩
  rw [hB.cell, Nat.zero_add, hz i (by omega)]
  simp [nums, List.getElem?_eq_getElem hi, List.getD_eq_getElem?_getD]
/-- A copy under way: the lists below k are there. -/
structure RX (w : World) (g gr g7 rb n : Nat) (v0 : Value) (T : List (List Int)) (k : Nat) (ns : List Value) (W : World) : Prop where
  b : Below w.heap.size w W
  x : Blk W g 77 [v0]
  z : Blk W gr 77 [.slice none 0 0]
  r : Blk W g7 77 [.slice (some ⟨rb, 0, none⟩) n n]
  y : Blk W rb 28 ns
  ny : ns.length = n
  row : ∀ (i : Nat) (l : List Int), i < k → T[i]? = some l → ∃ v, ns[i]? = some v ∧ Sl W v l
section
variable {w W W' W0 : World} {g gr g7 rb n k : Nat} {v0 : Value} {T : List (List Int)} {ns : List Value}
theorem RX.below (h : RX w g gr g7 rb n v0 T k ns W) (hb : Below W.heap.size W W') : RX w g gr g7 rb n v0 T k ns W' :=
  ⟨below_then h.b hb, h.x.later hb, h.z.later hb, h.r.later hb, h.y.later hb, h.ny, fun i l hi hl => by obtain ⟨v, h1, h2⟩ := h.row i l hi hl; exact ⟨v, h1, h2.below hb⟩⟩
/-- A slice is put, and its row filled. -/
theorem RX.next {nb m : Nat} {l : List Int} {zs : List Value} (h0 : RX w g gr g7 rb n v0 T k ns W0) (hb0 : Below W0.heap.size W0 W) (hlr : w.heap.size ≤ rb) (hk : k < n) (hnb : Blk W nb 3 zs) (hlb : W0.heap.size ≤ nb) (hl : T[k]? = some l) (hm : l.length = m) (hm6 : m ≤ 256)
    (hg : (W.setCell ⟨rb, k, none⟩ (.slice (some ⟨nb, 0, none⟩) m m)).grownBy W' (some nb)) (hB : Blk W' nb 3 (nums l)) : RX w g gr g7 rb n v0 T (k + 1) (ns.set k (.slice (some ⟨nb, 0, none⟩) m m)) W' := by
  have h := h0.below hb0
  have e1 : rb ≠ nb := h.y.ne_type hnb (by decide)
  have kp : ∀ {g t : Nat} {bs : List Value}, Blk W g t bs → g ≠ rb → g ≠ nb → Blk W' g t bs := fun hq h1 h2 => (hq.far (p := ⟨rb, k, none⟩) h1 _).grown hg (by simpa using Ne.symm h2)
  have kt : ∀ {g : Nat} {bs : List Value}, Blk W g 77 bs → Blk W' g 77 bs := fun hq => kp hq (hq.ne_type h.y (by decide)) (hq.ne_type hnb (by decide))
  refine ⟨(h.b.setCell (p := ⟨rb, k, none⟩) hlr _).grown hg (by have := h.b.size; simpa [World.setCell] using this) (fun q hq => by cases hq; exact Nat.le_trans h0.b.size hlb), kt h.x, kt h.z, kt h.r, (h.y.set k _).grown hg (by simpa using Ne.symm e1), by simp [h.ny], fun i l' hi hl' => ?_⟩
  by_cases e : i = k
  · subst e
    rw [hl] at hl'
    cases hl'
    refine ⟨_, List.getElem?_set_self (by rw [h.ny]; exact hk), Sl.row hB hm (Nat.le_refl _) (by unfold maxLen; omega) (fun _ _ => rfl)⟩
  · obtain ⟨v, h1, h2⟩ := h0.row i l' (by omega) hl'
    refine ⟨v, by rw [List.getElem?_set_ne (Ne.symm e)]; exact h1, h2.past fun b cs hcs => ?_⟩
    have hlt := hcs.lt
    have hcs := hcs.later hb0
    exact kp hcs (Ne.symm (h.y.ne_type hcs (by decide))) (by omega)
theorem RX.done (h : RX w g gr g7 rb n v0 T n ns W) (hn : T.length = n) (hn6 : n ≤ 6) : Lc W (.slice (some ⟨rb, 0, none⟩) n n) T :=
  ⟨rb, n, ns, by rw [hn], by omega, by unfold maxLen; omega, h.y, by rw [h.ny, hn]; exact Nat.le_refl _, fun i l hl => h.row i l (by rw [← hn]; rw [List.getElem?_eq_some_iff] at hl; exact hl.1) hl⟩
end
theorem set_get {L : List (List Int)} {z : Nat} {l' : List Int} (hz : z < L.length) {i : Nat} {l : List Int} (h : (L.set z l')[i]? = some l) : (i = z ∧ l = l') ∨ (i ≠ z ∧ L[i]? = some l) := by
  by_cases e : i = z
  · subst e
    rw [List.getElem?_set_self hz] at h
    exact .inl ⟨rfl, (Option.some.inj h).symm⟩
  · rw [List.getElem?_set_ne (Ne.symm e)] at h
    exact .inr ⟨e, h⟩
set_option maxRecDepth 100000 in set_option maxHeartbeats 3200000 in
theorem replace (v : Value) (L : List (List Int)) (z : Nat) (vl : Value) (l' : List Int) (w : World) (H : Rc w v L) (hL : VC L) (hz : z < L.length) (hl : Sl w vl l') (hl6 : l'.length ≤ 256) :
    Calls Try.prog 63 #[v, .int .i64 z, vl] w fun e w' => ∃ v', e = .returned v' ∧ Rc w' v' (L.set z l') ∧ Below w.heap.size w w' := by
  obtain ⟨_, rfl, b, c, bs, rfl, hlc, hcm, hV⟩ := H
  obtain ⟨n, hn⟩ : ∃ n, L.length = n := ⟨_, rfl⟩
  have hn1 := hL.l1
  have hn6 := hL.l6
  obtain ⟨al, ml, cl, hvl, hml⟩ : ∃ a m c, vl = .slice a m c ∧ l'.length = m := by obtain ⟨a, c, h, _⟩ := hl; exact ⟨a, _, c, h, rfl⟩
  subst hvl
  rw [hn] at hlc hn6 hn1 hz ⊢
  have HN := Lib.hid hn; have HL := Lib.hid hL; have HV := Lib.hid hV; have HA := Lib.hid hl; have HML := Lib.hid hml
  rw [hml] at hl6
  clear hn hL hV hl hml
  have b1 := below_box w (.cells #[.slice (some ⟨b, 0, none⟩) n c] 77)
  have b2 := below_then b1 (below_box (w.alloc (.cells #[.slice (some ⟨b, 0, none⟩) n c] 77)) (.cells #[.slice none 0 0] 77))
  have X0 := (Blk.new w 77 #[.slice (some ⟨b, 0, none⟩) n c] [.slice (some ⟨b, 0, none⟩) n c] rfl).later (below_box (w.alloc (.cells #[.slice (some ⟨b, 0, none⟩) n c] 77)) (.cells #[.slice none 0 0] 77))
  have Z0 := Blk.new (w.alloc (.cells #[.slice (some ⟨b, 0, none⟩) n c] 77)) 77 #[.slice none 0 0] [.slice none 0 0] rfl
  have hs : (w.alloc (.cells #[.slice (some ⟨b, 0, none⟩) n c] 77)).heap.size = w.heap.size + 1 := by simp
  rw [hs] at Z0
  clear hs b1
  go_enter Try.func63, Try.ntmps63
  go_upto_region 1 with fail
  obtain ⟨w1, hw1⟩ : ∃ W, W = (w.alloc (.cells #[.slice (some ⟨b, 0, none⟩) n c] 77)).alloc (.cells #[.slice none 0 0] 77) := ⟨_, rfl⟩
  have hgg : w.heap.size + 1 ≠ w.heap.size := by omega
  rw [← hw1] at b2 X0 Z0 ⊢
  obtain ⟨gr, hgr⟩ : ∃ g, w.heap.size + 1 = g := ⟨_, rfl⟩
  have hlgr : w.heap.size ≤ gr := by omega
  rw [hgr] at Z0 hgg ⊢
  have hlg : w.heap.size ≤ w.heap.size := Nat.le_refl _
  obtain ⟨g, hg0⟩ : ∃ g, w.heap.size = g := ⟨_, rfl⟩
  rw [show Blk w1 w.heap.size 77 [.slice (some ⟨b, 0, none⟩) n c] = Blk w1 g 77 [.slice (some ⟨b, 0, none⟩) n c] by rw [hg0]] at X0
  rw [show (gr ≠ w.heap.size) = (gr ≠ g) by rw [hg0]] at hgg
  rw [hg0]
  clear hw1 hgr hlg hg0
  have c1 : w1.cell? ⟨g, 0, none⟩ = some (.slice (some ⟨b, 0, none⟩) n c) := by rw [X0.cell]; rfl
  go_upto_region 2 with ((with_reducible refine wpList_mk (.slice none 0 0) Try.underlying75 infoL rfl ?_ ?_ (Nat.le_refl n) (by omega) (by omega) ?_); (focus rfl); (focus rfl); intro w2 hB2 bb2 hs2)
  have b3 := below_box w2 (.cells #[.slice (some ⟨w1.heap.size, 0, none⟩) n n] 77)
  have R3 := Blk.new w2 77 #[.slice (some ⟨w1.heap.size, 0, none⟩) n n] [.slice (some ⟨w1.heap.size, 0, none⟩) n n] rfl
  rw [hs2] at R3
  have B3 := below_then (below_then b2 bb2) b3
  have X3 := (X0.later bb2).later b3
  have Z3 := (Z0.later bb2).later b3
  have Y3 := hB2.later b3
  have hlr := b2.size
  have hn7 : gr ≠ w1.heap.size + 1 := by have := Z0.lt; omega
  obtain ⟨w3, hw3⟩ : ∃ W, W = w2.alloc (.cells #[.slice (some ⟨w1.heap.size, 0, none⟩) n n] 77) := ⟨_, rfl⟩
  rw [← hw3] at B3 R3 X3 Z3 Y3 ⊢
  obtain ⟨g7, hg7⟩ : ∃ z, w1.heap.size + 1 = z := ⟨_, rfl⟩
  rw [hg7] at R3 hn7 ⊢
  obtain ⟨rb, hrb⟩ : ∃ z, w1.heap.size = z := ⟨_, rfl⟩
  rw [hrb] at R3 Y3 hlr ⊢
  have RX0 : RX w g gr g7 rb n (.slice (some ⟨b, 0, none⟩) n c) (L.set z l') 0 (List.replicate n (.slice none 0 0)) w3 := ⟨B3, X3, Z3, R3, Y3, by simp, fun i l hi => by omega⟩
  have HTN := Lib.hid (show (L.set z l').length = n by rw [List.length_set, HN.out])
  clear b2 Z0 X0 c1 hB2 bb2 hs2 hw3 b3 B3 R3 X3 Z3 Y3 hg7 hrb
  have c3 : w3.cell? ⟨g, 0, none⟩ = some (.slice (some ⟨b, 0, none⟩) n c) := by rw [RX0.x.cell]; rfl
  go_wp2
  go_loopg [18] n (fun gg v18 wr => ∃ (k : Nat) (ns : List Value), k + gg = n ∧ v18 = .int .i64 k ∧ RX w g gr g7 rb n (.slice (some ⟨b, 0, none⟩) n c) (L.set z l') k ns wr)
  case atStart => exact ⟨0, _, by omega, rfl, RX0⟩
  case round =>
    clear RX0 c3
    obtain ⟨k, ns, hi, rfl, R4⟩ := hrel
    cases gk with
    | zero =>
      obtain rfl : k = n := by omega
      have hD := R4.done HTN.out hn6
      have hin : ¬ k < k := by omega
      have hz4 := R4.z
      have hr4 := R4.r
      clear hi
      go_wp2_with first | ((with_reducible refine ldC ?_ hr4 ?_); (focus rfl)) | ((with_reducible refine stC (u := .slice none 0 0) (v := .slice (some ⟨rb, 0, none⟩) k k) ?_ ?_ hz4 ?_ ?_); (focus rfl); (focus rfl); (focus rfl); intro w5 hB5 hg5)
      refine bodyPost_ret (resC rfl _ _ gr _ rfl hB5) rfl ?_
      refine ⟨_, rfl, ⟨_, rfl, ?_⟩, R4.b.grown hg5 R4.b.size (fun q hq => by cases hq; exact hlgr)⟩
      obtain ⟨b', c', bs', q1, q2, q3, q4⟩ := hD
      exact ⟨b', c', bs', q1, q2, q3, q4.grown hz4 (by decide) (hz4.ne_type q4.x (by decide)) hg5⟩
    | succ gg =>
      have hk : k < n := by omega
      have HK := Lib.hid hi
      obtain ⟨l, hTl⟩ := get_some HTN.out hk
      obtain ⟨lk, hLk⟩ := get_some HN.out hk
      have hVk := HV.out.below R4.b
      obtain ⟨ak, mk, ck, dk, hmk, _, _, _, hIk⟩ := hVk.at hLk
      have d0 : wr.cell? ⟨g, 0, none⟩ = some (.slice (some ⟨b, 0, none⟩) n c) := by rw [R4.x.cell]; rfl
      have d7 : wr.cell? ⟨g7, 0, none⟩ = some (.slice (some ⟨rb, 0, none⟩) n n) := by rw [R4.r.cell]; rfl
      rcases set_get (by rw [HN.out]; exact hz) hTl with ⟨hkz, hll⟩ | ⟨hkz, hll⟩
      · rw [hll] at hTl
        have tkz : ((k : Int) == (z : Int)) = true := by rw [hkz]; simp
        have HSL := Lib.hid (HA.out.below R4.b)
        have HM := Lib.hid HML.out
        have hm6 := hl6
        have HTL := Lib.hid hTl; have HR := Lib.hid R4
        clear hi hTl hLk hVk hmk hIk R4 hkz hll
        go_wp2_with fail
        refine wp_region_plan (fun U => U.cell? ⟨g7, 0, none⟩ = some (.slice (some ⟨rb, 0, none⟩) n n)) (.quiet [0, 1, 2, 3, 4] (.only 5 (.quiet [6] (.last 7)))) 7 (by kernel_rfl) (by kernel_rfl) d7 ?_
        intro W hW hWe
        have bW : Below wr.heap.size wr W := by rw [hWe]; exact (Below.refl _ _).drew
        clear hWe
        simp only [wpPlan, inOrder, List.filterMap_cons, List.filterMap_nil, List.getElem?_cons_zero, List.getElem?_cons_succ]
        have q0 := fun z => hold_ok (S0 := fun U => U.cell? ⟨g7, 0, none⟩ = some (.slice (some ⟨rb, 0, none⟩) n n)) hW z
        show wpQuiet _ _ _ _ (_ :: _ :: _ :: _ :: [_]) _
        repeat (go_big_quiet_step (fail))
        refine wpQuiet_nil ?_
        show wpList _ _ _ [_] _ _
        go_wp2_with ((with_reducible refine wpList_mk (.int .i64 0) Try.underlying28 infoI rfl ?_ ?_ (Nat.le_refl ml) (by omega) (by omega) ?_); (focus rfl); (focus rfl); intro w5 hB5 b5 hs5)
        have hlb : wr.heap.size ≤ W.heap.size := bW.size
        have b05 := below_then bW b5
        refine ⟨hold_of (cell_later b05 d7), ?_⟩
        obtain ⟨nb, hnb⟩ : ∃ z, W.heap.size = z := ⟨_, rfl⟩
        rw [hnb] at hB5 hlb ⊢
        clear hnb hs5 b5 bW
        simp only [Act.put, List.setIfInBounds_toArray, List.set_cons_succ, List.set_cons_zero]
        show wpQuiet _ _ _ _ ([_]) _
        repeat (go_big_quiet_step (fail))
        refine wpQuiet_nil ?_
        clear q0 hW
        have RR := fun (w6 : World) (hg : (w5.setCell ⟨rb, k, none⟩ (.slice (some ⟨nb, 0, none⟩) ml ml)).grownBy w6 (some nb)) (hB : Blk w6 nb 3 (nums l')) => HR.out.next b05 hlr hk hB5 hlb HTL.out HM.out hm6 hg hB
        have X5 := HR.out.below b05
        have HSL5 := Lib.hid (HSL.out.below b05)
        have e5 := X5.y.frozen k
        obtain ⟨u, hu⟩ := get_some X5.ny hk
        have f5 : w5.cell? ⟨rb, k, none⟩ = some u := by rw [X5.y.cell]; exact hu
        have x5 := X5.y.set k (.slice (some ⟨nb, 0, none⟩) ml ml)
        have y5 := hB5.far (p := ⟨rb, k, none⟩) (Ne.symm (X5.y.ne_type hB5 (by decide))) (.slice (some ⟨nb, 0, none⟩) ml ml)
        have s5 := HSL5.out.far X5.y (by decide) k (.slice (some ⟨nb, 0, none⟩) ml ml)
        have r5 : (w5.setCell ⟨rb, k, none⟩ (.slice (some ⟨nb, 0, none⟩) ml ml)).cell? ⟨g7, 0, none⟩ = some (.slice (some ⟨rb, 0, none⟩) n n) := by
          have := X5.r.far (p := ⟨rb, k, none⟩) (X5.r.ne_type X5.y (by decide)) (.slice (some ⟨nb, 0, none⟩) ml ml)
          rw [this.cell]; rfl
        have k5 : (w5.setCell ⟨rb, k, none⟩ (.slice (some ⟨nb, 0, none⟩) ml ml)).cell? ⟨rb, k, none⟩ = some (.slice (some ⟨nb, 0, none⟩) ml ml) := by
          rw [x5.cell, List.getElem?_set_self (by rw [X5.ny]; exact hk)]
        have HRR := Lib.hid RR
        clear RR hB5 X5 HR HSL HSL5 d7 hu
        show wpList _ _ _ [_] _ _
        go_wp2
        refine ⟨trivial, NoPanic.normal ?_⟩
        obtain ⟨w6, hw6⟩ : ∃ W, W = w5.setCell ⟨rb, k, none⟩ (.slice (some ⟨nb, 0, none⟩) ml ml) := ⟨_, rfl⟩
        rw [← hw6] at HRR y5 s5 r5 k5 ⊢
        clear hw6 x5 e5 f5
        have hmm := Lib.hid (show ml = Nat.min l'.length ml by rw [HM.out]; exact (Nat.min_self ml).symm)
        have hfit : 0 + ml ≤ (List.replicate ml (Value.int IntKind.i64 0)).length := by simp
        go_wp2_with ((with_reducible refine wpList_cp (g := nb) (off := 0) (n := ml) (c := ml) (m := ml) (v := .slice al ml cl) (l := l') ?_ ?_ s5 y5 hmm.out hfit ?_); (focus rfl); (focus rfl); intro w7 hB7 hg7)
        have hB7' : Blk w7 nb 3 (nums l') := by
          have e : lay (List.replicate ml (Value.int IntKind.i64 0)) 0 (nums (l'.take ml)) = nums l' := by
            rw [List.take_of_length_le (by rw [HM.out]; exact Nat.le_refl _)]
            simp [lay, nums, HM.out]
          rw [← e]; exact hB7
        have R7 := HRR.out w7 hg7 hB7'
        clear HRR hB7 hg7 hB7' y5 s5 r5 k5 hmm hfit
        go_wp2
        go_roundg gg
        case rel => exact ⟨k + 1, _, by have := HK.out; omega, by go_num, R7⟩
        case measure => omega
      · have tkz : ((k : Int) == (z : Int)) = false := by simp; omega
        rw [hLk] at hll
        cases hll
        have hsl : Sl wr (.slice ak mk ck) l := by
          obtain ⟨v, q1, q2⟩ := hVk.row k l hLk
          have := hVk.x.cell k
          rw [dk, q1] at this
          cases this
          exact q2
        have hm6 := HL.out.len hLk
        rw [hmk] at hm6
        have HSL := Lib.hid hsl; have HM := Lib.hid hmk
        have HTL := Lib.hid hTl; have HR := Lib.hid R4
        clear hi hTl hLk hVk hmk hIk R4 hkz hsl
        go_wp2_with fail
        refine wp_region_plan (fun U => U.cell? ⟨g7, 0, none⟩ = some (.slice (some ⟨rb, 0, none⟩) n n)) (.quiet [0, 1, 2, 3, 4] (.only 5 (.quiet [6] (.last 7)))) 7 (by kernel_rfl) (by kernel_rfl) d7 ?_
        intro W hW hWe
        have bW : Below wr.heap.size wr W := by rw [hWe]; exact (Below.refl _ _).drew
        clear hWe
        simp only [wpPlan, inOrder, List.filterMap_cons, List.filterMap_nil, List.getElem?_cons_zero, List.getElem?_cons_succ]
        have q0 := fun z => hold_ok (S0 := fun U => U.cell? ⟨g7, 0, none⟩ = some (.slice (some ⟨rb, 0, none⟩) n n)) hW z
        show wpQuiet _ _ _ _ (_ :: _ :: _ :: _ :: [_]) _
        repeat (go_big_quiet_step (fail))
        refine wpQuiet_nil ?_
        show wpList _ _ _ [_] _ _
        go_wp2_with ((with_reducible refine wpList_mk (.int .i64 0) Try.underlying28 infoI rfl ?_ ?_ (Nat.le_refl mk) (by omega) (by omega) ?_); (focus rfl); (focus rfl); intro w5 hB5 b5 hs5)
        have hlb : wr.heap.size ≤ W.heap.size := bW.size
        have b05 := below_then bW b5
        refine ⟨hold_of (cell_later b05 d7), ?_⟩
        obtain ⟨nb, hnb⟩ : ∃ z, W.heap.size = z := ⟨_, rfl⟩
        rw [hnb] at hB5 hlb ⊢
        clear hnb hs5 b5 bW
        simp only [Act.put, List.setIfInBounds_toArray, List.set_cons_succ, List.set_cons_zero]
        show wpQuiet _ _ _ _ ([_]) _
        repeat (go_big_quiet_step (fail))
        refine wpQuiet_nil ?_
        clear q0 hW
        have RR := fun (w6 : World) (hg : (w5.setCell ⟨rb, k, none⟩ (.slice (some ⟨nb, 0, none⟩) mk mk)).grownBy w6 (some nb)) (hB : Blk w6 nb 3 (nums l)) => HR.out.next b05 hlr hk hB5 hlb HTL.out HM.out hm6 hg hB
        have X5 := HR.out.below b05
        have HSL5 := Lib.hid (HSL.out.below b05)
        have e5 := X5.y.frozen k
        obtain ⟨u, hu⟩ := get_some X5.ny hk
        have f5 : w5.cell? ⟨rb, k, none⟩ = some u := by rw [X5.y.cell]; exact hu
        have x5 := X5.y.set k (.slice (some ⟨nb, 0, none⟩) mk mk)
        have y5 := hB5.far (p := ⟨rb, k, none⟩) (Ne.symm (X5.y.ne_type hB5 (by decide))) (.slice (some ⟨nb, 0, none⟩) mk mk)
        have s5 := HSL5.out.far X5.y (by decide) k (.slice (some ⟨nb, 0, none⟩) mk mk)
        have r5 : (w5.setCell ⟨rb, k, none⟩ (.slice (some ⟨nb, 0, none⟩) mk mk)).cell? ⟨g7, 0, none⟩ = some (.slice (some ⟨rb, 0, none⟩) n n) := by
          have := X5.r.far (p := ⟨rb, k, none⟩) (X5.r.ne_type X5.y (by decide)) (.slice (some ⟨nb, 0, none⟩) mk mk)
          rw [this.cell]; rfl
        have k5 : (w5.setCell ⟨rb, k, none⟩ (.slice (some ⟨nb, 0, none⟩) mk mk)).cell? ⟨rb, k, none⟩ = some (.slice (some ⟨nb, 0, none⟩) mk mk) := by
          rw [x5.cell, List.getElem?_set_self (by rw [X5.ny]; exact hk)]
        have HRR := Lib.hid RR
        clear RR hB5 X5 HR HSL HSL5 d7 hu
        show wpList _ _ _ [_] _ _
        go_wp2
        refine ⟨trivial, NoPanic.normal ?_⟩
        obtain ⟨w6, hw6⟩ : ∃ W, W = w5.setCell ⟨rb, k, none⟩ (.slice (some ⟨nb, 0, none⟩) mk mk) := ⟨_, rfl⟩
        rw [← hw6] at HRR y5 s5 r5 k5 ⊢
        clear hw6 x5 e5 f5
        have hmm := Lib.hid (show mk = Nat.min l.length mk by rw [HM.out]; exact (Nat.min_self mk).symm)
        have hfit : 0 + mk ≤ (List.replicate mk (Value.int IntKind.i64 0)).length := by simp
        go_wp2_with ((with_reducible refine wpList_cp (g := nb) (off := 0) (n := mk) (c := mk) (m := mk) (v := .slice ak mk ck) (l := l) ?_ ?_ s5 y5 hmm.out hfit ?_); (focus rfl); (focus rfl); intro w7 hB7 hg7)
        have hB7' : Blk w7 nb 3 (nums l) := by
          have e : lay (List.replicate mk (Value.int IntKind.i64 0)) 0 (nums (l.take mk)) = nums l := by
            rw [List.take_of_length_le (by rw [HM.out]; exact Nat.le_refl _)]
            simp [lay, nums, HM.out]
          rw [← e]; exact hB7
        have R7 := HRR.out w7 hg7 hB7'
        clear HRR hB7 hg7 hB7' y5 s5 r5 k5 hmm hfit
        go_wp2
        go_roundg gg
        case rel => exact ⟨k + 1, _, by have := HK.out; omega, by go_num, R7⟩
        case measure => omega
end Go.Proofs.Ytdddkfpcbfgocaa
namespace Go.Proofs.Ytdddkfpcbfgocaa
open Go.RowKit Go.Over Go.Zn Go.Can Go.Seg Go.Grow
/-- A variable that holds a cache, beside one for the result. -/
structure CC (w : World) (g gr : Nat) (v0 : Value) (W : World) : Prop where
  b : Below w.heap.size w W
  x : Blk W g 77 [v0]
  z : Blk W gr 77 [.slice none 0 0]
  lr : w.heap.size ≤ gr
theorem CC.below {w W W' : World} {g gr : Nat} {v0 : Value} (h : CC w g gr v0 W) (hb : Below W.heap.size W W') : CC w g gr v0 W' := ⟨below_then h.b hb, h.x.later hb, h.z.later hb, h.lr⟩
theorem CC.c0 {w W : World} {g gr : Nat} {v0 : Value} (h : CC w g gr v0 W) : W.cell? ⟨g, 0, none⟩ = some v0 := by rw [h.x.cell]; rfl
theorem CC.new (w : World) (v0 : Value) : CC w w.heap.size (w.heap.size + 1) v0 ((w.alloc (.cells #[v0] 77)).alloc (.cells #[.slice none 0 0] 77)) := by
  have hs : (w.alloc (.cells #[v0] 77)).heap.size = w.heap.size + 1 := by simp
  have hz := Blk.new (w.alloc (.cells #[v0] 77)) 77 #[.slice none 0 0] [.slice none 0 0] rfl
  rw [hs] at hz
  exact ⟨below_then (below_box w _) (below_box _ _), (Blk.new w 77 #[v0] [v0] rfl).later (below_box _ _), hz, by omega⟩
/-- The list of a zone, in a value of a cache. -/
theorem Lc.at {w : World} {b n c : Nat} {L : List (List Int)} (h : Lc w (.slice (some ⟨b, 0, none⟩) n c) L) {i : Nat} {l : List Int} (hl : L[i]? = some l) :
    ∃ a m c, w.cell? ⟨b, i, none⟩ = some (.slice a m c) ∧ l.length = m ∧ Sl w (.slice a m c) l := by
  obtain ⟨b', c', bs, h1, h2, h3, h4⟩ := h
  cases h1
  obtain ⟨v, q1, q2⟩ := h4.row i l hl
  obtain ⟨a, cc, rfl, _⟩ := id q2
  exact ⟨a, _, cc, by rw [h4.x.cell]; exact q1, rfl, q2⟩
theorem Lc.form {w : World} {v : Value} {L : List (List Int)} (h : Lc w v L) : ∃ b c, v = .slice (some ⟨b, 0, none⟩) L.length c ∧ L.length ≤ c ∧ c ≤ maxLen := by
  obtain ⟨b, c, _, h1, h2, h3, _⟩ := h
  exact ⟨b, c, h1, h2, h3⟩
theorem Lc.grown {w w' : World} {v : Value} {L : List (List Int)} {g t : Nat} {cs : List Value} (h : Lc w v L) (hB : Blk w g t cs) (ht : 3 ≠ t) (hi : 28 ≠ t) (hg : w.grownBy w' (some g)) : Lc w' v L := by
  obtain ⟨b, c, bs, h1, h2, h3, h4⟩ := h
  exact ⟨b, c, bs, h1, h2, h3, h4.grown hB ht (hB.ne_type h4.x (Ne.symm hi)) hg⟩
set_option maxRecDepth 100000 in set_option maxHeartbeats 3200000 in
theorem pcdrain (v : Value) (L : List (List Int)) (z : Nat) (l : List Int) (w : World) (H : Rc w v L) (hL : VC L) (hzl : L[z]? = some l) : Calls Try.prog 47 #[v, .int .i64 z] w fun e w' => ∃ v' vl, e = .returned (.tuple #[v', vl, .int .i64 0]) ∧ Rc w' v' (L.set z []) ∧ Sl w' vl l ∧ Below w.heap.size w w' := by
  have HL := Lib.hid hL; have HZL := Lib.hid hzl
  have hn6 := hL.l6
  have hz : z < L.length := by rw [List.getElem?_eq_some_iff] at hzl; exact hzl.1
  clear hL hzl
  obtain ⟨v0, rfl, hLc⟩ := H
  obtain ⟨b, c, hv0, hlc, hcm⟩ := hLc.form
  obtain ⟨n, hn⟩ : ∃ n, L.length = n := ⟨_, rfl⟩
  rw [hn] at hv0 hlc hz hn6
  subst hv0
  have HN := Lib.hid hn; have HLC := Lib.hid hLc
  clear hn hLc
  have X0 := CC.new w (.slice (some ⟨b, 0, none⟩) n c)
  go_enter Try.func47, Try.ntmps47
  go_upto_region 1 with fail
  obtain ⟨w1, hw1⟩ : ∃ W, W = (w.alloc (.cells #[.slice (some ⟨b, 0, none⟩) n c] 77)).alloc (.cells #[.slice none 0 0] 77) := ⟨_, rfl⟩
  rw [← hw1] at X0 ⊢
  have hgg : w.heap.size + 1 ≠ w.heap.size := by omega
  obtain ⟨gr, hgr⟩ : ∃ g, w.heap.size + 1 = g := ⟨_, rfl⟩
  rw [hgr] at hgg
  obtain ⟨g, hg0⟩ : ∃ g, w.heap.size = g := ⟨_, rfl⟩
  have hgg : gr ≠ g := by rw [← hg0]; exact hgg
  have X1 : CC w g gr (.slice (some ⟨b, 0, none⟩) n c) w1 := by rw [← hgr, ← hg0]; exact X0
  rw [hgr, hg0]
  clear hw1 X0 hg0 hgr
  have c1 := X1.c0
  have hpe := pcerr (.agg #[.slice (some ⟨b, 0, none⟩) n c]) L z w1 ⟨_, rfl, HLC.out.below X1.b⟩ HL.out (by rw [HN.out]; exact hz)
  have HPE := Lib.hid hpe
  clear hpe
  go_wp2_with fail
  refine HPE.out.mono ?_
  rintro e w2 ⟨rfl, b2⟩
  have X2 := X1.below b2
  have c2 := X2.c0
  clear X1 c1 b2 HPE
  obtain ⟨a', m, c', d2, hm, hsl⟩ := (HLC.out.below X2.b).at HZL.out
  have hm6 := HL.out.len HZL.out
  rw [hm] at hm6
  have HM := Lib.hid hm; have HSL := Lib.hid hsl
  clear hm hsl
  go_upto_region 5 with ((with_reducible refine wpList_mk (.int .i64 0) Try.underlying28 infoI rfl ?_ ?_ (Nat.le_refl m) (by omega) (by omega) ?_); (focus rfl); (focus rfl); intro w3 hB3 b3 hs3)
  have X3 := X2.below b3
  have c3 := X3.c0
  have d3 := cell_later b3 d2
  have s3 := HSL.out.below b3
  have hlb : w.heap.size ≤ w2.heap.size := X2.b.size
  obtain ⟨nb, hnb⟩ : ∃ z, w2.heap.size = z := ⟨_, rfl⟩
  rw [hnb] at hB3 hlb ⊢
  clear hnb hs3 b3 X2 c2 d2 HSL
  have hmm := Lib.hid (show m = Nat.min l.length m by rw [HM.out]; exact (Nat.min_self m).symm)
  have hfit : 0 + m ≤ (List.replicate m (Value.int IntKind.i64 0)).length := by simp
  go_upto_region 6 with ((with_reducible refine wpList_cp (g := nb) (off := 0) (n := m) (c := m) (m := m) (v := .slice a' m c') (l := l) ?_ ?_ s3 hB3 hmm.out hfit ?_); (focus rfl); (focus rfl); intro w4 hB4 hg4)
  have hB4' : Blk w4 nb 3 (nums l) := by
    have e : lay (List.replicate m (Value.int IntKind.i64 0)) 0 (nums (l.take m)) = nums l := by
      rw [List.take_of_length_le (by rw [HM.out]; exact Nat.le_refl _)]
      simp [lay, nums, HM.out]
    rw [← e]; exact hB4
  have X4 : CC w g gr (.slice (some ⟨b, 0, none⟩) n c) w4 := ⟨X3.b.grown hg4 X3.b.size (fun q hq => by cases hq; exact hlb), X3.x.grown hg4 (by simpa using hB3.ne_type X3.x (by decide)), X3.z.grown hg4 (by simpa using hB3.ne_type X3.z (by decide)), X3.lr⟩
  have S4 : Sl w4 (.slice (some ⟨nb, 0, none⟩) m m) l := Sl.row hB4' HM.out (Nat.le_refl _) (by unfold maxLen; omega) (fun _ _ => rfl)
  have c4 := X4.c0
  have HRE := Lib.hid (replace (.agg #[.slice (some ⟨b, 0, none⟩) n c]) L z (.slice none 0 0) [] w4 ⟨_, rfl, HLC.out.below X4.b⟩ HL.out (by rw [HN.out]; exact hz) (Sl.nil _) (by simp))
  clear hB4 hg4 hB4' s3 d3 c3 X3 hB3 hfit hmm
  go_wp2_with fail
  refine HRE.out.mono ?_
  rintro e w5 ⟨v', rfl, ⟨v5, rfl, hv5⟩, b5⟩
  have X5 := X4.below b5
  have S5 := S4.below b5
  obtain ⟨b', cc', hv5f, _, _⟩ := hv5.form
  have h1v : v5.oneCell' = true := by rw [hv5f]; rfl
  have z5 := X5.z
  clear X4 S4 b5 c4 HRE hv5f
  go_wp2_with ((with_reducible refine stC (u := .slice none 0 0) (v := v5) ?_ ?_ z5 h1v ?_); (focus rfl); (focus rfl); intro w6 hB6 hg6)
  refine bodyPost_ret (resC2 rfl _ _ gr _ _ _ rfl hB6 rfl rfl) rfl ?_
  refine ⟨_, _, rfl, ⟨_, rfl, hv5.grown z5 (by decide) (by decide) hg6⟩, S5.grown z5 (by decide) hg6, X5.b.grown hg6 X5.b.size (fun q hq => by cases hq; exact X5.lr)⟩
theorem Sl.init {w : World} {a : Option Addr} {q c : Nat} {l : List Int} {x : Int} (h : Sl w (.slice a (q + 1) c) (l ++ [x])) (hq : l.length = q) : Sl w (.slice a q c) l ∧ ∃ bb off, a = some ⟨bb, off, none⟩ ∧ w.cell? ⟨bb, off + q, none⟩ = some (.int .i64 x) ∧ ∃ bs, Blk w bb 3 bs := by
  obtain ⟨a', c', h1, h2, h3, h4, h5⟩ := h
  have hll : (l ++ [x]).length = q + 1 := by simp [hq]
  rw [hll] at h1
  cases h1
  rw [hll] at h2
  obtain ⟨bb, off, ha, hb, hc⟩ := h5 (by rw [hll]; omega)
  refine ⟨⟨a, c, by rw [hq], by omega, h3, h4, fun h0 => ⟨bb, off, ha, hb, fun i hi => ?_⟩⟩, bb, off, ha, ?_, hb⟩
  · rw [hc i (by rw [hll]; omega)]
    simp [List.getD_eq_getElem?_getD, List.getElem?_append_left hi]
  · rw [hc q (by rw [hll]; omega)]
    simp [List.getD_eq_getElem?_getD, hq]
set_option maxRecDepth 100000 in set_option maxHeartbeats 3200000 in
theorem pctake (v : Value) (L : List (List Int)) (z : Nat) (l : List Int) (x : Int) (w : World) (H : Rc w v L) (hL : VC L) (hzl : L[z]? = some (l ++ [x])) : Calls Try.prog 32 #[v, .int .i64 z] w fun e w' => ∃ v', e = .returned (.tuple #[v', .int .i64 x, .int .i64 0]) ∧ Rc w' v' (L.set z l) ∧ Below w.heap.size w w' := by
  have HL := Lib.hid hL; have HZL := Lib.hid hzl
  have hn6 := hL.l6
  have hz : z < L.length := by rw [List.getElem?_eq_some_iff] at hzl; exact hzl.1
  clear hL hzl
  obtain ⟨v0, rfl, hLc⟩ := H
  obtain ⟨b, c, hv0, hlc, hcm⟩ := hLc.form
  obtain ⟨n, hn⟩ : ∃ n, L.length = n := ⟨_, rfl⟩
  rw [hn] at hv0 hlc hz hn6
  subst hv0
  have HN := Lib.hid hn; have HLC := Lib.hid hLc
  clear hn hLc
  have X0 := CC.new w (.slice (some ⟨b, 0, none⟩) n c)
  go_enter Try.func32, Try.ntmps32
  go_upto_region 1 with fail
  obtain ⟨w1, hw1⟩ : ∃ W, W = (w.alloc (.cells #[.slice (some ⟨b, 0, none⟩) n c] 77)).alloc (.cells #[.slice none 0 0] 77) := ⟨_, rfl⟩
  rw [← hw1] at X0 ⊢
  have hgg : w.heap.size + 1 ≠ w.heap.size := by omega
  obtain ⟨gr, hgr⟩ : ∃ g, w.heap.size + 1 = g := ⟨_, rfl⟩
  rw [hgr] at hgg
  obtain ⟨g, hg0⟩ : ∃ g, w.heap.size = g := ⟨_, rfl⟩
  have hgg : gr ≠ g := by rw [← hg0]; exact hgg
  have X1 : CC w g gr (.slice (some ⟨b, 0, none⟩) n c) w1 := by rw [← hgr, ← hg0]; exact X0
  rw [hgr, hg0]
  clear hw1 X0 hg0 hgr
  have c1 := X1.c0
  have hpe := pcerr (.agg #[.slice (some ⟨b, 0, none⟩) n c]) L z w1 ⟨_, rfl, HLC.out.below X1.b⟩ HL.out (by rw [HN.out]; exact hz)
  have HPE := Lib.hid hpe
  clear hpe
  go_wp2_with fail
  refine HPE.out.mono ?_
  rintro e w2 ⟨rfl, b2⟩
  have X2 := X1.below b2
  have c2 := X2.c0
  clear X1 c1 b2 HPE
  obtain ⟨q, hq⟩ : ∃ q, l.length = q := ⟨_, rfl⟩
  obtain ⟨a', m, c', d2, hm, hsl⟩ := (HLC.out.below X2.b).at HZL.out
  have hm6 := HL.out.len HZL.out
  have hmq : (l ++ [x]).length = q + 1 := by simp [hq]
  rw [hmq] at hm hm6
  subst hm
  obtain ⟨hsi, bb, off, rfl, cx, bsb, hbb⟩ := hsl.init hq
  have hqc : q + 1 ≤ c' := by obtain ⟨_, _, e1, e2, _⟩ := hsl; rw [hmq] at e1 e2; cases e1; exact e2
  have HQ := Lib.hid hq; have HSI := Lib.hid hsi
  have eq : ((q + 1 : Nat) : Int) - 1 = (q : Int) := by omega
  have hq6 : l.length ≤ 256 := by omega
  clear hsl hsi hq hmq
  have tq : (((q + 1 : Nat) : Int) == 0) = false := by simp; omega
  go_wp2
  refine wp_region_plan (fun U => U.cell? ⟨g, 0, none⟩ = some (.slice (some ⟨b, 0, none⟩) n c) ∧ U.cell? ⟨bb, off + q, none⟩ = some (.int .i64 x)) (.quiet [0, 1, 2, 3, 4, 6, 7, 8, 9] (.only 5 (.only 10 (.quiet [11, 12] .done)))) 99 (by kernel_rfl) (by kernel_rfl) ⟨c2, cx⟩ ?_
  intro W hW hWe
  have bW : Below w2.heap.size w2 W := by rw [hWe]; exact (Below.refl _ _).drew
  clear hWe
  have X3 := X2.below bW
  have hbb3 := hbb.later bW
  have HRE := Lib.hid (replace (.agg #[.slice (some ⟨b, 0, none⟩) n c]) L z (.slice (some ⟨bb, off, none⟩) q c') l W ⟨_, rfl, HLC.out.below X3.b⟩ HL.out (by rw [HN.out]; exact hz) (HSI.out.below bW) hq6)
  have cx3 := cell_later bW cx
  simp only [wpPlan, inOrder, List.filterMap_cons, List.filterMap_nil, List.getElem?_cons_zero, List.getElem?_cons_succ]
  have q0 := fun z => (hold_ok (S0 := fun U => U.cell? ⟨g, 0, none⟩ = some (.slice (some ⟨b, 0, none⟩) n c) ∧ U.cell? ⟨bb, off + q, none⟩ = some (.int .i64 x)) hW z).1
  have q1 := fun z => (hold_ok (S0 := fun U => U.cell? ⟨g, 0, none⟩ = some (.slice (some ⟨b, 0, none⟩) n c) ∧ U.cell? ⟨bb, off + q, none⟩ = some (.int .i64 x)) hW z).2
  show wpQuiet _ _ _ _ (_ :: _ :: _ :: _ :: _ :: _ :: _ :: _ :: [_]) _
  repeat (go_big_quiet_step (fail))
  refine wpQuiet_nil ?_
  clear q0 q1 X2 c2 cx HSI bW hbb
  show wpList _ _ _ [_] _ _
  go_wp2_with fail
  refine HRE.out.mono ?_
  rintro e w5 ⟨v', rfl, ⟨v5, rfl, hv5⟩, b5⟩
  have X5 := X3.below b5
  have cx5 := cell_later b5 cx3
  have hbb5 := hbb3.later b5
  obtain ⟨b', cc', hv5f, _, _⟩ := hv5.form
  have h1v : v5.oneCell' = true := by rw [hv5f]; rfl
  have z5 := X5.z
  clear X3 b5 HRE hv5f cx3 hW hbb3
  go_wp2
  refine ⟨hold_of ⟨X5.c0, cx5⟩, ?_⟩
  show wpList _ _ _ [_] _ _
  go_wp2_with ((with_reducible refine stC (u := .slice none 0 0) (v := v5) ?_ ?_ z5 h1v ?_); (focus rfl); (focus rfl); intro w6 hB6 hg6)
  have x6 := X5.x.grown hg6 (by simpa using hgg)
  have cx6 := hg6.cell cx5 (by simpa using hbb5.ne_type z5 (by decide))
  refine ⟨hold_of ⟨by rw [x6.cell]; rfl, cx6⟩, ?_⟩
  simp only [Act.put]
  show wpQuiet _ _ _ _ (_ :: [_]) _
  repeat (go_big_quiet_step (fail))
  refine wpQuiet_nil ?_
  refine NoPanic.normal ?_
  go_wp2
  refine bodyPost_ret (resC2 rfl _ _ gr _ _ _ rfl hB6 rfl rfl) rfl ?_
  exact ⟨_, rfl, ⟨_, rfl, hv5.grown z5 (by decide) (by decide) hg6⟩, X5.b.grown hg6 X5.b.size (fun q hq => by cases hq; exact X5.lr)⟩
end Go.Proofs.Ytdddkfpcbfgocaa
namespace Go.Proofs.Ytdddkfpcbfgocaa
open Go.RowKit Go.Over Go.Zn Go.Can Go.Seg Go.Grow
section
variable {ops : Array Oper} {rest : List Oper} {d i j : Nat} {ty : TypeId} {pos : String} {af : Array Edge} {a : Act} {w : World} {Q : Exit → Act → World → Prop}
/-- One number is appended to a row of a call's own. -/
theorem wpList_app1 {base b : Nat} {v : Value} {l : List Int} {x : Int} (hs : a.eval (.tmp i) = v) (hx : a.eval (.tmp j) = .slice (some ⟨b, 0, none⟩) 1 1) (hO : Own w base v l) (hB : Blk w b 3 [.int .i64 x]) (hl : l.length ≤ 900000) (hb : base ≤ w.heap.size)
    (h : ∀ v' w', Own w' base v' (l ++ [x]) → w.grownBy w' v.ownBlock → wpList Try.prog ops Q rest (a.put (some d) v') w') :
    wpList Try.prog ops Q ({ dst := some d, op := .call { callee := .builtin .append, args := #[.tmp i, .tmp j], argTypes := #[28, 28] }, type := ty, pos := pos, after := af, guard := none } :: rest) a w := by
  refine wpList_append_k K22 rfl (.tmp i) (.tmp j) rfl v l.length (nums l) hs hO (some ⟨b, 0, none⟩) 1 1 [.int .i64 x] hx ⟨rfl, by simp [Value.oneCell'], .inr ⟨_, rfl, fun k u hk => ?_⟩⟩ (by omega) hb fun v' w' q1 q2 _ => h v' w' ?_ q2
  · rw [add_off, Nat.zero_add, hB.cell]; exact hk
  · unfold Own
    have e1 : (l ++ [x]).length = l.length + 1 := by simp
    have e2 : nums (l ++ [x]) = nums l ++ [.int .i64 x] := by simp [nums]
    rw [e1, e2]
    exact q1
end
theorem CC.grown {w W W' : World} {g gr : Nat} {v0 : Value} {q t : Nat} {cs : List Value} (h : CC w g gr v0 W) (hB : Blk W q t cs) (ht : t ≠ 77) (hq : w.heap.size ≤ q) (hg : W.grownBy W' (some q)) : CC w g gr v0 W' :=
  ⟨h.b.grown hg h.b.size (fun k hk => by cases hk; exact hq), h.x.grown hg (by simpa using hB.ne_type h.x ht), h.z.grown hg (by simpa using hB.ne_type h.z ht), h.lr⟩
theorem CC.mapped {w W W' : World} {g gr m : Nat} {v0 : Value} {s : List Int} (h : CC w g gr v0 W) (hm : Ms W m s) (hq : w.heap.size ≤ m) (hg : W.grownBy W' (some m)) : CC w g gr v0 W' :=
  ⟨h.b.grown hg h.b.size (fun k hk => by cases hk; exact hq), h.x.grown hg (by simpa using hm.ne h.x), h.z.grown hg (by simpa using hm.ne h.z), h.lr⟩
theorem CC.own {w W W' : World} {g gr : Nat} {v0 v : Value} {l : List Int} (h : CC w g gr v0 W) (hO : Own W w.heap.size v l) (hg : W.grownBy W' v.ownBlock) : CC w g gr v0 W' :=
  ⟨h.b.grown hg h.b.size (fun k hk => (World.ownsRow.lt hO k hk).1), h.x.grown hg (h.x.not_own hO (by decide)), h.z.grown hg (h.z.not_own hO (by decide)), h.lr⟩
/-- What is added to a cache. -/
structure Adds (L : List (List Int)) (add : List Int) : Prop where
  nd : add.Nodup
  rg : ∀ x ∈ add, 0 ≤ x ∧ x < 256
  ap : ∀ x ∈ add, x ∉ L.flatten
theorem Adds.len {L : List (List Int)} {add : List Int} (h : Adds L add) (hL : VC L) : L.flatten.length + add.length ≤ 256 := by
  have := nodup_len (l := L.flatten ++ add) (m := cov 0 256) (List.nodup_append.2 ⟨hL.nd, h.nd, fun a ha b hb e => h.ap b hb (e ▸ ha)⟩) cov_nodup fun x hx => mem_cov.2 (by
    rcases List.mem_append.1 hx with h1 | h1
    · have := hL.rg x h1; omega
    · have := h.rg x h1; omega)
  rw [cov_len, List.length_append] at this
  exact this
theorem Adds.new {L : List (List Int)} {add : List Int} (h : Adds L add) {i : Nat} {x : Int} (hx : add[i]? = some x) : x ∉ L.flatten ++ add.take i ∧ 0 ≤ x ∧ x < 256 := by
  have hm := List.mem_of_getElem? hx
  refine ⟨fun hc => ?_, h.rg x hm⟩
  rcases List.mem_append.1 hc with h1 | h1
  · exact h.ap x hm h1
  · obtain ⟨r, hr⟩ : ∃ r, add = add.take i ++ x :: r := ⟨_, by rw [← drop_get hx, List.take_append_drop]⟩
    have hnd := h.nd
    rw [hr, List.nodup_append] at hnd
    exact hnd.2.2 x h1 x (by simp) rfl
set_option maxRecDepth 100000 in set_option maxHeartbeats 3200000 in
theorem pcrefill (v : Value) (L : List (List Int)) (z : Nat) (l : List Int) (va : Value) (add : List Int) (w : World) (H : Rc w v L) (hL : VC L) (hzl : L[z]? = some l) (ha : Sl w va add) (hA : Adds L add) :
    Calls Try.prog 61 #[v, .int .i64 z, va] w fun e w' => ∃ v', e = .returned (.tuple #[v', .int .i64 0]) ∧ Rc w' v' (L.set z (l ++ add.reverse)) ∧ Below w.heap.size w w' := by
  have HL := Lib.hid hL; have HZL := Lib.hid hzl; have HAA := Lib.hid hA; have HA := Lib.hid ha
  have hn6 := hL.l6
  have hz : z < L.length := by rw [List.getElem?_eq_some_iff] at hzl; exact hzl.1
  have hsum := hA.len hL
  have hll := hL.len hzl
  have hlf : l.length ≤ L.flatten.length := (List.sublist_flatten_of_mem (List.mem_of_getElem? hzl)).length_le
  obtain ⟨ad, na, ca, hva, hna⟩ : ∃ a m c, va = .slice a m c ∧ add.length = m := by obtain ⟨a, c, h, _⟩ := ha; exact ⟨a, _, c, h, rfl⟩
  subst hva
  have hla : l.length + na ≤ 256 := by omega
  rw [hna] at hsum
  have HNA := Lib.hid hna
  clear hL hzl hA ha hna hlf hll
  obtain ⟨v0, rfl, hLc⟩ := H
  obtain ⟨b, c, hv0, hlc, hcm⟩ := hLc.form
  obtain ⟨n, hn⟩ : ∃ n, L.length = n := ⟨_, rfl⟩
  rw [hn] at hv0 hlc hz hn6
  subst hv0
  have HN := Lib.hid hn; have HLC := Lib.hid hLc
  clear hn hLc
  have X0 := CC.new w (.slice (some ⟨b, 0, none⟩) n c)
  go_enter Try.func61, Try.ntmps61
  go_upto_region 1 with fail
  obtain ⟨w1, hw1⟩ : ∃ W, W = (w.alloc (.cells #[.slice (some ⟨b, 0, none⟩) n c] 77)).alloc (.cells #[.slice none 0 0] 77) := ⟨_, rfl⟩
  rw [← hw1] at X0 ⊢
  have hgg : w.heap.size + 1 ≠ w.heap.size := by omega
  obtain ⟨gr, hgr⟩ : ∃ g, w.heap.size + 1 = g := ⟨_, rfl⟩
  rw [hgr] at hgg
  obtain ⟨g, hg0⟩ : ∃ g, w.heap.size = g := ⟨_, rfl⟩
  have hgg : gr ≠ g := by rw [← hg0]; exact hgg
  have X1 : CC w g gr (.slice (some ⟨b, 0, none⟩) n c) w1 := by rw [← hgr, ← hg0]; exact X0
  rw [hgr, hg0]
  clear hw1 X0 hg0 hgr
  have c1 := X1.c0
  have hpe := pcerr (.agg #[.slice (some ⟨b, 0, none⟩) n c]) L z w1 ⟨_, rfl, HLC.out.below X1.b⟩ HL.out (by rw [HN.out]; exact hz)
  have HPE := Lib.hid hpe
  clear hpe
  go_wp2_with fail
  refine HPE.out.mono ?_
  rintro e w2 ⟨rfl, b2⟩
  have X2 := X1.below b2
  have c2 := X2.c0
  clear X1 c1 b2 HPE
  have HFR := Lib.hid (frames (.agg #[.slice (some ⟨b, 0, none⟩) n c]) L w2 ⟨_, rfl, HLC.out.below X2.b⟩ HL.out)
  go_wp2_with fail
  refine HFR.out.mono ?_
  rintro e w3 ⟨m, rfl, M3, b3, hlm⟩
  have hlm : w.heap.size ≤ m := Nat.le_trans X2.b.size hlm
  have X3 := X2.below b3
  have M30 : Ms w3 m (L.flatten ++ add.take 0) := by simpa using M3
  clear X2 c2 b3 HFR M3
  go_wp2
  go_loopg [25] na (fun gg v25 wr => ∃ i : Nat, i + gg = na ∧ v25 = .int .i64 i ∧ CC w g gr (.slice (some ⟨b, 0, none⟩) n c) wr ∧ Ms wr m (L.flatten ++ add.take i))
  case atStart => exact ⟨0, by omega, rfl, X3, M30⟩
  case round =>
    clear X3 M30
    obtain ⟨i, hi, rfl, X4, M4⟩ := hrel
    cases gk with
    | succ gg =>
      have hin : i < na := by omega
      have HI := Lib.hid hi
      obtain ⟨x, hx⟩ := get_some HNA.out hin
      obtain ⟨q1, q3, q4⟩ := HAA.out.new hx
      obtain ⟨a', c', hva, _, _, _, hI⟩ := HA.out.below X4.b
      rw [HNA.out] at hva
      obtain ⟨b', off, hab, cx⟩ := hI.at hx
      cases hva
      subst hab
      have hwf := wf_small q3 q4
      have hlk := Ms.run M4 q3 q4
      have hct : (L.flatten ++ add.take i).contains x = false := by simpa using q1
      rw [hct] at hlk
      have hln : (L.flatten ++ add.take i).length < maxLen := by rw [List.length_append, List.length_take]; unfold maxLen; omega
      have HE := Lib.hid (show L.flatten ++ add.take (i + 1) = (L.flatten ++ add.take i) ++ [x] by
        rw [List.take_add_one, hx, List.append_assoc]; rfl)
      have HQ := Lib.hid q1
      clear hi hx hI hct q1
      go_wp2_with fail
      refine (isframe x _ q3 q4).mono ?_
      rintro e w5 ⟨rfl, rfl⟩
      have q1 := HQ.out
      go_wp2_with ((with_reducible refine wpList_add Try.underlying94 Try.underlying3 Try.underlying4 ?_ ?_ M4 hwf q1 hln ?_); (focus rfl); (focus rfl); intro w5 M5 hg5)
      have X5 := X4.mapped M4 hlm hg5
      rw [← HE.out] at M5
      clear M4 hg5 X4 cx hlk q1
      go_wp2
      go_roundg gg
      case rel => exact ⟨i + 1, by have := HI.out; omega, by go_num, X5, M5⟩
      case measure => omega
    | zero =>
      have hin : ¬ i < na := by omega
      clear hi M4
      obtain ⟨a', q, c', d4, hq, hsl⟩ := (HLC.out.below X4.b).at HZL.out
      have c4 := X4.c0
      have HQ := Lib.hid hq; have HSL := Lib.hid hsl
      rw [hq] at hla
      clear hq hsl
      go_upto_region 15 with ((with_reducible refine wpList_mk (.int .i64 0) Try.underlying28 infoI rfl ?_ ?_ (Nat.le_refl q) (by omega) (by omega) ?_); (focus rfl); (focus rfl); intro w5 hB5 b5 hs5)
      have X5 := X4.below b5
      have c5 := X5.c0
      have d5 := cell_later b5 d4
      have s5 := HSL.out.below b5
      have hlb : w.heap.size ≤ wr.heap.size := X4.b.size
      obtain ⟨nb, hnb⟩ : ∃ z, wr.heap.size = z := ⟨_, rfl⟩
      rw [hnb] at hB5 hlb ⊢
      clear hnb hs5 b5 X4 c4 d4 HSL
      have hmm := Lib.hid (show q = Nat.min l.length q by rw [HQ.out]; exact (Nat.min_self q).symm)
      have hfit : 0 + q ≤ (List.replicate q (Value.int IntKind.i64 0)).length := by simp
      go_upto_region 16 with ((with_reducible refine wpList_cp (g := nb) (off := 0) (n := q) (c := q) (m := q) (v := .slice a' q c') (l := l) ?_ ?_ s5 hB5 hmm.out hfit ?_); (focus rfl); (focus rfl); intro w6 hB6 hg6)
      have hB6' : Blk w6 nb 3 (nums l) := by
        have e : lay (List.replicate q (Value.int IntKind.i64 0)) 0 (nums (l.take q)) = nums l := by
          rw [List.take_of_length_le (by rw [HQ.out]; exact Nat.le_refl _)]
          simp [lay, nums, HQ.out]
        rw [← e]; exact hB6
      have X6 := X5.grown hB5 (by decide) hlb hg6
      have O6 : Own w6 w.heap.size (.slice (some ⟨nb, 0, none⟩) q q) (l ++ add.reverse.take 0) := by
        rw [List.take_zero, List.append_nil]
        unfold Own
        rw [HQ.out]
        exact row_shut hlb hB6' (Nat.le_refl _) (by unfold maxLen; omega) (by simp [nums, HQ.out]) (by rw [List.take_of_length_le (by simp [nums, HQ.out])])
      have HRN := Lib.hid (show add.reverse.length = na by rw [List.length_reverse, HNA.out])
      clear hB6 hg6 hB6' s5 d5 c5 X5 hB5 hfit hmm
      go_wp2
      go_loopg [56, 12] na (fun gg v56 v12 wr => ∃ i : Nat, i + gg = na ∧ v56 = .int .i64 i ∧ CC w g gr (.slice (some ⟨b, 0, none⟩) n c) wr ∧ Own wr w.heap.size v12 (l ++ add.reverse.take i))
      case atStart => exact ⟨0, by omega, rfl, X6, O6⟩
      case round =>
        clear X6 O6
        obtain ⟨j, hj, rfl, X7, O7⟩ := hrel
        cases gk with
        | succ gg =>
          have hjn : j < na := by omega
          have HJ := Lib.hid hj
          obtain ⟨r, hr⟩ : ∃ r, na = j + r + 1 := ⟨na - j - 1, by omega⟩
          have hrn : r < na := by omega
          have er : (na : Int) - 1 - (j : Int) = (r : Int) := by omega
          obtain ⟨x, hx⟩ := get_some HNA.out hrn
          have hxr : add.reverse[j]? = some x := by
            rw [List.getElem?_reverse (by rw [HNA.out]; exact hjn), HNA.out, show na - 1 - j = r by omega]; exact hx
          obtain ⟨a', c', hva, _, _, _, hI⟩ := HA.out.below X7.b
          rw [HNA.out] at hva
          obtain ⟨b', off, hab, cx⟩ := hI.at hx
          cases hva
          subst hab
          have HE := Lib.hid (show l ++ add.reverse.take (j + 1) = (l ++ add.reverse.take j) ++ [x] by
            rw [List.take_add_one, hxr, List.append_assoc]; rfl)
          have hlen : (l ++ add.reverse.take j).length ≤ 900000 := by rw [List.length_append, HQ.out, List.length_take, HRN.out]; omega
          have bN := below_box wr (.cells #[.int .i64 x] 3)
          have O8 := O7.later bN
          have X8 := X7.below bN
          have hB8 := Blk.new wr 3 #[.int .i64 x] [.int .i64 x] rfl
          have hb8 := X8.b.size
          clear hj hx hxr hI hr
          go_wp2_with ((with_reducible refine wpList_app1 (base := w.heap.size) (b := wr.heap.size) (x := x) ?_ ?_ O8 hB8 hlen hb8 ?_); (focus rfl); (focus rfl); intro v9 w9 O9 hg9)
          have X9 := X8.own O8 hg9
          rw [← HE.out] at O9
          clear X7 X8 O7 O8 bN hB8 hb8 hg9 cx hlen
          go_roundg gg
          case rel => exact ⟨j + 1, by have := HJ.out; omega, by go_num, X9, O9⟩
          case measure => omega
        | zero =>
          have hjn : ¬ j < na := by omega
          rw [List.take_of_length_le (by rw [HRN.out]; omega)] at O7
          have hl8 : (l ++ add.reverse).length ≤ 256 := by rw [List.length_append, HQ.out, HRN.out]; exact hla
          have HRE := Lib.hid (replace (.agg #[.slice (some ⟨b, 0, none⟩) n c]) L z _ (l ++ add.reverse) wr ⟨_, rfl, HLC.out.below X7.b⟩ HL.out (by rw [HN.out]; exact hz) O7.sl hl8)
          obtain ⟨a', c', hv12, _⟩ := own_form O7
          obtain ⟨nl, hnl⟩ : ∃ q, (l ++ add.reverse).length = q := ⟨_, rfl⟩
          rw [hnl] at hv12
          subst hv12
          have c7 := X7.c0
          clear hj hl8 O7 hnl
          go_wp2_with fail
          refine HRE.out.mono ?_
          rintro e w8 ⟨v', rfl, ⟨v8, rfl, hv8⟩, b8⟩
          have X8 := X7.below b8
          obtain ⟨_, _, hv8f, _, _⟩ := hv8.form
          have h1v : v8.oneCell' = true := by rw [hv8f]; rfl
          have z8 := X8.z
          clear X7 b8 c7 HRE hv8f
          go_wp2_with ((with_reducible refine stC (u := .slice none 0 0) (v := v8) ?_ ?_ z8 h1v ?_); (focus rfl); (focus rfl); intro w9 hB9 hg9)
          refine bodyPost_ret (resC1 rfl _ _ gr _ _ rfl hB9 rfl) rfl ?_
          exact ⟨_, rfl, ⟨_, rfl, hv8.grown z8 (by decide) (by decide) hg9⟩, X8.b.grown hg9 X8.b.size (fun q hq => by cases hq; exact X8.lr)⟩
end Go.Proofs.Ytdddkfpcbfgocaa
namespace Go.Proofs.Ytdddkfpcbfgocaa
open Go.RowKit Go.Over Go.Zn Go.Can Go.Seg Go.Grow
theorem Sl.drop {w : World} {b n c k : Nat} {l : List Int} (h : Sl w (.slice (some ⟨b, 0, none⟩) n c) l) (hn : l.length = n) (hk : k ≤ n) : Sl w (.slice (some ⟨b, k, none⟩) (n - k) (c - k)) (l.drop k) := by
  obtain ⟨a', c', h1, h2, h3, h4, h5⟩ := h
  cases h1
  refine ⟨some ⟨b, k, none⟩, c - k, by rw [List.length_drop], by rw [List.length_drop]; omega, by unfold maxLen at h3 ⊢; omega, fun h => (by cases h), fun h0 => ⟨b, k, rfl, ?_, fun i hi => ?_⟩⟩
  · rw [List.length_drop] at h0
    obtain ⟨b', off, ha, hb, _⟩ := h5 (by omega)
    cases ha
    exact hb
  · rw [List.length_drop] at hi
    obtain ⟨b', off, ha, _, hc⟩ := h5 (by omega)
    cases ha
    have := hc (k + i) (by omega)
    rw [Nat.zero_add] at this
    rw [this]
    simp [List.getD_eq_getElem?_getD]
/-- What a put gives: what is kept, and what is spilled. -/
def PutRes (w : World) (L : List (List Int)) (z : Nat) (l : List Int) (x : Int) (hi : Nat) (e : Ending) (w' : World) : Prop :=
  ∃ v' vs sp keep, e = .returned (.tuple #[v', vs, .int .i64 0]) ∧ Rc w' v' (L.set z keep) ∧ Sl w' vs sp ∧ l ++ [x] = sp ++ keep ∧ keep.length ≤ hi ∧ Below w.heap.size w w'
set_option maxRecDepth 100000 in set_option maxHeartbeats 3200000 in
theorem pcput (v : Value) (L : List (List Int)) (z : Nat) (l : List Int) (x : Int) (bt hi : Nat) (w : World) (H : Rc w v L) (hL : VC L) (hzl : L[z]? = some l) (h0 : 0 ≤ x) (h1 : x < 256) (hx : x ∉ L.flatten) (hb1 : 1 ≤ bt) (hbh : bt ≤ hi) (hh : hi ≤ 64) (hlh : l.length ≤ hi) :
    Calls Try.prog 35 #[v, .int .i64 z, .int .i64 x, .int .i64 bt, .int .i64 hi] w (PutRes w L z l x hi) := by
  have HL := Lib.hid hL; have HZL := Lib.hid hzl; have HX := Lib.hid hx
  have hn6 := hL.l6
  have hz : z < L.length := by rw [List.getElem?_eq_some_iff] at hzl; exact hzl.1
  clear hL hzl hx
  obtain ⟨v0, rfl, hLc⟩ := H
  obtain ⟨b, c, hv0, hlc, hcm⟩ := hLc.form
  obtain ⟨n, hn⟩ : ∃ n, L.length = n := ⟨_, rfl⟩
  rw [hn] at hv0 hlc hz hn6
  subst hv0
  have HN := Lib.hid hn; have HLC := Lib.hid hLc
  clear hn hLc
  have X0 := CC.new w (.slice (some ⟨b, 0, none⟩) n c)
  go_enter Try.func35, Try.ntmps35
  go_upto_region 1 with fail
  obtain ⟨w1, hw1⟩ : ∃ W, W = (w.alloc (.cells #[.slice (some ⟨b, 0, none⟩) n c] 77)).alloc (.cells #[.slice none 0 0] 77) := ⟨_, rfl⟩
  rw [← hw1] at X0 ⊢
  have hgg : w.heap.size + 1 ≠ w.heap.size := by omega
  obtain ⟨gr, hgr⟩ : ∃ g, w.heap.size + 1 = g := ⟨_, rfl⟩
  rw [hgr] at hgg
  obtain ⟨g, hg0⟩ : ∃ g, w.heap.size = g := ⟨_, rfl⟩
  have hgg : gr ≠ g := by rw [← hg0]; exact hgg
  have X1 : CC w g gr (.slice (some ⟨b, 0, none⟩) n c) w1 := by rw [← hgr, ← hg0]; exact X0
  rw [hgr, hg0]
  clear hw1 X0 hg0 hgr
  have c1 := X1.c0
  have hpe := pcerr (.agg #[.slice (some ⟨b, 0, none⟩) n c]) L z w1 ⟨_, rfl, HLC.out.below X1.b⟩ HL.out (by rw [HN.out]; exact hz)
  have HPE := Lib.hid hpe
  clear hpe
  go_wp2_with fail
  refine HPE.out.mono ?_
  rintro e w2 ⟨rfl, b2⟩
  have X2 := X1.below b2
  have c2 := X2.c0
  clear X1 c1 b2 HPE
  go_wp2_with fail
  refine (isframe x _ h0 h1).mono ?_
  rintro e w3 ⟨rfl, rfl⟩
  have tb : decide ((bt : Int) < 1) = false := by simp; omega
  have th : decide ((bt : Int) > (hi : Int)) = false := by simp; omega
  have HFR := Lib.hid (frames (.agg #[.slice (some ⟨b, 0, none⟩) n c]) L w2 ⟨_, rfl, HLC.out.below X2.b⟩ HL.out)
  go_wp2_with fail
  refine HFR.out.mono ?_
  rintro e w3 ⟨m, rfl, M3, b3, _⟩
  have hlk := Ms.run M3 h0 h1
  rw [show L.flatten.contains x = false by simpa using HX.out] at hlk
  have X3 := X2.below b3
  have c3 := X3.c0
  obtain ⟨a', q, c', d3, hq, hsl⟩ := (HLC.out.below X3.b).at HZL.out
  have HQ := Lib.hid hq; have HSL := Lib.hid hsl
  rw [hq] at hlh
  clear X2 c2 b3 HFR M3 hq hsl
  go_upto_region 10 with fail
  clear hlk
  refine wp_region_plan (fun U => U.cell? ⟨g, 0, none⟩ = some (.slice (some ⟨b, 0, none⟩) n c) ∧ U.cell? ⟨b, z, none⟩ = some (.slice a' q c')) (.quiet [0, 1, 2, 3, 4, 5, 6, 7, 8, 9, 10, 11, 12] (.only 13 (.quiet [14] .done))) 99 (by kernel_rfl) (by kernel_rfl) ⟨c3, d3⟩ ?_
  intro W hW hWe
  have bW : Below w3.heap.size w3 W := by rw [hWe]; exact (Below.refl _ _).drew
  clear hWe
  simp only [wpPlan, inOrder, List.filterMap_cons, List.filterMap_nil, List.getElem?_cons_zero, List.getElem?_cons_succ]
  have q0 := fun z' => (hold_ok (S0 := fun U => U.cell? ⟨g, 0, none⟩ = some (.slice (some ⟨b, 0, none⟩) n c) ∧ U.cell? ⟨b, z, none⟩ = some (.slice a' q c')) hW z').1
  have q1 := fun z' => (hold_ok (S0 := fun U => U.cell? ⟨g, 0, none⟩ = some (.slice (some ⟨b, 0, none⟩) n c) ∧ U.cell? ⟨b, z, none⟩ = some (.slice a' q c')) hW z').2
  show wpQuiet _ _ _ _ (_ :: _ :: _ :: _ :: _ :: _ :: _ :: _ :: _ :: _ :: _ :: _ :: [_]) _
  repeat (go_big_quiet_step (fail))
  refine wpQuiet_nil ?_
  clear q0 q1
  have X4 := X3.below bW
  have s4 := HSL.out.below bW
  have d4 := cell_later bW d3
  have hlb : w.heap.size ≤ W.heap.size := X4.b.size
  clear X3 c3 d3 bW HSL hW
  show wpList _ _ _ [_] _ _
  go_wp2_with ((with_reducible refine wpList_mk (n := q) (c := q + 1) (.int .i64 0) Try.underlying28 infoI rfl ?_ ?_ (by omega) (by omega) (by omega) ?_); (focus rfl); (focus rfl); intro w5 hB5 b5 hs5)
  have X5 := X4.below b5
  have s5 := s4.below b5
  have d5 := cell_later b5 d4
  refine ⟨hold_of ⟨X5.c0, d5⟩, ?_⟩
  simp only [Act.put, List.setIfInBounds_toArray, List.set_cons_succ, List.set_cons_zero]
  show wpQuiet _ _ _ _ ([_]) _
  repeat (go_big_quiet_step (fail))
  refine wpQuiet_nil ?_
  refine NoPanic.normal ?_
  have c5 := X5.c0
  obtain ⟨nb, hnb⟩ : ∃ z, W.heap.size = z := ⟨_, rfl⟩
  rw [hnb] at hB5 hlb ⊢
  clear hnb hs5 b5 X4 d4 s4
  have hmm := Lib.hid (show q = Nat.min l.length q by rw [HQ.out]; exact (Nat.min_self q).symm)
  have hfit : 0 + q ≤ (List.replicate (q + 1) (Value.int IntKind.i64 0)).length := by simp
  go_upto_region 12 with ((with_reducible refine wpList_cp (g := nb) (off := 0) (n := q) (c := q + 1) (m := q) (v := .slice a' q c') (l := l) ?_ ?_ s5 hB5 hmm.out hfit ?_); (focus rfl); (focus rfl); intro w6 hB6 hg6)
  have hB6' : Blk w6 nb 3 (nums l ++ [.int .i64 0]) := by
    have e : lay (List.replicate (q + 1) (Value.int IntKind.i64 0)) 0 (nums (l.take q)) = nums l ++ [.int .i64 0] := by
      rw [List.take_of_length_le (by rw [HQ.out]; exact Nat.le_refl _)]
      simp [lay, nums, HQ.out]
    rw [← e]; exact hB6
  have X6 := X5.grown hB5 (by decide) hlb hg6
  have O6 : Own w6 w.heap.size (.slice (some ⟨nb, 0, none⟩) q (q + 1)) l := by
    unfold Own
    rw [HQ.out]
    exact row_shut hlb hB6' (by omega) (by unfold maxLen; omega) (by simp [nums, HQ.out]) (by simp [nums, HQ.out])
  clear hB6 hg6 hB6' s5 d5 c5 X5 hB5 hfit hmm
  have bN := below_box w6 (.cells #[.int .i64 x] 3)
  have O7 := O6.later bN
  have X7 := X6.below bN
  have hB7 := Blk.new w6 3 #[.int .i64 x] [.int .i64 x] rfl
  have hb7 := X7.b.size
  have hl9 : l.length ≤ 900000 := by rw [HQ.out]; omega
  go_upto_region 13 with ((with_reducible refine wpList_app1 (base := w.heap.size) (b := w6.heap.size) (x := x) ?_ ?_ O7 hB7 hl9 hb7 ?_); (focus rfl); (focus rfl); intro v8 w8 O8 hg8)
  have X8 := X7.own O7 hg8
  have hlq : (l ++ [x]).length = q + 1 := by simp [HQ.out]
  have HLQ := Lib.hid hlq
  clear X6 X7 O6 O7 bN hB7 hb7 hg8 hl9
  obtain ⟨ob, cap, hv8, hqc, hcm8⟩ : ∃ ob cap, v8 = .slice (some ⟨ob, 0, none⟩) (q + 1) cap ∧ q + 1 ≤ cap ∧ cap ≤ maxLen := by
    obtain ⟨g', cap, cur, e, _, _, e3, e4, _⟩ := row_open O8 (by omega)
    rw [hlq] at e e3
    exact ⟨g', cap, e, e3, e4⟩
  subst hv8
  have s8 := Lib.hid O8.sl
  have c8 := X8.c0
  clear O8 hlq
  by_cases hle : q + 1 ≤ hi
  · have tl : decide (((q : Int) + 1) ≤ (hi : Int)) = true := by simp; omega
    have hkl : (l ++ [x]).length ≤ 256 := by rw [HLQ.out]; omega
    have HRE := Lib.hid (replace (.agg #[.slice (some ⟨b, 0, none⟩) n c]) L z (.slice (some ⟨ob, 0, none⟩) (q + 1) cap) (l ++ [x]) w8 ⟨_, rfl, HLC.out.below X8.b⟩ HL.out (by rw [HN.out]; exact hz) s8.out hkl)
    clear hkl s8
    go_wp2_with fail
    refine HRE.out.mono ?_
    rintro e w9 ⟨v', rfl, ⟨v9, rfl, hv9⟩, b9⟩
    have X9 := X8.below b9
    obtain ⟨_, _, hv9f, _, _⟩ := hv9.form
    have h1v : v9.oneCell' = true := by rw [hv9f]; rfl
    have z9 := X9.z
    clear X8 b9 c8 HRE hv9f
    go_wp2_with ((with_reducible refine stC (u := .slice none 0 0) (v := v9) ?_ ?_ z9 h1v ?_); (focus rfl); (focus rfl); intro wA hBA hgA)
    refine bodyPost_ret (resC2 rfl _ _ gr _ _ _ rfl hBA rfl rfl) rfl ?_
    exact ⟨_, _, [], l ++ [x], rfl, ⟨_, rfl, hv9.grown z9 (by decide) (by decide) hgA⟩, Sl.nil _, rfl, by rw [HLQ.out]; exact hle, X9.b.grown hgA X9.b.size (fun q hq => by cases hq; exact X9.lr)⟩
  · have tl : decide (((q : Int) + 1) ≤ (hi : Int)) = false := by simp; omega
    obtain rfl : q = hi := by omega
    have hcb : ¬ cap = bt := by omega
    have HSD := Lib.hid (s8.out.drop HLQ.out (k := bt) (by omega))
    go_upto_region 16 with ((with_reducible refine wpList_mk (n := bt) (c := bt) (.int .i64 0) Try.underlying28 infoI rfl ?_ ?_ (by omega) (by omega) (by omega) ?_); (focus rfl); (focus rfl); intro w9 hB9 b9 hs9)
    have X9 := X8.below b9
    have s9 := s8.out.below b9
    have HSD9 := Lib.hid (HSD.out.below b9)
    have hlb : w.heap.size ≤ w8.heap.size := X8.b.size
    have hold : ∀ (bb : Nat) (bs : List Value), Blk w8 bb 3 bs → bb < w8.heap.size := fun _ _ h => h.lt
    obtain ⟨sb, hsb⟩ : ∃ z, w8.heap.size = z := ⟨_, rfl⟩
    rw [hsb] at hB9 hlb hold ⊢
    have hmm := Lib.hid (show bt = Nat.min (l ++ [x]).length bt by rw [HLQ.out]; exact (Nat.min_eq_right (by omega)).symm)
    have hfit : 0 + bt ≤ (List.replicate bt (Value.int IntKind.i64 0)).length := by simp
    go_upto_region 17 with ((with_reducible refine wpList_cp (g := sb) (off := 0) (n := bt) (c := bt) (m := bt) (v := .slice (some ⟨ob, 0, none⟩) (q + 1) cap) (l := l ++ [x]) ?_ ?_ s9 hB9 hmm.out hfit ?_); (focus rfl); (focus rfl); intro wA hBA hgA)
    have hBA' : Blk wA sb 3 (nums ((l ++ [x]).take bt)) := by
      have e : lay (List.replicate bt (Value.int IntKind.i64 0)) 0 (nums ((l ++ [x]).take bt)) = nums ((l ++ [x]).take bt) := by
        have hh : (nums ((l ++ [x]).take bt)).length = bt := by
          unfold nums
          rw [List.length_map, List.length_take, HLQ.out]; omega
        simp [lay, hh]
      rw [← e]; exact hBA
    have XA := X9.grown hB9 (by decide) hlb hgA
    have SA : Sl wA (.slice (some ⟨sb, 0, none⟩) bt bt) ((l ++ [x]).take bt) := Sl.row hBA' (by rw [List.length_take, HLQ.out]; omega) (Nat.le_refl _) (by unfold maxLen; omega) (fun _ _ => rfl)
    have HSDA := Lib.hid (HSD.out.past fun b' bs' hB' => (hB'.later b9).grown hgA (by have := hold b' bs' hB'; simp; omega))
    have cA := XA.c0
    clear hBA hgA hBA' s9 hB9 hfit hmm X9 HSD HSD9 b9 hold hs9 hsb X8 c8 s8
    simp only [Act.put, List.setIfInBounds_toArray, List.set_cons_succ, List.set_cons_zero]
    refine wp_region_plan (fun U => U.cell? ⟨g, 0, none⟩ = some (.slice (some ⟨b, 0, none⟩) n c)) (.quiet [0, 1, 2, 3, 4, 6] (.only 5 (.only 7 (.quiet [8, 9] .done)))) 99 (by kernel_rfl) (by kernel_rfl) cA ?_
    intro W hW hWe
    have bW : Below wA.heap.size wA W := by rw [hWe]; exact (Below.refl _ _).drew
    clear hWe
    have XB := XA.below bW
    have HRE := Lib.hid (replace (.agg #[.slice (some ⟨b, 0, none⟩) n c]) L z (.slice (some ⟨ob, bt, none⟩) (q + 1 - bt) (cap - bt)) ((l ++ [x]).drop bt) W ⟨_, rfl, HLC.out.below XB.b⟩ HL.out (by rw [HN.out]; exact hz) (HSDA.out.below bW) (by rw [List.length_drop, HLQ.out]; omega))
    have SB := SA.below bW
    simp only [wpPlan, inOrder, List.filterMap_cons, List.filterMap_nil, List.getElem?_cons_zero, List.getElem?_cons_succ]
    have q0 := fun z' => hold_ok (S0 := fun U => U.cell? ⟨g, 0, none⟩ = some (.slice (some ⟨b, 0, none⟩) n c)) hW z'
    show wpQuiet _ _ _ _ (_ :: _ :: _ :: _ :: _ :: [_]) _
    repeat (go_big_quiet_step (fail))
    refine wpQuiet_nil ?_
    clear q0 XA cA SA HSDA bW hW
    show wpList _ _ _ [_] _ _
    go_wp2_with fail
    refine HRE.out.mono ?_
    rintro e wC ⟨v', rfl, ⟨vC, rfl, hvC⟩, bC⟩
    have XC := XB.below bC
    have SC := SB.below bC
    obtain ⟨_, _, hvCf, _, _⟩ := hvC.form
    have h1v : vC.oneCell' = true := by rw [hvCf]; rfl
    have zC := XC.z
    clear XB SB bC HRE hvCf
    go_wp2
    refine ⟨hold_of XC.c0, ?_⟩
    show wpList _ _ _ [_] _ _
    go_wp2_with ((with_reducible refine stC (u := .slice none 0 0) (v := vC) ?_ ?_ zC h1v ?_); (focus rfl); (focus rfl); intro wD hBD hgD)
    have xD := XC.x.grown hgD (by simpa using hgg)
    refine ⟨hold_of (by rw [xD.cell]; rfl), ?_⟩
    simp only [Act.put]
    show wpQuiet _ _ _ _ (_ :: [_]) _
    repeat (go_big_quiet_step (fail))
    refine wpQuiet_nil ?_
    refine NoPanic.normal ?_
    go_wp2
    refine bodyPost_ret (resC2 rfl _ _ gr _ _ _ rfl hBD rfl rfl) rfl ?_
    exact ⟨_, _, (l ++ [x]).take bt, (l ++ [x]).drop bt, rfl, ⟨_, rfl, hvC.grown zC (by decide) (by decide) hgD⟩, SC.grown zC (by decide) hgD, (List.take_append_drop _ _).symm, by rw [List.length_drop, HLQ.out]; omega, XC.b.grown hgD XC.b.size (fun q hq => by cases hq; exact XC.lr)⟩
end Go.Proofs.Ytdddkfpcbfgocaa
namespace Go.Zn
def keyP (a b : Int) : Int := if b < a then 2 * (a - b) else 2 * (b - a) + 1
def rkP (zs : List Z) (node i : Int) : Int := 2 * keyP node (zs.getD i.toNat noZ).nd + (if (zs.getD i.toNat noZ).kd = 0 then 1 else 0)
/-- Zones whose parameters are in range. -/
structure ZG (zs : List Z) : Prop where
  l1 : 1 ≤ zs.length
  l6 : zs.length ≤ 6
  r : ∀ z ∈ zs, Rng z
end Go.Zn
namespace Go.Proofs.Ytdddkfpcbfgocaa
open Go.RowKit Go.Over Go.Zn Go.Can Go.Seg Go.Grow
/-- Zones in a block. -/
structure QV (w : World) (b : Nat) (zc : List Value) (zs : List Z) : Prop where
  x : Blk w b 39 zc
  n : 10 * zs.length ≤ zc.length
  row : ∀ (i : Nat) (z : Z), zs[i]? = some z → ZV w (seg zc (i * 10) 10) z
section
variable {w w' : World} {b : Nat} {zc : List Value} {zs : List Z}
theorem QV.below (h : QV w b zc zs) (hb : Below w.heap.size w w') : QV w' b zc zs := ⟨h.x.later hb, h.n, fun i z hz => (h.row i z hz).below hb⟩
theorem ZV.past {cs : List Value} {z : Z} (h : ZV w cs z) (hk : ∀ b bs, Blk w b 3 bs → Blk w' b 3 bs) : ZV w' cs z :=
  ⟨h.len, h.nd, h.kd, h.st, h.ct, h.mn, fun k hk' => by obtain ⟨v, h1, h2⟩ := h.fr k hk'; exact ⟨v, h1, h2.past hk⟩⟩
theorem QV.get (h : QV w b zc zs) {i : Nat} {z : Z} (hz : zs[i]? = some z) : ∀ (j : Nat) (v : Value), (seg zc (i * 10) 10)[j]? = some v → zc[i * 10 + j]? = some v := fun j v hj => by
  have hlen := (h.row i z hz).len
  have hj10 : j < 10 := by rw [List.getElem?_eq_some_iff] at hj; obtain ⟨h, _⟩ := hj; omega
  rw [seg_get hj10] at hj
  exact hj
theorem QV.c0 (h : QV w b zc zs) {i : Nat} {z : Z} (hz : zs[i]? = some z) : w.cell? ⟨b, i * 10, none⟩ = some (.int .i64 z.nd) := by rw [h.x.cell]; exact h.get hz 0 _ (h.row i z hz).nd
theorem QV.cell (h : QV w b zc zs) {i j : Nat} {z : Z} {v : Value} (hz : zs[i]? = some z) (hv : (seg zc (i * 10) 10)[j]? = some v) : w.cell? ⟨b, i * 10 + j, none⟩ = some v := by rw [h.x.cell]; exact h.get hz j _ hv
end
section
variable {ops : Array Oper} {rest : List Oper} {d i : Nat} {ty : TypeId} {pos : String} {af : Array Edge} {a : Act} {w : World} {Q : Exit → Act → World → Prop} {b k : Nat} {zc : List Value} {zs : List Z} {z : Z}
/-- A zone is loaded out of a row. -/
theorem ldq (hx : a.eval (.tmp i) = .pointer (some ⟨b, k * 10, none⟩)) (h : QV w b zc zs) (hz : zs[k]? = some z) (hK : wpList Try.prog ops Q rest (a.put (some d) (.agg (seg zc (k * 10) 10).toArray)) w) :
    wpList Try.prog ops Q ({ dst := some d, op := .load 39 (.tmp i), type := ty, pos := pos, after := af, guard := none } :: rest) a w :=
  wpList_load_part Try.underlying39 rfl (by rw [infoZ, (h.row k z hz).len]) hx h.x (h.get hz) hK
end
set_option maxRecDepth 100000 in set_option maxHeartbeats 3200000 in
theorem key (a b : Int) (w : World) (ha0 : 0 ≤ a) (ha : a < 4) (hb0 : 0 ≤ b) (hb : b < 4) : Calls Try.prog 53 #[.int .i64 a, .int .i64 b] w fun e w' => e = .returned (.int .i64 (keyP a b)) ∧ w = w' := by
  by_cases h : b < a
  · have HE := Lib.hid (show keyP a b = 2 * (a - b) by unfold keyP; rw [if_pos h])
    go_enter Try.func53, Try.ntmps53
    go_wp2
    go_ret
    exact ⟨ret_int (by rw [HE.out]), rfl⟩
  · have HE := Lib.hid (show keyP a b = 2 * (b - a) + 1 by unfold keyP; rw [if_neg h])
    go_enter Try.func53, Try.ntmps53
    go_wp2
    go_ret
    exact ⟨ret_int (by rw [HE.out]), rfl⟩
set_option maxRecDepth 100000 in set_option maxHeartbeats 3200000 in
theorem zlcheck (b n c : Nat) (zc : List Value) (zs : List Z) (w : World) (H : QV w b zc zs) (hn : zs.length = n) (hG : ZG zs) : Calls Try.prog 78 #[.slice (some ⟨b, 0, none⟩) n c] w fun e w' => e = .returned (.int .i64 0) ∧ Below w.heap.size w w' := by
  have h6 := hG.l6
  rw [hn] at h6
  have HN := Lib.hid hn; have HG := Lib.hid hG; have HH := Lib.hid H
  clear hn hG H
  go_enter Try.func78, Try.ntmps78
  go_wp2
  go_loopg [10] n (fun gg v10 wr => ∃ i : Nat, i + gg = n ∧ v10 = .int .i64 i ∧ Below w.heap.size w wr)
  case atStart => exact ⟨0, by omega, rfl, Below.refl _ _⟩
  case round =>
    obtain ⟨i, hi, rfl, B1⟩ := hrel
    cases gk with
    | zero =>
      have hin : ¬ i < n := by omega
      clear hi
      go_wp2
      go_ret
      exact ⟨rfl, B1⟩
    | succ gg =>
      have hin : i < n := by omega
      have HI := Lib.hid hi
      obtain ⟨z, hz⟩ := get_some HN.out hin
      have Q1 := HH.out.below B1
      have hZ := Q1.row i z hz
      have hr := HG.out.r z (List.mem_of_getElem? hz)
      have r1 := hr.nd0; have r2 := hr.nd1; have r3 := hr.kd
      have h1c := hZ.one
      have hzl := hZ.len
      have hz2 := Blk.new wr 39 #[.int .i64 0, .int .i64 0, .int .i64 0, .int .i64 0, .int .i64 0, .slice none 0 0, .slice none 0 0, .slice none 0 0, .slice none 0 0, .slice none 0 0] zP rfl
      have B2 := below_then B1 (below_box wr (.cells #[.int .i64 0, .int .i64 0, .int .i64 0, .int .i64 0, .int .i64 0, .slice none 0 0, .slice none 0 0, .slice none 0 0, .slice none 0 0, .slice none 0 0] 39))
      have HZV := Lib.hid hZ; have HZ := Lib.hid hz
      have hsz := B1.size
      clear hi hz hr hZ
      go_upto_region 6 with first | ((with_reducible refine ldq ?_ Q1 HZ.out ?_); (focus rfl)) | ((with_reducible refine stZ (cs := seg zc (i * 10) 10) ?_ ?_ hz2 zP_len hzl h1c ?_); (focus rfl); (focus rfl); intro w3 hB3 hg3)
      have q0 : w3.cell? ⟨wr.heap.size, 0, none⟩ = some (.int .i64 z.nd) := by rw [hB3.cell]; exact HZV.out.nd
      have q1 : w3.cell? ⟨wr.heap.size, 1, none⟩ = some (.int .i64 z.kd) := by rw [hB3.cell]; exact HZV.out.kd
      have B3 : Below w.heap.size w w3 := B2.grown hg3 B2.size (fun k hk => by cases hk; exact hsz)
      clear hB3 hg3 B1 B2 Q1 hz2 h1c hzl
      rcases r3 with e | e
      · rw [e] at q1
        clear e
        go_wp2
        go_roundg gg
        case rel => exact ⟨i + 1, by have := HI.out; omega, by go_num, B3⟩
        case measure => omega
      · rw [e] at q1
        clear e
        go_wp2
        go_roundg gg
        case rel => exact ⟨i + 1, by have := HI.out; omega, by go_num, B3⟩
        case measure => omega
set_option maxRecDepth 100000 in set_option maxHeartbeats 3200000 in
theorem zlcheck2 (b n c : Nat) (zc : List Value) (zs : List Z) (node : Int) (w : World) (H : QV w b zc zs) (hn : zs.length = n) (hG : ZG zs) (h0 : 0 ≤ node) (h4 : node < 4) : Calls Try.prog 51 #[.slice (some ⟨b, 0, none⟩) n c, .int .i64 node] w fun e w' => e = .returned (.int .i64 0) ∧ Below w.heap.size w w' := by
  have HC := Lib.hid (zlcheck b n c zc zs w H hn hG)
  clear hn hG H
  go_enter Try.func51, Try.ntmps51
  go_wp2_with fail
  refine HC.out.mono ?_
  rintro e w5 ⟨rfl, b5⟩
  go_wp2
  go_ret
  exact ⟨rfl, b5⟩
end Go.Proofs.Ytdddkfpcbfgocaa
