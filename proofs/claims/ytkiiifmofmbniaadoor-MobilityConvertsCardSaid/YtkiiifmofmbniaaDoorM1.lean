/- The plain mathematics of page blocks: what the program computes. -/
import Derived.Test.YtkiiifmofmbniaaDoorCan
namespace Go.Mob
open Go.Can
structure P where
  st : Int
  ty : List Int
  fr : Nat → List Int
def zero : P := ⟨0, [], fun _ => []⟩
def kindB (t : Int) : Bool := decide (0 ≤ t ∧ t < 3)
def rngB (p : P) : Bool := decide (0 ≤ p.st ∧ p.st % 16 = 0 ∧ 1 ≤ p.ty.length ∧ p.ty.length ≤ 16 ∧ p.st ≤ 256 - 16 * (p.ty.length : Int)) && p.ty.all kindB
def insB (p : P) (f : Int) (k : Nat) : Bool := decide (p.st ≤ f ∧ f < p.st + 16 * (p.ty.length : Int) ∧ f % pw k = 0)
def tyAt (p : P) (f : Int) : Int := p.ty.getD ((f - p.st) / 16).toNat 0
def bad (p : P) (i : Nat) (f : Int) : Bool := !insB p f (i % 5) || decide (tyAt p f ≠ ((i / 5 : Nat) : Int))
/-- The first error of list number i, behind the element q (if b). -/
def le1 (p : P) (i : Nat) : Bool → Int → List Int → Int
  | _, _, [] => 0
  | b, q, f :: r => if bad p i f = true then 3 else if b = true ∧ f ≤ q then 10 else le1 p i true f r
def leN (p : P) : Nat → Nat → Int
  | 0, _ => 0
  | n + 1, i => if le1 p i false 0 (p.fr i) = 0 then leN p n (i + 1) else le1 p i false 0 (p.fr i)
def cov (f : Int) : Nat → List Int
  | 0 => []
  | n + 1 => f :: cov (f + 1) n
def covL (k : Nat) (l : List Int) : List Int := l.flatMap fun f => cov f (2 ^ k)
def covN (p : P) : Nat → Nat → List Int
  | 0, _ => []
  | n + 1, i => covL (i % 5) (p.fr i) ++ covN p n (i + 1)
def bud (k : Nat) (f : Int) : Int := if f % pw (k + 1) = 0 then f + pw k else f - pw k
def st1 (k : Nat) (l : List Int) : Bool := decide (k < 4) && l.any fun f => l.contains (bud k f)
def stN (p : P) : Nat → Nat → Bool
  | 0, _ => false
  | n + 1, i => st1 (i % 5) (p.fr i) || stN p n (i + 1)
def dup : List Int → Bool
  | [] => false
  | x :: r => r.contains x || dup r
def chk (p : P) : Int :=
  if rngB p = false then 2 else if leN p 15 0 ≠ 0 then leN p 15 0 else if dup (covN p 15 0) = true then 7 else if stN p 15 0 = true then 11 else 0

def fewN (p : P) : Nat → Nat → Bool
  | 0, _ => true
  | n + 1, i => decide ((p.fr i).length ≤ 300) && fewN p n (i + 1)
def leA (p : P) (i : Nat) : Int := leN p (15 - i) i
def covA (p : P) (i : Nat) : List Int := covN p (15 - i) i
def stA (p : P) (i : Nat) : Bool := stN p (15 - i) i
def fewA (p : P) (i : Nat) : Bool := fewN p (15 - i) i
theorem a_step {i : Nat} (h : i < 15) : 15 - i = (15 - (i + 1)) + 1 := by omega
theorem leA_step {p : P} {i : Nat} (h : i < 15) : leA p i = if le1 p i false 0 (p.fr i) = 0 then leA p (i + 1) else le1 p i false 0 (p.fr i) := by
  unfold leA; rw [a_step h]; rfl
theorem covA_step {p : P} {i : Nat} (h : i < 15) : covA p i = covL (i % 5) (p.fr i) ++ covA p (i + 1) := by
  unfold covA; rw [a_step h]; rfl
theorem stA_step {p : P} {i : Nat} (h : i < 15) : stA p i = (st1 (i % 5) (p.fr i) || stA p (i + 1)) := by
  unfold stA; rw [a_step h]; rfl
theorem fewA_step {p : P} {i : Nat} (h : i < 15) : fewA p i = (decide ((p.fr i).length ≤ 300) && fewA p (i + 1)) := by
  unfold fewA; rw [a_step h]; rfl
theorem leA_end (p : P) : leA p 15 = 0 := rfl
theorem covA_end (p : P) : covA p 15 = [] := rfl
theorem stA_end (p : P) : stA p 15 = false := rfl
theorem fewA_end (p : P) : fewA p 15 = true := rfl
theorem chk_eq (p : P) : chk p = if rngB p = false then 2 else if leA p 0 ≠ 0 then leA p 0 else if dup (covA p 0) = true then 7 else if stA p 0 = true then 11 else 0 := rfl
def fewB (p : P) : Bool := fewA p 0 && decide (p.ty.length ≤ 40)
/-! The operations. -/
def upd (fr : Nat → List Int) (i : Nat) (l : List Int) : Nat → List Int := fun j => if j = i then l else fr j
theorem upd_self {fr : Nat → List Int} {i : Nat} {l : List Int} : upd fr i l i = l := if_pos rfl
theorem upd_ne {fr : Nat → List Int} {i j : Nat} {l : List Int} (h : j ≠ i) : upd fr i l j = fr j := if_neg h
/-- Where a number is, or would be, in an ascending list. -/
def pos (l : List Int) (x : Int) : Nat := (l.takeWhile fun y => decide (y < x)).length
def ins (l : List Int) (x : Int) : List Int := l.take (pos l x) ++ [x] ++ l.drop (pos l x)
def del (l : List Int) (x : Int) : List Int := l.eraseIdx (pos l x)
/-- A block is put into the lists that begin at number b, and joined; n orders are above k. -/
def putN (b : Nat) : Nat → (Nat → List Int) → Int → Nat → Nat → List Int
  | 0, fr, f, k => upd fr (b + k) (ins (fr (b + k)) f)
  | n + 1, fr, f, k => if (fr (b + k)).contains (bud k f) = true then putN b n (upd fr (b + k) (del (fr (b + k)) (bud k f))) (par f k) (k + 1) else upd fr (b + k) (ins (fr (b + k)) f)
def base (t : Int) : Nat := 5 * t.toNat
def putP (p : P) (f : Int) (k : Nat) : P := ⟨p.st, p.ty, putN (base (tyAt p f)) (4 - k) p.fr f k⟩
def newN (st : Int) (ty : List Int) : Nat → Nat → P → P
  | 0, _, p => p
  | n + 1, i, p => newN st ty n (i + 1) (putP p (st + 16 * (i : Int)) 4)
def newP (st : Int) (ty : List Int) : P × Int :=
  if rngB ⟨st, ty, fun _ => []⟩ = false then (zero, 2) else (newN st ty ty.length 0 ⟨st, ty, fun _ => []⟩, 0)
def inPB (a f : Int) : Bool := decide (a ≤ f ∧ f < a + 16)
/-- The blocks of one page block in one list go to another. -/
def convK (a : Int) (fr : Nat → List Int) (i j : Nat) : Nat → List Int :=
  upd (upd fr j (((fr i).filter (inPB a)).foldl ins (fr j))) i ((fr i).filter fun f => !inPB a f)
def convN (a : Int) (bi bj : Nat) : Nat → Nat → (Nat → List Int) → Nat → List Int
  | 0, _, fr => fr
  | n + 1, k, fr => convN a bi bj n (k + 1) (convK a fr (bi + k) (bj + k))
def conv (p : P) (f t : Int) : P :=
  ⟨p.st, p.ty.set ((f - p.st) / 16).toNat t, if tyAt p f = t then p.fr else convN (f - f % 16) (base (tyAt p f)) (base t) 5 0 p.fr⟩
def fall (t : Int) : List Int := if t = 0 then [2, 1] else if t = 1 then [2, 0] else [1, 0]
/-- The first order from k on whose list has a block. -/
def own (fr : Nat → List Int) (b : Nat) : Nat → Nat → Option Nat
  | 0, _ => none
  | n + 1, k => if (fr (b + k)).length ≠ 0 then some k else own fr b n (k + 1)
/-- The largest foreign block: of the orders k, .., k - n + 1. -/
def other (fr : Nat → List Int) (t : Int) : Nat → Nat → Option (Int × Nat)
  | 0, _ => none
  | n + 1, k =>
    if (fr (base ((fall t).getD 0 0) + k)).length ≠ 0 then some ((fall t).getD 0 0, k)
    else if (fr (base ((fall t).getD 1 0) + k)).length ≠ 0 then some ((fall t).getD 1 0, k) else other fr t n (k - 1)
def find (p : P) (k : Nat) (t : Int) : Option (Int × Nat) :=
  match own p.fr (base t) (5 - k) k with
  | some j => some (t, j)
  | none => other p.fr t (5 - k) 4
/-- The upper halves of a block that is split, down to an order; n orders below k. -/
def split (b : Nat) (f : Int) : Nat → Nat → (Nat → List Int) → Nat → List Int
  | 0, _, fr => fr
  | n + 1, k, fr => split b f n (k - 1) (upd fr (b + (k - 1)) (ins (fr (b + (k - 1))) (f + pw (k - 1))))
def takeP (p : P) (t' : Int) (j k : Nat) (t : Int) : P × Int :=
  let f := (p.fr (base t' + j)).getD 0 0
  let q := if t' ≠ t ∧ 3 ≤ j then conv p f t else p
  let b := if t' ≠ t ∧ 3 ≤ j then base t else base t'
  (⟨q.st, q.ty, split b f (j - k) j (upd q.fr (b + j) (del (q.fr (b + j)) f))⟩, f)
def allocP (p : P) (order t : Int) : P × Int × Int :=
  if chk p ≠ 0 then (zero, 0, chk p) else if order < 0 ∨ 4 < order then (zero, 0, 2) else if kindB t = false then (zero, 0, 1) else
  match find p order.toNat t with
  | none => (zero, 0, 16)
  | some (t', j) => ((takeP p t' j order.toNat t).1, (takeP p t' j order.toNat t).2, 0)
def freeN (p : P) (x : Int) : Nat → Nat → Bool
  | 0, _ => false
  | n + 1, k => (p.fr (base (tyAt p x) + k)).contains (x - x % pw k) || freeN p x n (k + 1)
def isFree (p : P) (x : Int) : Bool := freeN p x 5 0
def anyFree (p : P) (f : Int) : Nat → Bool
  | 0 => false
  | n + 1 => isFree p f || anyFree p (f + 1) n
def freeP (p : P) (f order : Int) : P × Int :=
  if chk p ≠ 0 then (zero, chk p) else if order < 0 ∨ 4 < order ∨ insB p f order.toNat = false then (zero, 2) else
  if anyFree p f (2 ^ order.toNat) = true then (zero, 7) else (putP p f order.toNat, 0)
def convP (p : P) (f t : Int) : P × Int :=
  if chk p ≠ 0 then (zero, chk p) else if insB p f 0 = false then (zero, 2) else if kindB t = false then (zero, 1) else (conv p f t, 0)
def typeP (p : P) (f : Int) : Int := if chk p = 0 ∧ insB p f 0 = true then tyAt p f else -1
def cntN (p : P) (b : Nat) : Nat → Nat → Int
  | 0, _ => 0
  | n + 1, k => (((p.fr (b + k)).length : Nat) : Int) * pw k + cntN p b n (k + 1)
def countP (p : P) (t : Int) : Int := if chk p = 0 ∧ kindB t = true then cntN p (base t) 5 0 else 0
/-- The page blocks from entry i on that are mixed, behind page block 'last'. -/
def mixN (ty : List Int) : List Int → Nat → Int → Nat
  | [], _, _ => 0
  | t :: r, i, last => if t ≠ -1 ∧ t ≠ ty.getD (i / 16) 0 ∧ ((i / 16 : Nat) : Int) ≠ last then mixN ty r (i + 1) ((i / 16 : Nat) : Int) + 1 else mixN ty r (i + 1) last
def mixedP (p : P) (l : List Int) : Int × Int :=
  if chk p ≠ 0 then (0, chk p) else if l.length ≠ 16 * p.ty.length then (0, 3) else if l.any (fun t => decide (t ≠ -1) && !kindB t) = true then (0, 1) else ((mixN p.ty l 0 (-1) : Nat), 0)
end Go.Mob
