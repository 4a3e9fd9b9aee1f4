/- What the reference's reader of signs computes, as plain functions: no program in sight. -/
namespace Go.Proofs.YtihnffmnofinmaaDoor

/-- A token. -/
structure Tok where
  kind : Int
  text : List UInt8 := []
  num : Int := 0
  whole : Bool := false
  sign : Bool := false
  id : Bool := false
  deriving DecidableEq

/-- A node: a token, and what is in it. -/
inductive Nd where
  | mk (t : Tok) (kids : List Nd)

namespace Ref
def valid (r : Int) : Bool := (decide (0 ≤ r) && decide (r < 0xD800)) || (decide (0xE000 ≤ r) && decide (r ≤ 0x10FFFF))
def encNat (c : Nat) : List UInt8 :=
  if c < 0x80 then [UInt8.ofNat c]
  else if c < 0x800 then [UInt8.ofNat (0xC0 + c / 64), UInt8.ofNat (0x80 + c % 64)]
  else if c < 0x10000 then [UInt8.ofNat (0xE0 + c / 4096), UInt8.ofNat (0x80 + c / 64 % 64), UInt8.ofNat (0x80 + c % 64)]
  else [UInt8.ofNat (0xF0 + c / 262144), UInt8.ofNat (0x80 + c / 4096 % 64), UInt8.ofNat (0x80 + c / 64 % 64), UInt8.ofNat (0x80 + c % 64)]
/-- The bytes of a sign. -/
def put (r : Int) : List UInt8 := encNat (if valid r then r.toNat else 0xFFFD)

def letter (r : Int) : Bool := (decide (97 ≤ r) && decide (r ≤ 122)) || (decide (65 ≤ r) && decide (r ≤ 90)) || decide (r = 95) || decide (128 ≤ r)
def digit (r : Int) : Bool := decide (48 ≤ r) && decide (r ≤ 57)
def nameSign (r : Int) : Bool := letter r || digit r || decide (r = 45)
def white (r : Int) : Bool := decide (r = 10) || decide (r = 9) || decide (r = 32)
def bad (r : Int) : Bool := decide (r = 34) || decide (r = 39) || decide (r = 40) || (decide (0 ≤ r) && decide (r ≤ 8)) || decide (r = 11) || (decide (14 ≤ r) && decide (r ≤ 31)) || decide (r = 127)
/-- A hexadecimal digit's value; -1: it is none. -/
def hexV (r : Int) : Int := if 48 ≤ r ∧ r ≤ 57 then r - 48 else if 97 ≤ r ∧ r ≤ 102 then r - 97 + 10 else if 65 ≤ r ∧ r ≤ 70 then r - 65 + 10 else -1
/-- .. as the function hands it back: the number, and whether it is one. -/
def hexNum (r : Int) : Int := if hexV r < 0 then 0 else hexV r
def isHex (r : Int) : Bool := decide (0 ≤ hexV r)
theorem hex_dig {r : Int} (h1 : 48 ≤ r) (h2 : r ≤ 57) : hexNum r = r - 48 ∧ isHex r = true := by
  have : hexV r = r - 48 := by unfold hexV; rw [if_pos ⟨h1, h2⟩]
  unfold hexNum isHex; rw [this]; exact ⟨if_neg (by omega), by simp; omega⟩
theorem hex_low {r : Int} (h1 : 97 ≤ r) (h2 : r ≤ 102) : hexNum r = r - 97 + 10 ∧ isHex r = true := by
  have : hexV r = r - 97 + 10 := by unfold hexV; rw [if_neg (by omega), if_pos ⟨h1, h2⟩]
  unfold hexNum isHex; rw [this]; exact ⟨if_neg (by omega), by simp; omega⟩
theorem hex_cap {r : Int} (h1 : 65 ≤ r) (h2 : r ≤ 70) : hexNum r = r - 65 + 10 ∧ isHex r = true := by
  have : hexV r = r - 65 + 10 := by unfold hexV; rw [if_neg (by omega), if_neg (by omega), if_pos ⟨h1, h2⟩]
  unfold hexNum isHex; rw [this]; exact ⟨if_neg (by omega), by simp; omega⟩
theorem hex_no {r : Int} (h1 : ¬ (48 ≤ r ∧ r ≤ 57)) (h2 : ¬ (97 ≤ r ∧ r ≤ 102)) (h3 : ¬ (65 ≤ r ∧ r ≤ 70)) : hexNum r = 0 ∧ isHex r = false := by
  have : hexV r = -1 := by unfold hexV; rw [if_neg h1, if_neg h2, if_neg h3]
  unfold hexNum isHex; rw [this]; exact ⟨rfl, rfl⟩
theorem hexNum_bd (r : Int) : 0 ≤ hexNum r ∧ hexNum r ≤ 15 := by
  unfold hexNum hexV
  repeat' split
  all_goals omega

/-- The sign at a place; -1 behind the last. -/
def sgn (r : List Int) (i : Nat) : Int := r.getD i (-1)
def isEsc (r : List Int) (i : Nat) : Bool := decide (sgn r i = 92) && !decide (sgn r (i + 1) = 10)
def names (r : List Int) (i : Nat) : Bool :=
  if sgn r i = 45 then letter (sgn r (i + 1)) || decide (sgn r (i + 1) = 45) || isEsc r (i + 1) else letter (sgn r i) || isEsc r i
def signK (x : Int) : Nat := if x = 43 ∨ x = 45 then 1 else 0
def numbers (r : List Int) (a : Nat) : Bool :=
  digit (sgn r (a + signK (sgn r a))) || (decide (sgn r (a + signK (sgn r a)) = 46) && digit (sgn r (a + signK (sgn r a) + 1)))
/-- Hexadecimal digits, so many at most. -/
def hexRun (r : List Int) : Nat → Nat → Int → Int × Nat
  | 0, a, n => (n, a)
  | k + 1, a, n => if isHex (sgn r a) then hexRun r k (a + 1) (n * 16 + hexNum (sgn r a)) else (n, a)
def fixN (n : Int) : Int := if n = 0 ∨ (55296 ≤ n ∧ n ≤ 57343) ∨ 1114111 < n then 65533 else n
def pastWhite (r : List Int) (a : Nat) : Nat := if white (sgn r a) then a + 1 else a
/-- An escape's sign, and the place behind it. -/
def escaped (r : List Int) (a : Nat) : Int × Nat :=
  if sgn r a < 0 then (65533, a)
  else if isHex (sgn r a) then (fixN (hexRun r 6 a 0).1, pastWhite r (hexRun r 6 a 0).2)
  else (sgn r a, a + 1)
/-- A name. -/
def nameRun (r : List Int) : Nat → Nat → List UInt8 → List UInt8 × Nat
  | 0, a, s => (s, a)
  | f + 1, a, s =>
    if nameSign (sgn r a) then nameRun r f (a + 1) (s ++ put (sgn r a))
    else if isEsc r a then nameRun r f (escaped r (a + 1)).2 (s ++ put (escaped r (a + 1)).1)
    else (s, a)
def name (r : List Int) (a : Nat) : List UInt8 × Nat := nameRun r (r.length + 1) a []
def digitsRun (r : List Int) : Nat → Nat → List UInt8 → List UInt8 × Nat
  | 0, a, s => (s, a)
  | f + 1, a, s => if digit (sgn r a) then digitsRun r f (a + 1) (s ++ put (sgn r a)) else (s, a)
def digits (r : List Int) (a : Nat) : List UInt8 × Nat := digitsRun r (r.length + 1) a []
/-- Digits' number, held at 2^32; none: something else stands there. -/
def intRun : List UInt8 → Int → Option Int
  | [], n => some n
  | c :: cs, n => if 48 ≤ c.toNat ∧ c.toNat ≤ 57 then intRun cs (min (n * 10 + ((c.toNat : Int) - 48)) 4294967296) else none
def isSign (c : UInt8) : Bool := decide (c.toNat = 43) || decide (c.toNat = 45)
def int (s : List UInt8) : Int :=
  match s with
  | [] => 0
  | c :: cs =>
    if isSign c && cs.isEmpty then 0
    else match intRun (if isSign c then cs else c :: cs) 0 with
      | none => 0
      | some n => if c.toNat = 45 then max (-n) (-2147483648) else min n 2147483647
/-- A number: what stands ahead of its digits; its digits; its point; its exponent; what it is of. -/
def numHead (r : List Int) (a : Nat) : List UInt8 × Nat := if sgn r a = 43 ∨ sgn r a = 45 then (put (sgn r a), a + 1) else ([], a)
def numWhole (r : List Int) (a : Nat) : List UInt8 × Nat := ((numHead r a).1 ++ (digits r (numHead r a).2).1, (digits r (numHead r a).2).2)
def numPoint (r : List Int) (p : Bool × Nat) : Bool × Nat := if decide (sgn r p.2 = 46) && digit (sgn r (p.2 + 1)) then (false, (digits r (p.2 + 1)).2) else p
def expK (r : List Int) (a : Nat) : Nat := if sgn r (a + 1) = 43 ∨ sgn r (a + 1) = 45 then 2 else 1
def numExp (r : List Int) (p : Bool × Nat) : Bool × Nat :=
  if (decide (sgn r p.2 = 101) || decide (sgn r p.2 = 69)) && digit (sgn r (p.2 + expK r p.2)) then (false, (digits r (p.2 + expK r p.2)).2) else p
def number (r : List Int) (a : Nat) : Tok × Nat :=
  let h := numWhole r a
  let q := numExp r (numPoint r (true, h.2))
  let t : Tok := { kind := 10, whole := q.1, sign := decide (sgn r a = 43 ∨ sgn r a = 45), num := if q.1 then int h.1 else 0 }
  if names r q.2 then ({ t with kind := 12, text := (name r q.2).1 }, (name r q.2).2)
  else if sgn r q.2 = 37 then ({ t with kind := 11 }, q.2 + 1)
  else (t, q.2)
/-- A text in quotes, from behind its first quote. -/
def quotedRun (r : List Int) (q : Int) : Nat → Nat → List UInt8 → Tok × Nat
  | 0, a, s => ({ kind := 5, text := s }, a)
  | f + 1, a, s =>
    if sgn r a < 0 then ({ kind := 5, text := s }, a)
    else if sgn r a = q then ({ kind := 5, text := s }, a + 1)
    else if sgn r a = 10 then ({ kind := 6 }, a)
    else if sgn r a = 92 ∧ sgn r (a + 1) < 0 then quotedRun r q f (a + 1) s
    else if sgn r a = 92 ∧ sgn r (a + 1) = 10 then quotedRun r q f (a + 2) s
    else if sgn r a = 92 then quotedRun r q f (escaped r (a + 1)).2 (s ++ put (escaped r (a + 1)).1)
    else quotedRun r q f (a + 1) (s ++ put (sgn r a))
def quoted (r : List Int) (q : Int) (a : Nat) : Tok × Nat := quotedRun r q (r.length + 1) a []
def whiteRun (r : List Int) : Nat → Nat → Nat
  | 0, a => a
  | f + 1, a => if white (sgn r a) then whiteRun r f (a + 1) else a
def whites (r : List Int) (a : Nat) : Nat := whiteRun r (r.length + 1) a
def past (r : List Int) (a : Nat) : Nat := if sgn r a = 41 then a + 1 else a
def badRun (r : List Int) : Nat → Nat → Nat
  | 0, a => a
  | f + 1, a =>
    if sgn r a < 0 ∨ sgn r a = 41 then a
    else if isEsc r a then badRun r f (escaped r (a + 1)).2
    else badRun r f (a + 1)
def badURL (r : List Int) (a : Nat) : Tok × Nat := ({ kind := 8 }, past r (badRun r (r.length + 1) a))
def urlRun (r : List Int) : Nat → Nat → List UInt8 → Tok × Nat
  | 0, a, s => ({ kind := 7, text := s }, a)
  | f + 1, a, s =>
    if sgn r a < 0 ∨ sgn r a = 41 then ({ kind := 7, text := s }, past r a)
    else if white (sgn r a) then
      if sgn r (whites r a) < 0 ∨ sgn r (whites r a) = 41 then urlRun r f (whites r a) s else badURL r (whites r a)
    else if bad (sgn r a) || (decide (sgn r a = 92) && !isEsc r a) then badURL r a
    else if sgn r a = 92 then urlRun r f (escaped r (a + 1)).2 (s ++ put (escaped r (a + 1)).1)
    else urlRun r f (a + 1) (s ++ put (sgn r a))
def url (r : List Int) (a : Nat) : Tok × Nat := urlRun r (r.length + 1) (whites r a) []
def lowB (c : UInt8) : UInt8 := if 65 ≤ c.toNat ∧ c.toNat ≤ 90 then c + 32 else c
def lower (s : List UInt8) : List UInt8 := s.map lowB
/-- White signs counted from here. -/
def ahead (r : List Int) (a : Nat) : Nat := whites r a - a
def ident (r : List Int) (a : Nat) : Tok × Nat :=
  let n := name r a
  if sgn r n.2 ≠ 40 then ({ kind := 1, text := n.1 }, n.2)
  else if lower n.1 ≠ [117, 114, 108] then ({ kind := 2, text := n.1 }, n.2 + 1)
  else if sgn r (whites r (n.2 + 1)) = 34 ∨ sgn r (whites r (n.2 + 1)) = 39 then ({ kind := 2, text := n.1 }, n.2 + 1 + (ahead r (n.2 + 1) - 1))
  else url r (n.2 + 1)
def delim (r : List Int) (a : Nat) : Tok × Nat := ({ kind := 9, text := put (sgn r a) }, a + 1)
/-- The kind of a sign that is a token by itself; 0: it is none. -/
def plain (x : Int) : Int :=
  if x = 40 ∨ x = 91 ∨ x = 123 then 19 else if x = 41 ∨ x = 93 ∨ x = 125 then 20 else if x = 44 then 18 else if x = 58 then 16 else if x = 59 then 17 else 0
def plainText (x : Int) : List UInt8 := if plain x = 19 ∨ plain x = 20 then put x else []
def token (r : List Int) (a : Nat) : Tok × Nat :=
  let x := sgn r a
  if plain x ≠ 0 then ({ kind := plain x, text := plainText x }, a + 1)
  else if white x then ({ kind := 13 }, whites r a)
  else if x = 34 ∨ x = 39 then quoted r x (a + 1)
  else if x = 35 ∧ (nameSign (sgn r (a + 1)) || isEsc r (a + 1)) then ({ kind := 4, id := names r (a + 1), text := (name r (a + 1)).1 }, (name r (a + 1)).2)
  else if (x = 43 ∨ x = 45 ∨ x = 46 ∨ digit x) ∧ numbers r a then number r a
  else if x = 45 ∧ sgn r (a + 1) = 45 ∧ sgn r (a + 2) = 62 then ({ kind := 15 }, a + 3)
  else if x = 60 ∧ sgn r (a + 1) = 33 ∧ sgn r (a + 2) = 45 ∧ sgn r (a + 3) = 45 then ({ kind := 14 }, a + 4)
  else if x = 64 ∧ names r (a + 1) then ({ kind := 3, text := (name r (a + 1)).1 }, (name r (a + 1)).2)
  else if names r a then ident r a
  else delim r a
/-- To the end of a comment. -/
def skipRun (r : List Int) : Nat → Nat → Nat
  | 0, a => a
  | f + 1, a => if 0 ≤ sgn r a ∧ (sgn r a ≠ 42 ∨ sgn r (a + 1) ≠ 47) then skipRun r f (a + 1) else a
def skip (r : List Int) (a : Nat) : Nat := skipRun r (r.length + 1) a
def commentRun (r : List Int) : Nat → Nat → Nat
  | 0, a => a
  | f + 1, a => if sgn r a = 47 ∧ sgn r (a + 1) = 42 then commentRun r f (min (skip r (a + 2) + 2) r.length) else a
def comments (r : List Int) (a : Nat) : Nat := commentRun r (r.length + 1) a
def tokensRun (r : List Int) : Nat → Nat → List Tok → List Tok
  | 0, _, l => l
  | f + 1, a, l => if sgn r (comments r a) < 0 then l else tokensRun r f (token r (comments r a)).2 (l ++ [(token r (comments r a)).1])
def tokens (r : List Int) : List Tok := tokensRun r (r.length + 1) 0 []
end Ref
end Go.Proofs.YtihnffmnofinmaaDoor
