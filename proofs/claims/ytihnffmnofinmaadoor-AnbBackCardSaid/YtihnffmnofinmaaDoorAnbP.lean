/- Every so many: what the reference says, what the program says, and that both say the same. Plain: no program in sight. -/
import Derived.Test.YtihnffmnofinmaaDoorTrim
namespace Go.Proofs.YtihnffmnofinmaaDoor
namespace Ref
def isDig (c : UInt8) : Bool := decide (48 ≤ c.toNat) && decide (c.toNat ≤ 57)
/-- A whole number's token alone, with a sign or without. -/
def numTok (l : List Nd) (sign : Bool) : Option Int :=
  match l with
  | [n] => if n.tok.kind = 10 ∧ n.tok.whole = true ∧ n.tok.sign = sign then some n.tok.num else none
  | _ => none
/-- What stands behind the n, a sign of its own ahead of the second number. -/
def anbSign (a : Int) (more : List Nd) : Option (Int × Int) :=
  match more with
  | m :: m2 :: ms =>
    if m.tok.kind = 9 ∧ (m.tok.text = [43] ∨ m.tok.text = [45]) then
      match numTok (trim (m2 :: ms)) false with
      | some b => some (a, if m.tok.text = [45] then -b else b)
      | none => none
    else none
  | _ => none
def anbN (a : Int) (rest : List Nd) : Option (Int × Int) :=
  if rest = [] then some (a, 0)
  else match numTok (trim rest) true with
    | some b => some (a, b)
    | none => anbSign a (trim rest)
/-- The n, and what stands behind it. -/
def anbTail (a : Int) (u : List UInt8) (rest : List Nd) : Option (Int × Int) :=
  match u with
  | [] => none
  | c :: v =>
    if c ≠ 110 then none
    else if v = [] then anbN a rest
    else if v = [45] then match numTok (trim rest) false with
      | some b => some (a, -b)
      | none => none
    else if rest = [] ∧ v.head? = some 45 ∧ (v.drop 1).all isDig = true then some (a, int v) else none
def anbHead (n : Nd) (rest : List Nd) : Option (Int × Int) :=
  if rest = [] ∧ n.tok.kind = 1 ∧ lower n.tok.text = [111, 100, 100] then some (2, 1)
  else if rest = [] ∧ n.tok.kind = 1 ∧ lower n.tok.text = [101, 118, 101, 110] then some (2, 0)
  else if rest = [] ∧ n.tok.kind = 10 ∧ n.tok.whole = true then some (0, n.tok.num)
  else if n.tok.kind = 12 ∧ n.tok.whole = true then anbTail n.tok.num (lower n.tok.text) rest
  else if n.tok.kind = 9 ∧ n.tok.text = [43] ∧ rest ≠ [] ∧ (nd rest 0).tok.kind = 1 then anbTail 1 (lower (nd rest 0).tok.text) (rest.drop 1)
  else if n.tok.kind = 1 then
    if (lower n.tok.text).head? = some 45 then anbTail (-1) ((lower n.tok.text).drop 1) rest else anbTail 1 (lower n.tok.text) rest
  else none
def anb (l : List Nd) : Option (Int × Int) :=
  if (trim l).any (fun n => !n.kids.isEmpty) then none
  else match trim l with
    | [] => none
    | n :: rest => anbHead n rest
end Ref
namespace Anb
open Ref
def see (l : List Nd) : Int × List UInt8 :=
  match l with
  | [] => (0, [])
  | n :: _ => (n.tok.kind, lower n.tok.text)
def number (signed : Bool) (l : List Nd) : Option (Int × List Nd) :=
  match l with
  | [] => none
  | n :: r => if n.tok.kind = 10 ∧ n.tok.sign = signed ∧ n.tok.whole = true then some (n.tok.num, r) else none
def sign (l : List Nd) : Int × List Nd :=
  match l with
  | [] => (0, [])
  | n :: r => if n.tok.kind = 9 ∧ lower n.tok.text = [43] then (1, r) else if n.tok.kind = 9 ∧ lower n.tok.text = [45] then (-1, r) else (0, n :: r)
def second (rest : List UInt8) (l : List Nd) : Option (Int × List Nd) :=
  if rest = [45] then (number false (trimL l)).map fun p => (-p.1, p.2)
  else if rest ≠ [] then if rest.head? = some 45 ∧ (rest.drop 1).all isDig = true then some (int rest, l) else none
  else if trimL l = [] then some (0, [])
  else if (sign (trimL l)).1 ≠ 0 then (number false (trimL (sign (trimL l)).2)).map fun p => ((sign (trimL l)).1 * p.1, p.2)
  else number true (trimL l)
def pre (p : List UInt8) (s : List UInt8) : Bool := p.isPrefixOf s
def first (l : List Nd) : Option (Int × List UInt8 × List Nd) :=
  match l with
  | [] => none
  | n :: r =>
    if n.tok.kind = 9 ∧ lower n.tok.text = [43] then
      match r with
      | [] => none
      | m :: r2 => if m.tok.kind = 1 ∧ pre [110] (lower m.tok.text) = true then some (1, (lower m.tok.text).drop 1, r2) else none
    else if n.tok.kind = 12 ∧ n.tok.whole = true ∧ pre [110] (lower n.tok.text) = true then some (n.tok.num, (lower n.tok.text).drop 1, r)
    else if n.tok.kind = 1 ∧ pre [110] (lower n.tok.text) = true then some (1, (lower n.tok.text).drop 1, r)
    else if n.tok.kind = 1 ∧ pre [45, 110] (lower n.tok.text) = true then some (-1, (lower n.tok.text).drop 2, r)
    else none
def tail (l : List Nd) : Option (Int × Int) :=
  match first l with
  | none => none
  | some (a, rest, l1) =>
    match second rest l1 with
    | none => none
    | some (b, l2) => if l2 = [] then some (a, b) else none
def whole (l : List Nd) : Option (Int × Int) :=
  if l.length = 1 ∧ (see l).1 = 1 ∧ (see l).2 = [111, 100, 100] then some (2, 1)
  else if l.length = 1 ∧ (see l).1 = 1 ∧ (see l).2 = [101, 118, 101, 110] then some (2, 0)
  else if l.length = 1 ∧ (see l).1 = 10 ∧ (nd l 0).tok.whole = true then some (0, (nd l 0).tok.num)
  else tail l
def odd (n : Nd) : Bool := !n.kids.isEmpty || decide (n.tok.kind = 19) || decide (n.tok.kind = 2)
def parse (l : List Nd) : Option (Int × Int) := if (trim l).any odd then none else whole (trim l)

theorem lowB_of_low {c : UInt8} {x : UInt8} (h : lowB c = x) (hx : ¬ (97 ≤ x.toNat ∧ x.toNat ≤ 122)) : c = x := by
  unfold lowB at h
  split at h
  · rename_i hc
    have : (c + 32).toNat = c.toNat + 32 := by rw [UInt8.toNat_add]; simp; omega
    rw [h] at this
    omega
  · exact h
theorem lower_one {s : List UInt8} {x : UInt8} (hx : ¬ (97 ≤ x.toNat ∧ x.toNat ≤ 122)) (hx2 : ¬ (65 ≤ x.toNat ∧ x.toNat ≤ 90)) : lower s = [x] ↔ s = [x] := by
  constructor
  · intro h
    match s, h with
    | [c], h => simp [lower] at h; rw [lowB_of_low h hx]
  · rintro rfl; simp [lower, lowB, hx2]

/-- A list whose last is not white. -/
def NoTail (l : List Nd) : Prop := ∀ (r : List Nd) (n : Nd), l = r ++ [n] → isWhite n = false
theorem trimR_noTail : ∀ (f : Nat) (l : List Nd), l.length < f → NoTail (trimR f l)
  | 0, l, h => absurd h (by omega)
  | f + 1, l, h => by
    unfold trimR
    split
    · rename_i hc
      exact trimR_noTail f _ (by simp; omega)
    · rename_i hc
      intro r n e
      subst e
      simp [nd, List.getD] at hc
      exact hc
theorem trimR_self : ∀ (f : Nat) (l : List Nd), NoTail l → trimR f l = l
  | 0, l, _ => rfl
  | f + 1, l, h => by
    unfold trimR
    rw [if_neg]
    rintro ⟨h0, hw⟩
    obtain ⟨r, n, rfl⟩ : ∃ r n, l = r ++ [n] := by
      rcases List.eq_nil_or_concat l with rfl | ⟨r, n, rfl⟩
      · simp at h0
      · exact ⟨r, n, by simp⟩
    simp [nd, List.getD] at hw
    rw [h r n rfl] at hw
    cases hw
theorem NoTail.suffix {a b : List Nd} (h : NoTail (a ++ b)) : NoTail b := fun r n e => h (a ++ r) n (by rw [e, List.append_assoc])
theorem trim_noTail (l : List Nd) : NoTail (trim l) := trimR_noTail _ _ (by omega)
theorem trimL_suffix : ∀ l : List Nd, ∃ a, l = a ++ trimL l
  | [] => ⟨[], rfl⟩
  | n :: l => by
    unfold trimL
    split
    · obtain ⟨a, h⟩ := trimL_suffix l
      exact ⟨n :: a, by rw [List.cons_append, ← h]⟩
    · exact ⟨[], rfl⟩
theorem NoTail.left {l : List Nd} (h : NoTail l) : NoTail (trimL l) := by
  obtain ⟨a, e⟩ := trimL_suffix l
  rw [e] at h
  exact h.suffix
theorem trim_of {l : List Nd} (h : NoTail l) : trim l = trimL l := by unfold trim; exact trimR_self _ _ h.left
theorem NoTail.tail {n : Nd} {l : List Nd} (h : NoTail (n :: l)) : NoTail l := NoTail.suffix (a := [n]) h
theorem trimL_idem : ∀ l : List Nd, trimL (trimL l) = trimL l
  | [] => rfl
  | n :: l => by
    rw [trimL]
    split
    · exact trimL_idem l
    · rename_i h; rw [trimL, if_neg h]
theorem trimL_ne {l : List Nd} (h : NoTail l) (h0 : l ≠ []) : trimL l ≠ [] := by
  intro e
  obtain ⟨a, ha⟩ := trimL_suffix l
  rw [e, List.append_nil] at ha
  have : ∀ l : List Nd, trimL l = [] → ∀ n ∈ l, isWhite n = true := by
    intro l
    induction l with
    | nil => intro _ n hn; cases hn
    | cons m l ih =>
      intro e n hn
      rw [trimL] at e
      split at e
      · rename_i hm
        cases hn with
        | head => exact hm
        | tail _ hn => exact ih e n hn
      · cases e
  rcases List.eq_nil_or_concat l with e0 | ⟨r, n, e0⟩
  · exact h0 e0
  · rw [List.concat_eq_append] at e0
    have := this l e n (by rw [e0]; simp)
    rw [h r n e0] at this
    cases this

theorem num_eq (s : Bool) (l : List Nd) : (match number s l with | none => none | some (b, l2) => if l2 = [] then some b else none) = numTok l s := by
  match l with
  | [] => rfl
  | [n] =>
    unfold number numTok
    dsimp only
    by_cases h : n.tok.kind = 10 ∧ n.tok.whole = true ∧ n.tok.sign = s
    · rw [if_pos h, if_pos ⟨h.1, h.2.2, h.2.1⟩]; rfl
    · rw [if_neg h, if_neg (fun e => h ⟨e.1, e.2.2, e.2.1⟩)]
  | n :: m :: r =>
    unfold number numTok
    dsimp only
    by_cases h : n.tok.kind = 10 ∧ n.tok.sign = s ∧ n.tok.whole = true
    · rw [if_pos h]; dsimp only; rw [if_neg (by simp)]
    · rw [if_neg h]
/-- What comes of a reading that must come to the end. -/
def fin (a : Int) (o : Option (Int × List Nd)) : Option (Int × Int) :=
  match o with
  | none => none
  | some (b, l2) => if l2 = [] then some (a, b) else none
theorem fin_num (a : Int) (g : Int → Int) (s : Bool) (l : List Nd) : fin a ((number s l).map fun p => (g p.1, p.2)) = (numTok l s).map fun b => (a, g b) := by
  rw [← num_eq]
  cases number s l with
  | none => rfl
  | some p => obtain ⟨b, l2⟩ := p; simp only [fin, Option.map_some]; split <;> rfl
theorem numTok_sign {n : Nd} (h : n.tok.kind ≠ 10) (r : List Nd) (s : Bool) : numTok (n :: r) s = none := by
  cases r with
  | nil => unfold numTok; dsimp only; rw [if_neg (fun e => h e.1)]
  | cons => rfl
theorem anbTail_n (a : Int) (v : List UInt8) (rest : List Nd) : anbTail a (110 :: v) rest = if v = [] then anbN a rest
    else if v = [45] then match numTok (trim rest) false with
      | some b => some (a, -b)
      | none => none
    else if rest = [] ∧ v.head? = some 45 ∧ (v.drop 1).all isDig = true then some (a, int v) else none := by
  unfold anbTail
  dsimp only
  rw [if_neg (by simp)]
theorem second_eq (a : Int) (v : List UInt8) (l : List Nd) (hl : NoTail l) :
    fin a (second v l) = anbTail a (110 :: v) l := by
  rw [anbTail_n]
  unfold second
  by_cases hv : v = []
  · subst hv
    rw [if_neg (by simp), if_neg (by simp), if_pos rfl]
    unfold anbN
    by_cases h0 : l = []
    · subst h0; rw [if_pos (by rfl), if_pos rfl]; rfl
    · rw [if_neg (trimL_ne hl h0), if_neg h0, trim_of hl]
      have hne := trimL_ne hl h0
      have hno := hl.left
      generalize trimL l = m at *
      match m, hne with
      | n :: r, _ =>
        by_cases h9 : n.tok.kind = 9 ∧ (n.tok.text = [43] ∨ n.tok.text = [45])
        · obtain ⟨h9, ht⟩ := h9
          have hs : sign (n :: r) = (if n.tok.text = [45] then -1 else 1, r) := by
            unfold sign
            simp only [lower_one (x := 43) (by decide) (by decide), lower_one (x := 45) (by decide) (by decide), h9, true_and]
            rcases ht with ht | ht <;> simp [ht]
          rw [hs, if_pos (by dsimp only; split <;> decide), fin_num a (fun b => (if n.tok.text = [45] then -1 else 1) * b), numTok_sign (by omega)]
          simp only
          have hr := hno.tail
          unfold anbSign
          cases r with
          | nil => rfl
          | cons m2 ms =>
            simp only
            rw [if_pos (show n.tok.kind = 9 ∧ (n.tok.text = [43] ∨ n.tok.text = [45]) from ⟨h9, ht⟩), trim_of hr]
            cases numTok (trimL (m2 :: ms)) false with
            | none => rfl
            | some b => by_cases h45 : n.tok.text = [45] <;> simp [h45]
        · have hs : sign (n :: r) = (0, n :: r) := by
            unfold sign
            simp only [lower_one (x := 43) (by decide) (by decide), lower_one (x := 45) (by decide) (by decide)]
            rw [if_neg (fun e => h9 ⟨e.1, .inl e.2⟩), if_neg (fun e => h9 ⟨e.1, .inr e.2⟩)]
          rw [hs, if_neg (by simp)]
          have := fin_num a id true (n :: r)
          simp only [id, Option.map_id'] at this
          have h2 : anbSign a (n :: r) = none := by
            unfold anbSign
            cases r with
            | nil => rfl
            | cons => simp only; rw [if_neg h9]
          have e : fin a (number true (n :: r)) = (numTok (n :: r) true).map fun b => (a, b) := by
            rw [← this]
          rw [e, h2]
          cases numTok (n :: r) true <;> rfl
  · rw [if_neg hv]
    by_cases h45 : v = [45]
    · subst h45
      rw [if_pos rfl, if_pos rfl, fin_num a (fun b => -b), trim_of hl]
      cases numTok (trimL l) false <;> rfl
    · rw [if_neg h45, if_neg h45, if_pos hv]
      by_cases h : v.head? = some 45 ∧ (v.drop 1).all isDig = true
      · rw [if_pos h]
        by_cases h0 : l = []
        · rw [if_pos ⟨h0, h⟩]; subst h0; rfl
        · rw [if_neg (fun e => h0 e.1)]; unfold fin; simp only; rw [if_neg h0]
      · rw [if_neg h, if_neg (fun e => h e.2)]; rfl
theorem tail_some {l l1 : List Nd} {a : Int} {v : List UInt8} (h : first l = some (a, v, l1)) : tail l = fin a (second v l1) := by
  unfold tail fin; rw [h]
theorem tail_none {l : List Nd} (h : first l = none) : tail l = none := by
  unfold tail; rw [h]
theorem pre_n {s : List UInt8} : pre [110] s = true ↔ ∃ v, s = 110 :: v := by
  constructor
  · intro h
    cases s with
    | nil => simp [pre] at h
    | cons c v => simp [pre, List.isPrefixOf] at h; exact ⟨v, by rw [h]⟩
  · rintro ⟨v, rfl⟩; simp [pre, List.isPrefixOf]
theorem pre_mn {s : List UInt8} : pre [45, 110] s = true ↔ ∃ v, s = 45 :: 110 :: v := by
  constructor
  · intro h
    match s, h with
    | [], h => simp [pre] at h
    | [c], h => simp [pre, List.isPrefixOf] at h
    | c :: d :: v, h => simp [pre, List.isPrefixOf] at h; exact ⟨v, by rw [h.1, h.2]⟩
  · rintro ⟨v, rfl⟩; simp [pre, List.isPrefixOf]
theorem tail_none_of {a : Int} {u : List UInt8} {l : List Nd} (h : pre [110] u = false) : anbTail a u l = none := by
  unfold anbTail
  cases u with
  | nil => rfl
  | cons c v =>
    dsimp only
    rw [if_pos (fun e => by subst e; simp [pre, List.isPrefixOf] at h)]
theorem whole_eq (n : Nd) (r : List Nd) (hl : NoTail (n :: r)) : whole (n :: r) = anbHead n r := by
  have hr := hl.tail
  unfold whole anbHead
  have hlen : (n :: r).length = 1 ↔ r = [] := by simp
  simp only [hlen, see, show nd (n :: r) 0 = n from rfl]
  split
  · rfl
  split
  · rfl
  split
  · rfl
  by_cases h9 : n.tok.kind = 9 ∧ n.tok.text = [43]
  · have h9' : n.tok.kind = 9 ∧ lower n.tok.text = [43] := ⟨h9.1, (lower_one (by decide) (by decide)).2 h9.2⟩
    rw [if_neg (by rw [h9.1]; simp)]
    cases r with
    | nil => rw [tail_none (by unfold first; dsimp only; rw [if_pos h9']), if_neg (by simp), if_neg (by rw [h9.1]; decide)]
    | cons m r2 =>
      rw [show nd (m :: r2) 0 = m from rfl]
      by_cases h1 : m.tok.kind = 1
      · rw [if_pos ⟨h9.1, h9.2, by simp, h1⟩]
        by_cases hp : pre [110] (lower m.tok.text) = true
        · obtain ⟨v, hv⟩ := pre_n.1 hp
          rw [tail_some (l1 := r2) (a := 1) (v := v) (by unfold first; dsimp only; rw [if_pos h9', if_pos ⟨h1, hp⟩, hv]; rfl), second_eq _ _ _ hr.tail, hv]; rfl
        · rw [tail_none (by unfold first; dsimp only; rw [if_pos h9', if_neg (fun e => hp e.2)]), tail_none_of (by simpa using hp)]
      · rw [tail_none (by unfold first; dsimp only; rw [if_pos h9', if_neg (fun e => h1 e.1)]), if_neg (fun e => h1 e.2.2.2), if_neg (by rw [h9.1]; decide)]
  · have h9' : ¬ (n.tok.kind = 9 ∧ lower n.tok.text = [43]) := fun e => h9 ⟨e.1, (lower_one (by decide) (by decide)).1 e.2⟩
    by_cases h12 : n.tok.kind = 12 ∧ n.tok.whole = true
    · rw [if_pos h12]
      by_cases hp : pre [110] (lower n.tok.text) = true
      · obtain ⟨v, hv⟩ := pre_n.1 hp
        rw [tail_some (l1 := r) (a := n.tok.num) (v := v) (by unfold first; dsimp only; rw [if_neg h9', if_pos ⟨h12.1, h12.2, hp⟩, hv]; rfl), second_eq _ _ _ hr, hv]
      · rw [tail_none (by unfold first; dsimp only; rw [if_neg h9', if_neg (fun e => hp e.2.2), if_neg (fun e => hp e.2), if_neg (by rw [h12.1]; simp)]), tail_none_of (by simpa using hp)]
    · rw [if_neg h12, if_neg (fun e => h9 ⟨e.1, e.2.1⟩)]
      have hn12 : ¬ (n.tok.kind = 12 ∧ n.tok.whole = true ∧ pre [110] (lower n.tok.text) = true) := fun e => h12 ⟨e.1, e.2.1⟩
      by_cases h1 : n.tok.kind = 1
      · rw [if_pos h1]
        by_cases hp : pre [110] (lower n.tok.text) = true
        · obtain ⟨v, hv⟩ := pre_n.1 hp
          rw [tail_some (l1 := r) (a := 1) (v := v) (by unfold first; dsimp only; rw [if_neg h9', if_neg hn12, if_pos ⟨h1, hp⟩, hv]; rfl), second_eq _ _ _ hr, hv, if_neg (by simp)]
        · by_cases hm : pre [45, 110] (lower n.tok.text) = true
          · obtain ⟨v, hv⟩ := pre_mn.1 hm
            rw [tail_some (l1 := r) (a := -1) (v := v) (by unfold first; dsimp only; rw [if_neg h9', if_neg hn12, if_neg (fun e => hp e.2), if_pos ⟨h1, hm⟩, hv]; rfl), second_eq _ _ _ hr, hv, if_pos (by rfl)]; rfl
          · rw [tail_none (by unfold first; dsimp only; rw [if_neg h9', if_neg hn12, if_neg (fun e => hp e.2), if_neg (fun e => hm e.2)])]
            split
            · rename_i hh
              rw [tail_none_of]
              cases hs : lower n.tok.text with
              | nil => rfl
              | cons c v =>
                rw [hs] at hh hm
                simp at hh
                subst hh
                cases v with
                | nil => rfl
                | cons d v =>
                  have : ¬ 110 = d := by simpa [pre, List.isPrefixOf] using hm
                  simp [pre, List.isPrefixOf, this]
            · rw [tail_none_of (by simpa using hp)]
      · rw [if_neg h1, tail_none (by unfold first; dsimp only; rw [if_neg h9', if_neg hn12, if_neg (fun e => h1 e.1), if_neg (fun e => h1 e.1)])]
end Anb
end Go.Proofs.YtihnffmnofinmaaDoor
