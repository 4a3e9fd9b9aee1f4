/- How texts of digits, names, signs and blanks are cut into tokens. Plain. -/
import Derived.Test.YtihnffmnofinmaaDoorAnbE
import Derived.Lib.ItoaNum
namespace Go.Proofs.YtihnffmnofinmaaDoor
namespace Ref
/-- A text stands at a place. -/
def Stands (r : List Int) (a : Nat) (t : List UInt8) : Prop := ∀ i (h : i < t.length), sgn r (a + i) = (t[i].toNat : Int)
theorem Stands.app {r : List Int} {a : Nat} {t u : List UInt8} (h : Stands r a (t ++ u)) : Stands r a t ∧ Stands r (a + t.length) u := by
  refine ⟨fun i hi => ?_, fun i hi => ?_⟩
  · have := h i (by simp; omega)
    rw [this, List.getElem_append_left hi]
  · have := h (t.length + i) (by simp; omega)
    rw [Nat.add_assoc, this, List.getElem_append_right (by omega)]
    simp
theorem Stands.cons {r : List Int} {a : Nat} {c : UInt8} {t : List UInt8} (h : Stands r a (c :: t)) : sgn r a = (c.toNat : Int) ∧ Stands r (a + 1) t := by
  refine ⟨h 0 (by simp), fun i hi => ?_⟩
  have := h (i + 1) (by simp; omega)
  rw [show a + 1 + i = a + (i + 1) by omega, this]
  simp
/-- What may stand behind a name or a number: nothing of either. -/
def Ends (x : Int) : Prop := x = -1 ∨ x = 32 ∨ x = 43
theorem put_ascii {c : UInt8} (h : c.toNat < 128) : put (c.toNat : Int) = [c] := by
  have hv : valid (c.toNat : Int) = true := by simp [valid]; omega
  unfold put
  rw [if_pos hv]
  unfold encNat
  rw [if_pos (by omega)]
  simp
theorem digitsRun_stands (r : List Int) : ∀ (D : List UInt8) (f a : Nat) (s : List UInt8), Stands r a D → (∀ c ∈ D, isDig c = true) → digit (sgn r (a + D.length)) = false → D.length < f → digitsRun r f a s = (s ++ D, a + D.length)
  | [], f, a, s, _, _, he, hf => by
    obtain ⟨f, rfl⟩ : ∃ g, f = g + 1 := ⟨f - 1, by simp at hf; omega⟩
    unfold digitsRun
    rw [if_neg (by simpa using he)]
    simp
  | c :: D, f, a, s, h, hd, he, hf => by
    obtain ⟨f, rfl⟩ : ∃ g, f = g + 1 := ⟨f - 1, by simp at hf; omega⟩
    obtain ⟨h0, h1⟩ := h.cons
    have hc := hd c (by simp)
    have hc2 : 48 ≤ c.toNat ∧ c.toNat ≤ 57 := by simpa [isDig] using hc
    unfold digitsRun
    rw [if_pos (by rw [h0]; simp [digit]; omega), h0, put_ascii (by omega), digitsRun_stands r D f (a + 1) (s ++ [c]) h1 (fun x hx => hd x (by simp [hx])) (by rw [← he]; congr 2; simp; omega) (by simp at hf; omega)]
    simp; omega
def isNameB (c : UInt8) : Bool := nameSign (c.toNat : Int)
theorem nameRun_stands (r : List Int) : ∀ (D : List UInt8) (f a : Nat) (s : List UInt8), Stands r a D → (∀ c ∈ D, isNameB c = true ∧ c.toNat < 128) → Ends (sgn r (a + D.length)) → D.length < f → nameRun r f a s = (s ++ D, a + D.length)
  | [], f, a, s, _, _, he, hf => by
    obtain ⟨f, rfl⟩ : ∃ g, f = g + 1 := ⟨f - 1, by simp at hf; omega⟩
    simp only [List.length_nil, Nat.add_zero] at he ⊢
    have h1 : nameSign (sgn r a) = false := by rcases he with h | h | h <;> rw [h] <;> decide
    have h2 : isEsc r a = false := by unfold isEsc; rcases he with h | h | h <;> rw [h] <;> simp
    unfold nameRun
    rw [if_neg (by simp [h1]), if_neg (by simp [h2])]
    simp
  | c :: D, f, a, s, h, hd, he, hf => by
    obtain ⟨f, rfl⟩ : ∃ g, f = g + 1 := ⟨f - 1, by simp at hf; omega⟩
    obtain ⟨h0, h1⟩ := h.cons
    have hc := hd c (by simp)
    unfold nameRun
    rw [if_pos (by rw [h0]; exact hc.1), h0, put_ascii hc.2, nameRun_stands r D f (a + 1) (s ++ [c]) h1 (fun x hx => hd x (by simp [hx])) (by rw [show a + 1 + D.length = a + (c :: D).length by simp; omega]; exact he) (by simp at hf; omega)]
    simp; omega
theorem stands_len {r : List Int} {a : Nat} {t : List UInt8} (h : Stands r a t) (ht : t ≠ []) : a + t.length ≤ r.length := by
  have hl : 0 < t.length := List.length_pos_iff.2 ht
  have := h (t.length - 1) (by omega)
  rcases Nat.lt_or_ge (a + (t.length - 1)) r.length with hh | hh
  · omega
  · rw [show sgn r (a + (t.length - 1)) = -1 by simp [sgn, List.getD, List.getElem?_eq_none hh]] at this
    omega
theorem digits_stands {r : List Int} {a : Nat} {D : List UInt8} (h : Stands r a D) (h0 : D ≠ []) (hd : ∀ c ∈ D, isDig c = true) (he : digit (sgn r (a + D.length)) = false) : digits r a = (D, a + D.length) := by
  have hl := stands_len h h0
  unfold digits
  rw [digitsRun_stands r D _ a [] h hd he (by omega)]
  simp
theorem name_stands {r : List Int} {a : Nat} {D : List UInt8} (h : Stands r a D) (h0 : D ≠ []) (hd : ∀ c ∈ D, isNameB c = true ∧ c.toNat < 128) (he : Ends (sgn r (a + D.length))) : name r a = (D, a + D.length) := by
  have hl := stands_len h h0
  unfold name
  rw [nameRun_stands r D _ a [] h hd he (by omega)]
  simp
theorem intRun_app : ∀ (l m : List UInt8) (n : Int), intRun (l ++ m) n = (intRun l n).bind (intRun m)
  | [], m, n => rfl
  | c :: l, m, n => by
    rw [List.cons_append]
    unfold intRun
    split
    · exact intRun_app l m _
    · rfl
theorem dec_dig : ∀ (u : Nat), ∀ c ∈ Lib.decDigits u, isDig c = true := by
  intro u
  induction u using Nat.strongRecOn with
  | ind u ih =>
    intro c hc
    rw [Lib.decDigits] at hc
    split at hc
    · rw [List.mem_singleton.1 hc]; simp [isDig, UInt8.toNat_ofNat']; omega
    · rcases List.mem_append.1 hc with hc | hc
      · exact ih _ (by omega) c hc
      · rw [List.mem_singleton.1 hc]; simp [isDig, UInt8.toNat_ofNat']; omega
theorem dec_ne (u : Nat) : Lib.decDigits u ≠ [] := by
  rw [Lib.decDigits]
  split <;> simp
theorem intRun_dec : ∀ (u : Nat), u ≤ 4294967296 → intRun (Lib.decDigits u) 0 = some (u : Int) := by
  intro u
  induction u using Nat.strongRecOn with
  | ind u ih =>
    intro hu
    have one : ∀ (d : Nat) (m : Int), d < 10 → intRun [UInt8.ofNat (48 + d)] m = some (min (m * 10 + d) 4294967296) := fun d m hd => by
      have e : (UInt8.ofNat (48 + d)).toNat = 48 + d := by rw [UInt8.toNat_ofNat']; omega
      unfold intRun
      rw [if_pos (by omega)]
      unfold intRun
      rw [e]
      congr 2
      omega
    rw [Lib.decDigits]
    split
    · rename_i h
      rw [one u 0 h]
      congr 1
      omega
    · rename_i h
      rw [intRun_app, ih (u / 10) (by omega) (by omega)]
      simp only [Option.bind_some]
      rw [one (u % 10) _ (Nat.mod_lt _ (by omega))]
      congr 1
      omega
/-- A sign ahead of digits: 0 none, 1 a +, 2 a -. -/
def mark : Nat → List UInt8
  | 0 => []
  | 1 => [43]
  | _ => [45]
theorem int_dec (s u : Nat) (hs : s ≤ 2) (hu : u ≤ 2147483648) (h1 : s ≠ 2 → u ≤ 2147483647) : int (mark s ++ Lib.decDigits u) = if s = 2 then -(u : Int) else u := by
  have hr := intRun_dec u (by omega)
  obtain ⟨c, D, hD⟩ : ∃ c D, Lib.decDigits u = c :: D := by
    cases h : Lib.decDigits u with
    | nil => exact absurd h (dec_ne u)
    | cons c D => exact ⟨c, D, rfl⟩
  have hc := dec_dig u c (by rw [hD]; simp)
  have hc2 : 48 ≤ c.toNat ∧ c.toNat ≤ 57 := by simpa [isDig] using hc
  rw [hD] at hr ⊢
  match s, hs with
  | 0, _ =>
    have hsg : isSign c = false := by simp [isSign]; omega
    show int (c :: D) = _
    unfold int
    dsimp only
    rw [hsg]
    simp only [Bool.false_and, Bool.false_eq_true, if_false]
    rw [hr]
    dsimp only
    rw [if_neg (by omega), if_neg (by omega)]
    have := h1 (by omega); omega
  | 1, _ =>
    show int (43 :: c :: D) = _
    unfold int
    dsimp only
    rw [show isSign 43 = true from rfl]
    simp only [List.isEmpty_cons, Bool.and_false, Bool.false_eq_true, if_false, if_true]
    rw [hr]
    dsimp only
    rw [if_neg (by decide), if_neg (by omega)]
    have := h1 (by omega); omega
  | 2, _ =>
    show int (45 :: c :: D) = _
    unfold int
    dsimp only
    rw [show isSign 45 = true from rfl]
    simp only [List.isEmpty_cons, Bool.and_false, Bool.false_eq_true, if_false, if_true]
    rw [hr]
    dsimp only
    rw [if_pos (by decide)]
    omega
/-- What may stand behind a number's digits. -/
def Follow (y : Int) : Prop := y = -1 ∨ y = 32 ∨ y = 110 ∨ y = 78
theorem numHead_mark {r : List Int} {a s : Nat} {D : List UInt8} (hs : s ≤ 2) (h : Stands r a (mark s ++ D)) (hD : ∃ c D', D = c :: D' ∧ isDig c = true) : numHead r a = (mark s, a + (mark s).length) := by
  obtain ⟨c, D', rfl, hc⟩ := hD
  have hc2 : 48 ≤ c.toNat ∧ c.toNat ≤ 57 := by simpa [isDig] using hc
  unfold numHead
  match s, hs with
  | 0, _ =>
    have h0 := (h : Stands r a (c :: D')).cons.1
    rw [if_neg (by rw [h0]; omega)]; rfl
  | 1, _ =>
    have h0 := (h : Stands r a (43 :: c :: D')).cons.1
    rw [if_pos (by rw [h0]; exact .inl rfl), h0, put_ascii (by decide)]; rfl
  | 2, _ =>
    have h0 := (h : Stands r a (45 :: c :: D')).cons.1
    rw [if_pos (by rw [h0]; exact .inr rfl), h0, put_ascii (by decide)]; rfl
theorem dec_cons (u : Nat) : ∃ c D', Lib.decDigits u = c :: D' ∧ isDig c = true := by
  cases h : Lib.decDigits u with
  | nil => exact absurd h (dec_ne u)
  | cons c D => exact ⟨c, D, rfl, dec_dig u c (by rw [h]; simp)⟩
/-- A number's value. -/
def val (s u : Nat) : Int := if s = 2 then -(u : Int) else u
theorem number_stands {r : List Int} {a s u : Nat} (hs : s ≤ 2) (hu : u ≤ 2147483648) (h1 : s ≠ 2 → u ≤ 2147483647) (h : Stands r a (mark s ++ Lib.decDigits u))
    (hy : Follow (sgn r (a + (mark s ++ Lib.decDigits u).length))) :
    number r a = if names r (a + (mark s ++ Lib.decDigits u).length) then ({ kind := 12, whole := true, sign := decide (s ≠ 0), num := val s u, text := (name r (a + (mark s ++ Lib.decDigits u).length)).1 }, (name r (a + (mark s ++ Lib.decDigits u).length)).2)
      else ({ kind := 10, whole := true, sign := decide (s ≠ 0), num := val s u }, a + (mark s ++ Lib.decDigits u).length) := by
  obtain ⟨c, D', hD, hc⟩ := dec_cons u
  have hh := numHead_mark hs h ⟨c, D', hD, hc⟩
  have hA := h.app.2
  rw [List.length_append, ← Nat.add_assoc] at hy ⊢
  have hdy : digit (sgn r (a + (mark s).length + (Lib.decDigits u).length)) = false := by rcases hy with h | h | h | h <;> rw [h] <;> decide
  have hdg := digits_stands hA (dec_ne u) (dec_dig u) hdy
  have hw : numWhole r a = (mark s ++ Lib.decDigits u, a + (mark s).length + (Lib.decDigits u).length) := by
    unfold numWhole; rw [hh]; dsimp only; rw [hdg]
  have hp : numPoint r (true, a + (mark s).length + (Lib.decDigits u).length) = (true, a + (mark s).length + (Lib.decDigits u).length) := by
    unfold numPoint
    dsimp only
    rw [if_neg]
    rcases hy with h | h | h | h <;> rw [h] <;> simp
  have he : numExp r (true, a + (mark s).length + (Lib.decDigits u).length) = (true, a + (mark s).length + (Lib.decDigits u).length) := by
    unfold numExp
    dsimp only
    rw [if_neg]
    rcases hy with h | h | h | h <;> rw [h] <;> simp
  have hsg : decide (sgn r a = 43 ∨ sgn r a = 45) = decide (s ≠ 0) := by
    have hc2 : 48 ≤ c.toNat ∧ c.toNat ≤ 57 := by simpa [isDig] using hc
    rw [hD] at h
    match s, hs with
    | 0, _ => have h0 := (h : Stands r a (c :: D')).cons.1; rw [h0]; simp; omega
    | 1, _ => have h0 := (h : Stands r a (43 :: c :: D')).cons.1; rw [h0]; simp
    | 2, _ => have h0 := (h : Stands r a (45 :: c :: D')).cons.1; rw [h0]; simp
  have hi : int (mark s ++ Lib.decDigits u) = val s u := int_dec s u hs hu h1
  unfold number
  dsimp only
  rw [hw]
  dsimp only
  rw [hp, he]
  dsimp only
  rw [hi, hsg]
  split
  · rfl
  · rw [if_neg (by rcases hy with h | h | h | h <;> rw [h] <;> omega)]
    rfl
theorem token_nums {r : List Int} {a s u : Nat} (hs : s ≤ 2) (h : Stands r a (mark s ++ Lib.decDigits u)) : token r a = number r a := by
  obtain ⟨c, D', hD, hc⟩ := dec_cons u
  have hc2 : 48 ≤ c.toNat ∧ c.toNat ≤ 57 := by simpa [isDig] using hc
  rw [hD] at h
  have hx : (sgn r a = 43 ∨ sgn r a = 45 ∨ sgn r a = 46 ∨ digit (sgn r a) = true) ∧ numbers r a = true ∧ (sgn r a = 43 ∨ sgn r a = 45 ∨ (48 ≤ sgn r a ∧ sgn r a ≤ 57)) := by
    match s, hs with
    | 0, _ =>
      have h0 := (h : Stands r a (c :: D')).cons.1
      have hd : digit (sgn r a) = true := by rw [h0]; simp [digit]; omega
      refine ⟨.inr (.inr (.inr hd)), ?_, .inr (.inr (by omega))⟩
      unfold numbers signK
      rw [if_neg (by rw [h0]; omega), Nat.add_zero, hd]; rfl
    | 1, _ =>
      obtain ⟨h0, h1⟩ := (h : Stands r a (43 :: c :: D')).cons
      have hd : digit (sgn r (a + 1)) = true := by rw [h1.cons.1]; simp [digit]; omega
      refine ⟨.inl h0, ?_, .inl h0⟩
      unfold numbers signK
      rw [if_pos (.inl h0), hd]; rfl
    | 2, _ =>
      obtain ⟨h0, h1⟩ := (h : Stands r a (45 :: c :: D')).cons
      have hd : digit (sgn r (a + 1)) = true := by rw [h1.cons.1]; simp [digit]; omega
      refine ⟨.inr (.inl h0), ?_, .inr (.inl h0)⟩
      unfold numbers signK
      rw [if_pos (.inr h0), hd]; rfl
  obtain ⟨hx1, hx2, hx3⟩ := hx
  have hpl : plain (sgn r a) = 0 := by
    unfold plain
    rw [if_neg (by omega), if_neg (by omega), if_neg (by omega), if_neg (by omega), if_neg (by omega)]
  have hwh : white (sgn r a) = false := by simp [white]; omega
  unfold token
  dsimp only
  rw [if_neg (by simp [hpl]), if_neg (by simp [hwh]), if_neg (by omega), if_neg (by omega), if_pos ⟨hx1, hx2⟩]
theorem names_n {r : List Int} {a : Nat} (h : sgn r a = 110 ∨ sgn r a = 78) : names r a = true := by
  unfold names
  rcases h with h | h <;> rw [h, if_neg (by decide)] <;> rfl
theorem names_end {r : List Int} {a : Nat} (h : sgn r a = -1 ∨ sgn r a = 32) : names r a = false := by
  unfold names isEsc
  rcases h with h | h <;> rw [h, if_neg (by decide)] <;> rfl
/-- A number alone. -/
theorem token_num {r : List Int} {a s u : Nat} (hs : s ≤ 2) (hu : u ≤ 2147483648) (h1 : s ≠ 2 → u ≤ 2147483647) (h : Stands r a (mark s ++ Lib.decDigits u))
    (hy : sgn r (a + (mark s ++ Lib.decDigits u).length) = -1 ∨ sgn r (a + (mark s ++ Lib.decDigits u).length) = 32) :
    token r a = ({ kind := 10, whole := true, sign := decide (s ≠ 0), num := val s u }, a + (mark s ++ Lib.decDigits u).length) := by
  rw [token_nums hs h, number_stands hs hu h1 h (hy.elim .inl (fun e => .inr (.inl e))), if_neg (by rw [names_end hy]; simp)]
/-- A number and what it is of. -/
theorem token_dim {r : List Int} {a s u : Nat} {c : UInt8} {w : List UInt8} (hs : s ≤ 2) (hu : u ≤ 2147483648) (h1 : s ≠ 2 → u ≤ 2147483647) (hc : c = 110 ∨ c = 78) (h : Stands r a (mark s ++ Lib.decDigits u ++ c :: w))
    (hw : ∀ x ∈ c :: w, isNameB x = true ∧ x.toNat < 128) (he : Ends (sgn r (a + (mark s ++ Lib.decDigits u).length + (c :: w).length))) :
    token r a = ({ kind := 12, whole := true, sign := decide (s ≠ 0), num := val s u, text := c :: w }, a + (mark s ++ Lib.decDigits u).length + (c :: w).length) := by
  obtain ⟨hA, hB⟩ := h.app
  have h0 := hB.cons.1
  have hc' : sgn r (a + (mark s ++ Lib.decDigits u).length) = 110 ∨ sgn r (a + (mark s ++ Lib.decDigits u).length) = 78 := by
    rw [h0]; rcases hc with rfl | rfl; exact .inl rfl; exact .inr rfl
  rw [token_nums hs hA, number_stands hs hu h1 hA (hc'.elim (fun e => .inr (.inr (.inl e))) (fun e => .inr (.inr (.inr e)))), if_pos (names_n hc'), name_stands hB (by simp) hw he]
/-- A word. -/
theorem token_word {r : List Int} {a : Nat} {w : List UInt8} (h : Stands r a (110 :: w)) (hw : ∀ x ∈ (110 :: w : List UInt8), isNameB x = true ∧ x.toNat < 128) (he : Ends (sgn r (a + (110 :: w).length))) :
    token r a = ({ kind := 1, text := 110 :: w }, a + (110 :: w).length) := by
  have h0 : sgn r a = 110 := h.cons.1
  have hn := name_stands h (by simp) hw he
  unfold token
  dsimp only
  rw [h0, if_neg (by decide), if_neg (by decide), if_neg (by omega), if_neg (by omega), if_neg (by simp [digit]), if_neg (by omega), if_neg (by omega), if_neg (by omega), if_pos (names_n (.inl h0))]
  unfold ident
  dsimp only
  rw [hn]
  dsimp only
  rw [if_pos (by rcases he with e | e | e <;> rw [e] <;> decide)]
/-- A blank, and no white behind it. -/
theorem token_blank {r : List Int} {a : Nat} (h : sgn r a = 32) (he : white (sgn r (a + 1)) = false) : token r a = ({ kind := 13 }, a + 1) := by
  have hl : a < r.length := by
    rcases Nat.lt_or_ge a r.length with hh | hh
    · exact hh
    · rw [show sgn r a = -1 by simp [sgn, List.getD, List.getElem?_eq_none hh]] at h; omega
  have hw : whites r a = a + 1 := by
    unfold whites
    obtain ⟨n, hn⟩ : ∃ n, r.length = n + 1 := ⟨r.length - 1, by omega⟩
    rw [hn]
    unfold whiteRun
    rw [if_pos (by rw [h]; rfl)]
    unfold whiteRun
    rw [if_neg (by simp [he])]
  unfold token
  dsimp only
  rw [h, if_neg (by decide), if_pos (by decide), hw]
/-- A sign that stands by itself. -/
theorem token_sign {r : List Int} {a : Nat} (h : sgn r a = 43 ∨ sgn r a = 45) (he : sgn r (a + 1) = 32) : token r a = ({ kind := 9, text := [if sgn r a = 43 then 43 else 45] }, a + 1) := by
  have hk : signK (sgn r a) = 1 := by unfold signK; rw [if_pos h]
  have hnum : numbers r a = false := by unfold numbers; rw [hk, he]; rfl
  have hnm : names r a = false := by
    unfold names isEsc
    rcases h with h | h
    · rw [h, if_neg (by decide)]; rfl
    · rw [h, if_pos rfl, he]; rfl
  have hpl : plain (sgn r a) = 0 := by rcases h with h | h <;> rw [h] <;> decide
  have hwh : white (sgn r a) = false := by rcases h with h | h <;> rw [h] <;> decide
  unfold token
  dsimp only
  rw [if_neg (by simp [hpl]), if_neg (by simp [hwh]), if_neg (by omega), if_neg (by omega), if_neg (by simp [hnum]), if_neg (by rw [he]; omega), if_neg (by omega), if_neg (by omega), if_neg (by simp [hnm])]
  unfold delim
  rcases h with h | h <;> rw [h] <;> rfl
end Ref
end Go.Proofs.YtihnffmnofinmaaDoor
