/- Texts cut into tokens and read as nodes; what was written is read as it was. Plain. -/
import Derived.Test.YtihnffmnofinmaaDoorToke
import Derived.Test.YtihnffmnofinmaaDoorTextA
namespace Go.Proofs.YtihnffmnofinmaaDoor
namespace Ref
inductive CutAt (r : List Int) : Nat → List Tok → Prop where
  | nil (a : Nat) (h : sgn r a = -1) : CutAt r a []
  | cons (a b : Nat) (t : Tok) (l : List Tok) (h0 : 0 ≤ sgn r a) (h47 : sgn r a ≠ 47) (ht : token r a = (t, b)) (hab : a < b) (hb : b ≤ r.length) (hl : CutAt r b l) : CutAt r a (t :: l)
theorem comments_self {r : List Int} {a : Nat} (h : sgn r a ≠ 47) : comments r a = a := by
  unfold comments commentRun
  rw [if_neg (fun e => h e.1)]
theorem CutAt.len {r : List Int} {a : Nat} {l : List Tok} (h : CutAt r a l) : a ≤ r.length → a + l.length ≤ r.length := by
  induction h with
  | nil a h => intro ha; simpa using ha
  | cons a b t l h0 h47 ht hab hb hl ih => intro ha; have := ih hb; simp; omega
theorem tokensRun_cut {r : List Int} {a : Nat} {l : List Tok} (h : CutAt r a l) : ∀ (f : Nat) (acc : List Tok), l.length < f → tokensRun r f a acc = acc ++ l := by
  induction h with
  | nil a h =>
    intro f acc hf
    obtain ⟨f, rfl⟩ : ∃ g, f = g + 1 := ⟨f - 1, by simp at hf; omega⟩
    unfold tokensRun
    rw [comments_self (by rw [h]; omega), if_pos (by omega)]; simp
  | cons a b t l h0 h47 ht hab hb hl ih =>
    intro f acc hf
    obtain ⟨f, rfl⟩ : ∃ g, f = g + 1 := ⟨f - 1, by simp at hf; omega⟩
    unfold tokensRun
    rw [comments_self h47, if_neg (by omega), ht]
    dsimp only
    rw [ih f _ (by simp at hf; omega)]
    simp
theorem nodesRun_flat (t : List Tok) (h : ∀ x ∈ t, closes x = []) : ∀ (f a : Nat) (acc : List Nd), t.length - a < f → nodesRun t f a acc = acc ++ (t.drop a).map (Nd.mk · [])
  | 0, a, acc, hf => by omega
  | f + 1, a, acc, hf => by
    unfold nodesRun
    split
    · rename_i ha
      have htk : tok t a = t[a] := by simp [tok, List.getD, List.getElem?_eq_getElem ha]
      have hn : nodeRun t (2 * t.length) a 1 = (.mk t[a] [], a + 1) := by
        obtain ⟨n, hn⟩ : ∃ n, 2 * t.length = n + 1 := ⟨2 * t.length - 1, by omega⟩
        rw [hn]
        unfold nodeRun
        rw [htk, if_pos (h _ (List.getElem_mem ha))]
      rw [hn]
      dsimp only
      rw [nodesRun_flat t h f (a + 1) _ (by omega), List.drop_eq_getElem_cons ha, List.map_cons, List.append_assoc]
      rfl
    · rename_i ha
      rw [List.drop_eq_nil_of_le (by omega)]; simp
/-- Bytes that are read as they stand. -/
def Plain (t : List UInt8) : Prop := ∀ c ∈ t, 32 ≤ c.toNat ∧ c.toNat < 127
theorem readRun_plain (S : ByteArray) (h : Plain S.data.toList) : ∀ (f p : Nat) (first : Bool) (l : List Int), S.size < f + p → p ≤ S.size → readRun S f p first false l = l ++ (S.data.toList.drop p).map fun c => (c.toNat : Int)
  | 0, p, first, l, hf, hp => by omega
  | f + 1, p, first, l, hf, hp => by
    unfold readRun
    split
    · rename_i hlt
      have hm := h S[p] (by
        have : S[p] = S.data.toList[p]'(by simpa using hlt) := rfl
        rw [this]; exact List.getElem_mem _)
      rw [decode_ascii S p hlt (by omega)]
      dsimp only
      have hsg : readSign (S[p].toNat : Int) = S[p].toNat := by unfold readSign; rw [if_neg (by omega), if_neg (by omega)]
      rw [if_neg (by omega), if_neg (by simp), show decide ((S[p].toNat : Int) = 13) = false by simp; omega, hsg, readRun_plain S h f (p + 1) false _ (by omega) (by omega), drop_at S hlt]
      simp
    · rename_i hlt
      rw [List.drop_eq_nil_of_le (by simpa using hlt)]; simp
theorem read_plain {t : List UInt8} (h : Plain t) : read ⟨t.toArray⟩ = t.map fun c => (c.toNat : Int) := by
  unfold read
  rw [readRun_plain ⟨t.toArray⟩ h _ 0 true [] (by omega) (Nat.zero_le _)]
  simp
theorem stands_map (t : List UInt8) : Stands (t.map fun c => (c.toNat : Int)) 0 t := fun i h => by
  simp [sgn, List.getD, List.getElem?_eq_getElem h]
theorem end_map (t : List UInt8) : sgn (t.map fun c => (c.toNat : Int)) (0 + t.length) = -1 := by
  simp [sgn, List.getD]
/-- A text that is cut so wherever it stands last. -/
def Cuts (t : List UInt8) (l : List Tok) : Prop := ∀ r a, Stands r a t → sgn r (a + t.length) = -1 → CutAt r a l
theorem nodesOf_cuts {t : List UInt8} {l : List Tok} (hp : Plain t) (hc : Cuts t l) (hl : ∀ x ∈ l, closes x = []) : nodesOf t = l.map (Nd.mk · []) := by
  have h := hc _ 0 (stands_map t) (end_map t)
  have hlen := h.len (Nat.zero_le _)
  unfold nodesOf
  rw [read_plain hp]
  have ht : tokens (t.map fun c => (c.toNat : Int)) = l := by
    unfold tokens
    rw [tokensRun_cut h _ _ (by omega)]; rfl
  rw [ht]
  unfold nodes
  rw [nodesRun_flat l hl _ 0 [] (by omega)]
  rfl
theorem cuts_nil : Cuts [] [] := fun r a _ h => .nil a (by simpa using h)
/-- What stands first of a text, or the end. -/
def first (t : List UInt8) : Int := match t with | [] => -1 | c :: _ => c.toNat
theorem first_sgn {r : List Int} {a : Nat} {t : List UInt8} (h : Stands r a t) (he : sgn r (a + t.length) = -1) : sgn r a = first t := by
  cases t with
  | nil => simpa [first] using he
  | cons c t => exact h.cons.1
theorem stands_le {r : List Int} {a : Nat} {t : List UInt8} (h : Stands r a t) (ht : t ≠ []) : a + t.length ≤ r.length := stands_len h ht
theorem mark_first {s u : Nat} (hs : s ≤ 2) {t : List UInt8} : ∃ c w, mark s ++ Lib.decDigits u ++ t = c :: w ∧ c.toNat ≠ 47 := by
  obtain ⟨c, D', hD, hc⟩ := dec_cons u
  have hc2 : 48 ≤ c.toNat ∧ c.toNat ≤ 57 := by simpa [isDig] using hc
  rw [hD]
  match s, hs with
  | 0, _ => exact ⟨c, _, rfl, by omega⟩
  | 1, _ => exact ⟨43, _, rfl, by decide⟩
  | 2, _ => exact ⟨45, _, rfl, by decide⟩
theorem mark_ne {s u : Nat} : mark s ++ Lib.decDigits u ≠ [] := by
  intro e
  exact dec_ne u (List.append_eq_nil_iff.1 e).2
def numT (s u : Nat) : Tok := { kind := 10, whole := true, sign := decide (s ≠ 0), num := val s u }
def dimT (s u : Nat) (w : List UInt8) : Tok := { kind := 12, whole := true, sign := decide (s ≠ 0), num := val s u, text := w }
def blankT : Tok := { kind := 13 }
def signT (c : UInt8) : Tok := { kind := 9, text := [c] }
def wordT (w : List UInt8) : Tok := { kind := 1, text := w }
theorem cuts_num {s u : Nat} (hs : s ≤ 2) (hu : u ≤ 2147483648) (h1 : s ≠ 2 → u ≤ 2147483647) {t : List UInt8} {l : List Tok} (hf : first t = -1 ∨ first t = 32) (h : Cuts t l) : Cuts (mark s ++ Lib.decDigits u ++ t) (numT s u :: l) := fun r a hst he => by
  obtain ⟨hA, hB⟩ := hst.app
  rw [List.length_append, ← Nat.add_assoc] at he
  have hf2 := first_sgn hB he
  obtain ⟨c, w, hcw, hc⟩ := mark_first hs (u := u) (t := t)
  have h0 : sgn r a = (c.toNat : Int) := by rw [hcw] at hst; exact hst.cons.1
  have hlen := stands_le hA mark_ne
  have hpos : 0 < (mark s ++ Lib.decDigits u).length := List.length_pos_iff.2 mark_ne
  exact .cons a _ _ l (by omega) (by omega) (token_num hs hu h1 hA (by rw [hf2]; exact hf)) (by omega) hlen (h r _ hB he)
theorem cuts_dim {s u : Nat} (hs : s ≤ 2) (hu : u ≤ 2147483648) (h1 : s ≠ 2 → u ≤ 2147483647) {c : UInt8} (hc : c = 110 ∨ c = 78) {w t : List UInt8} {l : List Tok} (hw : ∀ x ∈ c :: w, isNameB x = true ∧ x.toNat < 128) (hf : Ends (first t)) (h : Cuts t l) :
    Cuts (mark s ++ Lib.decDigits u ++ ((c :: w) ++ t)) (dimT s u (c :: w) :: l) := fun r a hst he => by
  have hst' : Stands r a ((mark s ++ Lib.decDigits u ++ (c :: w)) ++ t) := by rw [List.append_assoc]; exact hst
  obtain ⟨hA, hB⟩ := hst'.app
  have hl : (mark s ++ Lib.decDigits u ++ (c :: w)).length = (mark s ++ Lib.decDigits u).length + (c :: w).length := List.length_append
  have he' : sgn r (a + (mark s ++ Lib.decDigits u ++ (c :: w)).length + t.length) = -1 := by rw [← he]; congr 1; simp; omega
  have hf2 := first_sgn hB he'
  obtain ⟨c0, w0, hcw, hc0⟩ := mark_first hs (u := u) (t := (c :: w) ++ t)
  have h0 : sgn r a = (c0.toNat : Int) := by rw [hcw] at hst; exact hst.cons.1
  have hlen := stands_le hA (by simp)
  rw [hl, ← Nat.add_assoc] at hf2 hB he' hlen
  exact .cons a _ _ l (by omega) (by omega) (token_dim hs hu h1 hc hA hw (by rw [hf2]; exact hf)) (by simp; omega) hlen (h r _ hB he')
theorem cuts_blank {t : List UInt8} {l : List Tok} (hf : white (first t) = false) (h : Cuts t l) : Cuts (32 :: t) (blankT :: l) := fun r a hst he => by
  obtain ⟨h0, hB⟩ := hst.cons
  have he' : sgn r (a + 1 + t.length) = -1 := by rw [← he]; congr 1; simp; omega
  have hf2 := first_sgn hB he'
  have hlen := stands_le hst (by simp)
  simp at hlen
  exact .cons a (a + 1) _ l (by rw [h0]; decide) (by rw [h0]; decide) (token_blank h0 (by rw [hf2]; exact hf)) (by omega) (by omega) (h r _ hB he')
theorem cuts_sign {c : UInt8} (hc : c = 43 ∨ c = 45) {t : List UInt8} {l : List Tok} (h : Cuts (32 :: t) l) : Cuts (c :: 32 :: t) (signT c :: l) := fun r a hst he => by
  obtain ⟨h0, hB⟩ := hst.cons
  have he' : sgn r (a + 1 + (32 :: t).length) = -1 := by rw [← he]; congr 1; simp; omega
  have hlen := stands_le hst (by simp)
  simp at hlen
  have h00 : sgn r a = 43 ∨ sgn r a = 45 := by rw [h0]; rcases hc with rfl | rfl; exact .inl rfl; exact .inr rfl
  have ht := token_sign h00 hB.cons.1
  have hcc : (if sgn r a = 43 then (43 : UInt8) else 45) = c := by rw [h0]; rcases hc with rfl | rfl <;> rfl
  rw [hcc] at ht
  exact .cons a (a + 1) _ l (by omega) (by omega) ht (by omega) (by omega) (h r _ hB he')
theorem cuts_word {w t : List UInt8} {l : List Tok} (hw : ∀ x ∈ (110 :: w : List UInt8), isNameB x = true ∧ x.toNat < 128) (hf : Ends (first t)) (h : Cuts t l) : Cuts ((110 :: w) ++ t) (wordT (110 :: w) :: l) := fun r a hst he => by
  obtain ⟨hA, hB⟩ := hst.app
  rw [List.length_append, ← Nat.add_assoc] at he
  have hf2 := first_sgn hB he
  have h0 : sgn r a = 110 := hA.cons.1
  have hlen := stands_le hA (by simp)
  exact .cons a _ _ l (by omega) (by omega) (token_word hA hw (by rw [hf2]; exact hf)) (by simp) hlen (h r _ hB he)
theorem dec_names (u : Nat) : ∀ x ∈ Lib.decDigits u, isNameB x = true ∧ x.toNat < 128 := fun x hx => by
  have := dec_dig u x hx
  have h2 : 48 ≤ x.toNat ∧ x.toNat ≤ 57 := by simpa [isDig] using this
  refine ⟨?_, by omega⟩
  unfold isNameB nameSign
  have : digit (x.toNat : Int) = true := by simp [digit]; omega
  rw [this]; simp
theorem itoa_mark (n : Int) : Lib.itoa n = mark (if n < 0 then 2 else 0) ++ Lib.decDigits n.natAbs := by
  unfold Lib.itoa
  split
  · rfl
  · rename_i h; rw [show n.toNat = n.natAbs by omega]; rfl
theorem val_eq (n : Int) : val (if n < 0 then 2 else 0) n.natAbs = n := by
  unfold val
  by_cases h : n < 0
  · rw [if_pos h, if_pos rfl]; omega
  · rw [if_neg h, if_neg (by decide)]; omega
end Ref
end Go.Proofs.YtihnffmnofinmaaDoor
