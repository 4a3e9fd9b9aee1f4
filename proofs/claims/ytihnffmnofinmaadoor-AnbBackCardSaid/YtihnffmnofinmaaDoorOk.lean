/- What the tokens of a text may hold: texts of so many bytes, numbers of 32 binary digits. Plain. -/
import Derived.Test.YtihnffmnofinmaaDoorAnbR
namespace Go.Proofs.YtihnffmnofinmaaDoor
namespace Ref
theorem nameRun_len (r : List Int) : ∀ (f a : Nat) (s : List UInt8), (nameRun r f a s).1.length ≤ s.length + 4 * f
  | 0, a, s => Nat.le_refl _
  | f + 1, a, s => by
    have hp := fun x => put_len x
    unfold nameRun
    split
    · have h1 := nameRun_len r f (a + 1) (s ++ put (sgn r a))
      have h2 := hp (sgn r a)
      rw [List.length_append] at h1; omega
    · split
      · have h1 := nameRun_len r f (escaped r (a + 1)).2 (s ++ put (escaped r (a + 1)).1)
        have h2 := hp (escaped r (a + 1)).1
        rw [List.length_append] at h1; omega
      · simp
theorem name_len (r : List Int) (a : Nat) : (name r a).1.length ≤ 4 * (r.length + 1) := by
  have := nameRun_len r (r.length + 1) a []
  simpa [name] using this
theorem quotedRun_len (r : List Int) (q : Int) : ∀ (f a : Nat) (s : List UInt8), (quotedRun r q f a s).1.text.length ≤ s.length + 4 * f ∧ (quotedRun r q f a s).1.num = 0
  | 0, a, s => ⟨Nat.le_refl _, rfl⟩
  | f + 1, a, s => by
    unfold quotedRun
    repeat' split
    · exact ⟨by simp, rfl⟩
    · exact ⟨by simp, rfl⟩
    · exact ⟨by simp, rfl⟩
    · have h := quotedRun_len r q f (a + 1) s; exact ⟨by omega, h.2⟩
    · have h := quotedRun_len r q f (a + 2) s; exact ⟨by omega, h.2⟩
    · have h := quotedRun_len r q f (escaped r (a + 1)).2 (s ++ put (escaped r (a + 1)).1)
      have h2 := put_len (escaped r (a + 1)).1
      rw [List.length_append] at h; exact ⟨by omega, h.2⟩
    · have h := quotedRun_len r q f (a + 1) (s ++ put (sgn r a))
      have h2 := put_len (sgn r a)
      rw [List.length_append] at h; exact ⟨by omega, h.2⟩
theorem urlRun_len (r : List Int) : ∀ (f a : Nat) (s : List UInt8), (urlRun r f a s).1.text.length ≤ s.length + 4 * f ∧ (urlRun r f a s).1.num = 0
  | 0, a, s => ⟨Nat.le_refl _, rfl⟩
  | f + 1, a, s => by
    unfold urlRun
    repeat' split
    · exact ⟨by simp, rfl⟩
    · have h := urlRun_len r f (whites r a) s; exact ⟨by omega, h.2⟩
    · exact ⟨by simp [badURL], rfl⟩
    · exact ⟨by simp [badURL], rfl⟩
    · have h := urlRun_len r f (escaped r (a + 1)).2 (s ++ put (escaped r (a + 1)).1)
      have h2 := put_len (escaped r (a + 1)).1
      rw [List.length_append] at h; exact ⟨by omega, h.2⟩
    · have h := urlRun_len r f (a + 1) (s ++ put (sgn r a))
      have h2 := put_len (sgn r a)
      rw [List.length_append] at h; exact ⟨by omega, h.2⟩
theorem int_bd (s : List UInt8) : -2147483648 ≤ int s ∧ int s ≤ 2147483647 := by
  unfold int
  split
  · omega
  · split
    · omega
    · rename_i c cs _
      cases hr : intRun (if isSign c = true then cs else c :: cs) 0 with
      | none => simp
      | some n =>
        have := intRun_bd _ 0 n (by omega) hr
        dsimp only
        split <;> omega
theorem ident_ok (r : List Int) (a : Nat) : (ident r a).1.text.length ≤ 4 * (r.length + 1) ∧ (ident r a).1.num = 0 := by
  have hn := name_len r a
  unfold ident
  dsimp only
  repeat' split
  · exact ⟨hn, rfl⟩
  · exact ⟨hn, rfl⟩
  · exact ⟨hn, rfl⟩
  · have := urlRun_len r (r.length + 1) (whites r ((name r a).2 + 1)) []
    exact ⟨by simpa [url] using this.1, this.2⟩
theorem number_ok (r : List Int) (a : Nat) : (number r a).1.text.length ≤ 4 * (r.length + 1) ∧ -2147483648 ≤ (number r a).1.num ∧ (number r a).1.num ≤ 2147483647 := by
  have hi := int_bd (numWhole r a).1
  unfold number
  dsimp only
  split
  · exact ⟨name_len r _, by dsimp only; split <;> omega, by dsimp only; split <;> omega⟩
  · split
    · exact ⟨by simp, by dsimp only; split <;> omega, by dsimp only; split <;> omega⟩
    · exact ⟨by simp, by dsimp only; split <;> omega, by dsimp only; split <;> omega⟩
theorem token_ok (r : List Int) (a : Nat) (hr : r.length ≤ 16777216) : (token r a).1.ok := by
  have zero : ∀ t : Tok, t.text.length ≤ 4 * (r.length + 1) → t.num = 0 → t.ok := fun t h1 h2 => ⟨by omega, by omega, by omega⟩
  unfold token
  dsimp only
  split
  · refine zero _ ?_ rfl
    have := put_len (sgn r a)
    show (plainText (sgn r a)).length ≤ _
    unfold plainText; split; omega; simp
  split
  · exact zero _ (by simp) rfl
  split
  · have := quotedRun_len r (sgn r a) (r.length + 1) (a + 1) []
    exact zero _ (by simpa [quoted] using this.1) this.2
  split
  · exact zero _ (name_len r _) rfl
  split
  · have := number_ok r a
    exact ⟨by omega, this.2⟩
  split
  · exact zero _ (by simp) rfl
  split
  · exact zero _ (by simp) rfl
  split
  · exact zero _ (name_len r _) rfl
  split
  · exact zero _ (ident_ok r a).1 (ident_ok r a).2
  · refine zero _ ?_ rfl
    have := put_len (sgn r a)
    show (put (sgn r a)).length ≤ _
    omega
theorem tokensRun_ok (r : List Int) (hr : r.length ≤ 16777216) : ∀ (f a : Nat) (l : List Tok), (∀ t ∈ l, t.ok) → ∀ t ∈ tokensRun r f a l, t.ok
  | 0, a, l, h => h
  | f + 1, a, l, h => by
    unfold tokensRun
    split
    · exact h
    · refine tokensRun_ok r hr f _ _ (fun t ht => ?_)
      rcases List.mem_append.1 ht with ht | ht
      · exact h t ht
      · rw [List.mem_singleton.1 ht]; exact token_ok r _ hr
theorem nodeRun_tok (t : List Tok) : ∀ (f a d : Nat), (nodeRun t f a d).1.tok = tok t a
  | 0, a, d => rfl
  | f + 1, a, d => by
    unfold nodeRun
    split <;> rfl
theorem nodesRun_oks (t : List Tok) (h : ∀ x ∈ t, x.ok) : ∀ (f a : Nat) (l : List Nd), Oks l → Oks (nodesRun t f a l)
  | 0, a, l, hl => hl
  | f + 1, a, l, hl => by
    unfold nodesRun
    split
    · rename_i ha
      refine nodesRun_oks t h f _ _ (fun n hn => ?_)
      rcases List.mem_append.1 hn with hn | hn
      · exact hl n hn
      · rw [List.mem_singleton.1 hn, nodeRun_tok]
        unfold tok
        rw [List.getD_eq_getElem?_getD, List.getElem?_eq_getElem ha]
        exact h _ (List.getElem_mem ha)
    · exact hl
theorem nodesOf_oks (s : List UInt8) (hs : s.length ≤ 16777215) : Oks (nodesOf s) := by
  unfold nodesOf nodes
  refine nodesRun_oks _ (fun x hx => ?_) _ _ _ (fun n hn => by cases hn)
  have hr := read_runes ⟨s.toArray⟩ (by simp [ByteArray.size]; omega)
  exact tokensRun_ok _ hr.len _ _ _ (fun t ht => by cases ht) x hx
end Ref
end Go.Proofs.YtihnffmnofinmaaDoor
