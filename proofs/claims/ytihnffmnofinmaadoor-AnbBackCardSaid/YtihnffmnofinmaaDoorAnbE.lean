/- What the program says of so many is what the reference says. Plain. -/
import Derived.Test.YtihnffmnofinmaaDoorAnbP
namespace Go.Proofs.YtihnffmnofinmaaDoor
namespace Anb
open Ref
def good (n : Nd) : Prop := n.tok.kind ≠ 19 ∧ n.tok.kind ≠ 2
theorem good_of {n : Nd} {k : Int} (h : n.tok.kind = k) (h1 : k ≠ 19 := by decide) (h2 : k ≠ 2 := by decide) : good n := ⟨by rw [h]; exact h1, by rw [h]; exact h2⟩
theorem trimL_good : ∀ l : List Nd, ∀ n ∈ l, good n ∨ n ∈ trimL l
  | [], n, h => by cases h
  | m :: l, n, h => by
    unfold trimL
    by_cases hw : isWhite m = true
    · rw [if_pos hw]
      cases h with
      | head => exact .inl (good_of (k := 13) (by simpa [isWhite] using hw))
      | tail _ h => exact trimL_good l n h
    · rw [if_neg hw]; exact .inr h
theorem number_good {sg : Bool} {l l2 : List Nd} {b : Int} (h : number sg l = some (b, l2)) : ∀ n ∈ l, good n ∨ n ∈ l2 := by
  cases l with
  | nil => intro n hn; cases hn
  | cons m r =>
    unfold number at h
    dsimp only at h
    split at h
    · rename_i hk
      injection h with h; injection h with _ h
      subst h
      intro n hn
      cases hn with
      | head => exact .inl (good_of hk.1)
      | tail _ hn => exact .inr hn
    · cases h
theorem sign_good (l : List Nd) : ∀ n ∈ l, good n ∨ n ∈ (sign l).2 := by
  cases l with
  | nil => intro n hn; cases hn
  | cons m r =>
    intro n hn
    unfold sign
    dsimp only
    split
    · rename_i hk
      cases hn with
      | head => exact .inl (good_of hk.1)
      | tail _ hn => exact .inr hn
    · split
      · rename_i hk
        cases hn with
        | head => exact .inl (good_of hk.1)
        | tail _ hn => exact .inr hn
      · exact .inr hn
theorem then_good {a b : List Nd} (h : ∀ n ∈ a, good n ∨ n ∈ b) {c : List Nd} (k : ∀ n ∈ b, good n ∨ n ∈ c) : ∀ n ∈ a, good n ∨ n ∈ c := fun n hn => (h n hn).elim .inl (k n)
theorem map_some {α β : Type} {o : Option α} {f : α → β} {y : β} (h : o.map f = some y) : ∃ x, o = some x ∧ f x = y := by
  cases o with
  | none => cases h
  | some x => exact ⟨x, rfl, by simpa using h⟩
theorem second_good {v : List UInt8} {l l2 : List Nd} {b : Int} (h : second v l = some (b, l2)) : ∀ n ∈ l, good n ∨ n ∈ l2 := by
  unfold second at h
  split at h
  · obtain ⟨⟨x, y⟩, hx, hy⟩ := map_some h
    injection hy with _ hy
    subst hy
    exact then_good (trimL_good l) (number_good hx)
  split at h
  · split at h
    · injection h with h; injection h with _ h; subst h; exact fun n hn => .inr hn
    · cases h
  split at h
  · rename_i he
    injection h with h; injection h with _ h; subst h
    have := trimL_good l
    rwa [he] at this
  split at h
  · obtain ⟨⟨x, y⟩, hx, hy⟩ := map_some h
    injection hy with _ hy
    subst hy
    exact then_good (trimL_good l) (then_good (sign_good _) (then_good (trimL_good _) (number_good hx)))
  · exact then_good (trimL_good l) (number_good h)
theorem first_good {l l1 : List Nd} {a : Int} {v : List UInt8} (h : first l = some (a, v, l1)) : ∀ n ∈ l, good n ∨ n ∈ l1 := by
  have one : ∀ {m : Nd} {r : List Nd} {k : Int}, m.tok.kind = k → k ≠ 19 → k ≠ 2 → ∀ n ∈ m :: r, good n ∨ n ∈ r := fun hk h1 h2 n hn => by
    cases hn with
    | head => exact .inl (good_of hk h1 h2)
    | tail _ hn => exact .inr hn
  unfold first at h
  split at h
  · cases h
  · split at h
    · rename_i hk
      split at h
      · cases h
      · split at h
        · rename_i hk2
          injection h with h; injection h with _ h; injection h with _ h; subst h
          exact then_good (one hk.1 (by decide) (by decide)) (one hk2.1 (by decide) (by decide))
        · cases h
    · split at h
      · rename_i hk; injection h with h; injection h with _ h; injection h with _ h; subst h; exact one hk.1 (by decide) (by decide)
      · split at h
        · rename_i hk; injection h with h; injection h with _ h; injection h with _ h; subst h; exact one hk.1 (by decide) (by decide)
        · split at h
          · rename_i hk; injection h with h; injection h with _ h; injection h with _ h; subst h; exact one hk.1 (by decide) (by decide)
          · cases h
theorem tail_good {l : List Nd} {p : Int × Int} (h : tail l = some p) : ∀ n ∈ l, good n := by
  unfold tail at h
  split at h
  · cases h
  · rename_i a v l1 hf
    split at h
    · cases h
    · rename_i b l2 hs
      split at h
      · rename_i he
        subst he
        intro n hn
        rcases then_good (first_good hf) (second_good hs) n hn with h | h
        · exact h
        · cases h
      · cases h
theorem whole_good {l : List Nd} {p : Int × Int} (h : whole l = some p) : ∀ n ∈ l, good n := by
  have one : ∀ {k : Int}, l.length = 1 → (see l).1 = k → k ≠ 19 → k ≠ 2 → ∀ n ∈ l, good n := fun hl hk h1 h2 n hn => by
    match l, hl with
    | [m], _ =>
      rw [List.mem_singleton.1 hn]
      exact good_of (n := m) hk h1 h2
  unfold whole at h
  split at h
  · rename_i hk; exact one hk.1 hk.2.1 (by decide) (by decide)
  split at h
  · rename_i hk; exact one hk.1 hk.2.1 (by decide) (by decide)
  split at h
  · rename_i hk; exact one hk.1 hk.2.1 (by decide) (by decide)
  · exact tail_good h
theorem parse_eq (l : List Nd) : parse l = anb l := by
  have hno := trim_noTail l
  unfold parse anb
  generalize trim l = m at *
  have hw : (match (generalizing := false) m with | [] => none | n :: rest => anbHead n rest) = whole m := by
    cases m with
    | nil => rfl
    | cons n r => exact (whole_eq n r hno).symm
  by_cases hk : m.any (fun n => !n.kids.isEmpty) = true
  · rw [if_pos hk, if_pos]
    obtain ⟨n, hn, h⟩ := List.any_eq_true.1 hk
    exact List.any_eq_true.2 ⟨n, hn, by unfold odd; simp [h]⟩
  · rw [if_neg hk]
    refine Eq.trans ?_ hw.symm
    by_cases ho : m.any odd = true
    · rw [if_pos ho]
      obtain ⟨n, hn, h⟩ := List.any_eq_true.1 ho
      cases hp : whole m with
      | none => rfl
      | some p =>
        have hg := whole_good hp n hn
        have hkn : (!n.kids.isEmpty) = false := by
          cases hh : (!n.kids.isEmpty) with
          | false => rfl
          | true => exact absurd (List.any_eq_true.2 ⟨n, hn, hh⟩) hk
        unfold odd at h
        rw [hkn] at h
        simp [hg.1, hg.2] at h
    · rw [if_neg ho]
end Anb
end Go.Proofs.YtihnffmnofinmaaDoor
