/- Every token goes on. -/
import Derived.Test.YtihnffmnofinmaaDoorRdrB
namespace Go.Proofs.YtihnffmnofinmaaDoor
open Go.RowKit
namespace Ref
variable (r : List Int)
theorem hexRun_ge : ∀ (k a : Nat) (n : Int), a ≤ (hexRun r k a n).2
  | 0, a, n => Nat.le_refl _
  | k + 1, a, n => by unfold hexRun; split; exact Nat.le_trans (Nat.le_succ a) (hexRun_ge k (a + 1) _); exact Nat.le_refl _
theorem escaped_ge (a : Nat) : a ≤ (escaped r a).2 := by
  unfold escaped pastWhite
  have := hexRun_ge r 6 a 0
  repeat' split
  all_goals first | exact Nat.le_refl _ | exact Nat.le_succ _ | exact this | exact Nat.le_succ_of_le this
theorem nameRun_ge : ∀ (f a : Nat) (s : List UInt8), a ≤ (nameRun r f a s).2
  | 0, a, s => Nat.le_refl _
  | f + 1, a, s => by
    unfold nameRun
    split
    · exact Nat.le_trans (Nat.le_succ a) (nameRun_ge f (a + 1) _)
    · split
      · exact Nat.le_trans (Nat.le_trans (Nat.le_succ a) (escaped_ge r (a + 1))) (nameRun_ge f _ _)
      · exact Nat.le_refl _
theorem name_ge (a : Nat) : a ≤ (name r a).2 := nameRun_ge r _ a []
theorem digitsRun_ge : ∀ (f a : Nat) (s : List UInt8), a ≤ (digitsRun r f a s).2
  | 0, a, s => Nat.le_refl _
  | f + 1, a, s => by unfold digitsRun; split; exact Nat.le_trans (Nat.le_succ a) (digitsRun_ge f (a + 1) _); exact Nat.le_refl _
theorem digits_ge (a : Nat) : a ≤ (digits r a).2 := digitsRun_ge r _ a []
theorem whiteRun_ge : ∀ (f a : Nat), a ≤ whiteRun r f a
  | 0, a => Nat.le_refl _
  | f + 1, a => by unfold whiteRun; split; exact Nat.le_trans (Nat.le_succ a) (whiteRun_ge f (a + 1)); exact Nat.le_refl _
theorem whites_ge (a : Nat) : a ≤ whites r a := whiteRun_ge r _ a
theorem past_ge (a : Nat) : a ≤ past r a := by unfold past; split; exact Nat.le_succ a; exact Nat.le_refl _
theorem quotedRun_ge (q : Int) : ∀ (f a : Nat) (s : List UInt8), a ≤ (quotedRun r q f a s).2
  | 0, a, s => Nat.le_refl _
  | f + 1, a, s => by
    unfold quotedRun
    repeat' split
    all_goals (first | exact Nat.le_refl _ | exact Nat.le_succ _ | exact Nat.le_trans (Nat.le_succ a) (quotedRun_ge q f (a + 1) _) | exact Nat.le_trans (Nat.le_add_right a 2) (quotedRun_ge q f (a + 2) _) | exact Nat.le_trans (Nat.le_trans (Nat.le_succ a) (escaped_ge r (a + 1))) (quotedRun_ge q f _ _))
theorem badRun_ge : ∀ (f a : Nat), a ≤ badRun r f a
  | 0, a => Nat.le_refl _
  | f + 1, a => by
    unfold badRun
    repeat' split
    all_goals (first | exact Nat.le_refl _ | exact Nat.le_trans (Nat.le_succ a) (badRun_ge f (a + 1)) | exact Nat.le_trans (Nat.le_trans (Nat.le_succ a) (escaped_ge r (a + 1))) (badRun_ge f _))
theorem badURL_ge (a : Nat) : a ≤ (badURL r a).2 := Nat.le_trans (badRun_ge r (r.length + 1) a) (past_ge r _)
theorem urlRun_ge : ∀ (f a : Nat) (s : List UInt8), a ≤ (urlRun r f a s).2
  | 0, a, s => Nat.le_refl _
  | f + 1, a, s => by
    unfold urlRun
    split
    · exact past_ge r a
    · split
      · split
        · exact Nat.le_trans (whites_ge r a) (urlRun_ge f _ _)
        · exact Nat.le_trans (whites_ge r a) (badURL_ge r _)
      · split
        · exact badURL_ge r a
        · split
          · exact Nat.le_trans (Nat.le_trans (Nat.le_succ a) (escaped_ge r (a + 1))) (urlRun_ge f _ _)
          · exact Nat.le_trans (Nat.le_succ a) (urlRun_ge f (a + 1) _)
theorem url_ge (a : Nat) : a ≤ (url r a).2 := Nat.le_trans (whites_ge r a) (urlRun_ge r _ _ _)
theorem numPoint_ge (p : Bool × Nat) : p.2 ≤ (numPoint r p).2 := by
  unfold numPoint; split; exact Nat.le_trans (Nat.le_succ _) (digits_ge r _); exact Nat.le_refl _
theorem numExp_ge (p : Bool × Nat) : p.2 ≤ (numExp r p).2 := by
  unfold numExp; split; exact Nat.le_trans (Nat.le_add_right _ _) (digits_ge r _); exact Nat.le_refl _
theorem digits_gt (a : Nat) (h : digit (sgn r a) = true) : a < (digits r a).2 := by
  unfold digits digitsRun; rw [if_pos h]; exact digitsRun_ge r _ (a + 1) _
theorem numWhole_ge (a : Nat) : a ≤ (numWhole r a).2 := by
  unfold numWhole numHead
  split <;> simp only
  · exact Nat.le_trans (Nat.le_succ a) (digits_ge r _)
  · exact digits_ge r _
theorem number_tail (a : Nat) : (numExp r (numPoint r (true, (numWhole r a).2))).2 ≤ (number r a).2 := by
  unfold number
  simp only
  by_cases h1 : names r (numExp r (numPoint r (true, (numWhole r a).2))).2 = true
  · rw [if_pos h1]; exact name_ge r _
  · rw [if_neg h1]
    by_cases h2 : sgn r (numExp r (numPoint r (true, (numWhole r a).2))).2 = 37
    · rw [if_pos h2]; exact Nat.le_succ _
    · rw [if_neg h2]; exact Nat.le_refl _
theorem number_gt (a : Nat) (h : numbers r a = true) : a < (number r a).2 := by
  refine Nat.lt_of_lt_of_le ?_ (number_tail r a)
  refine Nat.lt_of_lt_of_le ?_ (numExp_ge r _)
  by_cases hs : sgn r a = 43 ∨ sgn r a = 45
  · refine Nat.lt_of_lt_of_le ?_ (numPoint_ge r _)
    unfold numWhole numHead
    rw [if_pos hs]
    exact digits_ge r (a + 1)
  · have hk : signK (sgn r a) = 0 := if_neg hs
    unfold numbers at h
    rw [hk, Nat.add_zero] at h
    by_cases hd : digit (sgn r a) = true
    · refine Nat.lt_of_lt_of_le ?_ (numPoint_ge r _)
      unfold numWhole numHead
      rw [if_neg hs]
      exact digits_gt r a hd
    · have hw : (numWhole r a).2 = a := by
        unfold numWhole numHead
        rw [if_neg hs]
        simp only
        unfold digits digitsRun
        rw [if_neg hd]
      rw [hw]
      unfold numPoint
      rw [if_pos (by simpa [hd] using h)]
      exact digits_ge r (a + 1)
theorem names_name (a : Nat) (h : names r a = true) : a < (name r a).2 := by
  unfold name nameRun
  split
  · exact nameRun_ge r _ (a + 1) _
  · rename_i hn
    split
    · exact Nat.lt_of_lt_of_le (escaped_ge r (a + 1)) (nameRun_ge r _ _ _)
    · rename_i he
      exfalso
      unfold names at h
      simp [nameSign] at hn
      simp_all
theorem ident_gt (a : Nat) (h : names r a = true) : a < (ident r a).2 := by
  have := names_name r a h
  unfold ident
  simp only
  repeat' split
  · exact this
  · exact Nat.lt_succ_of_lt this
  · exact Nat.lt_of_lt_of_le (Nat.lt_succ_of_lt this) (Nat.le_add_right _ _)
  · exact Nat.lt_of_lt_of_le (Nat.lt_succ_of_lt this) (url_ge r _)
theorem token_gt (a : Nat) : a < (token r a).2 := by
  unfold token
  simp only
  split
  · exact Nat.lt_succ_self a
  split
  · rename_i h
    unfold whites whiteRun
    rw [if_pos h]
    exact whiteRun_ge r _ (a + 1)
  split
  · exact quotedRun_ge r _ _ (a + 1) _
  split
  · exact name_ge r (a + 1)
  split
  · rename_i h; exact number_gt r a h.2
  split
  · exact Nat.lt_add_of_pos_right (by decide)
  split
  · exact Nat.lt_add_of_pos_right (by decide)
  split
  · exact name_ge r (a + 1)
  split
  · rename_i h; exact ident_gt r a h
  · exact Nat.lt_succ_self a
end Ref
end Go.Proofs.YtihnffmnofinmaaDoor
