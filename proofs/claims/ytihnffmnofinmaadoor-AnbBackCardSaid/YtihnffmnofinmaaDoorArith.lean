/- Numbers: Match, MatchAnb, Round. -/
import Derived.Test.YtihnffmnofinmaaDoorLeaf
namespace Go.Proofs.YtihnffmnofinmaaDoor
open Go.RowKit

def roundN (k n : Int) : Int := (k.tmod n + n).tmod n
theorem Round_any (k : Int) (w : World) :
    Calls Tryd.prog 14 #[.int .i64 k, .int .i64 7] w (Ret (.int .i64 (roundN k 7)) (Still w)) := by
  go_enter Tryd.func14, Tryd.ntmps14
  go_wp2
  go_ret
  have e : wrap64 (k.tmod 7 + 7) = k.tmod 7 + 7 := by
    have h1 := Int.lt_tmod_of_pos k (show (0 : Int) < 7 by omega)
    have h2 := Int.tmod_lt_of_pos k (show (0 : Int) < 7 by omega)
    unfold wrap64
    omega
  exact ⟨by unfold roundN; rw [e]; rfl, rfl⟩
def matchN (a b n : Int) : Bool := if a = 0 then n == b else (n == b) || ((decide (n > b) == decide (a > 0)) && decide ((n - b).natAbs % a.natAbs = 0))
theorem MatchAnb_any (a b n : Int) (w : World) (ha0 : -9223372036854775808 ≤ a) (ha1 : a ≤ 9223372036854775807) (hb0 : -9223372036854775808 ≤ b) (hb1 : b ≤ 9223372036854775807) (hn0 : -9223372036854775808 ≤ n) (hn1 : n ≤ 9223372036854775807) :
    Calls Tryd.prog 10 #[.int .i64 a, .int .i64 b, .int .i64 n] w (Ret (.bool (matchN a b n)) (Still w)) := by
  obtain ⟨F, hF⟩ : ∃ F, F = matchN a b n := ⟨_, rfl⟩
  rw [← hF]
  have HF := Lib.hid hF
  clear hF
  go_enter Tryd.func10, Tryd.ntmps10
  by_cases ha : a = 0
  · subst ha
    go_wp2
    go_ret
    exact ⟨by rw [HF.out]; rfl, rfl⟩
  · by_cases hnb : n < b
    · have hd : IntKind.u64.wrap (IntKind.u64.wrap b - IntKind.u64.wrap n) = (((n - b).natAbs : Nat) : Int) := by simp [IntKind.wrap, IntKind.bits, IntKind.signed]; omega
      by_cases haz : a < 0
      · have hs : IntKind.u64.wrap (-IntKind.u64.wrap a) = ((a.natAbs : Nat) : Int) := by simp [IntKind.wrap, IntKind.bits, IntKind.signed]; omega
        generalize hD : (n - b).natAbs = D at *
        generalize hA : a.natAbs = N at *
        have hN : 0 < N := by omega
        have hD1 : D ≤ 18446744073709551615 := by omega
        have hN1 : N ≤ 9223372036854775808 := by omega
        go_wp2
        all_goals go_ret
        all_goals refine ⟨ret_bool ?_, rfl⟩
        all_goals have hz : D = 0 → (D : Int) % (N : Int) = 0 := by intro e; rw [e]; simp
        all_goals have hm : (D % N = 0) ↔ ((D : Int) % (N : Int) = 0) := by omega
        all_goals (rw [HF.out]; unfold matchN; rw [if_neg ha, hD, hA, Bool.eq_iff_iff]; simp [hm])
        all_goals omega
      · have hs : IntKind.u64.wrap a = ((a.natAbs : Nat) : Int) := by simp [IntKind.wrap, IntKind.bits, IntKind.signed]; omega
        generalize hD : (n - b).natAbs = D at *
        generalize hA : a.natAbs = N at *
        have hN : 0 < N := by omega
        have hD1 : D ≤ 18446744073709551615 := by omega
        have hN1 : N ≤ 9223372036854775808 := by omega
        go_wp2
        all_goals go_ret
        all_goals refine ⟨ret_bool ?_, rfl⟩
        all_goals have hz : D = 0 → (D : Int) % (N : Int) = 0 := by intro e; rw [e]; simp
        all_goals have hm : (D % N = 0) ↔ ((D : Int) % (N : Int) = 0) := by omega
        all_goals (rw [HF.out]; unfold matchN; rw [if_neg ha, hD, hA, Bool.eq_iff_iff]; simp [hm])
        all_goals omega
    · have hd : IntKind.u64.wrap (IntKind.u64.wrap n - IntKind.u64.wrap b) = (((n - b).natAbs : Nat) : Int) := by simp [IntKind.wrap, IntKind.bits, IntKind.signed]; omega
      by_cases haz : a < 0
      · have hs : IntKind.u64.wrap (-IntKind.u64.wrap a) = ((a.natAbs : Nat) : Int) := by simp [IntKind.wrap, IntKind.bits, IntKind.signed]; omega
        generalize hD : (n - b).natAbs = D at *
        generalize hA : a.natAbs = N at *
        have hN : 0 < N := by omega
        have hD1 : D ≤ 18446744073709551615 := by omega
        have hN1 : N ≤ 9223372036854775808 := by omega
        go_wp2
        all_goals go_ret
        all_goals refine ⟨ret_bool ?_, rfl⟩
        all_goals have hz : D = 0 → (D : Int) % (N : Int) = 0 := by intro e; rw [e]; simp
        all_goals have hm : (D % N = 0) ↔ ((D : Int) % (N : Int) = 0) := by omega
        all_goals (rw [HF.out]; unfold matchN; rw [if_neg ha, hD, hA, Bool.eq_iff_iff]; simp [hm])
        all_goals omega
      · have hs : IntKind.u64.wrap a = ((a.natAbs : Nat) : Int) := by simp [IntKind.wrap, IntKind.bits, IntKind.signed]; omega
        generalize hD : (n - b).natAbs = D at *
        generalize hA : a.natAbs = N at *
        have hN : 0 < N := by omega
        have hD1 : D ≤ 18446744073709551615 := by omega
        have hN1 : N ≤ 9223372036854775808 := by omega
        go_wp2
        all_goals go_ret
        all_goals refine ⟨ret_bool ?_, rfl⟩
        all_goals have hz : D = 0 → (D : Int) % (N : Int) = 0 := by intro e; rw [e]; simp
        all_goals have hm : (D % N = 0) ↔ ((D : Int) % (N : Int) = 0) := by omega
        all_goals (rw [HF.out]; unfold matchN; rw [if_neg ha, hD, hA, Bool.eq_iff_iff]; simp [hm])
        all_goals omega
end Go.Proofs.YtihnffmnofinmaaDoor
