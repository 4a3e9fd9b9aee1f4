/- The reference's text of numbers. -/
import Derived.Test.YtihnffmnofinmaaDoorDec
import Derived.Test.YtihnffmnofinmaaDoorLeaf
namespace Go.Proofs.YtihnffmnofinmaaDoor
open Go.RowKit

def anbText (a b : Int) : List UInt8 :=
  if a = 0 then Lib.itoa b else if b = 0 then Lib.itoa a ++ [110] else if b < 0 then Lib.itoa a ++ [110] ++ Lib.itoa b else Lib.itoa a ++ [110, 43] ++ Lib.itoa b
theorem itoa_len (n : Int) (h0 : -9223372036854775808 ≤ n) (h1 : n ≤ 9223372036854775807) : (Lib.itoa n).length ≤ 21 := by
  have hd : ∀ u : Nat, u < 10 ^ 20 → (Lib.decDigits u).length ≤ 20 := by
    intro u hu
    have : ∀ (k u : Nat), u < 10 ^ k → 0 < k → (Lib.decDigits u).length ≤ k := by
      intro k
      induction k with
      | zero => intro u _ h; omega
      | succ k ih =>
        intro u hu _
        rw [Lib.decDigits]
        split
        · simp
        · rename_i h
          have hk : 0 < k := by rcases k with _ | k; simp at hu; omega; omega
          have := ih (u / 10) (by rw [Nat.pow_succ] at hu; omega) hk
          simp; omega
    exact this 20 u hu (by omega)
  unfold Lib.itoa
  split
  · have := hd n.natAbs (by omega); simp; omega
  · have := hd n.toNat (by omega); omega
theorem ret_str2 {x y : ByteArray} (h : x = y) : Ending.returned (.string x) = .returned (.string y) := by rw [h]
set_option maxRecDepth 100000 in
set_option maxHeartbeats 1000000 in
theorem TextAnb_any (a b : Int) (w : World) (ha0 : -9223372036854775808 ≤ a) (ha1 : a ≤ 9223372036854775807) (hb0 : -9223372036854775808 ≤ b) (hb1 : b ≤ 9223372036854775807) :
    Calls Tryd.prog 12 #[.int .i64 a, .int .i64 b] w (Ret (.string ⟨(anbText a b).toArray⟩) (Ext (fun _ => True) w)) := by
  have hla := itoa_len a ha0 ha1
  have hlb := itoa_len b hb0 hb1
  go_enter Tryd.func12, Tryd.ntmps12
  go_wp2_with (first | (go_at_call 13; refine (Decimal_any _ _ (by omega) (by omega)).mono ?_; rintro e w1 ⟨rfl, hx1⟩))
  all_goals go_ret
  all_goals refine ⟨ret_str2 ?_, by repeat (with_reducible first | assumption | refine Ext.trans ?_ (by assumption))⟩
  all_goals (try simp only [ByteArray.mk_append_mk])
  all_goals (congr 1; unfold anbText; simp at *; repeat' split)
  all_goals first | (exfalso; omega) | (simp; done) | simp_all
end Go.Proofs.YtihnffmnofinmaaDoor
