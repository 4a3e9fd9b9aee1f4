/- The reference's Decimal. -/
import Derived.Test.YtihnffmnofinmaaDoorLow
import Derived.Test.YtihnffmnofinmaaDoorRdrB
import Derived.Lib.ItoaNum
namespace Go.Proofs.YtihnffmnofinmaaDoor
open Go.RowKit

def decFin (u : Nat) (d : List UInt8) : List UInt8 := if u = 0 ∧ d ≠ [] then d else Lib.decDigits u ++ d
theorem decFin_step (u : Nat) (d : List UInt8) (h : ¬ (u = 0 ∧ d ≠ [])) : decFin (u / 10) (UInt8.ofNat (48 + u % 10) :: d) = decFin u d := by
  unfold decFin
  rw [if_neg h]
  by_cases hu : u < 10
  · rw [if_pos ⟨by omega, by simp⟩, Lib.decDigits_one hu, Nat.mod_eq_of_lt hu]; rfl
  · rw [if_neg (by omega)]
    conv => rhs; rw [Lib.decDigits]
    rw [dif_neg hu]; simp
theorem decFin_end (d : List UInt8) (h : d ≠ []) : decFin 0 d = d := if_pos ⟨rfl, h⟩
set_option maxRecDepth 100000 in
set_option maxHeartbeats 2000000 in
theorem Decimal_any (n : Int) (w : World) (h0 : -9223372036854775808 ≤ n) (h1 : n ≤ 9223372036854775807) :
    Calls Tryd.prog 13 #[.int .i64 n] w (Ret (.string ⟨(Lib.itoa n).toArray⟩) (Ext (fun _ => True) w)) := by
  obtain ⟨F, hF⟩ : ∃ F, F = Lib.itoa n := ⟨_, rfl⟩
  rw [← hF]
  have HF := Lib.hid hF
  clear hF
  go_enter Tryd.func13, Tryd.ntmps13
  by_cases hn : n < 0
  · have hwr : IntKind.u64.wrap (-IntKind.u64.wrap n) = ((n.natAbs : Nat) : Int) := by simp [IntKind.wrap, IntKind.bits, IntKind.signed]; omega
    go_wp2_with fail
    go_loopg [3, 5] (n.natAbs + 2) (fun g s3 s5 wr => ∃ (u : Nat) (d : List UInt8), s3 = .int .u64 (u : Int) ∧ s5 = .string ⟨d.toArray⟩ ∧ u ≤ 9223372036854775808 ∧ u + (if d = [] then 1 else 0) < g ∧ Ext (fun _ => True) w wr ∧ Hid ([45] ++ decFin u d = F) ∧ ∃ k, u < 10 ^ k ∧ d.length + k ≤ 20)
    case atStart => exact ⟨n.natAbs, [], by simp, rfl, by omega, by simp, Ext.refl _ _, Lib.hid (by rw [HF.out]; unfold Lib.itoa decFin; simp [hn]), 20, by omega, by simp⟩
    case round =>
      obtain ⟨u, d, rfl, rfl, hu, hg, hx, hF, ke, hke, hdl⟩ := hrel
      obtain ⟨g, rfl⟩ : ∃ g, gk = g + 1 := ⟨gk - 1, by omega⟩
      obtain ⟨x, hxv⟩ : ∃ x, x = UInt8.ofNat (48 + u % 10) := ⟨_, rfl⟩
      have hxn : x.toNat = 48 + u % 10 := by rw [hxv, UInt8.toNat_ofNat']; omega
      have hconv : (convert 40 9 (.slice (some ⟨wr.heap.size, 0, none⟩) 1 1)).run Tryd.prog (wr.alloc (.cells #[.int .u8 (48 + (u : Int) % 10)] 5)) = .ok (.string ⟨#[x]⟩) (wr.alloc (.cells #[.int .u8 (48 + (u : Int) % 10)] 5)) := run_bytes_back (P := Tryd.prog) (dst := 9) (src := 40) (w := wr.alloc (.cells #[.int .u8 (48 + (u : Int) % 10)] 5)) (X := wr.heap.size) (l := [x]) ⟨_, _, _, block_new _ _, fun j hj => block_free (block_new _ _) j, fun j y hy => by
        have hj : j < 1 := (List.getElem?_eq_some_iff.1 hy).1
        obtain rfl : j = 0 := by omega
        simp at hy; subst hy; simp [hxn]⟩ 1 Tryd.underlying40 Tryd.underlying5 Tryd.underlying9
      have hstep := fun h => decFin_step u d h
      rw [← hxv] at hstep
      have hdl2 : d.length ≤ 20 := by omega
      have HS := Lib.hid hstep
      clear hstep hxv
      by_cases hu0 : 0 < u
      · go_wp2_with fail
        go_roundg g
        case measure => omega
        case rel =>
          obtain ⟨k, rfl⟩ : ∃ k, ke = k + 1 := ⟨ke - 1, by rcases ke with _ | ke; simp at hke; omega; omega⟩
          rw [Nat.pow_succ] at hke
          exact ⟨u / 10, x :: d, by simp, str_add [x] d, by omega, by simp; omega, hx.alloc _, by rw [HS.out (by omega)]; exact hF, k, by omega, by simp; omega⟩
      · obtain rfl : u = 0 := by omega
        by_cases hd : d = []
        · subst hd
          simp at hconv
          go_wp2_with fail
          go_roundg g
          case measure => omega
          case rel => exact ⟨0 / 10, [x], by simp, str_add [x] [], by omega, by simp at hg ⊢; omega, hx.alloc _, by rw [HS.out (by simp)]; exact hF, 19, by decide, by simp⟩
        · have he : d.isEmpty = false := by simpa using hd
          have e := hF.out
          rw [decFin_end d hd] at e
          go_wp2_with fail
          go_ret
          exact ⟨by rw [← e]; exact congrArg Ending.returned (str_add [45] d), hx⟩
  · have hwr : ((n.natAbs : Nat) : Int) = n := by omega
    go_wp2_with fail
    go_loopg [3, 5] (n.natAbs + 2) (fun g s3 s5 wr => ∃ (u : Nat) (d : List UInt8), s3 = .int .u64 (u : Int) ∧ s5 = .string ⟨d.toArray⟩ ∧ u ≤ 9223372036854775808 ∧ u + (if d = [] then 1 else 0) < g ∧ Ext (fun _ => True) w wr ∧ Hid ([] ++ decFin u d = F) ∧ ∃ k, u < 10 ^ k ∧ d.length + k ≤ 20)
    case atStart => exact ⟨n.natAbs, [], by simp [hwr], rfl, by omega, by simp, Ext.refl _ _, Lib.hid (by rw [HF.out]; unfold Lib.itoa decFin; simp [show ¬ n < 0 by omega, show n.toNat = n.natAbs by omega]), 20, by omega, by simp⟩
    case round =>
      obtain ⟨u, d, rfl, rfl, hu, hg, hx, hF, ke, hke, hdl⟩ := hrel
      obtain ⟨g, rfl⟩ : ∃ g, gk = g + 1 := ⟨gk - 1, by omega⟩
      obtain ⟨x, hxv⟩ : ∃ x, x = UInt8.ofNat (48 + u % 10) := ⟨_, rfl⟩
      have hxn : x.toNat = 48 + u % 10 := by rw [hxv, UInt8.toNat_ofNat']; omega
      have hconv : (convert 40 9 (.slice (some ⟨wr.heap.size, 0, none⟩) 1 1)).run Tryd.prog (wr.alloc (.cells #[.int .u8 (48 + (u : Int) % 10)] 5)) = .ok (.string ⟨#[x]⟩) (wr.alloc (.cells #[.int .u8 (48 + (u : Int) % 10)] 5)) := run_bytes_back (P := Tryd.prog) (dst := 9) (src := 40) (w := wr.alloc (.cells #[.int .u8 (48 + (u : Int) % 10)] 5)) (X := wr.heap.size) (l := [x]) ⟨_, _, _, block_new _ _, fun j hj => block_free (block_new _ _) j, fun j y hy => by
        have hj : j < 1 := (List.getElem?_eq_some_iff.1 hy).1
        obtain rfl : j = 0 := by omega
        simp at hy; subst hy; simp [hxn]⟩ 1 Tryd.underlying40 Tryd.underlying5 Tryd.underlying9
      have hstep := fun h => decFin_step u d h
      rw [← hxv] at hstep
      have hdl2 : d.length ≤ 20 := by omega
      have HS := Lib.hid hstep
      clear hstep hxv
      by_cases hu0 : 0 < u
      · go_wp2_with fail
        go_roundg g
        case measure => omega
        case rel =>
          obtain ⟨k, rfl⟩ : ∃ k, ke = k + 1 := ⟨ke - 1, by rcases ke with _ | ke; simp at hke; omega; omega⟩
          rw [Nat.pow_succ] at hke
          exact ⟨u / 10, x :: d, by simp, str_add [x] d, by omega, by simp; omega, hx.alloc _, by rw [HS.out (by omega)]; exact hF, k, by omega, by simp; omega⟩
      · obtain rfl : u = 0 := by omega
        by_cases hd : d = []
        · subst hd
          simp at hconv
          go_wp2_with fail
          go_roundg g
          case measure => omega
          case rel => exact ⟨0 / 10, [x], by simp, str_add [x] [], by omega, by simp at hg ⊢; omega, hx.alloc _, by rw [HS.out (by simp)]; exact hF, 19, by decide, by simp⟩
        · have he : d.isEmpty = false := by simpa using hd
          have e := hF.out
          rw [decFin_end d hd] at e
          go_wp2_with fail
          go_ret
          exact ⟨by rw [← e]; exact congrArg Ending.returned (str_add [] d), hx⟩
end Go.Proofs.YtihnffmnofinmaaDoor
