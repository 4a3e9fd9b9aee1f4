/- The reference's functions of texts: the number of a text, small letters, a number's digits. -/
import Derived.Test.YtihnffmnofinmaaDoorRdrB
import Derived.Deep.DeepCutAuto
namespace Go.Proofs.YtihnffmnofinmaaDoor
open Go.RowKit

theorem drop_at (s : ByteArray) {k : Nat} (h : k < s.size) : s.data.toList.drop k = s[k] :: s.data.toList.drop (k + 1) := by
  rw [List.drop_eq_getElem_cons (by simpa using h)]; rfl
theorem Ref.int_nil : Ref.int [] = 0 := rfl
theorem Ref.intRun_bd : ∀ (l : List UInt8) (n m : Int), 0 ≤ n → Ref.intRun l n = some m → 0 ≤ m
  | [], n, m, h, e => by simp [Ref.intRun] at e; omega
  | c :: cs, n, m, h, e => by
    unfold Ref.intRun at e
    split at e
    · exact Ref.intRun_bd cs _ m (by omega) e
    · cases e

/-- Where the loop of Int stands: rest of the text, and the number so far; what comes of it. -/
def IntEnd (neg : Bool) : Option Int → Int
  | none => 0
  | some n => if neg then max (-n) (-2147483648) else min n 2147483647


set_option maxHeartbeats 4000000 in
theorem Int_bytes (s : ByteArray) (w : World) (hl : s.size ≤ 4503599627370496) :
    Calls Tryd.prog 25 #[.string s] w (Ret (.int .i64 (Ref.int s.data.toList)) (Still w)) := by
  obtain ⟨F, hF⟩ : ∃ F, F = Ref.int s.data.toList := ⟨_, rfl⟩
  rw [← hF]
  by_cases hz : s.size = 0
  · have : s.data.toList = [] := List.eq_nil_of_length_eq_zero (by simpa using hz)
    rw [this, Ref.int_nil] at hF
    subst hF
    clear this
    go_enter Tryd.func25, Tryd.ntmps25
    go_wp2
    go_ret
    exact ⟨rfl, rfl⟩
  · have h0 : 0 < s.size := by omega
    have hlist : s.data.toList = s[0] :: s.data.toList.drop 1 := by have := drop_at s h0; simpa using this
    obtain ⟨c, hc⟩ : ∃ c, s[0] = c := ⟨_, rfl⟩
    rw [hc] at hlist
    unfold Ref.int at hF
    rw [hlist] at hF
    have hlen1 : (s.data.toList.drop 1).isEmpty = decide (s.size = 1) := by rw [Bool.eq_iff_iff, List.isEmpty_iff_length_eq_zero]; simp; omega
    have hend : F = if Ref.isSign c && decide (s.size = 1) then 0 else IntEnd (decide (c.toNat = 45)) (Ref.intRun (if Ref.isSign c then s.data.toList.drop 1 else s.data.toList.drop 0) 0) := by
      rw [hF, ← hlen1]
      simp only [List.drop_zero]
      rw [← hlist]
      split
      · rfl
      · unfold IntEnd; simp
        rfl
    clear hF hlist hlen1
    have Hend := Lib.hid hend
    clear hend
    by_cases h43 : c.toNat = 43
    · have h1 : ((c.toNat : Int) == 43) = true := by simp; omega
      have h2 : ((c.toNat : Int) == 45) = false := by simp; omega
      have hs : Ref.isSign c = true := by simp [Ref.isSign, h43]
      by_cases h1s : s.size = 1
      · have := Hend.out; rw [if_pos (by simp [hs, h1s])] at this; subst this
        have hk0 : ((1 : Int) == ((s.size : Nat) : Int)) = true := by simp; omega
        go_enter Tryd.func25, Tryd.ntmps25
        go_wp2
        go_ret
        exact ⟨rfl, rfl⟩
      · have hE : Hid (IntEnd false (Ref.intRun (s.data.toList.drop 1) 0) = F) := by
          have := Hend.out; rw [if_neg (by simp [h1s]), if_pos hs, show decide (c.toNat = 45) = false by simp; omega] at this; exact this.symm
        clear h43 hs
        have hk0 : ((1 : Int) == ((s.size : Nat) : Int)) = false := by simp; omega
        go_enter Tryd.func25, Tryd.ntmps25
        go_wp2
        go_loopg [4, 5] (s.size + 1) (fun f n i wr => ∃ (k : Nat) (N : Int), s.size < k + f ∧ k ≤ s.size ∧ i = .int .i64 k ∧ n = .int .i64 N ∧ wr = w ∧ 0 ≤ N ∧ N ≤ 4294967296 ∧ Hid (IntEnd false (Ref.intRun (s.data.toList.drop k) N) = F))
        case atStart => exact ⟨1, 0, by omega, by omega, rfl, rfl, rfl, by omega, by omega, hE⟩
        case round =>
          obtain ⟨k, N, hk, hks, rfl, rfl, rfl, hN0, hN1, hrun⟩ := hrel
          by_cases hlt : k < s.size
          · have hd := drop_at s hlt
            have hrun' := hrun.out
            rw [hd] at hrun'
            unfold Ref.intRun at hrun'
            clear hd hrun
            have E := Lib.hid hrun'
            clear hrun'
            go_wp2
            all_goals have hbx := s[k].toNat_lt
            all_goals first
              | (go_ret; exact ⟨ret_int (by have e := E.out; rw [if_neg (by omega)] at e; exact e), rfl⟩)
              | (go_roundg (gk - 1); (show _ - 1 < _; omega); exact ⟨k + 1, _, by omega, by omega, by go_num, rfl, rfl, by omega, by omega, by (have e := E.out); rw [if_pos (by omega)] at e; first | (rw [Int.min_eq_left (by omega)] at e; exact e) | (rw [Int.min_eq_right (by omega)] at e; exact e)⟩)
          · have hd : s.data.toList.drop k = [] := List.drop_eq_nil_of_le (by simpa using hlt)
            have hrun' := hrun.out
            rw [hd] at hrun'
            clear hd hrun
            have HR := Lib.hid hrun'
            clear hrun'
            go_wp2
            all_goals go_ret
            all_goals exact ⟨ret_int (by (rw [← HR.out]); simp [IntEnd, Ref.intRun]; omega), rfl⟩
    by_cases h45 : c.toNat = 45
    · have h1 : ((c.toNat : Int) == 43) = false := by simp; omega
      have h2 : ((c.toNat : Int) == 45) = true := by simp; omega
      have hs : Ref.isSign c = true := by simp [Ref.isSign, h45]
      by_cases h1s : s.size = 1
      · have := Hend.out; rw [if_pos (by simp [hs, h1s])] at this; subst this
        have hk0 : ((1 : Int) == ((s.size : Nat) : Int)) = true := by simp; omega
        go_enter Tryd.func25, Tryd.ntmps25
        go_wp2
        go_ret
        exact ⟨rfl, rfl⟩
      · have hE : Hid (IntEnd true (Ref.intRun (s.data.toList.drop 1) 0) = F) := by
          have := Hend.out; rw [if_neg (by simp [h1s]), if_pos hs, show decide (c.toNat = 45) = true by simp; omega] at this; exact this.symm
        clear h43 h45 hs
        have hk0 : ((1 : Int) == ((s.size : Nat) : Int)) = false := by simp; omega
        go_enter Tryd.func25, Tryd.ntmps25
        go_wp2
        go_loopg [4, 5] (s.size + 1) (fun f n i wr => ∃ (k : Nat) (N : Int), s.size < k + f ∧ k ≤ s.size ∧ i = .int .i64 k ∧ n = .int .i64 N ∧ wr = w ∧ 0 ≤ N ∧ N ≤ 4294967296 ∧ Hid (IntEnd true (Ref.intRun (s.data.toList.drop k) N) = F))
        case atStart => exact ⟨1, 0, by omega, by omega, rfl, rfl, rfl, by omega, by omega, hE⟩
        case round =>
          obtain ⟨k, N, hk, hks, rfl, rfl, rfl, hN0, hN1, hrun⟩ := hrel
          by_cases hlt : k < s.size
          · have hd := drop_at s hlt
            have hrun' := hrun.out
            rw [hd] at hrun'
            unfold Ref.intRun at hrun'
            clear hd hrun
            have E := Lib.hid hrun'
            clear hrun'
            go_wp2
            all_goals have hbx := s[k].toNat_lt
            all_goals first
              | (go_ret; exact ⟨ret_int (by have e := E.out; rw [if_neg (by omega)] at e; exact e), rfl⟩)
              | (go_roundg (gk - 1); (show _ - 1 < _; omega); exact ⟨k + 1, _, by omega, by omega, by go_num, rfl, rfl, by omega, by omega, by (have e := E.out); rw [if_pos (by omega)] at e; first | (rw [Int.min_eq_left (by omega)] at e; exact e) | (rw [Int.min_eq_right (by omega)] at e; exact e)⟩)
          · have hd : s.data.toList.drop k = [] := List.drop_eq_nil_of_le (by simpa using hlt)
            have hrun' := hrun.out
            rw [hd] at hrun'
            clear hd hrun
            have HR := Lib.hid hrun'
            clear hrun'
            go_wp2
            all_goals go_ret
            all_goals exact ⟨ret_int (by (rw [← HR.out]); simp [IntEnd, Ref.intRun]; omega), rfl⟩
    · have h1 : ((c.toNat : Int) == 43) = false := by simp; omega
      have h2 : ((c.toNat : Int) == 45) = false := by simp; omega
      have hs : Ref.isSign c = false := by simp [Ref.isSign, h43, h45]
      have hE : Hid (IntEnd false (Ref.intRun (s.data.toList.drop 0) 0) = F) := by
        have := Hend.out; rw [if_neg (by simp [hs]), if_neg (by simp [hs]), show decide (c.toNat = 45) = false by simp; omega] at this; exact this.symm
      clear h43 h45 hs
      have hk0 : ((0 : Int) == ((s.size : Nat) : Int)) = false := by simp; omega
      go_enter Tryd.func25, Tryd.ntmps25
      go_wp2
      go_loopg [4, 5] (s.size + 1) (fun f n i wr => ∃ (k : Nat) (N : Int), s.size < k + f ∧ k ≤ s.size ∧ i = .int .i64 k ∧ n = .int .i64 N ∧ wr = w ∧ 0 ≤ N ∧ N ≤ 4294967296 ∧ Hid (IntEnd false (Ref.intRun (s.data.toList.drop k) N) = F))
      case atStart => exact ⟨0, 0, by omega, by omega, rfl, rfl, rfl, by omega, by omega, hE⟩
      case round =>
        obtain ⟨k, N, hk, hks, rfl, rfl, rfl, hN0, hN1, hrun⟩ := hrel
        by_cases hlt : k < s.size
        · have hd := drop_at s hlt
          have hrun' := hrun.out
          rw [hd] at hrun'
          unfold Ref.intRun at hrun'
          clear hd hrun
          have E := Lib.hid hrun'
          clear hrun'
          go_wp2
          all_goals have hbx := s[k].toNat_lt
          all_goals first
            | (go_ret; exact ⟨ret_int (by have e := E.out; rw [if_neg (by omega)] at e; exact e), rfl⟩)
            | (go_roundg (gk - 1); (show _ - 1 < _; omega); exact ⟨k + 1, _, by omega, by omega, by go_num, rfl, rfl, by omega, by omega, by (have e := E.out); rw [if_pos (by omega)] at e; first | (rw [Int.min_eq_left (by omega)] at e; exact e) | (rw [Int.min_eq_right (by omega)] at e; exact e)⟩)
        · have hd : s.data.toList.drop k = [] := List.drop_eq_nil_of_le (by simpa using hlt)
          have hrun' := hrun.out
          rw [hd] at hrun'
          clear hd hrun
          have HR := Lib.hid hrun'
          clear hrun'
          go_wp2
          all_goals go_ret
          all_goals exact ⟨ret_int (by (rw [← HR.out]); simp [IntEnd, Ref.intRun]; omega), rfl⟩
theorem Int_any (l : List UInt8) (w : World) (hl : l.length ≤ 4503599627370496) :
    Calls Tryd.prog 25 #[.string ⟨l.toArray⟩] w (Ret (.int .i64 (Ref.int l)) (Still w)) := Int_bytes ⟨l.toArray⟩ w (by simpa [ByteArray.size] using hl)
end Go.Proofs.YtihnffmnofinmaaDoor
