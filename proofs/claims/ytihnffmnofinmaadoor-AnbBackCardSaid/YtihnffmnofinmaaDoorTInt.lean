/- token.Int: it is the reference's. -/
import Derived.Test.YtihnffmnofinmaaDoorPLow
import Derived.Test.YtihnffmnofinmaaDoorText
import Derived.Laws.RangeAny
import Derived.Lib.OthersKept
import Derived.Test.YtihnffmnofinmaaDoorRead
namespace Go.Proofs.YtihnffmnofinmaaDoor
open Go.RowKit
/-- Digits' number, held at 2^31; none: something else stands there. -/
def tokRun : List UInt8 → Int → Option Int
  | [], n => some n
  | c :: cs, n => if 48 ≤ c.toNat ∧ c.toNat ≤ 57 then tokRun cs (min (10 * n + ((c.toNat : Int) - 48)) 2147483648) else none
theorem tokRun_eq (neg : Bool) : ∀ (l : List UInt8) (m : Int), 0 ≤ m → IntEnd neg (tokRun l (min m 2147483648)) = IntEnd neg (Ref.intRun l m)
  | [], m, h => by
    unfold tokRun Ref.intRun IntEnd
    simp only
    cases neg <;> simp <;> omega
  | c :: cs, m, h => by
    unfold tokRun Ref.intRun
    split
    · have := tokRun_eq neg cs (min (m * 10 + ((c.toNat : Int) - 48)) 4294967296) (by omega)
      rw [← this]
      congr 2
      omega
    · rfl
def signs (l : List UInt8) : List UInt8 := Lib.trimLeftS l [43, 45]
theorem isSign_iff (c : UInt8) : [(43 : UInt8), 45].contains c = Ref.isSign c := by
  have h : ∀ x : UInt8, (c == x) = decide (c.toNat = x.toNat) := fun x => by
    rw [Bool.eq_iff_iff]; simp [← UInt8.toNat_inj]
  simp only [List.contains_cons, List.contains_nil, Bool.or_false, h]
  rfl
theorem signs_cons (c : UInt8) (l : List UInt8) : signs (c :: l) = if Ref.isSign c then signs l else c :: l := by
  unfold signs Lib.trimLeftS
  rw [List.dropWhile_cons, isSign_iff]
theorem signs_le : ∀ l : List UInt8, (signs l).length ≤ l.length
  | [] => Nat.le_refl _
  | c :: l => by rw [signs_cons]; split; exact Nat.le_trans (signs_le l) (Nat.le_succ _); exact Nat.le_refl _
/-- Two signs ahead, or nothing behind them: no number. -/
theorem int_zero {l : List UInt8} (h : signs l = [] ∨ (signs l).length + 1 < l.length) : Ref.int l = 0 := by
  match l, h with
  | [], _ => rfl
  | [c], h =>
    rw [signs_cons] at h
    unfold Ref.int
    dsimp only
    by_cases hc : Ref.isSign c = true
    · rw [if_pos (by simp [hc])]
    · rw [if_neg hc] at h; simp at h
  | c :: d :: l, h =>
    rw [signs_cons] at h
    by_cases hc : Ref.isSign c = true
    · rw [if_pos hc, signs_cons] at h
      by_cases hd : Ref.isSign d = true
      · unfold Ref.int
        dsimp only
        rw [if_neg (by simp), if_pos hc]
        have : Ref.intRun (d :: l) 0 = none := by
          unfold Ref.intRun
          rw [if_neg]
          simp [Ref.isSign] at hd
          omega
        rw [this]
      · rw [if_neg hd] at h; simp at h
    · rw [if_neg hc] at h; simp at h; omega
theorem int_some {c : UInt8} {l : List UInt8} (h : signs (c :: l) ≠ []) (h1 : (c :: l).length ≤ (signs (c :: l)).length + 1) : Ref.int (c :: l) = IntEnd (decide (c.toNat = 45)) (tokRun (signs (c :: l)) 0) := by
  have e := tokRun_eq (decide (c.toNat = 45)) (signs (c :: l)) 0 (by omega)
  rw [show min (0 : Int) 2147483648 = 0 by omega] at e
  rw [e]
  unfold Ref.int
  have hs : signs (c :: l) = if Ref.isSign c then l else c :: l := by
    rw [signs_cons]
    split
    · rename_i hc
      rw [signs_cons, if_pos hc] at h1
      cases l with
      | nil => rfl
      | cons d l =>
        rw [signs_cons] at h1 ⊢
        split
        · rename_i hd
          rw [if_pos hd] at h1
          have := signs_le l
          simp at h1; omega
        · rfl
    · rfl
  rw [hs]
  dsimp only
  rw [if_neg]
  · split
    · simp_all [IntEnd]
    · simp_all [IntEnd]
  · rw [hs] at h
    intro hh
    simp at hh
    rw [if_pos hh.1] at h
    exact h hh.2
set_option maxHeartbeats 400000 in
theorem PDigit_any (r : Int) (w : World) :
    Calls Tryd.prog 66 #[.int .i32 r] w (Ret (.bool (Ref.digit r)) (Still w)) := by
  go_enter Tryd.func66, Tryd.ntmps66
  go_wp2
  all_goals go_ret
  all_goals exact ⟨ret_bool (by rw [Bool.eq_iff_iff]; simp [Ref.digit, *] <;> omega), rfl⟩
set_option maxHeartbeats 4000000 in
theorem TInt_any (l : List UInt8) (w : World) (hl : l.length ≤ 140737488355327) :
    Calls Tryd.prog 38 #[.string ⟨l.toArray⟩] w (Ret (.int .i64 (Ref.int l)) (Ext (fun _ => True) w)) := by
  obtain ⟨F, hF⟩ : ∃ F, F = Ref.int l := ⟨_, rfl⟩
  rw [← hF]
  have HF := Lib.hid hF
  clear hF
  go_enter Tryd.func38, Tryd.ntmps38
  go_wp2_with fail
  refine (Any.strings_TrimLeft_laid Tryd.lays161 (by kernel_rfl) ⟨l.toArray⟩ ⟨#[43, 45]⟩ _ (by decide) (ascii_of_all (by decide))).mono ?_
  rintro e w1 ⟨rfl, hb1⟩
  have hx1 : Ext (fun _ => True) w w1 := Ext.ofBelow hb1 (Nat.le_refl _)
  have hw1 := hx1.size
  clear hb1
  show _
  have hle := signs_le l
  obtain ⟨D, hD⟩ : ∃ D, D = signs l := ⟨_, rfl⟩
  have hD' : (Lib.trimLeftS l [43, 45]) = D := hD.symm
  rw [hD']
  rw [← hD] at hle
  have HD := Lib.hid hD
  clear hD hD'
  by_cases h0 : D = []
  · have : F = 0 := by rw [HF.out, int_zero (.inl (by rw [← HD.out]; exact h0))]
    subst this
    subst h0
    by_cases h2 : 1 < l.length
    all_goals go_wp2_with fail
    all_goals go_ret
    all_goals exact ⟨rfl, hx1⟩
  · have he : D.isEmpty = false := by simpa using h0
    by_cases h2 : D.length + 1 < l.length
    · have : F = 0 := by rw [HF.out, int_zero (.inr (by rw [← HD.out]; exact h2))]
      subst this
      go_wp2_with fail
      go_ret
      exact ⟨rfl, hx1⟩
    · match l, HF, HD, hle with
      | [], HF, HD, hle => simp at hle; exact absurd hle h0
      | c :: cs, HF, HD, hle =>
        have e := HF.out
        rw [int_some (by rw [← HD.out]; exact h0) (by rw [← HD.out]; omega), ← HD.out] at e
        obtain ⟨S, hS⟩ : ∃ S : ByteArray, S = ⟨D.toArray⟩ := ⟨_, rfl⟩
        have HS := Lib.hid (show S.data.toList = D by rw [hS])
        have hSz : S.size = D.length := by rw [hS]; simp [ByteArray.size]
        rw [← hS]
        obtain ⟨L, hL⟩ : ∃ L : ByteArray, L = ⟨(c :: cs).toArray⟩ := ⟨_, rfl⟩
        have hLs : L.size = cs.length + 1 := by rw [hL]; simp [ByteArray.size]
        have hLp : 0 < L.size := by omega
        have hL0 : L[0] = c := by subst hL; rfl
        rw [← hL]
        simp only [List.length_cons] at hle h2 hl
        have hSe : S.toList.isEmpty = false := by rw [Lib.toList_data, HS.out]; exact he
        have HE0 := Lib.hid e.symm
        rw [← hSz] at hle h2
        have HSz := Lib.hid hSz
        clear hSz
        clear hL hS HF HD h0 he e
        by_cases h45 : c.toNat = 45
        · have hc : ((c.toNat : Int) == 45) = true := by simp; omega
          have HE : Hid (IntEnd true (tokRun (D.drop 0) 0) = F) := by have := HE0.out; rw [show decide (c.toNat = 45) = true by simp; exact h45] at this; exact Lib.hid this
          clear h45 HE0
          go_wp2_with fail
          go_loopg [4] (S.size + 1) (fun g s4 wr => ∃ (p : Nat) (n : Int), s4 = .int .i64 n ∧ 0 ≤ n ∧ n ≤ 2147483648 ∧ wr.heap[w1.heap.size]? = some (.stringIter S p) ∧ Ext (fun _ => True) w wr ∧ S.size < g + p ∧ p ≤ S.size ∧ Hid (IntEnd true (tokRun (D.drop p) n) = F))
          case atStart => exact ⟨0, 0, rfl, by omega, by omega, World.iter_heap _ _ _, hx1.alloc _, by omega, by omega, HE⟩
          case round =>
            clear HE
            obtain ⟨p, n, rfl, hn0, hn1, hit, hx, hg, hps, hrun⟩ := hrel
            obtain ⟨g, rfl⟩ : ∃ g, gk = g + 1 := ⟨gk - 1, by omega⟩
            have hsz : w1.heap.size < wr.heap.size := (Array.getElem?_eq_some_iff.1 hit).1
            by_cases hp : p < S.size
            · have hd := drop_at S hp
              rw [HS.out] at hd
              have e := hrun.out
              rw [hd] at e
              unfold tokRun at e
              clear hrun hd
              have hnx : ∀ ty, (Instr.next (.pointer (some ⟨w1.heap.size, 0, none⟩)) true ty).run Tryd.prog wr = _ := fun ty => Lib.run_next_any_at wr w1.heap.size S p ty hit hp
              have hit2 := Lib.iterAt_heap wr w1.heap.size S p (p + (Utf8.decode S p).2) hit
              have hxi : Ext (fun _ => True) w (wr.iterAt w1.heap.size S (p + (Utf8.decode S p).2)) := hx.trans' (T := fun k => k ≠ w1.heap.size) ⟨rfl, rfl, rfl, by rw [Lib.iterAt_size]; exact Nat.le_refl _, fun k hk _ => Lib.iterAt_other wr w1.heap.size k S _ hk⟩ fun k _ hk => by omega
              by_cases ha : 48 ≤ S[p].toNat ∧ S[p].toNat ≤ 57
              · rw [if_pos ha] at e
                have hdec := decode_ascii S p hp (by omega)
                rw [hdec] at hnx hit2 hxi
                obtain ⟨ha1, ha2⟩ := ha
                generalize S[p].toNat = x at *
                generalize hwi : wr.iterAt w1.heap.size S (p + 1) = wi at *
                have hdig : Ref.digit (x : Int) = true := by simp [Ref.digit]; omega
                have E := Lib.hid e
                have HW := Lib.hid hwi
                have HDG := Lib.hid hdig
                clear e hdec hwi hit hdig
                go_wp2_with (go_at_call 66; refine (PDigit_any _ _).mono ?_; rintro e w' ⟨rfl, rfl⟩; rw [HDG.out])
                all_goals go_roundg g
                all_goals first | (show g < _; omega) | skip
                all_goals exact ⟨p + 1, _, rfl, by omega, by omega, hit2, hxi, by omega, by omega, E⟩
              · rw [if_neg ha] at e
                have hdig : Ref.digit ((Utf8.decode S p).1 : Int) = false := by
                  by_cases h7 : S[p].toNat < 128
                  · rw [decode_ascii S p hp h7]; simp [Ref.digit]; omega
                  · have := (decode_high S p hp (by omega)).1; simp [Ref.digit]; omega
                generalize hz : (Utf8.decode S p).1 = x at *
                generalize hq : p + (Utf8.decode S p).2 = q at *
                generalize hwi : wr.iterAt w1.heap.size S q = wi at *
                have HDG := Lib.hid hdig
                clear hz hq hwi hdig ha hit
                go_wp2_with (go_at_call 66; refine (PDigit_any _ _).mono ?_; rintro e w' ⟨rfl, rfl⟩; rw [HDG.out])
                go_ret
                exact ⟨by rw [← e]; rfl, hxi⟩
            · have hnx : ∀ ty, (Instr.next (.pointer (some ⟨w1.heap.size, 0, none⟩)) true ty).run Tryd.prog wr = _ := fun ty => Lib.run_next_end_at wr w1.heap.size S p ty hit hp
              have e := hrun.out
              rw [show D.drop p = [] from List.drop_eq_nil_of_le (by rw [← HSz.out]; omega)] at e
              have E := Lib.hid e
              clear e hrun
              go_wp2_with fail
              all_goals go_ret
              all_goals exact ⟨ret_int (by (rw [← E.out]); simp [IntEnd, tokRun] <;> omega), hx⟩
        · have hc : ((c.toNat : Int) == 45) = false := by simp; omega
          have HE : Hid (IntEnd false (tokRun (D.drop 0) 0) = F) := by have := HE0.out; rw [show decide (c.toNat = 45) = false by simp; exact h45] at this; exact Lib.hid this
          clear h45 HE0
          go_wp2_with fail
          go_loopg [4] (S.size + 1) (fun g s4 wr => ∃ (p : Nat) (n : Int), s4 = .int .i64 n ∧ 0 ≤ n ∧ n ≤ 2147483648 ∧ wr.heap[w1.heap.size]? = some (.stringIter S p) ∧ Ext (fun _ => True) w wr ∧ S.size < g + p ∧ p ≤ S.size ∧ Hid (IntEnd false (tokRun (D.drop p) n) = F))
          case atStart => exact ⟨0, 0, rfl, by omega, by omega, World.iter_heap _ _ _, hx1.alloc _, by omega, by omega, HE⟩
          case round =>
            clear HE
            obtain ⟨p, n, rfl, hn0, hn1, hit, hx, hg, hps, hrun⟩ := hrel
            obtain ⟨g, rfl⟩ : ∃ g, gk = g + 1 := ⟨gk - 1, by omega⟩
            have hsz : w1.heap.size < wr.heap.size := (Array.getElem?_eq_some_iff.1 hit).1
            by_cases hp : p < S.size
            · have hd := drop_at S hp
              rw [HS.out] at hd
              have e := hrun.out
              rw [hd] at e
              unfold tokRun at e
              clear hrun hd
              have hnx : ∀ ty, (Instr.next (.pointer (some ⟨w1.heap.size, 0, none⟩)) true ty).run Tryd.prog wr = _ := fun ty => Lib.run_next_any_at wr w1.heap.size S p ty hit hp
              have hit2 := Lib.iterAt_heap wr w1.heap.size S p (p + (Utf8.decode S p).2) hit
              have hxi : Ext (fun _ => True) w (wr.iterAt w1.heap.size S (p + (Utf8.decode S p).2)) := hx.trans' (T := fun k => k ≠ w1.heap.size) ⟨rfl, rfl, rfl, by rw [Lib.iterAt_size]; exact Nat.le_refl _, fun k hk _ => Lib.iterAt_other wr w1.heap.size k S _ hk⟩ fun k _ hk => by omega
              by_cases ha : 48 ≤ S[p].toNat ∧ S[p].toNat ≤ 57
              · rw [if_pos ha] at e
                have hdec := decode_ascii S p hp (by omega)
                rw [hdec] at hnx hit2 hxi
                obtain ⟨ha1, ha2⟩ := ha
                generalize S[p].toNat = x at *
                generalize hwi : wr.iterAt w1.heap.size S (p + 1) = wi at *
                have hdig : Ref.digit (x : Int) = true := by simp [Ref.digit]; omega
                have E := Lib.hid e
                have HW := Lib.hid hwi
                have HDG := Lib.hid hdig
                clear e hdec hwi hit hdig
                go_wp2_with (go_at_call 66; refine (PDigit_any _ _).mono ?_; rintro e w' ⟨rfl, rfl⟩; rw [HDG.out])
                all_goals go_roundg g
                all_goals first | (show g < _; omega) | skip
                all_goals exact ⟨p + 1, _, rfl, by omega, by omega, hit2, hxi, by omega, by omega, E⟩
              · rw [if_neg ha] at e
                have hdig : Ref.digit ((Utf8.decode S p).1 : Int) = false := by
                  by_cases h7 : S[p].toNat < 128
                  · rw [decode_ascii S p hp h7]; simp [Ref.digit]; omega
                  · have := (decode_high S p hp (by omega)).1; simp [Ref.digit]; omega
                generalize hz : (Utf8.decode S p).1 = x at *
                generalize hq : p + (Utf8.decode S p).2 = q at *
                generalize hwi : wr.iterAt w1.heap.size S q = wi at *
                have HDG := Lib.hid hdig
                clear hz hq hwi hdig ha hit
                go_wp2_with (go_at_call 66; refine (PDigit_any _ _).mono ?_; rintro e w' ⟨rfl, rfl⟩; rw [HDG.out])
                go_ret
                exact ⟨by rw [← e]; rfl, hxi⟩
            · have hnx : ∀ ty, (Instr.next (.pointer (some ⟨w1.heap.size, 0, none⟩)) true ty).run Tryd.prog wr = _ := fun ty => Lib.run_next_end_at wr w1.heap.size S p ty hit hp
              have e := hrun.out
              rw [show D.drop p = [] from List.drop_eq_nil_of_le (by rw [← HSz.out]; omega)] at e
              have E := Lib.hid e
              clear e hrun
              go_wp2_with fail
              all_goals go_ret
              all_goals exact ⟨ret_int (by (rw [← E.out]); simp [IntEnd, tokRun] <;> omega), hx⟩
end Go.Proofs.YtihnffmnofinmaaDoor
