/- The reference's small functions of one sign: what each call returns. -/
import Derived.Test.YtihnffmnofinmaaDoorProg
import Derived.Test.YtihnffmnofinmaaDoorFun
import Derived.Test.YtihnffmnofinmaaDoorDat
import Derived.Lib.Hide
namespace Go.Proofs.YtihnffmnofinmaaDoor
open Go.RowKit

theorem ret_bool {a b : Bool} (h : a = b) : Ending.returned (.bool a) = .returned (.bool b) := by rw [h]
theorem ret_two {k : IntKind} {a b : Int} {c d : Bool} (h : a = b) (h' : c = d) : Ending.returned (.tuple #[.int k a, .bool c]) = .returned (.tuple #[.int k b, .bool d]) := by rw [h, h']
theorem ret_int {k : IntKind} {a b : Int} (h : a = b) : Ending.returned (.int k a) = .returned (.int k b) := by rw [h]

set_option maxHeartbeats 400000 in
theorem Digit_any (r : Int) (w : World) :
    Calls Tryd.prog 49 #[.int .i32 r] w (Ret (.bool (Ref.digit r)) (Still w)) := by
  go_enter Tryd.func49, Tryd.ntmps49
  go_wp2
  all_goals go_ret
  all_goals exact ⟨ret_bool (by simp [Ref.digit, *] <;> omega), rfl⟩
set_option maxHeartbeats 400000 in
theorem Letter_any (r : Int) (w : World) :
    Calls Tryd.prog 69 #[.int .i32 r] w (Ret (.bool (Ref.letter r)) (Still w)) := by
  go_enter Tryd.func69, Tryd.ntmps69
  go_wp2
  all_goals go_ret
  all_goals exact ⟨ret_bool (by rw [Bool.eq_iff_iff]; simp [Ref.letter] <;> omega), rfl⟩
set_option maxHeartbeats 400000 in
theorem White_any (r : Int) (w : World) :
    Calls Tryd.prog 43 #[.int .i32 r] w (Ret (.bool (Ref.white r)) (Still w)) := by
  go_enter Tryd.func43, Tryd.ntmps43
  go_wp2
  all_goals go_ret
  all_goals exact ⟨ret_bool (by rw [Bool.eq_iff_iff]; simp [Ref.white] <;> omega), rfl⟩
set_option maxHeartbeats 400000 in
theorem bad_any (r : Int) (w : World) :
    Calls Tryd.prog 83 #[.int .i32 r] w (Ret (.bool (Ref.bad r)) (Still w)) := by
  go_enter Tryd.func83, Tryd.ntmps83
  go_wp2
  all_goals go_ret
  all_goals exact ⟨ret_bool (by rw [Bool.eq_iff_iff]; simp [Ref.bad] <;> omega), rfl⟩
set_option maxHeartbeats 400000 in
theorem Name_any (r : Int) (w : World) :
    Calls Tryd.prog 45 #[.int .i32 r] w (Ret (.bool (Ref.nameSign r)) (Still w)) := by
  go_enter Tryd.func45, Tryd.ntmps45
  go_wp2_with (first | (go_at_call 69; refine (Letter_any _ _).mono ?_; rintro e w' ⟨rfl, rfl⟩) | (go_at_call 49; refine (Digit_any _ _).mono ?_; rintro e w' ⟨rfl, rfl⟩))
  all_goals go_ret
  all_goals exact ⟨ret_bool (by rw [Bool.eq_iff_iff]; simp [Ref.nameSign, *]), rfl⟩
set_option maxHeartbeats 400000 in
theorem Hex_any (r : Int) (w : World) (h1 : -2147483648 ≤ r) (h2 : r ≤ 2147483647) :
    Calls Tryd.prog 81 #[.int .i32 r] w (Ret (.tuple #[.int .i64 (Ref.hexNum r), .bool (Ref.isHex r)]) (Still w)) := by
  go_enter Tryd.func81, Tryd.ntmps81
  go_wp2
  all_goals go_ret2
  all_goals first
    | exact ⟨ret_two (Ref.hex_dig (by assumption) (by assumption)).1.symm (Ref.hex_dig (by assumption) (by assumption)).2.symm, rfl⟩
    | exact ⟨ret_two (Ref.hex_low (by assumption) (by assumption)).1.symm (Ref.hex_low (by assumption) (by assumption)).2.symm, rfl⟩
    | exact ⟨ret_two (Ref.hex_cap (by assumption) (by assumption)).1.symm (Ref.hex_cap (by assumption) (by assumption)).2.symm, rfl⟩
    | exact ⟨ret_two (Ref.hex_no (by omega) (by omega) (by omega)).1.symm (Ref.hex_no (by omega) (by omega) (by omega)).2.symm, rfl⟩
theorem Ref.put_len (x : Int) : (Ref.put x).length ≤ 4 := by
  unfold Ref.put Ref.encNat
  repeat' split
  all_goals simp
/-- Nothing that was there has turned; so many bytes at most. -/
def PutPost (l : List UInt8) (w w' : World) : Prop := Ext (fun _ => True) w w' ∧ l.length ≤ 4
theorem put_eq (r : Int) : runesBytes ([r].take 1) = ⟨(Ref.put r).toArray⟩ := by
  have h : ∀ c : Nat, (if c < 0x80 then (⟨#[UInt8.ofNat c]⟩ : ByteArray)
    else if c < 0x800 then ⟨#[UInt8.ofNat (0xC0 + c / 64), UInt8.ofNat (0x80 + c % 64)]⟩
    else if c < 0x10000 then ⟨#[UInt8.ofNat (0xE0 + c / 4096), UInt8.ofNat (0x80 + c / 64 % 64), UInt8.ofNat (0x80 + c % 64)]⟩
    else ⟨#[UInt8.ofNat (0xF0 + c / 262144), UInt8.ofNat (0x80 + c / 4096 % 64), UInt8.ofNat (0x80 + c / 64 % 64), UInt8.ofNat (0x80 + c % 64)]⟩) = ⟨(Ref.encNat c).toArray⟩ := by
    intro c; unfold Ref.encNat; repeat' split
    all_goals rfl
  have hv : Utf8.valid r = Ref.valid r := rfl
  simp only [runesBytes, List.take, List.foldl]
  unfold Ref.put
  rw [← h, ← hv]
  simp only [Utf8.encode, Utf8.runeError, ByteArray.empty_append]
  rfl

set_option maxHeartbeats 400000 in
theorem Put_any (r : Int) (w : World) :
    Calls Tryd.prog 42 #[.int .i32 r] w (Ret (.string ⟨(Ref.put r).toArray⟩) (PutPost (Ref.put r) w)) := by
  have hl := Ref.put_len r
  have hcv : (convert 38 9 (.slice (some ⟨w.heap.size, 0, none⟩) 1 1)).run Tryd.prog (w.alloc (.cells #[.int .i32 r] 21)) = .ok (.string (runesBytes ([r].take 1))) (w.alloc (.cells #[.int .i32 r] 21)) :=
    run_convert_runes _ _ _ 21 _ 1 1 [r] (Nat.le_refl _) Tryd.underlying38 Tryd.underlying21 Tryd.underlying9 (fun j hj => by
      have : j = 0 := by simpa using hj
      subst this
      simp [Addr.add, World.cell?_alloc_new])
  have hb : runesBytes ([r].take 1) = ⟨(Ref.put r).toArray⟩ := put_eq r
  rw [hb] at hcv
  generalize Ref.put r = pr at *
  have HL := Lib.hid hl
  clear hb hl
  go_enter Tryd.func42, Tryd.ntmps42
  go_wp2
  go_ret
  exact ⟨rfl, (Ext.refl _ _).alloc _, HL.out⟩
end Go.Proofs.YtihnffmnofinmaaDoor
