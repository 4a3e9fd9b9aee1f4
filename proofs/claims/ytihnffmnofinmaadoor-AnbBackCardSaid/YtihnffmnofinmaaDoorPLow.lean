/- points.Lower: by a strings.Builder. -/
import Derived.Test.YtihnffmnofinmaaDoorBld
import Derived.Test.YtihnffmnofinmaaDoorShelf
namespace Go.Proofs.YtihnffmnofinmaaDoor
open Go.RowKit

theorem Ext.below {w x y : World} (h : Ext (fun _ => True) w x) (hb : Below w.heap.size x y) : Ext (fun _ => True) w y :=
  h.trans' (T := fun k => k < w.heap.size) ⟨hb.os, hb.tape, hb.output, hb.size, fun k hk _ => hb.block k hk⟩ fun _ _ hk => hk
def lowCells (l : List UInt8) (k : Nat) : List Value := Lib.byteCells ((l.take k).map Ref.lowB)
theorem lowCells_len (l : List UInt8) (k : Nat) (h : k ≤ l.length) : (lowCells l k).length = k := by simp [lowCells, Lib.byteCells, h]
theorem lowCells_add (l : List UInt8) (k : Nat) (h : k < l.length) : lowCells l (k + 1) = lowCells l k ++ [.int .u8 (Ref.lowB l[k]).toNat] := by
  unfold lowCells Lib.byteCells; rw [List.take_succ_eq_append_getElem h, List.map_append, List.map_append]; rfl
theorem u8_wrap {n : Int} (h0 : 0 ≤ n) (h : n < 256) : IntKind.u8.wrap n = n := by simp [IntKind.wrap, IntKind.bits, IntKind.signed]; omega
theorem lowCells_step {l : List UInt8} {k : Nat} (h : k < l.length) (hb : k < (ByteArray.mk l.toArray).size) {c : Int} (hc : c = if 65 ≤ ((ByteArray.mk l.toArray)[k].toNat : Int) ∧ ((ByteArray.mk l.toArray)[k].toNat : Int) ≤ 90 then ((ByteArray.mk l.toArray)[k].toNat : Int) + 32 else ((ByteArray.mk l.toArray)[k].toNat : Int)) : lowCells l k ++ [.int .u8 c] = lowCells l (k + 1) := by
  have e : (ByteArray.mk l.toArray)[k] = l[k] := rfl
  rw [e] at hc
  rw [lowCells_add l k h, hc]
  congr 3
  split
  · rename_i hh; rw [lowB_toNat (by omega)]; omega
  · rename_i hh; rw [lowB_big (by omega)]
set_option maxRecDepth 100000 in
set_option maxHeartbeats 2000000 in
theorem PLower_any (l : List UInt8) (w : World) (hl : l.length ≤ 140737488355327) :
    Calls Tryd.prog 32 #[.string ⟨l.toArray⟩] w (Ret (.string ⟨(Ref.lower l).toArray⟩) (Ext (fun _ => True) w)) := by
  go_enter Tryd.func32, Tryd.ntmps32
  go_wp2_with fail
  go_loopg [8] (l.length + 1) (fun f i wr => ∃ k, l.length < k + f ∧ k ≤ l.length ∧ i = .int .i64 k ∧ Hid (Lib.IsBuilder 77 5 w.heap.size w.heap.size (lowCells l k) wr) ∧ Ext (fun _ => True) w wr)
  case atStart => exact ⟨0, by omega, by omega, rfl, Lib.hid (Lib.fresh_isBuilder _ _ w), (Ext.refl _ _).alloc _⟩
  case round =>
    obtain ⟨k, hf, hk, rfl, hb, hx⟩ := hrel
    have hsz := hx.size
    have hlen := Lib.hid (lowCells_len l k hk)
    by_cases hlt : k < l.length
    · have hadd := fun c => Lib.hid (lowCells_step hlt (by simpa [ByteArray.size] using hlt) (c := c))
      go_wp2_with fail
      all_goals ((go_at_call 55; refine (WriteByte_any w.heap.size w.heap.size (lowCells l k) _ _ hb.out (by rw [hlen.out]; omega) (by omega)).mono ?_; rintro e w1 ⟨rfl, hb1, hx1⟩))
      all_goals go_wp2_with fail
      all_goals go_roundg (gk - 1)
      all_goals first | (show _ - 1 < _; omega) | skip
      all_goals exact ⟨k + 1, by omega, by omega, by go_num, Lib.hid (by rw [← (hadd _).out (by first | rw [if_pos ⟨by assumption, by assumption⟩] | rw [if_neg (by omega)])]; exact .inr hb1), hx.below hx1⟩
    · obtain rfl : k = l.length := by omega
      have hF : lowCells l l.length = Lib.byteCells (Ref.lower l) := by simp [lowCells, Ref.lower]
      rw [hF] at hb
      clear hF hlen
      go_wp2_with (go_at_call 56; refine (Tryd.Builder_String_any w.heap.size w.heap.size _ _ hb.out (by omega)).mono ?_; rintro e w1 ⟨rfl, hx1⟩)
      go_ret
      exact ⟨rfl, hx.below hx1⟩
end Go.Proofs.YtihnffmnofinmaaDoor
