/- The reference's reader of signs: its methods' contracts, those that only look. -/
import Derived.Test.YtihnffmnofinmaaDoorLeaf
import Derived.Deep.QuietTactic
import Derived.BigQuiet
import Derived.Lib.Hide
namespace Go.Proofs.YtihnffmnofinmaaDoor
open Go.RowKit

/-- A text of signs that may be. -/
structure Runes (r : List Int) : Prop where
  lo : ∀ x ∈ r, 0 ≤ x
  hi : ∀ x ∈ r, x ≤ 1114111
  len : r.length ≤ 16777216
def runeDat (r : List Int) : Dat := .s (r.map fun x => [.v (.int .i32 x)])

theorem Quiet.refl (w : World) : Quiet w w := ⟨0, rfl⟩
theorem Quiet.trans {a b c : World} (h : Quiet a b) (k : Quiet b c) : Quiet a c := by
  obtain ⟨n, rfl⟩ := h; obtain ⟨m, rfl⟩ := k; exact ⟨n + m, by simp [World.drewN_drewN]⟩
theorem Quiet.more {w x : World} (h : Quiet w x) (n : Nat) : Quiet w (x.drewN n) := h.trans ⟨n, rfl⟩
theorem Quiet.one {w x : World} (h : Quiet w x) : Quiet w x.drew := h.trans ⟨1, rfl⟩
theorem Quiet.ext {S : Nat → Prop} {w w' : World} (h : Quiet w w') : Ext S w w' := by
  obtain ⟨n, rfl⟩ := h; exact ⟨rfl, rfl, rfl, Nat.le_refl _, fun _ _ _ => rfl⟩
theorem Ext.more {S : Nat → Prop} {w x : World} (h : Ext S w x) (n : Nat) : Ext S w (x.drewN n) := h.trans (Quiet.ext ⟨n, rfl⟩)

/-- A reader in block R: its signs, which lie below block B, and its place. -/
structure Rdr (w : World) (B R : Nat) (r : List Int) (at_ : Nat) : Prop where
  runes : Runes r
  le : at_ ≤ r.length
  old : B ≤ w.heap.size
  rold : R < B
  here : ∃ A c, w.heap[R]? = some (.cells #[.slice A r.length c, .int .i64 at_] 60 (0, 0)) ∧ Dat.At w (fun k => k < B ∧ k ≠ R) (runeDat r) (.slice A r.length c)

theorem Rdr.ext {w w' : World} {B R at_ : Nat} {r : List Int} (h : Rdr w B R r at_) (he : Ext (fun k => k < B) w w') : Rdr w' B R r at_ := by
  obtain ⟨h1, h2, h3, h4, A, c, hb, hd⟩ := h
  exact ⟨h1, h2, Nat.le_trans h3 he.size, h4, A, c, he.heap h4 hb, hd.ext he fun k hk _ => ⟨hk.1, hk⟩⟩
theorem Rdr.extT {w w' : World} {B R at_ : Nat} {r : List Int} (h : Rdr w B R r at_) (he : Ext (fun _ => True) w w') : Rdr w' B R r at_ := h.ext (he.mono fun _ _ _ => trivial)
theorem Rdr.quiet {w w' : World} {B R at_ : Nat} {r : List Int} (h : Rdr w B R r at_) (hq : Quiet w w') : Rdr w' B R r at_ := h.ext hq.ext
theorem Rdr.q {w : World} {B R at_ : Nat} {r : List Int} (h : Rdr w B R r at_) (n : Nat) : Rdr (w.drewN n) B R r at_ := h.quiet ⟨n, rfl⟩
theorem Rdr.sgn_bd {r : List Int} (h : Runes r) (i : Nat) : -1 ≤ Ref.sgn r i ∧ Ref.sgn r i ≤ 1114111 := by
  unfold Ref.sgn
  rcases Nat.lt_or_ge i r.length with hl | hl
  · have hm : r[i] ∈ r := List.getElem_mem hl
    have h1 := h.lo _ hm
    have h2 := h.hi _ hm
    simp [List.getD, List.getElem?_eq_getElem hl]; omega
  · simp [List.getD, List.getElem?_eq_none hl]

set_option maxHeartbeats 400000 in
theorem sign_any {B : Nat} (R at_ : Nat) (k : Int) (r : List Int) (w : World) (h : Rdr w B R r at_) (hk0 : 0 ≤ k) (hk : k ≤ 70368744177665) :
    Calls Tryd.prog 28 #[.pointer (some ⟨R, 0, none⟩), .int .i64 k] w (Ret (.int .i32 (Ref.sgn r (at_ + k.toNat))) (Quiet w)) := by
  obtain ⟨k, rfl⟩ := Int.eq_ofNat_of_zero_le hk0
  rw [Int.toNat_natCast]
  obtain ⟨⟨_, _, hlen⟩, hle, _, _, A, c, hb, hd⟩ := h
  have c0 : w.cell? ⟨R, 0, none⟩ = some (.slice A r.length c) := by rw [block_cell hb]; rfl
  have c1 : w.cell? ⟨R, 1, none⟩ = some (.int .i64 at_) := by rw [block_cell hb]; rfl
  obtain ⟨hc, hm⟩ := hd.cap
  unfold maxLen at hm
  by_cases hl : at_ + k < r.length
  · have hi : (r.map fun x => [Dat.v (.int .i32 x)])[at_ + k]? = some [Dat.v (.int .i32 r[at_ + k])] := by simp [List.getElem?_eq_getElem hl]
    obtain ⟨b, off, rfl, _, _, f, hf⟩ := hd.elem hi (size := 1) rfl
    have hcell := (hf 0 Nat.one_pos).1
    rw [((hf 0 Nat.one_pos).2 _ rfl).plain] at hcell
    have hs : Ref.sgn r (at_ + k) = r[at_ + k] := by simp [Ref.sgn, List.getD, List.getElem?_eq_getElem hl]
    rw [hs]
    generalize r[at_ + k] = x at *
    simp only [Nat.mul_one, Nat.add_zero] at hcell
    clear hd hi hf hs hb
    go_enter Tryd.func28, Tryd.ntmps28
    go_wp2_with (go_quiet (fail))
    go_ret
    exact ⟨rfl, Quiet.more ⟨_, rfl⟩ _⟩
  · have hs : Ref.sgn r (at_ + k) = -1 := by simp [Ref.sgn, List.getD, List.getElem?_eq_none (Nat.le_of_not_lt hl)]
    rw [hs]
    clear hd hs hb
    go_enter Tryd.func28, Tryd.ntmps28
    go_wp2_with (go_quiet (fail))
    go_ret
    exact ⟨rfl, _, rfl⟩


set_option maxHeartbeats 400000 in
theorem escape_any {B : Nat} (R at_ : Nat) (k : Int) (r : List Int) (w : World) (h : Rdr w B R r at_) (hk0 : 0 ≤ k) (hk : k ≤ 70368744177664) :
    Calls Tryd.prog 46 #[.pointer (some ⟨R, 0, none⟩), .int .i64 k] w (Ret (.bool (Ref.isEsc r (at_ + k.toNat))) (Quiet w)) := by
  have e1 : at_ + (k + 1).toNat = at_ + k.toNat + 1 := by omega
  have E1 := Lib.hid e1
  clear e1
  go_enter Tryd.func46, Tryd.ntmps46
  go_wp2_with (first | (go_at_call 28; refine (sign_any R at_ _ r _ (by first | exact h | exact h.q _) (by omega) (by omega)).mono ?_; rintro e w' ⟨rfl, nq, rfl⟩))
  all_goals go_ret
  all_goals exact ⟨ret_bool (by (try rw [E1.out]); rw [Bool.eq_iff_iff]; simp_all [Ref.isEsc]), _, rfl⟩

set_option maxHeartbeats 800000 in
theorem names_any {B : Nat} (R at_ : Nat) (k : Int) (r : List Int) (w : World) (h : Rdr w B R r at_) (hk0 : 0 ≤ k) (hk : k ≤ 70368744177663) :
    Calls Tryd.prog 47 #[.pointer (some ⟨R, 0, none⟩), .int .i64 k] w (Ret (.bool (Ref.names r (at_ + k.toNat))) (Quiet w)) := by
  have e1 : at_ + (k + 1).toNat = at_ + k.toNat + 1 := by omega
  have E1 := Lib.hid e1
  clear e1
  go_enter Tryd.func47, Tryd.ntmps47
  go_wp2_with (first | (go_at_call 28; refine (sign_any R at_ _ r _ (by first | exact h | exact h.q _) (by omega) (by omega)).mono ?_; rintro e w' ⟨rfl, nq, rfl⟩) | (go_at_call 46; refine (escape_any R at_ _ r _ (by first | exact h | exact h.q _) (by omega) (by omega)).mono ?_; rintro e w' ⟨rfl, nq, rfl⟩) | (go_at_call 69; refine (Letter_any _ _).mono ?_; rintro e w' ⟨rfl, rfl⟩))
  all_goals go_ret
  all_goals exact ⟨ret_bool (by (try rw [E1.out] at *); rw [Bool.eq_iff_iff]; simp_all [Ref.names]), _, rfl⟩

set_option maxHeartbeats 800000 in
theorem numbers_any {B : Nat} (R at_ : Nat) (r : List Int) (w : World) (h : Rdr w B R r at_) :
    Calls Tryd.prog 50 #[.pointer (some ⟨R, 0, none⟩)] w (Ret (.bool (Ref.numbers r at_)) (Quiet w)) := by
  go_enter Tryd.func50, Tryd.ntmps50
  go_wp2_with (first | (go_at_call 28; refine (sign_any R at_ _ r _ (by first | exact h | exact h.q _) (by omega) (by omega)).mono ?_; rintro e w' ⟨rfl, nq, rfl⟩) | (go_at_call 49; refine (Digit_any _ _).mono ?_; rintro e w' ⟨rfl, rfl⟩))
  all_goals go_ret
  all_goals exact ⟨ret_bool (by rw [Bool.eq_iff_iff]; simp_all [Ref.numbers, Ref.signK]), _, rfl⟩
end Go.Proofs.YtihnffmnofinmaaDoor
