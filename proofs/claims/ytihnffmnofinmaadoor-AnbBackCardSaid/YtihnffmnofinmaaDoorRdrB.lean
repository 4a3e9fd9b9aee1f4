/- The reference's reader of signs: its methods' contracts, those that go on: digits, an escape's sign, a name. -/
import Derived.Test.YtihnffmnofinmaaDoorRdr
import Derived.Deep.LoopGhost
namespace Go.Proofs.YtihnffmnofinmaaDoor
open Go.RowKit

theorem Rdr.cells {w : World} {B R at_ : Nat} {r : List Int} (h : Rdr w B R r at_) : w.cell? ⟨R, 1, none⟩ = some (.int .i64 at_) ∧ w.frozen? ⟨R, 1, none⟩ = false ∧ at_ ≤ 70368744177664 := by
  obtain ⟨h1, h2, h3, h4, A, c, hb, hd⟩ := h
  exact ⟨by rw [block_cell hb]; rfl, block_free hb 1, by have := h1.len; omega⟩
theorem Rdr.move {w : World} {B R at_ a' : Nat} {r : List Int} (h : Rdr w B R r at_) (ha : a' ≤ r.length) : Rdr (w.setCell ⟨R, 1, none⟩ (.int .i64 a')) B R r a' := by
  obtain ⟨h1, h2, h3, h4, A, c, hb, hd⟩ := h
  exact ⟨h1, ha, by simpa [World.setCell] using h3, h4, A, c, block_set hb 1 _, hd.setCell _ _ (fun e => e.2 rfl)⟩
theorem Rdr.setOther {w : World} {B R at_ : Nat} {r : List Int} (h : Rdr w B R r at_) {p : Addr} (hp : B ≤ p.block) (v : Value) : Rdr (w.setCell p v) B R r at_ := h.ext ((Ext.refl _ _).setCell _ _ (.inl fun k => by omega))
theorem Rdr.alloc {w : World} {B R at_ : Nat} {r : List Int} (h : Rdr w B R r at_) (o : Obj) : Rdr (w.alloc o) B R r at_ := h.ext ((Ext.refl _ _).alloc o)
theorem Rdr.move' {w : World} {B R at_ a' : Nat} {r : List Int} {x : Int} (h : Rdr w B R r at_) (hx : x = a') (ha : a' ≤ r.length) : Rdr (w.setCell ⟨R, 1, none⟩ (.int .i64 x)) B R r a' := hx ▸ h.move ha
theorem Ref.lt_of_sgn {r : List Int} {a : Nat} (h : 0 ≤ Ref.sgn r a) : a < r.length := by
  rcases Nat.lt_or_ge a r.length with hl | hl
  · exact hl
  · rw [show Ref.sgn r a = -1 by simp [Ref.sgn, List.getD, List.getElem?_eq_none hl]] at h; omega
theorem Ref.digit_lt {r : List Int} {a : Nat} (h : Ref.digit (Ref.sgn r a) = true) : a < r.length := Ref.lt_of_sgn (by simp [Ref.digit] at h; omega)

/-- The reader has gone on to a'; nothing else that was there has turned. -/
def Moved (B R : Nat) (r : List Int) (a' : Nat) (w w' : World) : Prop := Rdr w' B R r a' ∧ Ext (fun k => k ≠ R) w w'
theorem Ext.any {S : Nat → Prop} {a b : World} (h : Ext (fun _ => True) a b) : Ext S a b := h.mono fun _ _ _ => trivial

theorem str_add (x y : List UInt8) : Value.string (⟨x.toArray⟩ ++ ⟨y.toArray⟩) = .string ⟨(x ++ y).toArray⟩ := by rw [ByteArray.mk_append_mk]

set_option maxHeartbeats 800000 in
theorem digits_any {B : Nat} (R at_ : Nat) (r : List Int) (w : World) (h : Rdr w B R r at_) :
    Calls Tryd.prog 70 #[.pointer (some ⟨R, 0, none⟩)] w (Ret (.string ⟨(Ref.digits r at_).1.toArray⟩) (Moved B R r (Ref.digits r at_).2 w)) := by
  obtain ⟨F, hF⟩ : ∃ F, F = Ref.digits r at_ := ⟨_, rfl⟩
  rw [← hF]
  have HF := Lib.hid hF
  clear hF
  go_enter Tryd.func70, Tryd.ntmps70
  go_wp2_with fail
  go_loopg [3] (r.length + 1) (fun f s wr => ∃ a l, s = .string ⟨l.toArray⟩ ∧ l.length ≤ 4 * a ∧ Rdr wr B R r a ∧ Ext (fun k => k ≠ R) w wr ∧ r.length < f + a ∧ Hid (Ref.digitsRun r f a l = F))
  case atStart => exact ⟨at_, [], rfl, by simp, h, Ext.refl _ _, by omega, HF.out.symm⟩
  case round =>
    obtain ⟨a, l, rfl, hl, ha, hx0, hf, hrun⟩ := hrel
    have hle := ha.le
    have hln := ha.runes.len
    have hc := ha.cells.1
    obtain ⟨g, rfl⟩ : ∃ g, gk = g + 1 := ⟨gk - 1, by omega⟩
    go_wp2_with (first | (go_at_call 28; refine (sign_any R _ _ r _ (by first | assumption | exact Rdr.q (by assumption) _) (by omega) (by omega)).mono ?_; rintro e w' ⟨rfl, nq, rfl⟩) | (go_at_call 49; refine (Digit_any _ _).mono ?_; rintro e w' ⟨rfl, rfl⟩) | (go_at_call 42; refine (Put_any _ _).mono ?_; rintro e w2 ⟨rfl, hx, hpl⟩; have h2 := Rdr.extT (by first | assumption | exact Rdr.q (by assumption) _) hx; have hc2 := h2.cells.1; have hf2 := h2.cells.2.1))
    · go_roundg g
      case measure => omega
      case rel => exact ⟨a + 1, l ++ Ref.put (Ref.sgn r a), str_add _ _, by simp; omega, h2.move (Ref.digit_lt (by assumption)), (hx0.trans ((Ext.refl _ _).more _ |>.trans hx.any)).setCell _ _ (.inl fun k => k rfl), by omega, by have e := hrun.out; unfold Ref.digitsRun at e; rw [if_pos (by assumption)] at e; exact e⟩
    · go_ret
      have e := hrun.out
      unfold Ref.digitsRun at e
      rw [if_neg (by first | assumption | (simp [*]; done) | omega)] at e
      subst e
      exact ⟨rfl, ha.q _, hx0.more _⟩

theorem Ref.hex_lt {r : List Int} {a : Nat} (h : Ref.isHex (Ref.sgn r a) = true) : a < r.length := Ref.lt_of_sgn (by
  by_cases h0 : 0 ≤ Ref.sgn r a
  · exact h0
  · have := (Ref.hex_no (r := Ref.sgn r a) (by omega) (by omega) (by omega)).2; rw [this] at h; cases h)
theorem Ref.white_lt {r : List Int} {a : Nat} (h : Ref.white (Ref.sgn r a) = true) : a < r.length := Ref.lt_of_sgn (by simp [Ref.white] at h; omega)
def Ref.hexLim : Nat → Int | 0 => 0 | 1 => 15 | 2 => 255 | 3 => 4095 | 4 => 65535 | 5 => 1048575 | _ => 16777215
theorem Ref.hexLim_step {i : Nat} {n v : Int} (hi : i < 6) (h : n ≤ Ref.hexLim i) (hv : v ≤ 15) : n * 16 + v ≤ Ref.hexLim (i + 1) ∧ n ≤ 1048575 := by
  match i, hi with
  | 0, _ | 1, _ | 2, _ | 3, _ | 4, _ | 5, _ => simp [Ref.hexLim] at *; omega
theorem Ref.hexLim_le (i : Nat) : Ref.hexLim i ≤ 16777215 := by unfold Ref.hexLim; split <;> omega
theorem Rdr.lo32 {r : List Int} (h : Runes r) {i : Nat} : -2147483648 ≤ Ref.sgn r i := by have := Rdr.sgn_bd h i; omega
theorem Rdr.hi32 {r : List Int} (h : Runes r) {i : Nat} : Ref.sgn r i ≤ 2147483647 := by have := Rdr.sgn_bd h i; omega
theorem Ref.fix_bad {n : Int} (h : n = 0 ∨ (55296 ≤ n ∧ n ≤ 57343) ∨ 1114111 < n) : Ref.fixN n = 65533 := if_pos h
theorem Ref.fix_good {n : Int} (h : ¬ (n = 0 ∨ (55296 ≤ n ∧ n ≤ 57343) ∨ 1114111 < n)) : Ref.fixN n = n := if_neg h

set_option maxHeartbeats 800000 in
theorem escaped_any {B : Nat} (R at_ : Nat) (r : List Int) (w : World) (h : Rdr w B R r at_) :
    Calls Tryd.prog 68 #[.pointer (some ⟨R, 0, none⟩)] w (Ret (.int .i32 (Ref.escaped r at_).1) (Moved B R r (Ref.escaped r at_).2 w)) := by
  obtain ⟨F, hF⟩ : ∃ F, F = Ref.escaped r at_ := ⟨_, rfl⟩
  rw [← hF]
  have HF := Lib.hid hF
  clear hF
  have hru := h.runes
  have hb := Rdr.sgn_bd hru at_
  have hc := h.cells.1
  have hfz := h.cells.2.1
  have hln := h.runes.len
  have hle := h.le
  go_enter Tryd.func68, Tryd.ntmps68
  go_wp2_with (first | (go_at_call 28; refine (sign_any R _ _ r _ (by first | assumption | exact Rdr.q (by assumption) _) (by omega) (by omega)).mono ?_; rintro e w' ⟨rfl, nq, rfl⟩) | (go_at_call 81; refine (Hex_any _ _ (Rdr.lo32 hru) (Rdr.hi32 hru)).mono ?_; rintro e w' ⟨rfl, rfl⟩) | (go_at_call 43; refine (White_any _ _).mono ?_; rintro e w' ⟨rfl, rfl⟩))
  · go_ret
    have e := HF.out
    unfold Ref.escaped at e
    rw [if_pos (by first | assumption | (simp [*]; done) | omega)] at e
    subst e
    exact ⟨rfl, h.q _, (Ext.refl _ _).more _⟩
  · go_ret
    have e := HF.out
    unfold Ref.escaped at e
    rw [if_neg (by omega), if_neg (by simp_all)] at e
    subst e
    exact ⟨rfl, (h.q _).move (Ref.lt_of_sgn (by assumption)), ((Ext.refl _ _).more _).setCell _ _ (.inl fun k => k rfl)⟩
  · rename (!Ref.isHex (Ref.sgn r at_)) = false => hhex
    rename 0 ≤ Ref.sgn r at_ => hge
    obtain ⟨P, hP⟩ : ∃ P, P = Ref.hexRun r 6 at_ 0 := ⟨_, rfl⟩
    have HG : Hid (F = (Ref.fixN P.1, Ref.pastWhite r P.2)) := by
      have e := HF.out
      unfold Ref.escaped at e
      rw [if_neg (by omega), if_pos (by simp_all), ← hP] at e
      exact e
    have HP := Lib.hid hP
    clear hP HF hhex hge
    go_loopg [6, 7] 6 (fun k n i wr => ∃ (a : Nat) (N : Int), i = .int .i64 ((6 - k : Nat) : Int) ∧ k ≤ 6 ∧ n = .int .i64 N ∧ 0 ≤ N ∧ N ≤ Ref.hexLim (6 - k) ∧ Rdr wr B R r a ∧ Ext (fun k => k ≠ R) w wr ∧ Hid (Ref.hexRun r k a N = P))
    case atStart => exact ⟨at_, 0, rfl, by omega, rfl, by omega, by simp [Ref.hexLim], h.q _, (Ext.refl _ _).more _, HP.out.symm⟩
    case round =>
      obtain ⟨a, N, rfl, hk, rfl, hN0, hN1, ha, hx0, hrun⟩ := hrel
      have hN2 := Ref.hexLim_le (6 - gk)
      have hale := ha.le
      have hac := ha.cells.1
      have haf := ha.cells.2.1
      have hvb := Ref.hexNum_bd (Ref.sgn r a)
      by_cases hz : gk = 0
      · subst hz
        have hp0 : Hid (P = (N, a)) := hrun.out.symm
        go_wp2_with (first | (go_at_call 28; refine (sign_any R _ _ r _ (by first | assumption | exact Rdr.q (by assumption) _) (by omega) (by omega)).mono ?_; rintro e w' ⟨rfl, nq, rfl⟩) | (go_at_call 81; refine (Hex_any _ _ (Rdr.lo32 hru) (Rdr.hi32 hru)).mono ?_; rintro e w' ⟨rfl, rfl⟩) | (go_at_call 43; refine (White_any _ _).mono ?_; rintro e w' ⟨rfl, rfl⟩))
        all_goals go_ret
        all_goals have eF : F = (Ref.fixN N, Ref.pastWhite r a) := by rw [HG.out, hp0.out]
        all_goals subst eF
        all_goals (try simp only [beq_iff_eq, beq_eq_false_iff_ne, ne_eq] at *)
        all_goals refine ⟨ret_int ?_, ?_, ?_⟩
        all_goals first | exact (Ref.fix_bad (by omega)).symm | exact (Ref.fix_good (by omega)).symm | skip
        all_goals first | (unfold Ref.pastWhite; rw [if_pos (by assumption)]; exact (Rdr.q ha _).move' (by simp) (Ref.white_lt (by assumption))) | (unfold Ref.pastWhite; rw [if_neg (by first | assumption | (simp [*]; done) | omega)]; exact ha.q _) | (exact ((hx0.more _).setCell _ _ (.inl fun k => k rfl))) | (exact hx0.more _)
      · obtain ⟨g, rfl⟩ : ∃ g, gk = g + 1 := ⟨gk - 1, by omega⟩
        have hi6 : ((6 - (g + 1) : Nat) : Int) < 6 := by omega
        have hst := Ref.hexLim_step (i := 6 - (g + 1)) (n := N) (v := Ref.hexNum (Ref.sgn r a)) (by omega) hN1 hvb.2
        rw [show 6 - (g + 1) + 1 = 6 - g by omega] at hst
        by_cases hx : Ref.isHex (Ref.sgn r a) = true
        · go_wp2_with (first | (go_at_call 28; refine (sign_any R _ _ r _ (by first | assumption | exact Rdr.q (by assumption) _) (by omega) (by omega)).mono ?_; rintro e w' ⟨rfl, nq, rfl⟩) | (go_at_call 81; refine (Hex_any _ _ (Rdr.lo32 hru) (Rdr.hi32 hru)).mono ?_; rintro e w' ⟨rfl, rfl⟩) | (go_at_call 43; refine (White_any _ _).mono ?_; rintro e w' ⟨rfl, rfl⟩))
          go_roundg g
          case measure => omega
          case rel => exact ⟨a + 1, _, by go_num, by omega, rfl, by omega, hst.1, (ha.q _).move' (by simp) (Ref.hex_lt hx), (hx0.more _).setCell _ _ (.inl fun k => k rfl), by have e := hrun.out; unfold Ref.hexRun at e; rw [if_pos hx] at e; exact e⟩
        · have hp0 : Hid (P = (N, a)) := by have e := hrun.out; unfold Ref.hexRun at e; rw [if_neg hx] at e; exact e.symm
          go_wp2_with (first | (go_at_call 28; refine (sign_any R _ _ r _ (by first | assumption | exact Rdr.q (by assumption) _) (by omega) (by omega)).mono ?_; rintro e w' ⟨rfl, nq, rfl⟩) | (go_at_call 81; refine (Hex_any _ _ (Rdr.lo32 hru) (Rdr.hi32 hru)).mono ?_; rintro e w' ⟨rfl, rfl⟩) | (go_at_call 43; refine (White_any _ _).mono ?_; rintro e w' ⟨rfl, rfl⟩))
          all_goals go_ret
          all_goals have eF : F = (Ref.fixN N, Ref.pastWhite r a) := by rw [HG.out, hp0.out]
          all_goals subst eF
          all_goals (try simp only [beq_iff_eq, beq_eq_false_iff_ne, ne_eq] at *)
          all_goals refine ⟨ret_int ?_, ?_, ?_⟩
          all_goals first | exact (Ref.fix_bad (by omega)).symm | exact (Ref.fix_good (by omega)).symm | skip
          all_goals first | (unfold Ref.pastWhite; rw [if_pos (by assumption)]; exact (Rdr.q ha _).move' (by simp) (Ref.white_lt (by assumption))) | (unfold Ref.pastWhite; rw [if_neg (by first | assumption | (simp [*]; done) | omega)]; exact ha.q _) | (exact ((hx0.more _).setCell _ _ (.inl fun k => k rfl))) | (exact hx0.more _)
end Go.Proofs.YtihnffmnofinmaaDoor
