/- The reference's reader of signs: a name; white signs passed over. -/
import Derived.Test.YtihnffmnofinmaaDoorRdrB
namespace Go.Proofs.YtihnffmnofinmaaDoor
open Go.RowKit

theorem Ref.name_lt {r : List Int} {a : Nat} (h : Ref.nameSign (Ref.sgn r a) = true) : a < r.length := Ref.lt_of_sgn (by simp [Ref.nameSign, Ref.letter, Ref.digit] at h; omega)
theorem Ref.esc_lt {r : List Int} {a : Nat} (h : Ref.isEsc r a = true) : a < r.length := Ref.lt_of_sgn (by simp [Ref.isEsc] at h; omega)
theorem Ref.hexRun_at (r : List Int) : ∀ (k a : Nat) (n : Int), a ≤ r.length → a ≤ (Ref.hexRun r k a n).2 ∧ (Ref.hexRun r k a n).2 ≤ r.length
  | 0, a, n, h => ⟨Nat.le_refl _, h⟩
  | k + 1, a, n, h => by
    unfold Ref.hexRun
    split
    · have := Ref.hexRun_at r k (a + 1) (n * 16 + Ref.hexNum (Ref.sgn r a)) (Ref.hex_lt (by assumption)); exact ⟨by omega, this.2⟩
    · exact ⟨Nat.le_refl _, h⟩
theorem Ref.pastWhite_at {r : List Int} {a : Nat} (h : a ≤ r.length) : a ≤ Ref.pastWhite r a ∧ Ref.pastWhite r a ≤ r.length := by
  unfold Ref.pastWhite
  split
  · exact ⟨by omega, Ref.white_lt (by assumption)⟩
  · exact ⟨Nat.le_refl _, h⟩
theorem Ref.escaped_at {r : List Int} {a : Nat} (h : a ≤ r.length) : a ≤ (Ref.escaped r a).2 ∧ (Ref.escaped r a).2 ≤ r.length := by
  unfold Ref.escaped
  split
  · exact ⟨Nat.le_refl _, h⟩
  · split
    · have h1 := Ref.hexRun_at r 6 a 0 h
      have h2 := Ref.pastWhite_at h1.2
      exact ⟨Nat.le_trans h1.1 h2.1, h2.2⟩
    · exact ⟨Nat.le_succ _, Ref.lt_of_sgn (by omega)⟩

theorem Rdr.step1 {w : World} {B R a : Nat} {r : List Int} (h : Rdr w B R r a) (hl : a + 1 ≤ r.length) : Rdr (w.setCell ⟨R, 1, none⟩ (.int .i64 ((a : Int) + 1))) B R r (a + 1) := h.move' (by simp) hl
theorem Rdr.step2 {w : World} {B R a : Nat} {r : List Int} (h : Rdr w B R r a) (hl : a + 2 ≤ r.length) : Rdr (w.setCell ⟨R, 1, none⟩ (.int .i64 ((a : Int) + 2))) B R r (a + 2) := h.move' (by simp) hl
theorem Rdr.step3 {w : World} {B R a : Nat} {r : List Int} (h : Rdr w B R r a) (hl : a + 3 ≤ r.length) : Rdr (w.setCell ⟨R, 1, none⟩ (.int .i64 ((a : Int) + 3))) B R r (a + 3) := h.move' (by simp) hl
theorem Rdr.step4 {w : World} {B R a : Nat} {r : List Int} (h : Rdr w B R r a) (hl : a + 4 ≤ r.length) : Rdr (w.setCell ⟨R, 1, none⟩ (.int .i64 ((a : Int) + 4))) B R r (a + 4) := h.move' (by simp) hl


set_option maxHeartbeats 1000000 in
theorem name_any {B : Nat} (R at_ : Nat) (r : List Int) (w : World) (h : Rdr w B R r at_) :
    Calls Tryd.prog 48 #[.pointer (some ⟨R, 0, none⟩)] w (Ret (.string ⟨(Ref.name r at_).1.toArray⟩) (Moved B R r (Ref.name r at_).2 w)) := by
  obtain ⟨F, hF⟩ : ∃ F, F = Ref.name r at_ := ⟨_, rfl⟩
  rw [← hF]
  have HF := Lib.hid hF
  clear hF
  go_enter Tryd.func48, Tryd.ntmps48
  go_wp2_with fail
  go_loopg [3] (r.length + 1) (fun f s wr => ∃ a l, s = .string ⟨l.toArray⟩ ∧ l.length ≤ 4 * a ∧ Rdr wr B R r a ∧ Ext (fun k => k ≠ R) w wr ∧ r.length < f + a ∧ Hid (Ref.nameRun r f a l = F))
  case atStart => exact ⟨at_, [], rfl, by simp, h, Ext.refl _ _, by omega, HF.out.symm⟩
  case round =>
    obtain ⟨a, l, rfl, hl, ha, hx0, hf, hrun⟩ := hrel
    have hle := ha.le
    have hln := ha.runes.len
    have hc := ha.cells.1
    have hfz := ha.cells.2.1
    obtain ⟨g, rfl⟩ : ∃ g, gk = g + 1 := ⟨gk - 1, by omega⟩
    by_cases hn : Ref.nameSign (Ref.sgn r a) = true
    · have e := hrun.out
      unfold Ref.nameRun at e
      rw [if_pos hn] at e
      have E := Lib.hid e
      clear e
      go_wp2_with (first | (go_at_call 28; refine (sign_any R _ _ r _ (by first | assumption | exact Rdr.q (by assumption) _ | exact Rdr.step1 (Rdr.q (by assumption) _) (by assumption) | exact Rdr.step1 (by assumption) (by assumption) | exact Rdr.q (Rdr.step1 (Rdr.q (by assumption) _) (by assumption)) _ | exact Rdr.q (Rdr.step1 (by assumption) (by assumption)) _) (by omega) (by omega)).mono ?_; rintro e w' ⟨rfl, nq, rfl⟩) | (go_at_call 45; refine (Name_any _ _).mono ?_; rintro e w' ⟨rfl, rfl⟩) | (go_at_call 46; refine (escape_any R _ _ r _ (by first | assumption | exact Rdr.q (by assumption) _ | exact Rdr.step1 (Rdr.q (by assumption) _) (by assumption) | exact Rdr.step1 (by assumption) (by assumption) | exact Rdr.q (Rdr.step1 (Rdr.q (by assumption) _) (by assumption)) _ | exact Rdr.q (Rdr.step1 (by assumption) (by assumption)) _) (by omega) (by omega)).mono ?_; rintro e w' ⟨rfl, nq, rfl⟩) | (go_at_call 42; refine (Put_any _ _).mono ?_; rintro e w2 ⟨rfl, hx, hpl⟩; have h2 := Rdr.extT (by first | assumption | exact Rdr.q (by assumption) _ | exact Rdr.step1 (Rdr.q (by assumption) _) (by assumption) | exact Rdr.step1 (by assumption) (by assumption) | exact Rdr.q (Rdr.step1 (Rdr.q (by assumption) _) (by assumption)) _ | exact Rdr.q (Rdr.step1 (by assumption) (by assumption)) _) hx; have hc2 := h2.cells.1; have hf2 := h2.cells.2.1))
      go_roundg g
      case measure => omega
      case rel => exact ⟨a + 1, _, str_add _ _, by simp; omega, h2.move (Ref.name_lt hn), (hx0.trans ((Ext.refl _ _).more _ |>.trans hx.any)).setCell _ _ (.inl fun k => k rfl), by omega, E.out⟩
    · by_cases he : Ref.isEsc r a = true
      · have hlt : a + 1 ≤ r.length := Ref.esc_lt he
        have e := hrun.out
        unfold Ref.nameRun at e
        rw [if_neg hn, if_pos he] at e
        have E := Lib.hid e
        clear e
        have hlm := Ref.escaped_at hlt
        go_wp2_with (first | (go_at_call 28; refine (sign_any R _ _ r _ (by first | assumption | exact Rdr.q (by assumption) _ | exact Rdr.step1 (Rdr.q (by assumption) _) (by assumption) | exact Rdr.step1 (by assumption) (by assumption) | exact Rdr.q (Rdr.step1 (Rdr.q (by assumption) _) (by assumption)) _ | exact Rdr.q (Rdr.step1 (by assumption) (by assumption)) _) (by omega) (by omega)).mono ?_; rintro e w' ⟨rfl, nq, rfl⟩) | (go_at_call 45; refine (Name_any _ _).mono ?_; rintro e w' ⟨rfl, rfl⟩) | (go_at_call 46; refine (escape_any R _ _ r _ (by first | assumption | exact Rdr.q (by assumption) _ | exact Rdr.step1 (Rdr.q (by assumption) _) (by assumption) | exact Rdr.step1 (by assumption) (by assumption) | exact Rdr.q (Rdr.step1 (Rdr.q (by assumption) _) (by assumption)) _ | exact Rdr.q (Rdr.step1 (by assumption) (by assumption)) _) (by omega) (by omega)).mono ?_; rintro e w' ⟨rfl, nq, rfl⟩) | (go_at_call 68; refine (escaped_any R _ r _ (by first | assumption | exact Rdr.q (by assumption) _ | exact Rdr.step1 (Rdr.q (by assumption) _) (by assumption) | exact Rdr.step1 (by assumption) (by assumption) | exact Rdr.q (Rdr.step1 (Rdr.q (by assumption) _) (by assumption)) _ | exact Rdr.q (Rdr.step1 (by assumption) (by assumption)) _)).mono ?_; rintro e w3 ⟨rfl, h3, hx3⟩; have hc3 := h3.cells.1; have hf3 := h3.cells.2.1) | (go_at_call 42; refine (Put_any _ _).mono ?_; rintro e w2 ⟨rfl, hx, hpl⟩; have h2 := Rdr.extT (by first | assumption | exact Rdr.q (by assumption) _ | exact Rdr.step1 (Rdr.q (by assumption) _) (by assumption) | exact Rdr.step1 (by assumption) (by assumption) | exact Rdr.q (Rdr.step1 (Rdr.q (by assumption) _) (by assumption)) _ | exact Rdr.q (Rdr.step1 (by assumption) (by assumption)) _) hx; have hc2 := h2.cells.1; have hf2 := h2.cells.2.1))
        go_roundg g
        case measure => omega
        case rel => exact ⟨_, _, str_add _ _, by simp; omega, h2, ((((hx0.more _).setCell _ _ (.inl fun k => k rfl)).trans hx3).trans hx.any), by omega, E.out⟩
      · have e := hrun.out
        unfold Ref.nameRun at e
        rw [if_neg hn, if_neg he] at e
        subst e
        go_wp2_with (first | (go_at_call 28; refine (sign_any R _ _ r _ (by first | assumption | exact Rdr.q (by assumption) _ | exact Rdr.step1 (Rdr.q (by assumption) _) (by assumption) | exact Rdr.step1 (by assumption) (by assumption) | exact Rdr.q (Rdr.step1 (Rdr.q (by assumption) _) (by assumption)) _ | exact Rdr.q (Rdr.step1 (by assumption) (by assumption)) _) (by omega) (by omega)).mono ?_; rintro e w' ⟨rfl, nq, rfl⟩) | (go_at_call 45; refine (Name_any _ _).mono ?_; rintro e w' ⟨rfl, rfl⟩) | (go_at_call 46; refine (escape_any R _ _ r _ (by first | assumption | exact Rdr.q (by assumption) _ | exact Rdr.step1 (Rdr.q (by assumption) _) (by assumption) | exact Rdr.step1 (by assumption) (by assumption) | exact Rdr.q (Rdr.step1 (Rdr.q (by assumption) _) (by assumption)) _ | exact Rdr.q (Rdr.step1 (by assumption) (by assumption)) _) (by omega) (by omega)).mono ?_; rintro e w' ⟨rfl, nq, rfl⟩))
        go_ret
        exact ⟨rfl, ha.q _, hx0.more _⟩
end Go.Proofs.YtihnffmnofinmaaDoor
