/- The reference's reader of signs: words. -/
import Derived.Test.YtihnffmnofinmaaDoorRdrF
namespace Go.Proofs.YtihnffmnofinmaaDoor
open Go.RowKit

theorem Ref.nameRun_at (r : List Int) : ∀ (f a : Nat) (l : List UInt8), a ≤ r.length → l.length ≤ 4 * a → a ≤ (Ref.nameRun r f a l).2 ∧ (Ref.nameRun r f a l).2 ≤ r.length ∧ (Ref.nameRun r f a l).1.length ≤ 4 * (Ref.nameRun r f a l).2
  | 0, a, l, h, hl => ⟨Nat.le_refl _, h, hl⟩
  | f + 1, a, l, h, hl => by
    unfold Ref.nameRun
    split
    · have hp := Ref.put_len (Ref.sgn r a)
      have := Ref.nameRun_at r f (a + 1) (l ++ Ref.put (Ref.sgn r a)) (Ref.name_lt (by assumption)) (by simp; omega)
      exact ⟨by omega, this.2⟩
    · split
      · have hp := Ref.put_len (Ref.escaped r (a + 1)).1
        have he := Ref.escaped_at (a := a + 1) (Ref.esc_lt (by assumption))
        have := Ref.nameRun_at r f (Ref.escaped r (a + 1)).2 (l ++ Ref.put (Ref.escaped r (a + 1)).1) he.2 (by simp; omega)
        exact ⟨by omega, this.2⟩
      · exact ⟨Nat.le_refl _, h, hl⟩
theorem Ref.name_at {r : List Int} {a : Nat} (h : a ≤ r.length) : a ≤ (Ref.name r a).2 ∧ (Ref.name r a).2 ≤ r.length ∧ (Ref.name r a).1.length ≤ 4 * (Ref.name r a).2 := Ref.nameRun_at r _ a [] h (by simp)

set_option maxRecDepth 100000 in
set_option maxHeartbeats 2000000 in
theorem ident_any {B : Nat} (R at_ : Nat) (r : List Int) (w : World) (h : Rdr w B R r at_) :
    Calls Tryd.prog 52 #[.pointer (some ⟨R, 0, none⟩)] w (Ret (Ref.ident r at_).1.val (Moved B R r (Ref.ident r at_).2 w)) := by
  obtain ⟨F, hF⟩ : ∃ F, F = Ref.ident r at_ := ⟨_, rfl⟩
  rw [← hF]
  have hR := Nat.lt_of_lt_of_le h.rold h.old
  have hln := h.runes.len
  have hBo := h.old
  have hbx : Box (w.alloc (.cells #[.int .i64 0, .string ⟨#[]⟩, .int .i64 0, .bool false, .bool false, .bool false] 46)) w.heap.size 6 := Box.new w _ _
  unfold Ref.ident at hF
  by_cases h40 : Ref.sgn r (Ref.name r at_).2 = 40
  · have hlt : (Ref.name r at_).2 + 1 ≤ r.length := Ref.lt_of_sgn (by omega)
    simp only at hF
    rw [if_neg (by simp [h40])] at hF
    have HF := Lib.hid hF
    clear hF
    have hnl : (Ref.name r at_).1.length ≤ 4503599627370496 := by have := Ref.name_at h.le; omega
    go_enter Tryd.func52, Tryd.ntmps52
    go_wp2_with (first | (go_at_call 28; refine (sign_any R _ _ r _ (by (repeat (with_reducible first | assumption | exact Rdr.step1 (by assumption) (by assumption) | exact Rdr.step1 (Rdr.q (by assumption) _) (by assumption) | exact Rdr.step2 (Rdr.q (by assumption) _) (by assumption) | exact Rdr.step2 (by assumption) (by assumption) | exact Rdr.step3 (Rdr.q (by assumption) _) (by assumption) | exact Rdr.step4 (Rdr.q (by assumption) _) (by assumption) | apply Rdr.alloc | apply Rdr.setO h.old _ | apply Rdr.q))) (by omega) (by omega)).mono ?_; rintro e w' ⟨rfl, nq, rfl⟩) | ((go_at_call 48; refine (name_any R _ r _ (by (repeat (with_reducible first | assumption | exact Rdr.step1 (by assumption) (by assumption) | exact Rdr.step1 (Rdr.q (by assumption) _) (by assumption) | exact Rdr.step2 (Rdr.q (by assumption) _) (by assumption) | exact Rdr.step2 (by assumption) (by assumption) | exact Rdr.step3 (Rdr.q (by assumption) _) (by assumption) | exact Rdr.step4 (Rdr.q (by assumption) _) (by assumption) | apply Rdr.alloc | apply Rdr.setO h.old _ | apply Rdr.q)))).mono ?_; rintro e w4 ⟨rfl, h4, hx4⟩; have hc4 := h4.cells.1; have hf4 := h4.cells.2.1; have hR4 := Nat.lt_of_lt_of_le h4.rold h4.old); obtain ⟨x0, x1, x2, x3, x4, x5, b0, b1, b2, b3, b4, b5, d0, d1, d2, d3, d4, d5, hL⟩ := Box.open6 (Box.ext (w' := w4) hbx (S := fun k => k ≠ R) (by (repeat (with_reducible first | exact Ext.refl _ _ | apply Ext.alloc | apply Ext.setR | apply Ext.more | refine Ext.trans ?_ (by assumption) | refine Ext.trans ?_ (Ext.any (by assumption))))) (by omega))) | ((go_at_call 23; refine (Lower_any _ _ (by omega)).mono ?_; rintro e w5 ⟨rfl, hx5⟩; have h5 := Rdr.extT (by (repeat (with_reducible first | assumption | exact Rdr.step1 (by assumption) (by assumption) | exact Rdr.step1 (Rdr.q (by assumption) _) (by assumption) | exact Rdr.step2 (Rdr.q (by assumption) _) (by assumption) | exact Rdr.step2 (by assumption) (by assumption) | exact Rdr.step3 (Rdr.q (by assumption) _) (by assumption) | exact Rdr.step4 (Rdr.q (by assumption) _) (by assumption) | apply Rdr.alloc | apply Rdr.setO h.old _ | apply Rdr.q))) hx5; have hc5 := h5.cells.1; have hf5 := h5.cells.2.1; have hR5 := Nat.lt_of_lt_of_le h5.rold h5.old); obtain ⟨y0, y1, y2, y3, y4, y5, e0, e1, e2, e3, e4, e5, f0, f1, f2, f3, f4, f5, hL'⟩ := Box.open6 (Box.ext (w' := w5) hbx (S := fun k => k ≠ R) (by (repeat (with_reducible first | exact Ext.refl _ _ | apply Ext.alloc | apply Ext.setR | apply Ext.more | refine Ext.trans ?_ (by assumption) | refine Ext.trans ?_ (Ext.any (by assumption))))) (by omega))) | (go_at_call 43; refine (White_any _ _).mono ?_; rintro e w' ⟨rfl, rfl⟩))
    · have hne : Ref.lower (Ref.name r at_).1 ≠ [117, 114, 108] := by
        have : (!Ref.lower (Ref.name r at_).1 == [117, 114, 108]) = true := by assumption
        simpa using this
      have e := HF.out
      rw [if_pos hne] at e
      subst e
      refine bodyPost_ret (v := Tok.val { kind := 2, text := (Ref.name r at_).1 }) ?pv rfl ⟨rfl, ?pr, ?px⟩
      case pv => simp [results, go_sem, Tok.val, Tok.vals, *]
      case pr => (repeat (with_reducible first | assumption | exact Rdr.step1 (by assumption) (by assumption) | exact Rdr.step1 (Rdr.q (by assumption) _) (by assumption) | exact Rdr.step2 (Rdr.q (by assumption) _) (by assumption) | exact Rdr.step2 (by assumption) (by assumption) | exact Rdr.step3 (Rdr.q (by assumption) _) (by assumption) | exact Rdr.step4 (Rdr.q (by assumption) _) (by assumption) | apply Rdr.alloc | apply Rdr.setO h.old _ | apply Rdr.q))
      case px => (repeat (with_reducible first | assumption | exact Ext.refl _ _ | apply Ext.alloc | apply Ext.setL | apply Ext.setR | apply Ext.more | refine Ext.trans ?_ (by assumption) | refine Ext.trans ?_ (Ext.any (by assumption))))
    · rename (!Ref.lower (Ref.name r at_).1 == [117, 114, 108]) = false => hlow
      have hne : ¬ Ref.lower (Ref.name r at_).1 ≠ [117, 114, 108] := by simpa using hlow
      have e := HF.out
      rw [if_neg hne] at e
      obtain ⟨W, hW⟩ : ∃ W, W = Ref.whites r ((Ref.name r at_).2 + 1) := ⟨_, rfl⟩
      unfold Ref.ahead at e
      rw [← hW] at e
      have hWat := Ref.whites_at hlt
      rw [← hW] at hWat
      have HG := Lib.hid e
      have HW := Lib.hid hW
      clear e hW HF hne hlow
      generalize (Ref.name r at_).2 = a1 at *
      generalize (Ref.name r at_).1 = nm at *
      go_loopg [4] (r.length + 1) (fun f k wr => ∃ i : Nat, k = .int .i64 i ∧ a1 + 1 + i ≤ r.length ∧ Rdr wr B R r (a1 + 1) ∧ Ext (fun k => k ≠ R) w wr ∧ Box wr w.heap.size 6 ∧ r.length < f + (a1 + 1 + i) ∧ Hid (Ref.whiteRun r f (a1 + 1 + i) = W))
      case atStart => exact ⟨0, rfl, by omega, by (repeat (with_reducible first | assumption | exact Rdr.step1 (by assumption) (by assumption) | exact Rdr.step1 (Rdr.q (by assumption) _) (by assumption) | exact Rdr.step2 (Rdr.q (by assumption) _) (by assumption) | exact Rdr.step2 (by assumption) (by assumption) | exact Rdr.step3 (Rdr.q (by assumption) _) (by assumption) | exact Rdr.step4 (Rdr.q (by assumption) _) (by assumption) | apply Rdr.alloc | apply Rdr.setO h.old _ | apply Rdr.q)), by (repeat (with_reducible first | assumption | exact Ext.refl _ _ | apply Ext.alloc | apply Ext.setL | apply Ext.setR | apply Ext.more | refine Ext.trans ?_ (by assumption) | refine Ext.trans ?_ (Ext.any (by assumption)))), Box.ext hbx (S := fun k => k ≠ R) (by (repeat (with_reducible first | exact Ext.refl _ _ | apply Ext.alloc | apply Ext.setR | apply Ext.more | refine Ext.trans ?_ (by assumption) | refine Ext.trans ?_ (Ext.any (by assumption))))) (by omega), by omega, HW.out.symm⟩
      case round =>
        obtain ⟨i, rfl, hi, ha, hx0, hbox, hf, hrun⟩ := hrel
        have hle := ha.le
        have hc := ha.cells.1
        have hfz := ha.cells.2.1
        have hRr := Nat.lt_of_lt_of_le ha.rold ha.old
        obtain ⟨y0, y1, y2, y3, y4, y5, e0, e1, e2, e3, e4, e5, f0, f1, f2, f3, f4, f5, hL'⟩ := hbox.open6
        obtain ⟨g, rfl⟩ : ∃ g, gk = g + 1 := ⟨gk - 1, by omega⟩
        by_cases hwh : Ref.white (Ref.sgn r (a1 + 1 + i)) = true
        · have hlt2 := Ref.white_lt hwh
          have e := hrun.out
          unfold Ref.whiteRun at e
          rw [if_pos hwh] at e
          have E2 := Lib.hid e
          clear e hrun
          go_wp2_with (first | (go_at_call 28; refine (sign_any R _ _ r _ (by (repeat (with_reducible first | assumption | exact Rdr.step1 (by assumption) (by assumption) | exact Rdr.step1 (Rdr.q (by assumption) _) (by assumption) | exact Rdr.step2 (Rdr.q (by assumption) _) (by assumption) | exact Rdr.step2 (by assumption) (by assumption) | exact Rdr.step3 (Rdr.q (by assumption) _) (by assumption) | exact Rdr.step4 (Rdr.q (by assumption) _) (by assumption) | apply Rdr.alloc | apply Rdr.setO h.old _ | apply Rdr.q))) (by omega) (by omega)).mono ?_; rintro e w' ⟨rfl, nq, rfl⟩) | (go_at_call 43; refine (White_any _ _).mono ?_; rintro e w' ⟨rfl, rfl⟩))
          go_roundg g
          case measure => omega
          case rel => exact ⟨i + 1, by go_num, by omega, by (repeat (with_reducible first | assumption | exact Rdr.step1 (by assumption) (by assumption) | exact Rdr.step1 (Rdr.q (by assumption) _) (by assumption) | exact Rdr.step2 (Rdr.q (by assumption) _) (by assumption) | exact Rdr.step2 (by assumption) (by assumption) | exact Rdr.step3 (Rdr.q (by assumption) _) (by assumption) | exact Rdr.step4 (Rdr.q (by assumption) _) (by assumption) | apply Rdr.alloc | apply Rdr.setO h.old _ | apply Rdr.q)), by (repeat (with_reducible first | assumption | exact Ext.refl _ _ | apply Ext.alloc | apply Ext.setL | apply Ext.setR | apply Ext.more | refine Ext.trans ?_ (by assumption) | refine Ext.trans ?_ (Ext.any (by assumption)))), Box.ext hbox (S := fun k => k ≠ R) (by (repeat (with_reducible first | exact Ext.refl _ _ | apply Ext.alloc | apply Ext.setR | apply Ext.more | refine Ext.trans ?_ (by assumption) | refine Ext.trans ?_ (Ext.any (by assumption))))) (by omega), by omega, E2.out⟩
        · have e := hrun.out
          unfold Ref.whiteRun at e
          rw [if_neg hwh] at e
          have e2 := HG.out
          rw [← e] at e2
          rw [show a1 + 1 + i - (a1 + 1) = i by omega] at e2
          have E2 := Lib.hid e2
          clear e e2 hrun HG HW
          by_cases hq : Ref.sgn r (a1 + 1 + i) = 34 ∨ Ref.sgn r (a1 + 1 + i) = 39
          · have E3 := E2.out
            rw [if_pos hq] at E3
            subst E3
            clear E2
            by_cases hi0 : i = 0
            · subst hi0
              rcases hq with hq | hq
              · go_wp2_with (first | (go_at_call 28; refine (sign_any R _ _ r _ (by (repeat (with_reducible first | assumption | exact Rdr.step1 (by assumption) (by assumption) | exact Rdr.step1 (Rdr.q (by assumption) _) (by assumption) | exact Rdr.step2 (Rdr.q (by assumption) _) (by assumption) | exact Rdr.step2 (by assumption) (by assumption) | exact Rdr.step3 (Rdr.q (by assumption) _) (by assumption) | exact Rdr.step4 (Rdr.q (by assumption) _) (by assumption) | apply Rdr.alloc | apply Rdr.setO h.old _ | apply Rdr.q))) (by omega) (by omega)).mono ?_; rintro e w' ⟨rfl, nq, rfl⟩) | (go_at_call 43; refine (White_any _ _).mono ?_; rintro e w' ⟨rfl, rfl⟩))
                refine bodyPost_ret (v := Tok.val { kind := 2, text := nm }) ?pv rfl ⟨rfl, ?pr, ?px⟩
                case pv => simp [results, go_sem, Tok.val, Tok.vals, *]
                case pr => (repeat (with_reducible first | apply Rdr.alloc | apply Rdr.setO h.old _)); exact Rdr.move' (Rdr.q ha _) (by omega) (by omega)
                case px => (repeat (with_reducible first | assumption | exact Ext.refl _ _ | apply Ext.alloc | apply Ext.setL | apply Ext.setR | apply Ext.more | refine Ext.trans ?_ (by assumption) | refine Ext.trans ?_ (Ext.any (by assumption))))
              · go_wp2_with (first | (go_at_call 28; refine (sign_any R _ _ r _ (by (repeat (with_reducible first | assumption | exact Rdr.step1 (by assumption) (by assumption) | exact Rdr.step1 (Rdr.q (by assumption) _) (by assumption) | exact Rdr.step2 (Rdr.q (by assumption) _) (by assumption) | exact Rdr.step2 (by assumption) (by assumption) | exact Rdr.step3 (Rdr.q (by assumption) _) (by assumption) | exact Rdr.step4 (Rdr.q (by assumption) _) (by assumption) | apply Rdr.alloc | apply Rdr.setO h.old _ | apply Rdr.q))) (by omega) (by omega)).mono ?_; rintro e w' ⟨rfl, nq, rfl⟩) | (go_at_call 43; refine (White_any _ _).mono ?_; rintro e w' ⟨rfl, rfl⟩))
                refine bodyPost_ret (v := Tok.val { kind := 2, text := nm }) ?pv rfl ⟨rfl, ?pr, ?px⟩
                case pv => simp [results, go_sem, Tok.val, Tok.vals, *]
                case pr => (repeat (with_reducible first | apply Rdr.alloc | apply Rdr.setO h.old _)); exact Rdr.move' (Rdr.q ha _) (by omega) (by omega)
                case px => (repeat (with_reducible first | assumption | exact Ext.refl _ _ | apply Ext.alloc | apply Ext.setL | apply Ext.setR | apply Ext.more | refine Ext.trans ?_ (by assumption) | refine Ext.trans ?_ (Ext.any (by assumption))))
            · have hi1 : 1 ≤ i := by omega
              clear hi0
              rcases hq with hq | hq
              · go_wp2_with (first | (go_at_call 28; refine (sign_any R _ _ r _ (by (repeat (with_reducible first | assumption | exact Rdr.step1 (by assumption) (by assumption) | exact Rdr.step1 (Rdr.q (by assumption) _) (by assumption) | exact Rdr.step2 (Rdr.q (by assumption) _) (by assumption) | exact Rdr.step2 (by assumption) (by assumption) | exact Rdr.step3 (Rdr.q (by assumption) _) (by assumption) | exact Rdr.step4 (Rdr.q (by assumption) _) (by assumption) | apply Rdr.alloc | apply Rdr.setO h.old _ | apply Rdr.q))) (by omega) (by omega)).mono ?_; rintro e w' ⟨rfl, nq, rfl⟩) | (go_at_call 43; refine (White_any _ _).mono ?_; rintro e w' ⟨rfl, rfl⟩))
                refine bodyPost_ret (v := Tok.val { kind := 2, text := nm }) ?pv rfl ⟨rfl, ?pr, ?px⟩
                case pv => simp [results, go_sem, Tok.val, Tok.vals, *]
                case pr => (repeat (with_reducible first | apply Rdr.alloc | apply Rdr.setO h.old _)); exact Rdr.move' (Rdr.q ha _) (by omega) (by omega)
                case px => (repeat (with_reducible first | assumption | exact Ext.refl _ _ | apply Ext.alloc | apply Ext.setL | apply Ext.setR | apply Ext.more | refine Ext.trans ?_ (by assumption) | refine Ext.trans ?_ (Ext.any (by assumption))))
              · go_wp2_with (first | (go_at_call 28; refine (sign_any R _ _ r _ (by (repeat (with_reducible first | assumption | exact Rdr.step1 (by assumption) (by assumption) | exact Rdr.step1 (Rdr.q (by assumption) _) (by assumption) | exact Rdr.step2 (Rdr.q (by assumption) _) (by assumption) | exact Rdr.step2 (by assumption) (by assumption) | exact Rdr.step3 (Rdr.q (by assumption) _) (by assumption) | exact Rdr.step4 (Rdr.q (by assumption) _) (by assumption) | apply Rdr.alloc | apply Rdr.setO h.old _ | apply Rdr.q))) (by omega) (by omega)).mono ?_; rintro e w' ⟨rfl, nq, rfl⟩) | (go_at_call 43; refine (White_any _ _).mono ?_; rintro e w' ⟨rfl, rfl⟩))
                refine bodyPost_ret (v := Tok.val { kind := 2, text := nm }) ?pv rfl ⟨rfl, ?pr, ?px⟩
                case pv => simp [results, go_sem, Tok.val, Tok.vals, *]
                case pr => (repeat (with_reducible first | apply Rdr.alloc | apply Rdr.setO h.old _)); exact Rdr.move' (Rdr.q ha _) (by omega) (by omega)
                case px => (repeat (with_reducible first | assumption | exact Ext.refl _ _ | apply Ext.alloc | apply Ext.setL | apply Ext.setR | apply Ext.more | refine Ext.trans ?_ (by assumption) | refine Ext.trans ?_ (Ext.any (by assumption))))
          · have E3 := E2.out
            rw [if_neg hq] at E3
            subst E3
            clear E2
            have hq1 : (Ref.sgn r (a1 + 1 + i) == 34) = false := by simp; omega
            have hq2 : (Ref.sgn r (a1 + 1 + i) == 39) = false := by simp; omega
            clear hq
            go_wp2_with (first | (go_at_call 28; refine (sign_any R _ _ r _ (by (repeat (with_reducible first | assumption | exact Rdr.step1 (by assumption) (by assumption) | exact Rdr.step1 (Rdr.q (by assumption) _) (by assumption) | exact Rdr.step2 (Rdr.q (by assumption) _) (by assumption) | exact Rdr.step2 (by assumption) (by assumption) | exact Rdr.step3 (Rdr.q (by assumption) _) (by assumption) | exact Rdr.step4 (Rdr.q (by assumption) _) (by assumption) | apply Rdr.alloc | apply Rdr.setO h.old _ | apply Rdr.q))) (by omega) (by omega)).mono ?_; rintro e w' ⟨rfl, nq, rfl⟩) | (go_at_call 43; refine (White_any _ _).mono ?_; rintro e w' ⟨rfl, rfl⟩) | (go_at_call 71; refine (url_any R _ r _ (by (repeat (with_reducible first | assumption | exact Rdr.step1 (by assumption) (by assumption) | exact Rdr.step1 (Rdr.q (by assumption) _) (by assumption) | exact Rdr.step2 (Rdr.q (by assumption) _) (by assumption) | exact Rdr.step2 (by assumption) (by assumption) | exact Rdr.step3 (Rdr.q (by assumption) _) (by assumption) | exact Rdr.step4 (Rdr.q (by assumption) _) (by assumption) | apply Rdr.alloc | apply Rdr.setO h.old _ | apply Rdr.q)))).mono ?_; rintro e w7 ⟨rfl, h7, hx7⟩; have hc7 := h7.cells.1; have hR7 := Nat.lt_of_lt_of_le h7.rold h7.old; simp only [Tok.val, Tok.vals]; obtain ⟨x0, x1, x2, x3, x4, x5, b0, b1, b2, b3, b4, b5, d0, d1, d2, d3, d4, d5, hL⟩ := Box.open6 (Box.ext (w' := w7) hbox (S := fun k => k ≠ R) (by (repeat (with_reducible first | exact Ext.refl _ _ | apply Ext.alloc | apply Ext.setR | apply Ext.more | refine Ext.trans ?_ (by assumption) | refine Ext.trans ?_ (Ext.any (by assumption))))) (by omega))))
            refine bodyPost_ret (v := Tok.val (Ref.url r (a1 + 1)).1) ?pv rfl ⟨rfl, ?pr, ?px⟩
            case pv => simp [results, go_sem, Tok.val, Tok.vals, *]
            case pr => (repeat (with_reducible first | assumption | exact Rdr.step1 (by assumption) (by assumption) | exact Rdr.step1 (Rdr.q (by assumption) _) (by assumption) | exact Rdr.step2 (Rdr.q (by assumption) _) (by assumption) | exact Rdr.step2 (by assumption) (by assumption) | exact Rdr.step3 (Rdr.q (by assumption) _) (by assumption) | exact Rdr.step4 (Rdr.q (by assumption) _) (by assumption) | apply Rdr.alloc | apply Rdr.setO h.old _ | apply Rdr.q))
            case px => (repeat (with_reducible first | assumption | exact Ext.refl _ _ | apply Ext.alloc | apply Ext.setL | apply Ext.setR | apply Ext.more | refine Ext.trans ?_ (by assumption) | refine Ext.trans ?_ (Ext.any (by assumption))))
  · simp only at hF
    rw [if_pos h40] at hF
    subst hF
    go_enter Tryd.func52, Tryd.ntmps52
    go_wp2_with (first | (go_at_call 28; refine (sign_any R _ _ r _ (by (repeat (with_reducible first | assumption | exact Rdr.step1 (by assumption) (by assumption) | exact Rdr.step1 (Rdr.q (by assumption) _) (by assumption) | exact Rdr.step2 (Rdr.q (by assumption) _) (by assumption) | exact Rdr.step2 (by assumption) (by assumption) | exact Rdr.step3 (Rdr.q (by assumption) _) (by assumption) | exact Rdr.step4 (Rdr.q (by assumption) _) (by assumption) | apply Rdr.alloc | apply Rdr.setO h.old _ | apply Rdr.q))) (by omega) (by omega)).mono ?_; rintro e w' ⟨rfl, nq, rfl⟩) | ((go_at_call 48; refine (name_any R _ r _ (by (repeat (with_reducible first | assumption | exact Rdr.step1 (by assumption) (by assumption) | exact Rdr.step1 (Rdr.q (by assumption) _) (by assumption) | exact Rdr.step2 (Rdr.q (by assumption) _) (by assumption) | exact Rdr.step2 (by assumption) (by assumption) | exact Rdr.step3 (Rdr.q (by assumption) _) (by assumption) | exact Rdr.step4 (Rdr.q (by assumption) _) (by assumption) | apply Rdr.alloc | apply Rdr.setO h.old _ | apply Rdr.q)))).mono ?_; rintro e w4 ⟨rfl, h4, hx4⟩; have hc4 := h4.cells.1; have hf4 := h4.cells.2.1; have hR4 := Nat.lt_of_lt_of_le h4.rold h4.old); obtain ⟨x0, x1, x2, x3, x4, x5, b0, b1, b2, b3, b4, b5, d0, d1, d2, d3, d4, d5, hL⟩ := Box.open6 (Box.ext (w' := w4) hbx (S := fun k => k ≠ R) (by (repeat (with_reducible first | exact Ext.refl _ _ | apply Ext.alloc | apply Ext.setR | apply Ext.more | refine Ext.trans ?_ (by assumption) | refine Ext.trans ?_ (Ext.any (by assumption))))) (by omega))))
    refine bodyPost_ret (v := Tok.val { kind := 1, text := (Ref.name r at_).1 }) ?pv rfl ⟨rfl, ?pr, ?px⟩
    case pv => simp [results, go_sem, Tok.val, Tok.vals, *]
    case pr => (repeat (with_reducible first | assumption | exact Rdr.step1 (by assumption) (by assumption) | exact Rdr.step1 (Rdr.q (by assumption) _) (by assumption) | exact Rdr.step2 (Rdr.q (by assumption) _) (by assumption) | exact Rdr.step2 (by assumption) (by assumption) | exact Rdr.step3 (Rdr.q (by assumption) _) (by assumption) | exact Rdr.step4 (Rdr.q (by assumption) _) (by assumption) | apply Rdr.alloc | apply Rdr.setO h.old _ | apply Rdr.q))
    case px => (repeat (with_reducible first | assumption | exact Ext.refl _ _ | apply Ext.alloc | apply Ext.setL | apply Ext.setR | apply Ext.more | refine Ext.trans ?_ (by assumption) | refine Ext.trans ?_ (Ext.any (by assumption))))
end Go.Proofs.YtihnffmnofinmaaDoor
