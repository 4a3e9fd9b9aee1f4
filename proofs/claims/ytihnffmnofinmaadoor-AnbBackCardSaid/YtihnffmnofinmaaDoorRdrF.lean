/- The reference's reader of signs: URLs. -/
import Derived.Test.YtihnffmnofinmaaDoorRdrE
namespace Go.Proofs.YtihnffmnofinmaaDoor
open Go.RowKit

theorem Box.free {w : World} {L n : Nat} (h : Box w L n) : L < w.heap.size := by obtain ⟨cs, T, hb, _⟩ := h; exact block_lt hb
theorem Ref.whiteRun_at (r : List Int) : ∀ (f a : Nat), a ≤ r.length → a ≤ Ref.whiteRun r f a ∧ Ref.whiteRun r f a ≤ r.length
  | 0, a, h => ⟨Nat.le_refl _, h⟩
  | f + 1, a, h => by
    unfold Ref.whiteRun
    split
    · have := Ref.whiteRun_at r f (a + 1) (Ref.white_lt (by assumption)); exact ⟨by omega, this.2⟩
    · exact ⟨Nat.le_refl _, h⟩
theorem Ref.whites_at {r : List Int} {a : Nat} (h : a ≤ r.length) : a ≤ Ref.whites r a ∧ Ref.whites r a ≤ r.length := Ref.whiteRun_at r _ a h

set_option maxRecDepth 100000 in
set_option maxHeartbeats 1000000 in
theorem badURL_any {B : Nat} (R at_ : Nat) (r : List Int) (w : World) (h : Rdr w B R r at_) :
    Calls Tryd.prog 82 #[.pointer (some ⟨R, 0, none⟩)] w (Ret (Ref.badURL r at_).1.val (Moved B R r (Ref.badURL r at_).2 w)) := by
  obtain ⟨G, hG⟩ : ∃ G, G = Ref.badRun r (r.length + 1) at_ := ⟨_, rfl⟩
  show Calls _ _ _ _ (Ret (Tok.val { kind := 8 }) (Moved B R r (Ref.past r (Ref.badRun r (r.length + 1) at_)) w))
  rw [← hG]
  have HG := Lib.hid hG
  clear hG
  have hR := Nat.lt_of_lt_of_le h.rold h.old
  have hln := h.runes.len
  go_enter Tryd.func82, Tryd.ntmps82
  go_wp2_with fail
  go_loopg [] (r.length + 1) (fun f wr => ∃ a, Rdr wr B R r a ∧ Ext (fun k => k ≠ R) w wr ∧ Box wr w.heap.size 6 ∧ r.length < f + a ∧ Hid (Ref.badRun r f a = G))
  case atStart => exact ⟨at_, h.alloc _, (Ext.refl _ _).alloc _, Box.new w _ _, by omega, HG.out.symm⟩
  case round =>
    obtain ⟨a, ha, hx0, hbox, hf, hrun⟩ := hrel
    have hle := ha.le
    have hc := ha.cells.1
    have hfz := ha.cells.2.1
    have hRr := Nat.lt_of_lt_of_le ha.rold ha.old
    have hBo := h.old
    obtain ⟨x0, x1, x2, x3, x4, x5, b0, b1, b2, b3, b4, b5, d0, d1, d2, d3, d4, d5, hL⟩ := hbox.open6
    obtain ⟨g, rfl⟩ : ∃ g, gk = g + 1 := ⟨gk - 1, by omega⟩
    by_cases h1 : Ref.sgn r a < 0
    · have e := hrun.out
      unfold Ref.badRun at e
      rw [if_pos (.inl h1)] at e
      have h41 : ¬ Ref.sgn r a = 41 := by omega
      have h41' : (Ref.sgn r a == 41) = false := by simp [h41]
      subst e
      go_wp2_with (first | (go_at_call 28; refine (sign_any R _ _ r _ (by (repeat (with_reducible first | assumption | exact Rdr.step1 (by assumption) (by assumption) | exact Rdr.step1 (Rdr.q (by assumption) _) (by assumption) | exact Rdr.step2 (Rdr.q (by assumption) _) (by assumption) | exact Rdr.step2 (by assumption) (by assumption) | exact Rdr.step3 (Rdr.q (by assumption) _) (by assumption) | exact Rdr.step4 (Rdr.q (by assumption) _) (by assumption) | apply Rdr.alloc | apply Rdr.setO h.old _ | apply Rdr.q))) (by omega) (by omega)).mono ?_; rintro e w' ⟨rfl, nq, rfl⟩))
      have hp : Ref.past r a = a := if_neg h41
      rw [hp]
      clear h41'
      refine bodyPost_ret (v := Tok.val { kind := 8 }) ?pv rfl ⟨rfl, ?pr, ?px⟩
      case pv => simp [results, go_sem, Tok.val, Tok.vals, *]
      case pr => (repeat (with_reducible first | assumption | exact Rdr.step1 (by assumption) (by assumption) | exact Rdr.step1 (Rdr.q (by assumption) _) (by assumption) | exact Rdr.step2 (Rdr.q (by assumption) _) (by assumption) | exact Rdr.step2 (by assumption) (by assumption) | exact Rdr.step3 (Rdr.q (by assumption) _) (by assumption) | exact Rdr.step4 (Rdr.q (by assumption) _) (by assumption) | apply Rdr.alloc | apply Rdr.setO h.old _ | apply Rdr.q))
      case px => (repeat (with_reducible first | assumption | exact Ext.refl _ _ | apply Ext.alloc | apply Ext.setL | apply Ext.setR | apply Ext.more | refine Ext.trans ?_ (by assumption) | refine Ext.trans ?_ (Ext.any (by assumption))))
    by_cases h2 : Ref.sgn r a = 41
    · have hlt : a + 1 ≤ r.length := Ref.lt_of_sgn (by omega)
      have e := hrun.out
      unfold Ref.badRun at e
      rw [if_pos (.inr h2)] at e
      subst e
      go_wp2_with (first | (go_at_call 28; refine (sign_any R _ _ r _ (by (repeat (with_reducible first | assumption | exact Rdr.step1 (by assumption) (by assumption) | exact Rdr.step1 (Rdr.q (by assumption) _) (by assumption) | exact Rdr.step2 (Rdr.q (by assumption) _) (by assumption) | exact Rdr.step2 (by assumption) (by assumption) | exact Rdr.step3 (Rdr.q (by assumption) _) (by assumption) | exact Rdr.step4 (Rdr.q (by assumption) _) (by assumption) | apply Rdr.alloc | apply Rdr.setO h.old _ | apply Rdr.q))) (by omega) (by omega)).mono ?_; rintro e w' ⟨rfl, nq, rfl⟩))
      have hp : Ref.past r a = a + 1 := if_pos h2
      rw [hp]
      refine bodyPost_ret (v := Tok.val { kind := 8 }) ?pv rfl ⟨rfl, ?pr, ?px⟩
      case pv => simp [results, go_sem, Tok.val, Tok.vals, *]
      case pr => (repeat (with_reducible first | assumption | exact Rdr.step1 (by assumption) (by assumption) | exact Rdr.step1 (Rdr.q (by assumption) _) (by assumption) | exact Rdr.step2 (Rdr.q (by assumption) _) (by assumption) | exact Rdr.step2 (by assumption) (by assumption) | exact Rdr.step3 (Rdr.q (by assumption) _) (by assumption) | exact Rdr.step4 (Rdr.q (by assumption) _) (by assumption) | apply Rdr.alloc | apply Rdr.setO h.old _ | apply Rdr.q))
      case px => (repeat (with_reducible first | assumption | exact Ext.refl _ _ | apply Ext.alloc | apply Ext.setL | apply Ext.setR | apply Ext.more | refine Ext.trans ?_ (by assumption) | refine Ext.trans ?_ (Ext.any (by assumption))))
    have h2' : (Ref.sgn r a == 41) = false := by simp [h2]
    have hlt : a + 1 ≤ r.length := Ref.lt_of_sgn (by omega)
    by_cases he : Ref.isEsc r a = true
    · have e := hrun.out
      unfold Ref.badRun at e
      rw [if_neg (by omega), if_pos he] at e
      have E := Lib.hid e
      clear e
      have hlm := Ref.escaped_at hlt
      go_wp2_with (first | (go_at_call 28; refine (sign_any R _ _ r _ (by (repeat (with_reducible first | assumption | exact Rdr.step1 (by assumption) (by assumption) | exact Rdr.step1 (Rdr.q (by assumption) _) (by assumption) | exact Rdr.step2 (Rdr.q (by assumption) _) (by assumption) | exact Rdr.step2 (by assumption) (by assumption) | exact Rdr.step3 (Rdr.q (by assumption) _) (by assumption) | exact Rdr.step4 (Rdr.q (by assumption) _) (by assumption) | apply Rdr.alloc | apply Rdr.setO h.old _ | apply Rdr.q))) (by omega) (by omega)).mono ?_; rintro e w' ⟨rfl, nq, rfl⟩) | (go_at_call 46; refine (escape_any R _ _ r _ (by (repeat (with_reducible first | assumption | exact Rdr.step1 (by assumption) (by assumption) | exact Rdr.step1 (Rdr.q (by assumption) _) (by assumption) | exact Rdr.step2 (Rdr.q (by assumption) _) (by assumption) | exact Rdr.step2 (by assumption) (by assumption) | exact Rdr.step3 (Rdr.q (by assumption) _) (by assumption) | exact Rdr.step4 (Rdr.q (by assumption) _) (by assumption) | apply Rdr.alloc | apply Rdr.setO h.old _ | apply Rdr.q))) (by omega) (by omega)).mono ?_; rintro e w' ⟨rfl, nq, rfl⟩) | (go_at_call 68; refine (escaped_any R _ r _ (by (repeat (with_reducible first | assumption | exact Rdr.step1 (by assumption) (by assumption) | exact Rdr.step1 (Rdr.q (by assumption) _) (by assumption) | exact Rdr.step2 (Rdr.q (by assumption) _) (by assumption) | exact Rdr.step2 (by assumption) (by assumption) | exact Rdr.step3 (Rdr.q (by assumption) _) (by assumption) | exact Rdr.step4 (Rdr.q (by assumption) _) (by assumption) | apply Rdr.alloc | apply Rdr.setO h.old _ | apply Rdr.q)))).mono ?_; rintro e w3 ⟨rfl, h3, hx3⟩; have hc3 := h3.cells.1; have hf3 := h3.cells.2.1; have hR3 := Nat.lt_of_lt_of_le h3.rold h3.old))
      go_roundg g
      case measure => omega
      case rel => exact ⟨_, by assumption, by (repeat (with_reducible first | assumption | exact Ext.refl _ _ | apply Ext.alloc | apply Ext.setL | apply Ext.setR | apply Ext.more | refine Ext.trans ?_ (by assumption) | refine Ext.trans ?_ (Ext.any (by assumption)))), Box.ext hbox (S := fun k => k ≠ R) (by (repeat (with_reducible first | exact Ext.refl _ _ | apply Ext.alloc | apply Ext.setR | apply Ext.more | refine Ext.trans ?_ (by assumption) | refine Ext.trans ?_ (Ext.any (by assumption))))) (by omega), by omega, E.out⟩
    · have e := hrun.out
      unfold Ref.badRun at e
      rw [if_neg (by omega), if_neg he] at e
      have E := Lib.hid e
      clear e
      go_wp2_with (first | (go_at_call 28; refine (sign_any R _ _ r _ (by (repeat (with_reducible first | assumption | exact Rdr.step1 (by assumption) (by assumption) | exact Rdr.step1 (Rdr.q (by assumption) _) (by assumption) | exact Rdr.step2 (Rdr.q (by assumption) _) (by assumption) | exact Rdr.step2 (by assumption) (by assumption) | exact Rdr.step3 (Rdr.q (by assumption) _) (by assumption) | exact Rdr.step4 (Rdr.q (by assumption) _) (by assumption) | apply Rdr.alloc | apply Rdr.setO h.old _ | apply Rdr.q))) (by omega) (by omega)).mono ?_; rintro e w' ⟨rfl, nq, rfl⟩) | (go_at_call 46; refine (escape_any R _ _ r _ (by (repeat (with_reducible first | assumption | exact Rdr.step1 (by assumption) (by assumption) | exact Rdr.step1 (Rdr.q (by assumption) _) (by assumption) | exact Rdr.step2 (Rdr.q (by assumption) _) (by assumption) | exact Rdr.step2 (by assumption) (by assumption) | exact Rdr.step3 (Rdr.q (by assumption) _) (by assumption) | exact Rdr.step4 (Rdr.q (by assumption) _) (by assumption) | apply Rdr.alloc | apply Rdr.setO h.old _ | apply Rdr.q))) (by omega) (by omega)).mono ?_; rintro e w' ⟨rfl, nq, rfl⟩))
      go_roundg g
      case measure => omega
      case rel => exact ⟨_, by (repeat (with_reducible first | assumption | exact Rdr.step1 (by assumption) (by assumption) | exact Rdr.step1 (Rdr.q (by assumption) _) (by assumption) | exact Rdr.step2 (Rdr.q (by assumption) _) (by assumption) | exact Rdr.step2 (by assumption) (by assumption) | exact Rdr.step3 (Rdr.q (by assumption) _) (by assumption) | exact Rdr.step4 (Rdr.q (by assumption) _) (by assumption) | apply Rdr.alloc | apply Rdr.setO h.old _ | apply Rdr.q)), by (repeat (with_reducible first | assumption | exact Ext.refl _ _ | apply Ext.alloc | apply Ext.setL | apply Ext.setR | apply Ext.more | refine Ext.trans ?_ (by assumption) | refine Ext.trans ?_ (Ext.any (by assumption)))), Box.ext hbox (S := fun k => k ≠ R) (by (repeat (with_reducible first | exact Ext.refl _ _ | apply Ext.alloc | apply Ext.setR | apply Ext.more | refine Ext.trans ?_ (by assumption) | refine Ext.trans ?_ (Ext.any (by assumption))))) (by omega), by omega, E.out⟩

set_option maxRecDepth 100000 in
set_option maxHeartbeats 4000000 in
theorem url_any {B : Nat} (R at_ : Nat) (r : List Int) (w : World) (h : Rdr w B R r at_) :
    Calls Tryd.prog 71 #[.pointer (some ⟨R, 0, none⟩)] w (Ret (Ref.url r at_).1.val (Moved B R r (Ref.url r at_).2 w)) := by
  obtain ⟨F, hF⟩ : ∃ F, F = Ref.url r at_ := ⟨_, rfl⟩
  rw [← hF]
  have HF := Lib.hid hF
  clear hF
  have hR := Nat.lt_of_lt_of_le h.rold h.old
  have hln := h.runes.len
  have hBo := h.old
  obtain ⟨G, hG⟩ : ∃ G, G = Ref.whites r at_ := ⟨_, rfl⟩
  have HG := Lib.hid hG
  clear hG
  go_enter Tryd.func71, Tryd.ntmps71
  go_wp2_with fail
  go_loopg [] (r.length + 1) (fun f wr => ∃ a, Rdr wr B R r a ∧ Ext (fun k => k ≠ R) w wr ∧ Box wr w.heap.size 6 ∧ r.length < f + a ∧ Hid (Ref.whiteRun r f a = G))
  case atStart => exact ⟨at_, h.alloc _, (Ext.refl _ _).alloc _, Box.new w _ _, by omega, HG.out.symm⟩
  case round =>
    obtain ⟨a, ha, hx0, hbox, hf, hrun⟩ := hrel
    have hle := ha.le
    have hc := ha.cells.1
    have hfz := ha.cells.2.1
    have hRr := Nat.lt_of_lt_of_le ha.rold ha.old
    obtain ⟨x0, x1, x2, x3, x4, x5, b0, b1, b2, b3, b4, b5, d0, d1, d2, d3, d4, d5, hL⟩ := hbox.open6
    obtain ⟨g, rfl⟩ : ∃ g, gk = g + 1 := ⟨gk - 1, by omega⟩
    by_cases hwh : Ref.white (Ref.sgn r a) = true
    · have hlt : a + 1 ≤ r.length := Ref.white_lt hwh
      have e := hrun.out
      unfold Ref.whiteRun at e
      rw [if_pos hwh] at e
      have E := Lib.hid e
      clear e
      go_wp2_with (first | (go_at_call 28; refine (sign_any R _ _ r _ (by (repeat (with_reducible first | assumption | exact Rdr.step1 (by assumption) (by assumption) | exact Rdr.step1 (Rdr.q (by assumption) _) (by assumption) | exact Rdr.step2 (Rdr.q (by assumption) _) (by assumption) | exact Rdr.step2 (by assumption) (by assumption) | exact Rdr.step3 (Rdr.q (by assumption) _) (by assumption) | exact Rdr.step4 (Rdr.q (by assumption) _) (by assumption) | apply Rdr.alloc | apply Rdr.setO h.old _ | apply Rdr.q))) (by omega) (by omega)).mono ?_; rintro e w' ⟨rfl, nq, rfl⟩) | (go_at_call 43; refine (White_any _ _).mono ?_; rintro e w' ⟨rfl, rfl⟩))
      go_roundg g
      case measure => omega
      case rel => exact ⟨_, by (repeat (with_reducible first | assumption | exact Rdr.step1 (by assumption) (by assumption) | exact Rdr.step1 (Rdr.q (by assumption) _) (by assumption) | exact Rdr.step2 (Rdr.q (by assumption) _) (by assumption) | exact Rdr.step2 (by assumption) (by assumption) | exact Rdr.step3 (Rdr.q (by assumption) _) (by assumption) | exact Rdr.step4 (Rdr.q (by assumption) _) (by assumption) | apply Rdr.alloc | apply Rdr.setO h.old _ | apply Rdr.q)), by (repeat (with_reducible first | assumption | exact Ext.refl _ _ | apply Ext.alloc | apply Ext.setL | apply Ext.setR | apply Ext.more | refine Ext.trans ?_ (by assumption) | refine Ext.trans ?_ (Ext.any (by assumption)))), Box.ext hbox (S := fun k => k ≠ R) (by (repeat (with_reducible first | exact Ext.refl _ _ | apply Ext.alloc | apply Ext.setR | apply Ext.more | refine Ext.trans ?_ (by assumption) | refine Ext.trans ?_ (Ext.any (by assumption))))) (by omega), by omega, E.out⟩
    · have e := hrun.out
      unfold Ref.whiteRun at e
      rw [if_neg hwh] at e
      have HF' : Hid (F = Ref.urlRun r (r.length + 1) a []) := by rw [HF.out]; unfold Ref.url; rw [← HG.out, ← e]; rfl
      clear e HF HG hrun
      clear b0 b1 b2 b3 b4 b5 d0 d1 d2 d3 d4 d5 hc hfz hle hf
      go_wp2_with (first | (go_at_call 28; refine (sign_any R _ _ r _ (by (repeat (with_reducible first | assumption | exact Rdr.step1 (by assumption) (by assumption) | exact Rdr.step1 (Rdr.q (by assumption) _) (by assumption) | exact Rdr.step2 (Rdr.q (by assumption) _) (by assumption) | exact Rdr.step2 (by assumption) (by assumption) | exact Rdr.step3 (Rdr.q (by assumption) _) (by assumption) | exact Rdr.step4 (Rdr.q (by assumption) _) (by assumption) | apply Rdr.alloc | apply Rdr.setO h.old _ | apply Rdr.q))) (by omega) (by omega)).mono ?_; rintro e w' ⟨rfl, nq, rfl⟩) | (go_at_call 43; refine (White_any _ _).mono ?_; rintro e w' ⟨rfl, rfl⟩))
      clear hwh
      go_loopg [3] (r.length + 1) (fun f s wr => ∃ a l, s = .string ⟨l.toArray⟩ ∧ l.length ≤ 4 * a ∧ Rdr wr B R r a ∧ Ext (fun k => k ≠ R) w wr ∧ Box wr w.heap.size 6 ∧ r.length < f + a ∧ Hid (Ref.urlRun r f a l = F))
      case atStart => exact ⟨a, [], rfl, by simp, by (repeat (with_reducible first | assumption | exact Rdr.step1 (by assumption) (by assumption) | exact Rdr.step1 (Rdr.q (by assumption) _) (by assumption) | exact Rdr.step2 (Rdr.q (by assumption) _) (by assumption) | exact Rdr.step2 (by assumption) (by assumption) | exact Rdr.step3 (Rdr.q (by assumption) _) (by assumption) | exact Rdr.step4 (Rdr.q (by assumption) _) (by assumption) | apply Rdr.alloc | apply Rdr.setO h.old _ | apply Rdr.q)), by (repeat (with_reducible first | assumption | exact Ext.refl _ _ | apply Ext.alloc | apply Ext.setL | apply Ext.setR | apply Ext.more | refine Ext.trans ?_ (by assumption) | refine Ext.trans ?_ (Ext.any (by assumption)))), Box.ext hbox (S := fun k => k ≠ R) (by (repeat (with_reducible first | exact Ext.refl _ _ | apply Ext.alloc | apply Ext.setR | apply Ext.more | refine Ext.trans ?_ (by assumption) | refine Ext.trans ?_ (Ext.any (by assumption))))) (by omega), by omega, HF'.out.symm⟩
      case round =>
        obtain ⟨a, l, rfl, hl, ha, hx0, hbox, hf, hrun⟩ := hrel
        have hle := ha.le
        have hc := ha.cells.1
        have hfz := ha.cells.2.1
        have hRr := Nat.lt_of_lt_of_le ha.rold ha.old
        obtain ⟨x0, x1, x2, x3, x4, x5, b0, b1, b2, b3, b4, b5, d0, d1, d2, d3, d4, d5, hL⟩ := hbox.open6
        obtain ⟨g, rfl⟩ : ∃ g, gk = g + 1 := ⟨gk - 1, by omega⟩
        by_cases h1 : Ref.sgn r a < 0
        · have h41 : ¬ Ref.sgn r a = 41 := by omega
          have h41' : (Ref.sgn r a == 41) = false := by simp [h41]
          have e := hrun.out
          unfold Ref.urlRun at e
          rw [if_pos (.inl h1)] at e
          subst e
          go_wp2_with (first | (go_at_call 28; refine (sign_any R _ _ r _ (by (repeat (with_reducible first | assumption | exact Rdr.step1 (by assumption) (by assumption) | exact Rdr.step1 (Rdr.q (by assumption) _) (by assumption) | exact Rdr.step2 (Rdr.q (by assumption) _) (by assumption) | exact Rdr.step2 (by assumption) (by assumption) | exact Rdr.step3 (Rdr.q (by assumption) _) (by assumption) | exact Rdr.step4 (Rdr.q (by assumption) _) (by assumption) | apply Rdr.alloc | apply Rdr.setO h.old _ | apply Rdr.q))) (by omega) (by omega)).mono ?_; rintro e w' ⟨rfl, nq, rfl⟩))
          have hp : Ref.past r a = a := if_neg h41
          rw [hp]
          clear h41'
          refine bodyPost_ret (v := Tok.val { kind := 7, text := l }) ?pv rfl ⟨rfl, ?pr, ?px⟩
          case pv => simp [results, go_sem, Tok.val, Tok.vals, *]
          case pr => (repeat (with_reducible first | assumption | exact Rdr.step1 (by assumption) (by assumption) | exact Rdr.step1 (Rdr.q (by assumption) _) (by assumption) | exact Rdr.step2 (Rdr.q (by assumption) _) (by assumption) | exact Rdr.step2 (by assumption) (by assumption) | exact Rdr.step3 (Rdr.q (by assumption) _) (by assumption) | exact Rdr.step4 (Rdr.q (by assumption) _) (by assumption) | apply Rdr.alloc | apply Rdr.setO h.old _ | apply Rdr.q))
          case px => (repeat (with_reducible first | assumption | exact Ext.refl _ _ | apply Ext.alloc | apply Ext.setL | apply Ext.setR | apply Ext.more | refine Ext.trans ?_ (by assumption) | refine Ext.trans ?_ (Ext.any (by assumption))))
        by_cases h2 : Ref.sgn r a = 41
        · have hlt : a + 1 ≤ r.length := Ref.lt_of_sgn (by omega)
          have e := hrun.out
          unfold Ref.urlRun at e
          rw [if_pos (.inr h2)] at e
          subst e
          go_wp2_with (first | (go_at_call 28; refine (sign_any R _ _ r _ (by (repeat (with_reducible first | assumption | exact Rdr.step1 (by assumption) (by assumption) | exact Rdr.step1 (Rdr.q (by assumption) _) (by assumption) | exact Rdr.step2 (Rdr.q (by assumption) _) (by assumption) | exact Rdr.step2 (by assumption) (by assumption) | exact Rdr.step3 (Rdr.q (by assumption) _) (by assumption) | exact Rdr.step4 (Rdr.q (by assumption) _) (by assumption) | apply Rdr.alloc | apply Rdr.setO h.old _ | apply Rdr.q))) (by omega) (by omega)).mono ?_; rintro e w' ⟨rfl, nq, rfl⟩))
          have hp : Ref.past r a = a + 1 := if_pos h2
          rw [hp]
          refine bodyPost_ret (v := Tok.val { kind := 7, text := l }) ?pv rfl ⟨rfl, ?pr, ?px⟩
          case pv => simp [results, go_sem, Tok.val, Tok.vals, *]
          case pr => (repeat (with_reducible first | assumption | exact Rdr.step1 (by assumption) (by assumption) | exact Rdr.step1 (Rdr.q (by assumption) _) (by assumption) | exact Rdr.step2 (Rdr.q (by assumption) _) (by assumption) | exact Rdr.step2 (by assumption) (by assumption) | exact Rdr.step3 (Rdr.q (by assumption) _) (by assumption) | exact Rdr.step4 (Rdr.q (by assumption) _) (by assumption) | apply Rdr.alloc | apply Rdr.setO h.old _ | apply Rdr.q))
          case px => (repeat (with_reducible first | assumption | exact Ext.refl _ _ | apply Ext.alloc | apply Ext.setL | apply Ext.setR | apply Ext.more | refine Ext.trans ?_ (by assumption) | refine Ext.trans ?_ (Ext.any (by assumption))))
        have h2' : (Ref.sgn r a == 41) = false := by simp [h2]
        have hlt : a + 1 ≤ r.length := Ref.lt_of_sgn (by omega)
        by_cases hwh : Ref.white (Ref.sgn r a) = true
        · obtain ⟨W, hW⟩ : ∃ W, W = Ref.whites r a := ⟨_, rfl⟩
          have e := hrun.out
          unfold Ref.urlRun at e
          rw [if_neg (by omega), if_pos hwh, ← hW] at e
          have E := Lib.hid e
          have HW := Lib.hid hW
          have hWat := Ref.whites_at hle
          rw [← hW] at hWat
          have hWlt : a < W := by
            rw [hW]; unfold Ref.whites Ref.whiteRun; rw [if_pos hwh]
            have := Ref.whiteRun_at r r.length (a + 1) hlt; omega
          clear e hW
          go_wp2_with (first | (go_at_call 28; refine (sign_any R _ _ r _ (by (repeat (with_reducible first | assumption | exact Rdr.step1 (by assumption) (by assumption) | exact Rdr.step1 (Rdr.q (by assumption) _) (by assumption) | exact Rdr.step2 (Rdr.q (by assumption) _) (by assumption) | exact Rdr.step2 (by assumption) (by assumption) | exact Rdr.step3 (Rdr.q (by assumption) _) (by assumption) | exact Rdr.step4 (Rdr.q (by assumption) _) (by assumption) | apply Rdr.alloc | apply Rdr.setO h.old _ | apply Rdr.q))) (by omega) (by omega)).mono ?_; rintro e w' ⟨rfl, nq, rfl⟩) | (go_at_call 43; refine (White_any _ _).mono ?_; rintro e w' ⟨rfl, rfl⟩))
          clear hwh
          have hgo : r.length < g + 1 + a := hf
          go_loopg [] (r.length + 1) (fun f wr => ∃ b, Rdr wr B R r b ∧ Ext (fun k => k ≠ R) w wr ∧ Box wr w.heap.size 6 ∧ r.length < f + b ∧ Hid (Ref.whiteRun r f b = W))
          case atStart => exact ⟨a, by (repeat (with_reducible first | assumption | exact Rdr.step1 (by assumption) (by assumption) | exact Rdr.step1 (Rdr.q (by assumption) _) (by assumption) | exact Rdr.step2 (Rdr.q (by assumption) _) (by assumption) | exact Rdr.step2 (by assumption) (by assumption) | exact Rdr.step3 (Rdr.q (by assumption) _) (by assumption) | exact Rdr.step4 (Rdr.q (by assumption) _) (by assumption) | apply Rdr.alloc | apply Rdr.setO h.old _ | apply Rdr.q)), by (repeat (with_reducible first | assumption | exact Ext.refl _ _ | apply Ext.alloc | apply Ext.setL | apply Ext.setR | apply Ext.more | refine Ext.trans ?_ (by assumption) | refine Ext.trans ?_ (Ext.any (by assumption)))), Box.ext hbox (S := fun k => k ≠ R) (by (repeat (with_reducible first | exact Ext.refl _ _ | apply Ext.alloc | apply Ext.setR | apply Ext.more | refine Ext.trans ?_ (by assumption) | refine Ext.trans ?_ (Ext.any (by assumption))))) (by omega), by omega, HW.out.symm⟩
          case round =>
            clear b0 b1 b2 b3 b4 b5 d0 d1 d2 d3 d4 d5 hc hfz hbox hx0 ha hf hrun
            obtain ⟨b, ha, hx0, hbox, hf, hrun⟩ := hrel
            have hle := ha.le
            have hc := ha.cells.1
            have hfz := ha.cells.2.1
            have hRr := Nat.lt_of_lt_of_le ha.rold ha.old
            obtain ⟨x0, x1, x2, x3, x4, x5, b0, b1, b2, b3, b4, b5, d0, d1, d2, d3, d4, d5, hL⟩ := hbox.open6
            obtain ⟨g', rfl⟩ : ∃ g', gk = g' + 1 := ⟨gk - 1, by omega⟩
            by_cases hwb : Ref.white (Ref.sgn r b) = true
            · have hlt : b + 1 ≤ r.length := Ref.white_lt hwb
              have e := hrun.out
              unfold Ref.whiteRun at e
              rw [if_pos hwb] at e
              have E2 := Lib.hid e
              clear e
              go_wp2_with (first | (go_at_call 28; refine (sign_any R _ _ r _ (by (repeat (with_reducible first | assumption | exact Rdr.step1 (by assumption) (by assumption) | exact Rdr.step1 (Rdr.q (by assumption) _) (by assumption) | exact Rdr.step2 (Rdr.q (by assumption) _) (by assumption) | exact Rdr.step2 (by assumption) (by assumption) | exact Rdr.step3 (Rdr.q (by assumption) _) (by assumption) | exact Rdr.step4 (Rdr.q (by assumption) _) (by assumption) | apply Rdr.alloc | apply Rdr.setO h.old _ | apply Rdr.q))) (by omega) (by omega)).mono ?_; rintro e w' ⟨rfl, nq, rfl⟩) | (go_at_call 43; refine (White_any _ _).mono ?_; rintro e w' ⟨rfl, rfl⟩))
              go_roundg g'
              case measure => omega
              case rel => exact ⟨_, by (repeat (with_reducible first | assumption | exact Rdr.step1 (by assumption) (by assumption) | exact Rdr.step1 (Rdr.q (by assumption) _) (by assumption) | exact Rdr.step2 (Rdr.q (by assumption) _) (by assumption) | exact Rdr.step2 (by assumption) (by assumption) | exact Rdr.step3 (Rdr.q (by assumption) _) (by assumption) | exact Rdr.step4 (Rdr.q (by assumption) _) (by assumption) | apply Rdr.alloc | apply Rdr.setO h.old _ | apply Rdr.q)), by (repeat (with_reducible first | assumption | exact Ext.refl _ _ | apply Ext.alloc | apply Ext.setL | apply Ext.setR | apply Ext.more | refine Ext.trans ?_ (by assumption) | refine Ext.trans ?_ (Ext.any (by assumption)))), Box.ext hbox (S := fun k => k ≠ R) (by (repeat (with_reducible first | exact Ext.refl _ _ | apply Ext.alloc | apply Ext.setR | apply Ext.more | refine Ext.trans ?_ (by assumption) | refine Ext.trans ?_ (Ext.any (by assumption))))) (by omega), by omega, E2.out⟩
            · have e := hrun.out
              unfold Ref.whiteRun at e
              rw [if_neg hwb] at e
              subst e
              by_cases hend : Ref.sgn r b < 0 ∨ Ref.sgn r b = 41
              · have E2 : Hid (Ref.urlRun r g b l = F) := by have := E.out; rw [if_pos hend] at this; exact this
                clear E hrun
                rcases hend with hend | hend
                all_goals go_wp2_with (first | (go_at_call 28; refine (sign_any R _ _ r _ (by (repeat (with_reducible first | assumption | exact Rdr.step1 (by assumption) (by assumption) | exact Rdr.step1 (Rdr.q (by assumption) _) (by assumption) | exact Rdr.step2 (Rdr.q (by assumption) _) (by assumption) | exact Rdr.step2 (by assumption) (by assumption) | exact Rdr.step3 (Rdr.q (by assumption) _) (by assumption) | exact Rdr.step4 (Rdr.q (by assumption) _) (by assumption) | apply Rdr.alloc | apply Rdr.setO h.old _ | apply Rdr.q))) (by omega) (by omega)).mono ?_; rintro e w' ⟨rfl, nq, rfl⟩) | (go_at_call 43; refine (White_any _ _).mono ?_; rintro e w' ⟨rfl, rfl⟩))
                all_goals go_roundg g
                all_goals first | (show g < _; omega) | skip
                all_goals exact ⟨_, l, rfl, by omega, by (repeat (with_reducible first | assumption | exact Rdr.step1 (by assumption) (by assumption) | exact Rdr.step1 (Rdr.q (by assumption) _) (by assumption) | exact Rdr.step2 (Rdr.q (by assumption) _) (by assumption) | exact Rdr.step2 (by assumption) (by assumption) | exact Rdr.step3 (Rdr.q (by assumption) _) (by assumption) | exact Rdr.step4 (Rdr.q (by assumption) _) (by assumption) | apply Rdr.alloc | apply Rdr.setO h.old _ | apply Rdr.q)), by (repeat (with_reducible first | assumption | exact Ext.refl _ _ | apply Ext.alloc | apply Ext.setL | apply Ext.setR | apply Ext.more | refine Ext.trans ?_ (by assumption) | refine Ext.trans ?_ (Ext.any (by assumption)))), Box.ext hbox (S := fun k => k ≠ R) (by (repeat (with_reducible first | exact Ext.refl _ _ | apply Ext.alloc | apply Ext.setR | apply Ext.more | refine Ext.trans ?_ (by assumption) | refine Ext.trans ?_ (Ext.any (by assumption))))) (by omega), by omega, E2.out⟩
              · have E2 : Hid (Ref.badURL r b = F) := by have := E.out; rw [if_neg hend] at this; exact this
                have hn1 : ¬ Ref.sgn r b < 0 := by omega
                have hn2 : (Ref.sgn r b == 41) = false := by simp; omega
                clear E hrun hend
                go_wp2_with (first | (go_at_call 28; refine (sign_any R _ _ r _ (by (repeat (with_reducible first | assumption | exact Rdr.step1 (by assumption) (by assumption) | exact Rdr.step1 (Rdr.q (by assumption) _) (by assumption) | exact Rdr.step2 (Rdr.q (by assumption) _) (by assumption) | exact Rdr.step2 (by assumption) (by assumption) | exact Rdr.step3 (Rdr.q (by assumption) _) (by assumption) | exact Rdr.step4 (Rdr.q (by assumption) _) (by assumption) | apply Rdr.alloc | apply Rdr.setO h.old _ | apply Rdr.q))) (by omega) (by omega)).mono ?_; rintro e w' ⟨rfl, nq, rfl⟩) | (go_at_call 43; refine (White_any _ _).mono ?_; rintro e w' ⟨rfl, rfl⟩) | ((go_at_call 82; refine (badURL_any R _ r _ (by (repeat (with_reducible first | assumption | exact Rdr.step1 (by assumption) (by assumption) | exact Rdr.step1 (Rdr.q (by assumption) _) (by assumption) | exact Rdr.step2 (Rdr.q (by assumption) _) (by assumption) | exact Rdr.step2 (by assumption) (by assumption) | exact Rdr.step3 (Rdr.q (by assumption) _) (by assumption) | exact Rdr.step4 (Rdr.q (by assumption) _) (by assumption) | apply Rdr.alloc | apply Rdr.setO h.old _ | apply Rdr.q)))).mono ?_; rintro e w6 ⟨rfl, h6, hx6⟩; have hc6 := h6.cells.1; have hR6 := Nat.lt_of_lt_of_le h6.rold h6.old; simp only [Tok.val, Tok.vals, Ref.badURL]); obtain ⟨y0, y1, y2, y3, y4, y5, e0, e1, e2, e3, e4, e5, f0, f1, f2, f3, f4, f5, hL'⟩ := Box.open6 (Box.ext (w' := w6) hbox (S := fun k => k ≠ R) (by (repeat (with_reducible first | exact Ext.refl _ _ | apply Ext.alloc | apply Ext.setR | apply Ext.more | refine Ext.trans ?_ (by assumption) | refine Ext.trans ?_ (Ext.any (by assumption))))) (by omega))))
                rw [← E2.out]
                refine bodyPost_ret (v := Tok.val { kind := 8 }) ?pv rfl ⟨rfl, ?pr, ?px⟩
                case pv => simp [results, go_sem, Tok.val, Tok.vals, *]
                case pr => (repeat (with_reducible first | assumption | exact Rdr.step1 (by assumption) (by assumption) | exact Rdr.step1 (Rdr.q (by assumption) _) (by assumption) | exact Rdr.step2 (Rdr.q (by assumption) _) (by assumption) | exact Rdr.step2 (by assumption) (by assumption) | exact Rdr.step3 (Rdr.q (by assumption) _) (by assumption) | exact Rdr.step4 (Rdr.q (by assumption) _) (by assumption) | apply Rdr.alloc | apply Rdr.setO h.old _ | apply Rdr.q))
                case px => (repeat (with_reducible first | assumption | exact Ext.refl _ _ | apply Ext.alloc | apply Ext.setL | apply Ext.setR | apply Ext.more | refine Ext.trans ?_ (by assumption) | refine Ext.trans ?_ (Ext.any (by assumption))))
        · by_cases hbad : Ref.bad (Ref.sgn r a) = true
          · have e := hrun.out
            unfold Ref.urlRun at e
            rw [if_neg (by omega), if_neg hwh, if_pos (by simp [hbad])] at e
            have E2 := Lib.hid e
            clear e hrun
            go_wp2_with (first | (go_at_call 28; refine (sign_any R _ _ r _ (by (repeat (with_reducible first | assumption | exact Rdr.step1 (by assumption) (by assumption) | exact Rdr.step1 (Rdr.q (by assumption) _) (by assumption) | exact Rdr.step2 (Rdr.q (by assumption) _) (by assumption) | exact Rdr.step2 (by assumption) (by assumption) | exact Rdr.step3 (Rdr.q (by assumption) _) (by assumption) | exact Rdr.step4 (Rdr.q (by assumption) _) (by assumption) | apply Rdr.alloc | apply Rdr.setO h.old _ | apply Rdr.q))) (by omega) (by omega)).mono ?_; rintro e w' ⟨rfl, nq, rfl⟩) | (go_at_call 43; refine (White_any _ _).mono ?_; rintro e w' ⟨rfl, rfl⟩) | (go_at_call 83; refine (bad_any _ _).mono ?_; rintro e w' ⟨rfl, rfl⟩) | (go_at_call 46; refine (escape_any R _ _ r _ (by (repeat (with_reducible first | assumption | exact Rdr.step1 (by assumption) (by assumption) | exact Rdr.step1 (Rdr.q (by assumption) _) (by assumption) | exact Rdr.step2 (Rdr.q (by assumption) _) (by assumption) | exact Rdr.step2 (by assumption) (by assumption) | exact Rdr.step3 (Rdr.q (by assumption) _) (by assumption) | exact Rdr.step4 (Rdr.q (by assumption) _) (by assumption) | apply Rdr.alloc | apply Rdr.setO h.old _ | apply Rdr.q))) (by omega) (by omega)).mono ?_; rintro e w' ⟨rfl, nq, rfl⟩) | ((go_at_call 82; refine (badURL_any R _ r _ (by (repeat (with_reducible first | assumption | exact Rdr.step1 (by assumption) (by assumption) | exact Rdr.step1 (Rdr.q (by assumption) _) (by assumption) | exact Rdr.step2 (Rdr.q (by assumption) _) (by assumption) | exact Rdr.step2 (by assumption) (by assumption) | exact Rdr.step3 (Rdr.q (by assumption) _) (by assumption) | exact Rdr.step4 (Rdr.q (by assumption) _) (by assumption) | apply Rdr.alloc | apply Rdr.setO h.old _ | apply Rdr.q)))).mono ?_; rintro e w6 ⟨rfl, h6, hx6⟩; have hc6 := h6.cells.1; have hR6 := Nat.lt_of_lt_of_le h6.rold h6.old; simp only [Tok.val, Tok.vals, Ref.badURL]); obtain ⟨y0, y1, y2, y3, y4, y5, e0, e1, e2, e3, e4, e5, f0, f1, f2, f3, f4, f5, hL'⟩ := Box.open6 (Box.ext (w' := w6) hbox (S := fun k => k ≠ R) (by (repeat (with_reducible first | exact Ext.refl _ _ | apply Ext.alloc | apply Ext.setR | apply Ext.more | refine Ext.trans ?_ (by assumption) | refine Ext.trans ?_ (Ext.any (by assumption))))) (by omega))))
            rw [← E2.out]
            refine bodyPost_ret (v := Tok.val { kind := 8 }) ?pv rfl ⟨rfl, ?pr, ?px⟩
            case pv => simp [results, go_sem, Tok.val, Tok.vals, *]
            case pr => (repeat (with_reducible first | assumption | exact Rdr.step1 (by assumption) (by assumption) | exact Rdr.step1 (Rdr.q (by assumption) _) (by assumption) | exact Rdr.step2 (Rdr.q (by assumption) _) (by assumption) | exact Rdr.step2 (by assumption) (by assumption) | exact Rdr.step3 (Rdr.q (by assumption) _) (by assumption) | exact Rdr.step4 (Rdr.q (by assumption) _) (by assumption) | apply Rdr.alloc | apply Rdr.setO h.old _ | apply Rdr.q))
            case px => (repeat (with_reducible first | assumption | exact Ext.refl _ _ | apply Ext.alloc | apply Ext.setL | apply Ext.setR | apply Ext.more | refine Ext.trans ?_ (by assumption) | refine Ext.trans ?_ (Ext.any (by assumption))))
          by_cases h92 : Ref.sgn r a = 92
          · by_cases hesc : Ref.isEsc r a = true
            · have e := hrun.out
              unfold Ref.urlRun at e
              rw [if_neg (by omega), if_neg hwh, if_neg (by simp [hbad, hesc]), if_pos h92] at e
              have E2 := Lib.hid e
              clear e hrun
              have hlm := Ref.escaped_at hlt
              have hb92 : Ref.bad 92 = false := by decide
              go_wp2_with (first | (go_at_call 28; refine (sign_any R _ _ r _ (by (repeat (with_reducible first | assumption | exact Rdr.step1 (by assumption) (by assumption) | exact Rdr.step1 (Rdr.q (by assumption) _) (by assumption) | exact Rdr.step2 (Rdr.q (by assumption) _) (by assumption) | exact Rdr.step2 (by assumption) (by assumption) | exact Rdr.step3 (Rdr.q (by assumption) _) (by assumption) | exact Rdr.step4 (Rdr.q (by assumption) _) (by assumption) | apply Rdr.alloc | apply Rdr.setO h.old _ | apply Rdr.q))) (by omega) (by omega)).mono ?_; rintro e w' ⟨rfl, nq, rfl⟩) | (go_at_call 43; refine (White_any _ _).mono ?_; rintro e w' ⟨rfl, rfl⟩) | (go_at_call 83; refine (bad_any _ _).mono ?_; rintro e w' ⟨rfl, rfl⟩) | (go_at_call 46; refine (escape_any R _ _ r _ (by (repeat (with_reducible first | assumption | exact Rdr.step1 (by assumption) (by assumption) | exact Rdr.step1 (Rdr.q (by assumption) _) (by assumption) | exact Rdr.step2 (Rdr.q (by assumption) _) (by assumption) | exact Rdr.step2 (by assumption) (by assumption) | exact Rdr.step3 (Rdr.q (by assumption) _) (by assumption) | exact Rdr.step4 (Rdr.q (by assumption) _) (by assumption) | apply Rdr.alloc | apply Rdr.setO h.old _ | apply Rdr.q))) (by omega) (by omega)).mono ?_; rintro e w' ⟨rfl, nq, rfl⟩) | (go_at_call 68; refine (escaped_any R _ r _ (by (repeat (with_reducible first | assumption | exact Rdr.step1 (by assumption) (by assumption) | exact Rdr.step1 (Rdr.q (by assumption) _) (by assumption) | exact Rdr.step2 (Rdr.q (by assumption) _) (by assumption) | exact Rdr.step2 (by assumption) (by assumption) | exact Rdr.step3 (Rdr.q (by assumption) _) (by assumption) | exact Rdr.step4 (Rdr.q (by assumption) _) (by assumption) | apply Rdr.alloc | apply Rdr.setO h.old _ | apply Rdr.q)))).mono ?_; rintro e w3 ⟨rfl, h3, hx3⟩; have hc3 := h3.cells.1; have hf3 := h3.cells.2.1; have hR3 := Nat.lt_of_lt_of_le h3.rold h3.old) | (go_at_call 42; refine (Put_any _ _).mono ?_; rintro e w2 ⟨rfl, hx, hpl⟩; have h2 := Rdr.extT (by (repeat (with_reducible first | assumption | exact Rdr.step1 (by assumption) (by assumption) | exact Rdr.step1 (Rdr.q (by assumption) _) (by assumption) | exact Rdr.step2 (Rdr.q (by assumption) _) (by assumption) | exact Rdr.step2 (by assumption) (by assumption) | exact Rdr.step3 (Rdr.q (by assumption) _) (by assumption) | exact Rdr.step4 (Rdr.q (by assumption) _) (by assumption) | apply Rdr.alloc | apply Rdr.setO h.old _ | apply Rdr.q))) hx; have hc2 := h2.cells.1; have hf2 := h2.cells.2.1; have hR2 := Nat.lt_of_lt_of_le h2.rold h2.old; have hs2 := hx.size; try simp at hs2))
              go_roundg g
              case measure => omega
              case rel => exact ⟨_, _, str_add _ _, by simp; omega, by assumption, by (repeat (with_reducible first | assumption | exact Ext.refl _ _ | apply Ext.alloc | apply Ext.setL | apply Ext.setR | apply Ext.more | refine Ext.trans ?_ (by assumption) | refine Ext.trans ?_ (Ext.any (by assumption)))), Box.ext hbox (S := fun k => k ≠ R) (by (repeat (with_reducible first | exact Ext.refl _ _ | apply Ext.alloc | apply Ext.setR | apply Ext.more | refine Ext.trans ?_ (by assumption) | refine Ext.trans ?_ (Ext.any (by assumption))))) (by omega), by omega, E2.out⟩
            · have e := hrun.out
              unfold Ref.urlRun at e
              rw [if_neg (by omega), if_neg hwh, if_pos (by simp [h92, hesc])] at e
              have E2 := Lib.hid e
              clear e hrun
              have hb92 : Ref.bad 92 = false := by decide
              go_wp2_with (first | (go_at_call 28; refine (sign_any R _ _ r _ (by (repeat (with_reducible first | assumption | exact Rdr.step1 (by assumption) (by assumption) | exact Rdr.step1 (Rdr.q (by assumption) _) (by assumption) | exact Rdr.step2 (Rdr.q (by assumption) _) (by assumption) | exact Rdr.step2 (by assumption) (by assumption) | exact Rdr.step3 (Rdr.q (by assumption) _) (by assumption) | exact Rdr.step4 (Rdr.q (by assumption) _) (by assumption) | apply Rdr.alloc | apply Rdr.setO h.old _ | apply Rdr.q))) (by omega) (by omega)).mono ?_; rintro e w' ⟨rfl, nq, rfl⟩) | (go_at_call 43; refine (White_any _ _).mono ?_; rintro e w' ⟨rfl, rfl⟩) | (go_at_call 83; refine (bad_any _ _).mono ?_; rintro e w' ⟨rfl, rfl⟩) | (go_at_call 46; refine (escape_any R _ _ r _ (by (repeat (with_reducible first | assumption | exact Rdr.step1 (by assumption) (by assumption) | exact Rdr.step1 (Rdr.q (by assumption) _) (by assumption) | exact Rdr.step2 (Rdr.q (by assumption) _) (by assumption) | exact Rdr.step2 (by assumption) (by assumption) | exact Rdr.step3 (Rdr.q (by assumption) _) (by assumption) | exact Rdr.step4 (Rdr.q (by assumption) _) (by assumption) | apply Rdr.alloc | apply Rdr.setO h.old _ | apply Rdr.q))) (by omega) (by omega)).mono ?_; rintro e w' ⟨rfl, nq, rfl⟩) | ((go_at_call 82; refine (badURL_any R _ r _ (by (repeat (with_reducible first | assumption | exact Rdr.step1 (by assumption) (by assumption) | exact Rdr.step1 (Rdr.q (by assumption) _) (by assumption) | exact Rdr.step2 (Rdr.q (by assumption) _) (by assumption) | exact Rdr.step2 (by assumption) (by assumption) | exact Rdr.step3 (Rdr.q (by assumption) _) (by assumption) | exact Rdr.step4 (Rdr.q (by assumption) _) (by assumption) | apply Rdr.alloc | apply Rdr.setO h.old _ | apply Rdr.q)))).mono ?_; rintro e w6 ⟨rfl, h6, hx6⟩; have hc6 := h6.cells.1; have hR6 := Nat.lt_of_lt_of_le h6.rold h6.old; simp only [Tok.val, Tok.vals, Ref.badURL]); obtain ⟨y0, y1, y2, y3, y4, y5, e0, e1, e2, e3, e4, e5, f0, f1, f2, f3, f4, f5, hL'⟩ := Box.open6 (Box.ext (w' := w6) hbox (S := fun k => k ≠ R) (by (repeat (with_reducible first | exact Ext.refl _ _ | apply Ext.alloc | apply Ext.setR | apply Ext.more | refine Ext.trans ?_ (by assumption) | refine Ext.trans ?_ (Ext.any (by assumption))))) (by omega))))
              rw [← E2.out]
              refine bodyPost_ret (v := Tok.val { kind := 8 }) ?pv rfl ⟨rfl, ?pr, ?px⟩
              case pv => simp [results, go_sem, Tok.val, Tok.vals, *]
              case pr => (repeat (with_reducible first | assumption | exact Rdr.step1 (by assumption) (by assumption) | exact Rdr.step1 (Rdr.q (by assumption) _) (by assumption) | exact Rdr.step2 (Rdr.q (by assumption) _) (by assumption) | exact Rdr.step2 (by assumption) (by assumption) | exact Rdr.step3 (Rdr.q (by assumption) _) (by assumption) | exact Rdr.step4 (Rdr.q (by assumption) _) (by assumption) | apply Rdr.alloc | apply Rdr.setO h.old _ | apply Rdr.q))
              case px => (repeat (with_reducible first | assumption | exact Ext.refl _ _ | apply Ext.alloc | apply Ext.setL | apply Ext.setR | apply Ext.more | refine Ext.trans ?_ (by assumption) | refine Ext.trans ?_ (Ext.any (by assumption))))
          · have e := hrun.out
            unfold Ref.urlRun at e
            rw [if_neg (by omega), if_neg hwh, if_neg (by simp [hbad, h92]), if_neg h92] at e
            have E2 := Lib.hid e
            clear e hrun
            go_wp2_with (first | (go_at_call 28; refine (sign_any R _ _ r _ (by (repeat (with_reducible first | assumption | exact Rdr.step1 (by assumption) (by assumption) | exact Rdr.step1 (Rdr.q (by assumption) _) (by assumption) | exact Rdr.step2 (Rdr.q (by assumption) _) (by assumption) | exact Rdr.step2 (by assumption) (by assumption) | exact Rdr.step3 (Rdr.q (by assumption) _) (by assumption) | exact Rdr.step4 (Rdr.q (by assumption) _) (by assumption) | apply Rdr.alloc | apply Rdr.setO h.old _ | apply Rdr.q))) (by omega) (by omega)).mono ?_; rintro e w' ⟨rfl, nq, rfl⟩) | (go_at_call 43; refine (White_any _ _).mono ?_; rintro e w' ⟨rfl, rfl⟩) | (go_at_call 83; refine (bad_any _ _).mono ?_; rintro e w' ⟨rfl, rfl⟩) | (go_at_call 46; refine (escape_any R _ _ r _ (by (repeat (with_reducible first | assumption | exact Rdr.step1 (by assumption) (by assumption) | exact Rdr.step1 (Rdr.q (by assumption) _) (by assumption) | exact Rdr.step2 (Rdr.q (by assumption) _) (by assumption) | exact Rdr.step2 (by assumption) (by assumption) | exact Rdr.step3 (Rdr.q (by assumption) _) (by assumption) | exact Rdr.step4 (Rdr.q (by assumption) _) (by assumption) | apply Rdr.alloc | apply Rdr.setO h.old _ | apply Rdr.q))) (by omega) (by omega)).mono ?_; rintro e w' ⟨rfl, nq, rfl⟩) | (go_at_call 42; refine (Put_any _ _).mono ?_; rintro e w2 ⟨rfl, hx, hpl⟩; have h2 := Rdr.extT (by (repeat (with_reducible first | assumption | exact Rdr.step1 (by assumption) (by assumption) | exact Rdr.step1 (Rdr.q (by assumption) _) (by assumption) | exact Rdr.step2 (Rdr.q (by assumption) _) (by assumption) | exact Rdr.step2 (by assumption) (by assumption) | exact Rdr.step3 (Rdr.q (by assumption) _) (by assumption) | exact Rdr.step4 (Rdr.q (by assumption) _) (by assumption) | apply Rdr.alloc | apply Rdr.setO h.old _ | apply Rdr.q))) hx; have hc2 := h2.cells.1; have hf2 := h2.cells.2.1; have hR2 := Nat.lt_of_lt_of_le h2.rold h2.old; have hs2 := hx.size; try simp at hs2))
            go_roundg g
            case measure => omega
            case rel => exact ⟨_, _, str_add _ _, by simp; omega, by (repeat (with_reducible first | assumption | exact Rdr.step1 (by assumption) (by assumption) | exact Rdr.step1 (Rdr.q (by assumption) _) (by assumption) | exact Rdr.step2 (Rdr.q (by assumption) _) (by assumption) | exact Rdr.step2 (by assumption) (by assumption) | exact Rdr.step3 (Rdr.q (by assumption) _) (by assumption) | exact Rdr.step4 (Rdr.q (by assumption) _) (by assumption) | apply Rdr.alloc | apply Rdr.setO h.old _ | apply Rdr.q)), by (repeat (with_reducible first | assumption | exact Ext.refl _ _ | apply Ext.alloc | apply Ext.setL | apply Ext.setR | apply Ext.more | refine Ext.trans ?_ (by assumption) | refine Ext.trans ?_ (Ext.any (by assumption)))), Box.ext hbox (S := fun k => k ≠ R) (by (repeat (with_reducible first | exact Ext.refl _ _ | apply Ext.alloc | apply Ext.setR | apply Ext.more | refine Ext.trans ?_ (by assumption) | refine Ext.trans ?_ (Ext.any (by assumption))))) (by omega), by omega, E2.out⟩
end Go.Proofs.YtihnffmnofinmaaDoor
