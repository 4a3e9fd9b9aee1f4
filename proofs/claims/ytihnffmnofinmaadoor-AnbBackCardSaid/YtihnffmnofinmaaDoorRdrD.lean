/- The reference's reader of signs: tokens of one sign, texts in quotes. -/
import Derived.Test.YtihnffmnofinmaaDoorRdrC
import Derived.Test.YtihnffmnofinmaaDoorLow
namespace Go.Proofs.YtihnffmnofinmaaDoor
open Go.RowKit

def Tok.vals (t : Tok) : Array Value := #[.int .i64 t.kind, .string ⟨t.text.toArray⟩, .int .i64 t.num, .bool t.whole, .bool t.sign, .bool t.id]
def Tok.val (t : Tok) : Value := .agg t.vals
theorem ret_tok {t u : Tok} (h : t = u) : Ending.returned t.val = .returned u.val := by rw [h]

theorem Ext.setR {R : Nat} {w x : World} (h : Ext (fun k => k ≠ R) w x) (j : Nat) (v : Value) : Ext (fun k => k ≠ R) w (x.setCell ⟨R, j, none⟩ v) := h.setCell _ _ (.inl fun k => k rfl)
/-- A block of the call's own: a row of so many cells, written freely. -/
def Box (w : World) (L n : Nat) : Prop := ∃ cs T, w.heap[L]? = some (.cells cs T (0, 0)) ∧ cs.size = n
theorem Box.ext {S : Nat → Prop} {w w' : World} {L n : Nat} (h : Box w L n) (he : Ext S w w') (hL : S L) : Box w' L n := by
  obtain ⟨cs, T, hb, hs⟩ := h; exact ⟨cs, T, he.heap hL hb, hs⟩
theorem Box.new (w : World) (cs : Array Value) (T : TypeId) : Box (w.alloc (.cells cs T)) w.heap.size cs.size := ⟨cs, T, block_new _ _, rfl⟩
theorem Box.open6 {w : World} {L : Nat} (h : Box w L 6) : ∃ x0 x1 x2 x3 x4 x5, w.cell? ⟨L, 0, none⟩ = some x0 ∧ w.cell? ⟨L, 1, none⟩ = some x1 ∧ w.cell? ⟨L, 2, none⟩ = some x2 ∧ w.cell? ⟨L, 3, none⟩ = some x3 ∧ w.cell? ⟨L, 4, none⟩ = some x4 ∧ w.cell? ⟨L, 5, none⟩ = some x5 ∧
    w.frozen? ⟨L, 0, none⟩ = false ∧ w.frozen? ⟨L, 1, none⟩ = false ∧ w.frozen? ⟨L, 2, none⟩ = false ∧ w.frozen? ⟨L, 3, none⟩ = false ∧ w.frozen? ⟨L, 4, none⟩ = false ∧ w.frozen? ⟨L, 5, none⟩ = false ∧ L < w.heap.size := by
  obtain ⟨cs, T, hb, hs⟩ := h
  obtain ⟨l⟩ := cs
  match l, hs with
  | [a0, a1, a2, a3, a4, a5], _ =>
    exact ⟨a0, a1, a2, a3, a4, a5, block_cell hb 0, block_cell hb 1, block_cell hb 2, block_cell hb 3, block_cell hb 4, block_cell hb 5, block_free hb 0, block_free hb 1, block_free hb 2, block_free hb 3, block_free hb 4, block_free hb 5, block_lt hb⟩


set_option maxHeartbeats 1000000 in
theorem delim_any {B : Nat} (R at_ : Nat) (r : List Int) (w : World) (h : Rdr w B R r at_) (hlt : at_ + 1 ≤ r.length) :
    Calls Tryd.prog 53 #[.pointer (some ⟨R, 0, none⟩)] w (Ret (Ref.delim r at_).1.val (Moved B R r (Ref.delim r at_).2 w)) := by
  obtain ⟨F, hF⟩ : ∃ F, F = Ref.delim r at_ := ⟨_, rfl⟩
  rw [← hF]
  have HF := Lib.hid hF
  clear hF
  have hR := Nat.lt_of_lt_of_le h.rold h.old
  have hln := h.runes.len
  go_enter Tryd.func53, Tryd.ntmps53
  go_wp2_with (first | (go_at_call 28; refine (sign_any R _ _ r _ (by first | assumption | exact Rdr.q (by assumption) _ | exact Rdr.step1 (Rdr.q (by assumption) _) (by assumption) | exact Rdr.step1 (by assumption) (by assumption) | exact Rdr.q (Rdr.step1 (Rdr.q (by assumption) _) (by assumption)) _ | exact Rdr.q (Rdr.step1 (by assumption) (by assumption)) _ | exact Rdr.alloc (by assumption) _ | exact Rdr.q (Rdr.alloc (by assumption) _) _) (by omega) (by omega)).mono ?_; rintro e w' ⟨rfl, nq, rfl⟩) | ((go_at_call 42; refine (Put_any _ _).mono ?_; rintro e w2 ⟨rfl, hx, hpl⟩; have h2 := Rdr.extT (by first | assumption | exact Rdr.q (by assumption) _ | exact Rdr.step1 (Rdr.q (by assumption) _) (by assumption) | exact Rdr.step1 (by assumption) (by assumption) | exact Rdr.q (Rdr.step1 (Rdr.q (by assumption) _) (by assumption)) _ | exact Rdr.q (Rdr.step1 (by assumption) (by assumption)) _ | exact Rdr.alloc (by assumption) _ | exact Rdr.q (Rdr.alloc (by assumption) _) _) hx; have hc2 := h2.cells.1; have hf2 := h2.cells.2.1; have hR2 := Nat.lt_of_lt_of_le h2.rold h2.old; have hs2 := hx.size; try simp at hs2); obtain ⟨x0, x1, x2, x3, x4, x5, b0, b1, b2, b3, b4, b5, d0, d1, d2, d3, d4, d5, hL⟩ := Box.open6 ((Box.new w _ _).ext (((Ext.refl _ _).more _).trans hx) trivial)))
  have e := HF.out
  unfold Ref.delim at e
  subst e
  refine bodyPost_ret (v := Tok.val { kind := 9, text := Ref.put (Ref.sgn r at_) }) ?hr rfl ⟨rfl, ?ha, ?hb⟩
  case hr => simp [results, Tryd.results53, go_sem, Tok.val, Tok.vals, *]
  case ha => (repeat (with_reducible first | assumption | exact Rdr.step1 (by assumption) (by assumption) | exact Rdr.step1 (Rdr.q (by assumption) _) (by assumption) | exact Rdr.step2 (Rdr.q (by assumption) _) (by assumption) | refine Rdr.alloc ?_ _ | refine Rdr.setOther ?_ h.old _ | refine Rdr.q ?_ _))
  case hb => (repeat (with_reducible first | assumption | exact Ext.refl _ _ | refine Ext.alloc ?_ _ | refine Ext.setL ?_ _ _ | refine Ext.setR ?_ _ _ | refine Ext.more ?_ _ | refine Ext.trans ?_ (by assumption) | refine Ext.trans ?_ (Ext.any (by assumption))))


set_option maxRecDepth 100000 in
set_option maxHeartbeats 2000000 in
theorem quoted_any {B : Nat} (R at_ : Nat) (r : List Int) (q : Int) (w : World) (h : Rdr w B R r at_) (hq : 0 ≤ q) :
    Calls Tryd.prog 44 #[.pointer (some ⟨R, 0, none⟩), .int .i32 q] w (Ret (Ref.quoted r q at_).1.val (Moved B R r (Ref.quoted r q at_).2 w)) := by
  obtain ⟨F, hF⟩ : ∃ F, F = Ref.quoted r q at_ := ⟨_, rfl⟩
  rw [← hF]
  have HF := Lib.hid hF
  clear hF
  have hR := Nat.lt_of_lt_of_le h.rold h.old
  have hln := h.runes.len
  go_enter Tryd.func44, Tryd.ntmps44
  go_wp2_with fail
  go_loopg [5] (r.length + 1) (fun f s wr => ∃ a l, s = .string ⟨l.toArray⟩ ∧ l.length ≤ 4 * a ∧ Rdr wr B R r a ∧ Ext (fun k => k ≠ R) w wr ∧ Box wr w.heap.size 6 ∧ r.length < f + a ∧ Hid (Ref.quotedRun r q f a l = F))
  case atStart => exact ⟨at_, [], rfl, by simp, h.alloc _, (Ext.refl _ _).alloc _, Box.new w _ _, by omega, HF.out.symm⟩
  case round =>
    obtain ⟨a, l, rfl, hl, ha, hx0, hbox, hf, hrun⟩ := hrel
    have hle := ha.le
    have hc := ha.cells.1
    have hfz := ha.cells.2.1
    have hRr := Nat.lt_of_lt_of_le ha.rold ha.old
    obtain ⟨x0, x1, x2, x3, x4, x5, b0, b1, b2, b3, b4, b5, d0, d1, d2, d3, d4, d5, hL⟩ := hbox.open6
    obtain ⟨g, rfl⟩ : ∃ g, gk = g + 1 := ⟨gk - 1, by omega⟩
    by_cases h1 : Ref.sgn r a < 0
    · have e := hrun.out
      unfold Ref.quotedRun at e
      rw [if_pos h1] at e
      subst e
      go_wp2_with (first | (go_at_call 28; refine (sign_any R _ _ r _ (by first | assumption | exact Rdr.q (by assumption) _ | exact Rdr.step1 (Rdr.q (by assumption) _) (by assumption) | exact Rdr.step1 (by assumption) (by assumption) | exact Rdr.q (Rdr.step1 (Rdr.q (by assumption) _) (by assumption)) _ | exact Rdr.q (Rdr.step1 (by assumption) (by assumption)) _ | exact Rdr.alloc (by assumption) _ | exact Rdr.q (Rdr.alloc (by assumption) _) _) (by omega) (by omega)).mono ?_; rintro e w' ⟨rfl, nq, rfl⟩))
      refine bodyPost_ret (v := Tok.val { kind := 5, text := l }) ?hr rfl ⟨rfl, ?ha, ?hb⟩
      case hr => simp [results, go_sem, Tok.val, Tok.vals, *]
      case ha => (repeat (with_reducible first | assumption | exact Rdr.step1 (by assumption) (by assumption) | exact Rdr.step1 (Rdr.q (by assumption) _) (by assumption) | exact Rdr.step2 (Rdr.q (by assumption) _) (by assumption) | refine Rdr.alloc ?_ _ | refine Rdr.setOther ?_ h.old _ | refine Rdr.q ?_ _))
      case hb => (repeat (with_reducible first | assumption | exact Ext.refl _ _ | refine Ext.alloc ?_ _ | refine Ext.setL ?_ _ _ | refine Ext.setR ?_ _ _ | refine Ext.more ?_ _ | refine Ext.trans ?_ (by assumption) | refine Ext.trans ?_ (Ext.any (by assumption))))
    have hlt : a + 1 ≤ r.length := Ref.lt_of_sgn (by omega)
    by_cases h2 : Ref.sgn r a = q
    · have e := hrun.out
      unfold Ref.quotedRun at e
      rw [if_neg h1, if_pos h2] at e
      subst e
      have h2' : (Ref.sgn r a == q) = true := by simp [h2]
      go_wp2_with (first | (go_at_call 28; refine (sign_any R _ _ r _ (by first | assumption | exact Rdr.q (by assumption) _ | exact Rdr.step1 (Rdr.q (by assumption) _) (by assumption) | exact Rdr.step1 (by assumption) (by assumption) | exact Rdr.q (Rdr.step1 (Rdr.q (by assumption) _) (by assumption)) _ | exact Rdr.q (Rdr.step1 (by assumption) (by assumption)) _ | exact Rdr.alloc (by assumption) _ | exact Rdr.q (Rdr.alloc (by assumption) _) _) (by omega) (by omega)).mono ?_; rintro e w' ⟨rfl, nq, rfl⟩))
      refine bodyPost_ret (v := Tok.val { kind := 5, text := l }) ?hr rfl ⟨rfl, ?ha, ?hb⟩
      case hr => simp [results, go_sem, Tok.val, Tok.vals, *]
      case ha => (repeat (with_reducible first | assumption | exact Rdr.step1 (by assumption) (by assumption) | exact Rdr.step1 (Rdr.q (by assumption) _) (by assumption) | exact Rdr.step2 (Rdr.q (by assumption) _) (by assumption) | refine Rdr.alloc ?_ _ | refine Rdr.setOther ?_ h.old _ | refine Rdr.q ?_ _))
      case hb => (repeat (with_reducible first | assumption | exact Ext.refl _ _ | refine Ext.alloc ?_ _ | refine Ext.setL ?_ _ _ | refine Ext.setR ?_ _ _ | refine Ext.more ?_ _ | refine Ext.trans ?_ (by assumption) | refine Ext.trans ?_ (Ext.any (by assumption))))
    have h2' : (Ref.sgn r a == q) = false := by simp [h2]
    by_cases h3 : Ref.sgn r a = 10
    · have e := hrun.out
      unfold Ref.quotedRun at e
      rw [if_neg h1, if_neg h2, if_pos h3] at e
      subst e
      go_wp2_with (first | (go_at_call 28; refine (sign_any R _ _ r _ (by first | assumption | exact Rdr.q (by assumption) _ | exact Rdr.step1 (Rdr.q (by assumption) _) (by assumption) | exact Rdr.step1 (by assumption) (by assumption) | exact Rdr.q (Rdr.step1 (Rdr.q (by assumption) _) (by assumption)) _ | exact Rdr.q (Rdr.step1 (by assumption) (by assumption)) _ | exact Rdr.alloc (by assumption) _ | exact Rdr.q (Rdr.alloc (by assumption) _) _) (by omega) (by omega)).mono ?_; rintro e w' ⟨rfl, nq, rfl⟩))
      refine bodyPost_ret (v := Tok.val { kind := 6 }) ?hr rfl ⟨rfl, ?ha, ?hb⟩
      case hr => simp [results, go_sem, Tok.val, Tok.vals, *]
      case ha => (repeat (with_reducible first | assumption | exact Rdr.step1 (by assumption) (by assumption) | exact Rdr.step1 (Rdr.q (by assumption) _) (by assumption) | exact Rdr.step2 (Rdr.q (by assumption) _) (by assumption) | refine Rdr.alloc ?_ _ | refine Rdr.setOther ?_ h.old _ | refine Rdr.q ?_ _))
      case hb => (repeat (with_reducible first | assumption | exact Ext.refl _ _ | refine Ext.alloc ?_ _ | refine Ext.setL ?_ _ _ | refine Ext.setR ?_ _ _ | refine Ext.more ?_ _ | refine Ext.trans ?_ (by assumption) | refine Ext.trans ?_ (Ext.any (by assumption))))
    by_cases h4 : Ref.sgn r a = 92
    · by_cases h5 : Ref.sgn r (a + 1) < 0
      · have e := hrun.out
        unfold Ref.quotedRun at e
        rw [if_neg h1, if_neg h2, if_neg h3, if_pos ⟨h4, h5⟩] at e
        have E := Lib.hid e
        clear e
        go_wp2_with (first | (go_at_call 28; refine (sign_any R _ _ r _ (by first | assumption | exact Rdr.q (by assumption) _ | exact Rdr.step1 (Rdr.q (by assumption) _) (by assumption) | exact Rdr.step1 (by assumption) (by assumption) | exact Rdr.q (Rdr.step1 (Rdr.q (by assumption) _) (by assumption)) _ | exact Rdr.q (Rdr.step1 (by assumption) (by assumption)) _ | exact Rdr.alloc (by assumption) _ | exact Rdr.q (Rdr.alloc (by assumption) _) _) (by omega) (by omega)).mono ?_; rintro e w' ⟨rfl, nq, rfl⟩))
        go_roundg g
        case measure => omega
        case rel => exact ⟨a + 1, l, rfl, by omega, by (repeat (with_reducible first | assumption | exact Rdr.step1 (by assumption) (by assumption) | exact Rdr.step1 (Rdr.q (by assumption) _) (by assumption) | exact Rdr.step2 (Rdr.q (by assumption) _) (by assumption) | refine Rdr.alloc ?_ _ | refine Rdr.setOther ?_ h.old _ | refine Rdr.q ?_ _)), by (repeat (with_reducible first | assumption | exact Ext.refl _ _ | refine Ext.alloc ?_ _ | refine Ext.setL ?_ _ _ | refine Ext.setR ?_ _ _ | refine Ext.more ?_ _ | refine Ext.trans ?_ (by assumption) | refine Ext.trans ?_ (Ext.any (by assumption)))), Box.ext hbox (S := fun k => k ≠ R) (by (repeat (with_reducible first | exact Ext.refl _ _ | refine Ext.alloc ?_ _ | refine Ext.setR ?_ _ _ | refine Ext.more ?_ _ | refine Ext.trans ?_ (by assumption) | refine Ext.trans ?_ (Ext.any (by assumption))))) (by omega), by omega, E.out⟩
      by_cases h6 : Ref.sgn r (a + 1) = 10
      · have hlt2 : a + 2 ≤ r.length := Ref.lt_of_sgn (a := a + 1) (by omega)
        have e := hrun.out
        unfold Ref.quotedRun at e
        rw [if_neg h1, if_neg h2, if_neg h3, if_neg (by omega), if_pos ⟨h4, h6⟩] at e
        have E := Lib.hid e
        clear e
        go_wp2_with (first | (go_at_call 28; refine (sign_any R _ _ r _ (by first | assumption | exact Rdr.q (by assumption) _ | exact Rdr.step1 (Rdr.q (by assumption) _) (by assumption) | exact Rdr.step1 (by assumption) (by assumption) | exact Rdr.q (Rdr.step1 (Rdr.q (by assumption) _) (by assumption)) _ | exact Rdr.q (Rdr.step1 (by assumption) (by assumption)) _ | exact Rdr.alloc (by assumption) _ | exact Rdr.q (Rdr.alloc (by assumption) _) _) (by omega) (by omega)).mono ?_; rintro e w' ⟨rfl, nq, rfl⟩))
        go_roundg g
        case measure => omega
        case rel => exact ⟨a + 2, l, rfl, by omega, by (repeat (with_reducible first | assumption | exact Rdr.step1 (by assumption) (by assumption) | exact Rdr.step1 (Rdr.q (by assumption) _) (by assumption) | exact Rdr.step2 (Rdr.q (by assumption) _) (by assumption) | refine Rdr.alloc ?_ _ | refine Rdr.setOther ?_ h.old _ | refine Rdr.q ?_ _)), by (repeat (with_reducible first | assumption | exact Ext.refl _ _ | refine Ext.alloc ?_ _ | refine Ext.setL ?_ _ _ | refine Ext.setR ?_ _ _ | refine Ext.more ?_ _ | refine Ext.trans ?_ (by assumption) | refine Ext.trans ?_ (Ext.any (by assumption)))), Box.ext hbox (S := fun k => k ≠ R) (by (repeat (with_reducible first | exact Ext.refl _ _ | refine Ext.alloc ?_ _ | refine Ext.setR ?_ _ _ | refine Ext.more ?_ _ | refine Ext.trans ?_ (by assumption) | refine Ext.trans ?_ (Ext.any (by assumption))))) (by omega), by omega, E.out⟩
      · have e := hrun.out
        unfold Ref.quotedRun at e
        rw [if_neg h1, if_neg h2, if_neg h3, if_neg (by omega), if_neg (by omega), if_pos h4] at e
        have E := Lib.hid e
        clear e
        have hlm := Ref.escaped_at hlt
        go_wp2_with (first | (go_at_call 28; refine (sign_any R _ _ r _ (by first | assumption | exact Rdr.q (by assumption) _ | exact Rdr.step1 (Rdr.q (by assumption) _) (by assumption) | exact Rdr.step1 (by assumption) (by assumption) | exact Rdr.q (Rdr.step1 (Rdr.q (by assumption) _) (by assumption)) _ | exact Rdr.q (Rdr.step1 (by assumption) (by assumption)) _ | exact Rdr.alloc (by assumption) _ | exact Rdr.q (Rdr.alloc (by assumption) _) _) (by omega) (by omega)).mono ?_; rintro e w' ⟨rfl, nq, rfl⟩) | ((go_at_call 68; refine (escaped_any R _ r _ (by first | assumption | exact Rdr.q (by assumption) _ | exact Rdr.step1 (Rdr.q (by assumption) _) (by assumption) | exact Rdr.step1 (by assumption) (by assumption) | exact Rdr.q (Rdr.step1 (Rdr.q (by assumption) _) (by assumption)) _ | exact Rdr.q (Rdr.step1 (by assumption) (by assumption)) _ | exact Rdr.alloc (by assumption) _ | exact Rdr.q (Rdr.alloc (by assumption) _) _)).mono ?_; rintro e w3 ⟨rfl, h3, hx3⟩; have hc3 := h3.cells.1; have hf3 := h3.cells.2.1; have hR3 := Nat.lt_of_lt_of_le h3.rold h3.old); obtain ⟨y0, y1, y2, y3, y4, y5, e0, e1, e2, e3, e4, e5, i0, i1, i2, i3, i4, i5, hL3⟩ := Box.open6 (Box.ext hbox (S := fun k => k ≠ R) (by (repeat (with_reducible first | exact Ext.refl _ _ | refine Ext.alloc ?_ _ | refine Ext.setR ?_ _ _ | refine Ext.more ?_ _ | refine Ext.trans ?_ (by assumption) | refine Ext.trans ?_ (Ext.any (by assumption))))) (by omega))) | (go_at_call 42; refine (Put_any _ _).mono ?_; rintro e w2 ⟨rfl, hx, hpl⟩; have h2 := Rdr.extT (by first | assumption | exact Rdr.q (by assumption) _ | exact Rdr.step1 (Rdr.q (by assumption) _) (by assumption) | exact Rdr.step1 (by assumption) (by assumption) | exact Rdr.q (Rdr.step1 (Rdr.q (by assumption) _) (by assumption)) _ | exact Rdr.q (Rdr.step1 (by assumption) (by assumption)) _ | exact Rdr.alloc (by assumption) _ | exact Rdr.q (Rdr.alloc (by assumption) _) _) hx; have hc2 := h2.cells.1; have hf2 := h2.cells.2.1; have hR2 := Nat.lt_of_lt_of_le h2.rold h2.old; have hs2 := hx.size; try simp at hs2))
        go_roundg g
        case measure => omega
        case rel => exact ⟨_, _, str_add _ _, by simp; omega, by assumption, by (repeat (with_reducible first | assumption | exact Ext.refl _ _ | refine Ext.alloc ?_ _ | refine Ext.setL ?_ _ _ | refine Ext.setR ?_ _ _ | refine Ext.more ?_ _ | refine Ext.trans ?_ (by assumption) | refine Ext.trans ?_ (Ext.any (by assumption)))), Box.ext hbox (S := fun k => k ≠ R) (by (repeat (with_reducible first | exact Ext.refl _ _ | refine Ext.alloc ?_ _ | refine Ext.setR ?_ _ _ | refine Ext.more ?_ _ | refine Ext.trans ?_ (by assumption) | refine Ext.trans ?_ (Ext.any (by assumption))))) (by omega), by omega, E.out⟩
    · have e := hrun.out
      unfold Ref.quotedRun at e
      rw [if_neg h1, if_neg h2, if_neg h3, if_neg (by omega), if_neg (by omega), if_neg h4] at e
      have E := Lib.hid e
      clear e
      go_wp2_with (first | (go_at_call 28; refine (sign_any R _ _ r _ (by first | assumption | exact Rdr.q (by assumption) _ | exact Rdr.step1 (Rdr.q (by assumption) _) (by assumption) | exact Rdr.step1 (by assumption) (by assumption) | exact Rdr.q (Rdr.step1 (Rdr.q (by assumption) _) (by assumption)) _ | exact Rdr.q (Rdr.step1 (by assumption) (by assumption)) _ | exact Rdr.alloc (by assumption) _ | exact Rdr.q (Rdr.alloc (by assumption) _) _) (by omega) (by omega)).mono ?_; rintro e w' ⟨rfl, nq, rfl⟩) | ((go_at_call 68; refine (escaped_any R _ r _ (by first | assumption | exact Rdr.q (by assumption) _ | exact Rdr.step1 (Rdr.q (by assumption) _) (by assumption) | exact Rdr.step1 (by assumption) (by assumption) | exact Rdr.q (Rdr.step1 (Rdr.q (by assumption) _) (by assumption)) _ | exact Rdr.q (Rdr.step1 (by assumption) (by assumption)) _ | exact Rdr.alloc (by assumption) _ | exact Rdr.q (Rdr.alloc (by assumption) _) _)).mono ?_; rintro e w3 ⟨rfl, h3, hx3⟩; have hc3 := h3.cells.1; have hf3 := h3.cells.2.1; have hR3 := Nat.lt_of_lt_of_le h3.rold h3.old); obtain ⟨y0, y1, y2, y3, y4, y5, e0, e1, e2, e3, e4, e5, i0, i1, i2, i3, i4, i5, hL3⟩ := Box.open6 (Box.ext hbox (S := fun k => k ≠ R) (by (repeat (with_reducible first | exact Ext.refl _ _ | refine Ext.alloc ?_ _ | refine Ext.setR ?_ _ _ | refine Ext.more ?_ _ | refine Ext.trans ?_ (by assumption) | refine Ext.trans ?_ (Ext.any (by assumption))))) (by omega))) | (go_at_call 42; refine (Put_any _ _).mono ?_; rintro e w2 ⟨rfl, hx, hpl⟩; have h2 := Rdr.extT (by first | assumption | exact Rdr.q (by assumption) _ | exact Rdr.step1 (Rdr.q (by assumption) _) (by assumption) | exact Rdr.step1 (by assumption) (by assumption) | exact Rdr.q (Rdr.step1 (Rdr.q (by assumption) _) (by assumption)) _ | exact Rdr.q (Rdr.step1 (by assumption) (by assumption)) _ | exact Rdr.alloc (by assumption) _ | exact Rdr.q (Rdr.alloc (by assumption) _) _) hx; have hc2 := h2.cells.1; have hf2 := h2.cells.2.1; have hR2 := Nat.lt_of_lt_of_le h2.rold h2.old; have hs2 := hx.size; try simp at hs2))
      go_roundg g
      case measure => omega
      case rel => exact ⟨a + 1, _, str_add _ _, by simp; omega, by (repeat (with_reducible first | assumption | exact Rdr.step1 (by assumption) (by assumption) | exact Rdr.step1 (Rdr.q (by assumption) _) (by assumption) | exact Rdr.step2 (Rdr.q (by assumption) _) (by assumption) | refine Rdr.alloc ?_ _ | refine Rdr.setOther ?_ h.old _ | refine Rdr.q ?_ _)), by (repeat (with_reducible first | assumption | exact Ext.refl _ _ | refine Ext.alloc ?_ _ | refine Ext.setL ?_ _ _ | refine Ext.setR ?_ _ _ | refine Ext.more ?_ _ | refine Ext.trans ?_ (by assumption) | refine Ext.trans ?_ (Ext.any (by assumption)))), Box.ext hbox (S := fun k => k ≠ R) (by (repeat (with_reducible first | exact Ext.refl _ _ | refine Ext.alloc ?_ _ | refine Ext.setR ?_ _ _ | refine Ext.more ?_ _ | refine Ext.trans ?_ (by assumption) | refine Ext.trans ?_ (Ext.any (by assumption))))) (by omega), by omega, E.out⟩
end Go.Proofs.YtihnffmnofinmaaDoor
