/- The reference's reader of signs: a number. -/
import Derived.Test.YtihnffmnofinmaaDoorRdrD
import Derived.Deep.DeepCutAuto
namespace Go.Proofs.YtihnffmnofinmaaDoor
open Go.RowKit

theorem Ref.digitsRun_at (r : List Int) : ∀ (f a : Nat) (l : List UInt8), a ≤ r.length → l.length ≤ 4 * a → a ≤ (Ref.digitsRun r f a l).2 ∧ (Ref.digitsRun r f a l).2 ≤ r.length ∧ (Ref.digitsRun r f a l).1.length ≤ 4 * (Ref.digitsRun r f a l).2
  | 0, a, l, h, hl => ⟨Nat.le_refl _, h, hl⟩
  | f + 1, a, l, h, hl => by
    unfold Ref.digitsRun
    split
    · have hp := Ref.put_len (Ref.sgn r a)
      have := Ref.digitsRun_at r f (a + 1) (l ++ Ref.put (Ref.sgn r a)) (Ref.digit_lt (by assumption)) (by simp; omega)
      exact ⟨by omega, this.2⟩
    · exact ⟨Nat.le_refl _, h, hl⟩
theorem Ref.digits_at {r : List Int} {a : Nat} (h : a ≤ r.length) : a ≤ (Ref.digits r a).2 ∧ (Ref.digits r a).2 ≤ r.length ∧ (Ref.digits r a).1.length ≤ 4 * (Ref.digits r a).2 := Ref.digitsRun_at r _ a [] h (by simp)

/-- What number has of the world: the reader's place, its own result's block, all else as it was. -/
structure Num (B R : Nat) (r : List Int) (w : World) (a : Nat) (x : World) : Prop where
  rdr : Rdr x B R r a
  ext : Ext (fun k => k ≠ R) w x
  box : Box x w.heap.size 6
theorem Num.rB {B R : Nat} {r : List Int} {w x : World} {a : Nat} (h : Num B R r w a x) : R < x.heap.size := Nat.lt_of_lt_of_le h.rdr.rold h.rdr.old


theorem cells6 {w : World} {b : Nat} {a0 a1 a2 a3 a4 a5 : Value} {T : TypeId} (hb : w.heap[b]? = some (.cells #[a0, a1, a2, a3, a4, a5] T (0, 0))) :
    (w.cell? ⟨b, 0, none⟩ = some a0 ∧ w.cell? ⟨b, 1, none⟩ = some a1 ∧ w.cell? ⟨b, 2, none⟩ = some a2 ∧ w.cell? ⟨b, 3, none⟩ = some a3 ∧ w.cell? ⟨b, 4, none⟩ = some a4 ∧ w.cell? ⟨b, 5, none⟩ = some a5) ∧
    w.frozen? ⟨b, 0, none⟩ = false ∧ w.frozen? ⟨b, 1, none⟩ = false ∧ w.frozen? ⟨b, 2, none⟩ = false ∧ b < w.heap.size :=
  ⟨⟨block_cell hb 0, block_cell hb 1, block_cell hb 2, block_cell hb 3, block_cell hb 4, block_cell hb 5⟩, block_free hb 0, block_free hb 1, block_free hb 2, block_lt hb⟩
theorem Rdr.setO {w : World} {B R at_ : Nat} {r : List Int} {p : Addr} (hp : B ≤ p.block) (v : Value) (h : Rdr w B R r at_) : Rdr (w.setCell p v) B R r at_ := h.setOther hp v
theorem tok_kind {w : World} {b : Nat} {a0 a1 a2 a3 a4 a5 : Value} {T : TypeId} (hb : w.heap[b]? = some (.cells #[a0, a1, a2, a3, a4, a5] T (0, 0))) (k : Value) : (w.setCell ⟨b, 0, none⟩ k).heap[b]? = some (.cells #[k, a1, a2, a3, a4, a5] T (0, 0)) := by simpa using block_set hb 0 k
theorem tok_num {w : World} {b : Nat} {a0 a1 a2 a3 a4 a5 : Value} {T : TypeId} (hb : w.heap[b]? = some (.cells #[a0, a1, a2, a3, a4, a5] T (0, 0))) (k : Value) : (w.setCell ⟨b, 2, none⟩ k).heap[b]? = some (.cells #[a0, a1, k, a3, a4, a5] T (0, 0)) := by simpa using block_set hb 2 k
theorem drewN_heap {w : World} {b n : Nat} {o : Obj} (h : w.heap[b]? = some o) : (w.drewN n).heap[b]? = some o := h
set_option maxRecDepth 100000 in
set_option maxHeartbeats 8000000 in
theorem number_any {B : Nat} (R at_ : Nat) (r : List Int) (w : World) (h : Rdr w B R r at_) :
    Calls Tryd.prog 51 #[.pointer (some ⟨R, 0, none⟩)] w (Ret (Ref.number r at_).1.val (Moved B R r (Ref.number r at_).2 w)) := by
  obtain ⟨F, hF⟩ : ∃ F, F = Ref.number r at_ := ⟨_, rfl⟩
  rw [← hF]
  have HF := Lib.hid hF
  clear hF
  have hR := Nat.lt_of_lt_of_le h.rold h.old
  have hln := h.runes.len
  have hle := h.le
  go_enter Tryd.func51, Tryd.ntmps51
  go_upto_region 2 with fail
  have hn : Num B R r w at_ (w.alloc (.cells #[.int .i64 0, .string ⟨#[]⟩, .int .i64 0, .bool false, .bool false, .bool false] 46)) := ⟨h.alloc _, (Ext.refl _ _).alloc _, Box.new w _ _⟩
  go_cut [4] (fun s4 wx => s4 = .bool (decide (Ref.sgn r at_ = 43 ∨ Ref.sgn r at_ = 45)) ∧ Num B R r w at_ wx)
  case first => --S
    obtain ⟨hr, hx0, hb⟩ := hn
    go_wp2_with (first | (go_at_call 28; refine (sign_any R _ _ r _ (by first | assumption | exact Rdr.q (by assumption) _ | exact Rdr.step1 (Rdr.q (by assumption) _) (by assumption) | exact Rdr.step1 (by assumption) (by assumption) | exact Rdr.q (Rdr.step1 (Rdr.q (by assumption) _) (by assumption)) _ | exact Rdr.q (Rdr.step1 (by assumption) (by assumption)) _ | exact Rdr.alloc (by assumption) _ | exact Rdr.q (Rdr.alloc (by assumption) _) _ | exact Rdr.step2 (Rdr.q (by assumption) _) (by assumption) | exact Rdr.step2 (by assumption) (by assumption)) (by omega) (by omega)).mono ?_; rintro e w' ⟨rfl, nq, rfl⟩))
    all_goals (go_meet; exact ⟨congrArg Value.bool (by rw [Bool.eq_iff_iff]; simp_all), ⟨by (repeat (with_reducible first | assumption | exact Rdr.step1 (by assumption) (by assumption) | exact Rdr.step1 (Rdr.q (by assumption) _) (by assumption) | exact Rdr.step2 (Rdr.q (by assumption) _) (by assumption) | exact Rdr.step2 (by assumption) (by assumption) | refine Rdr.alloc ?_ _ | refine Rdr.setOther ?_ h.old _ | refine Rdr.q ?_ _)), by (repeat (with_reducible first | assumption | exact Ext.refl _ _ | refine Ext.alloc ?_ _ | refine Ext.setL ?_ _ _ | refine Ext.setR ?_ _ _ | refine Ext.more ?_ _ | refine Ext.trans ?_ (by assumption) | refine Ext.trans ?_ (Ext.any (by assumption)))), Box.ext (by assumption) (S := fun k => k ≠ R) (by (repeat (with_reducible first | exact Ext.refl _ _ | refine Ext.alloc ?_ _ | refine Ext.setR ?_ _ _ | refine Ext.more ?_ _ | refine Ext.trans ?_ (by assumption) | refine Ext.trans ?_ (Ext.any (by assumption))))) (by omega)⟩⟩)
  clear hn
  obtain ⟨rfl, hn⟩ := hcut
  obtain ⟨sg, hsg⟩ : ∃ sg, sg = decide (Ref.sgn r at_ = 43 ∨ Ref.sgn r at_ = 45) := ⟨_, rfl⟩
  rw [← hsg]
  obtain ⟨hd, hhd⟩ : ∃ hd, hd = Ref.numHead r at_ := ⟨_, rfl⟩
  have Hsg := Lib.hid hsg
  clear hsg
  go_upto_if 16 with fail
  go_cut [3, 4] (fun s3 s4 wx => s4 = .bool sg ∧ s3 = .string ⟨hd.1.toArray⟩ ∧ hd.1.length ≤ 4 ∧ Num B R r w hd.2 wx)
  case first => --S
    obtain ⟨hr, hx0, hb⟩ := hn
    have hc := hr.cells.1
    have hfz := hr.cells.2.1
    have hRr := Nat.lt_of_lt_of_le hr.rold hr.old
    unfold Ref.numHead at hhd
    by_cases hs : Ref.sgn r at_ = 43 ∨ Ref.sgn r at_ = 45
    · rw [if_pos hs] at hhd
      subst hhd
      have hlt : at_ + 1 ≤ r.length := Ref.lt_of_sgn (by omega)
      obtain rfl : sg = true := by rw [Hsg.out]; simp [hs]
      go_wp2_with (first | (go_at_call 28; refine (sign_any R _ _ r _ (by first | assumption | exact Rdr.q (by assumption) _ | exact Rdr.step1 (Rdr.q (by assumption) _) (by assumption) | exact Rdr.step1 (by assumption) (by assumption) | exact Rdr.q (Rdr.step1 (Rdr.q (by assumption) _) (by assumption)) _ | exact Rdr.q (Rdr.step1 (by assumption) (by assumption)) _ | exact Rdr.alloc (by assumption) _ | exact Rdr.q (Rdr.alloc (by assumption) _) _ | exact Rdr.step2 (Rdr.q (by assumption) _) (by assumption) | exact Rdr.step2 (by assumption) (by assumption)) (by omega) (by omega)).mono ?_; rintro e w' ⟨rfl, nq, rfl⟩) | (go_at_call 42; refine (Put_any _ _).mono ?_; rintro e w2 ⟨rfl, hx, hpl⟩; have h2 := Rdr.extT (by first | assumption | exact Rdr.q (by assumption) _ | exact Rdr.step1 (Rdr.q (by assumption) _) (by assumption) | exact Rdr.step1 (by assumption) (by assumption) | exact Rdr.q (Rdr.step1 (Rdr.q (by assumption) _) (by assumption)) _ | exact Rdr.q (Rdr.step1 (by assumption) (by assumption)) _ | exact Rdr.alloc (by assumption) _ | exact Rdr.q (Rdr.alloc (by assumption) _) _ | exact Rdr.step2 (Rdr.q (by assumption) _) (by assumption) | exact Rdr.step2 (by assumption) (by assumption)) hx; have hc2 := h2.cells.1; have hf2 := h2.cells.2.1; have hR2 := Nat.lt_of_lt_of_le h2.rold h2.old))
      go_meet
      case rel => exact ⟨rfl, rfl, hpl, ⟨by (repeat (with_reducible first | assumption | exact Rdr.step1 (by assumption) (by assumption) | exact Rdr.step1 (Rdr.q (by assumption) _) (by assumption) | exact Rdr.step2 (Rdr.q (by assumption) _) (by assumption) | exact Rdr.step2 (by assumption) (by assumption) | refine Rdr.alloc ?_ _ | refine Rdr.setOther ?_ h.old _ | refine Rdr.q ?_ _)), by (repeat (with_reducible first | assumption | exact Ext.refl _ _ | refine Ext.alloc ?_ _ | refine Ext.setL ?_ _ _ | refine Ext.setR ?_ _ _ | refine Ext.more ?_ _ | refine Ext.trans ?_ (by assumption) | refine Ext.trans ?_ (Ext.any (by assumption)))), Box.ext (by assumption) (S := fun k => k ≠ R) (by (repeat (with_reducible first | exact Ext.refl _ _ | refine Ext.alloc ?_ _ | refine Ext.setR ?_ _ _ | refine Ext.more ?_ _ | refine Ext.trans ?_ (by assumption) | refine Ext.trans ?_ (Ext.any (by assumption))))) (by omega)⟩⟩
    · rw [if_neg hs] at hhd
      subst hhd
      obtain rfl : sg = false := by rw [Hsg.out]; simp [hs]
      go_wp2_with fail
      go_meet
      case rel => exact ⟨rfl, rfl, Nat.zero_le _, ⟨by (repeat (with_reducible first | assumption | exact Rdr.step1 (by assumption) (by assumption) | exact Rdr.step1 (Rdr.q (by assumption) _) (by assumption) | exact Rdr.step2 (Rdr.q (by assumption) _) (by assumption) | exact Rdr.step2 (by assumption) (by assumption) | refine Rdr.alloc ?_ _ | refine Rdr.setOther ?_ h.old _ | refine Rdr.q ?_ _)), by (repeat (with_reducible first | assumption | exact Ext.refl _ _ | refine Ext.alloc ?_ _ | refine Ext.setL ?_ _ _ | refine Ext.setR ?_ _ _ | refine Ext.more ?_ _ | refine Ext.trans ?_ (by assumption) | refine Ext.trans ?_ (Ext.any (by assumption)))), Box.ext (by assumption) (S := fun k => k ≠ R) (by (repeat (with_reducible first | exact Ext.refl _ _ | refine Ext.alloc ?_ _ | refine Ext.setR ?_ _ _ | refine Ext.more ?_ _ | refine Ext.trans ?_ (by assumption) | refine Ext.trans ?_ (Ext.any (by assumption))))) (by omega)⟩⟩
  clear hn
  have Hhd := Lib.hid hhd
  clear hhd
  obtain ⟨rfl, rfl, hhl, hr, hx0, hb⟩ := hcut
  have hl1 := hr.le
  have hdg := Ref.digits_at hl1
  go_upto_region 8 with (first | (go_at_call 70; refine (digits_any R _ r _ (by first | assumption | exact Rdr.q (by assumption) _ | exact Rdr.step1 (Rdr.q (by assumption) _) (by assumption) | exact Rdr.step1 (by assumption) (by assumption) | exact Rdr.q (Rdr.step1 (Rdr.q (by assumption) _) (by assumption)) _ | exact Rdr.q (Rdr.step1 (by assumption) (by assumption)) _ | exact Rdr.alloc (by assumption) _ | exact Rdr.q (Rdr.alloc (by assumption) _) _ | exact Rdr.step2 (Rdr.q (by assumption) _) (by assumption) | exact Rdr.step2 (by assumption) (by assumption))).mono ?_; rintro e w3 ⟨rfl, h3, hx3⟩; have hc3 := h3.cells.1; have hf3 := h3.cells.2.1; have hR3 := Nat.lt_of_lt_of_le h3.rold h3.old))
  -- the point
  obtain ⟨p, hp⟩ : ∃ p, p = Ref.numPoint r (true, (Ref.digits r hd.2).2) := ⟨_, rfl⟩
  generalize hdd : Ref.digits r hd.2 = dd at *
  have Hdd := Lib.hid hdd
  clear hdd
  obtain ⟨d1, d2⟩ := dd
  have Hp := Lib.hid hp
  clear hp
  simp only at hdg h3 hc3
  obtain ⟨pt, hpt⟩ : ∃ pt, pt = (decide (Ref.sgn r d2 = 46) && Ref.digit (Ref.sgn r (d2 + 1))) := ⟨_, rfl⟩
  have Hpt := Lib.hid hpt
  clear hpt
  have hn : Num B R r w d2 w3 := ⟨h3, hx0.trans hx3, hb.ext hx3 (by omega)⟩
  clear hr hx0 hb hx3 hc3 hf3 hR3 h3
  go_cut [38] (fun s wx => s = .bool pt ∧ Num B R r w d2 wx)
  case first => --S
    obtain ⟨hr, hx0, hb⟩ := hn
    go_wp2_with (first | (go_at_call 28; refine (sign_any R _ _ r _ (by first | assumption | exact Rdr.q (by assumption) _ | exact Rdr.step1 (Rdr.q (by assumption) _) (by assumption) | exact Rdr.step1 (by assumption) (by assumption) | exact Rdr.q (Rdr.step1 (Rdr.q (by assumption) _) (by assumption)) _ | exact Rdr.q (Rdr.step1 (by assumption) (by assumption)) _ | exact Rdr.alloc (by assumption) _ | exact Rdr.q (Rdr.alloc (by assumption) _) _ | exact Rdr.step2 (Rdr.q (by assumption) _) (by assumption) | exact Rdr.step2 (by assumption) (by assumption)) (by omega) (by omega)).mono ?_; rintro e w' ⟨rfl, nq, rfl⟩) | (go_at_call 49; refine (Digit_any _ _).mono ?_; rintro e w' ⟨rfl, rfl⟩))
    all_goals (go_meet; exact ⟨congrArg Value.bool (by rw [Hpt.out, Bool.eq_iff_iff]; simp_all), ⟨by (repeat (with_reducible first | assumption | exact Rdr.step1 (by assumption) (by assumption) | exact Rdr.step1 (Rdr.q (by assumption) _) (by assumption) | exact Rdr.step2 (Rdr.q (by assumption) _) (by assumption) | exact Rdr.step2 (by assumption) (by assumption) | refine Rdr.alloc ?_ _ | refine Rdr.setOther ?_ h.old _ | refine Rdr.q ?_ _)), by (repeat (with_reducible first | assumption | exact Ext.refl _ _ | refine Ext.alloc ?_ _ | refine Ext.setL ?_ _ _ | refine Ext.setR ?_ _ _ | refine Ext.more ?_ _ | refine Ext.trans ?_ (by assumption) | refine Ext.trans ?_ (Ext.any (by assumption)))), Box.ext (by assumption) (S := fun k => k ≠ R) (by (repeat (with_reducible first | exact Ext.refl _ _ | refine Ext.alloc ?_ _ | refine Ext.setR ?_ _ _ | refine Ext.more ?_ _ | refine Ext.trans ?_ (by assumption) | refine Ext.trans ?_ (Ext.any (by assumption))))) (by omega)⟩⟩)
  clear hn
  obtain ⟨rfl, hn⟩ := hcut
  go_upto_if 38 with fail
  go_cut [5] (fun s5 wx => s5 = .bool p.1 ∧ Num B R r w p.2 wx)
  case first => --S
    obtain ⟨hr, hx0, hb⟩ := hn
    have hc := hr.cells.1
    have hfz := hr.cells.2.1
    have hRr := Nat.lt_of_lt_of_le hr.rold hr.old
    have hp := Hp.out
    unfold Ref.numPoint at hp
    rw [← Hpt.out] at hp
    cases pt
    · simp only [Bool.false_eq_true, ↓reduceIte] at hp
      subst hp
      go_wp2_with fail
      go_meet
      case rel => exact ⟨rfl, ⟨by (repeat (with_reducible first | assumption | exact Rdr.step1 (by assumption) (by assumption) | exact Rdr.step1 (Rdr.q (by assumption) _) (by assumption) | exact Rdr.step2 (Rdr.q (by assumption) _) (by assumption) | exact Rdr.step2 (by assumption) (by assumption) | refine Rdr.alloc ?_ _ | refine Rdr.setOther ?_ h.old _ | refine Rdr.q ?_ _)), by (repeat (with_reducible first | assumption | exact Ext.refl _ _ | refine Ext.alloc ?_ _ | refine Ext.setL ?_ _ _ | refine Ext.setR ?_ _ _ | refine Ext.more ?_ _ | refine Ext.trans ?_ (by assumption) | refine Ext.trans ?_ (Ext.any (by assumption)))), Box.ext (by assumption) (S := fun k => k ≠ R) (by (repeat (with_reducible first | exact Ext.refl _ _ | refine Ext.alloc ?_ _ | refine Ext.setR ?_ _ _ | refine Ext.more ?_ _ | refine Ext.trans ?_ (by assumption) | refine Ext.trans ?_ (Ext.any (by assumption))))) (by omega)⟩⟩
    · simp only [↓reduceIte] at hp
      subst hp
      have hlt : d2 + 1 ≤ r.length := Ref.lt_of_sgn (by have := Hpt.out; simp at this; omega)
      go_wp2_with (first | (go_at_call 70; refine (digits_any R _ r _ (by first | assumption | exact Rdr.q (by assumption) _ | exact Rdr.step1 (Rdr.q (by assumption) _) (by assumption) | exact Rdr.step1 (by assumption) (by assumption) | exact Rdr.q (Rdr.step1 (Rdr.q (by assumption) _) (by assumption)) _ | exact Rdr.q (Rdr.step1 (by assumption) (by assumption)) _ | exact Rdr.alloc (by assumption) _ | exact Rdr.q (Rdr.alloc (by assumption) _) _ | exact Rdr.step2 (Rdr.q (by assumption) _) (by assumption) | exact Rdr.step2 (by assumption) (by assumption))).mono ?_; rintro e w3 ⟨rfl, h3, hx3⟩; have hc3 := h3.cells.1; have hf3 := h3.cells.2.1; have hR3 := Nat.lt_of_lt_of_le h3.rold h3.old))
      go_meet
      case rel => exact ⟨rfl, ⟨by (repeat (with_reducible first | assumption | exact Rdr.step1 (by assumption) (by assumption) | exact Rdr.step1 (Rdr.q (by assumption) _) (by assumption) | exact Rdr.step2 (Rdr.q (by assumption) _) (by assumption) | exact Rdr.step2 (by assumption) (by assumption) | refine Rdr.alloc ?_ _ | refine Rdr.setOther ?_ h.old _ | refine Rdr.q ?_ _)), by (repeat (with_reducible first | assumption | exact Ext.refl _ _ | refine Ext.alloc ?_ _ | refine Ext.setL ?_ _ _ | refine Ext.setR ?_ _ _ | refine Ext.more ?_ _ | refine Ext.trans ?_ (by assumption) | refine Ext.trans ?_ (Ext.any (by assumption)))), Box.ext (by assumption) (S := fun k => k ≠ R) (by (repeat (with_reducible first | exact Ext.refl _ _ | refine Ext.alloc ?_ _ | refine Ext.setR ?_ _ _ | refine Ext.more ?_ _ | refine Ext.trans ?_ (by assumption) | refine Ext.trans ?_ (Ext.any (by assumption))))) (by omega)⟩⟩
  clear hn Hpt
  obtain ⟨rfl, hr, hx0, hb⟩ := hcut
  -- the exponent
  obtain ⟨p1, p2⟩ := p
  obtain ⟨x, hx⟩ : ∃ x, x = Ref.numExp r (p1, p2) := ⟨_, rfl⟩
  have Hx := Lib.hid hx
  clear hx
  have hRc := Nat.lt_of_lt_of_le hr.rold hr.old
  have hn : Num B R r w p2 wc := ⟨hr, hx0, hb⟩
  clear hr hx0 hb
  simp only
  obtain ⟨ex, hex⟩ : ∃ ex, ex = (decide (Ref.sgn r p2 = 101) || decide (Ref.sgn r p2 = 69)) := ⟨_, rfl⟩
  have Hex := Lib.hid hex
  clear hex
  go_upto_region 12 with fail
  go_cut [55] (fun s wx => s = .bool ex ∧ Num B R r w p2 wx)
  case first => --S
    obtain ⟨hr, hx0, hb⟩ := hn
    go_wp2_with (first | (go_at_call 28; refine (sign_any R _ _ r _ (by first | assumption | exact Rdr.q (by assumption) _ | exact Rdr.step1 (Rdr.q (by assumption) _) (by assumption) | exact Rdr.step1 (by assumption) (by assumption) | exact Rdr.q (Rdr.step1 (Rdr.q (by assumption) _) (by assumption)) _ | exact Rdr.q (Rdr.step1 (by assumption) (by assumption)) _ | exact Rdr.alloc (by assumption) _ | exact Rdr.q (Rdr.alloc (by assumption) _) _ | exact Rdr.step2 (Rdr.q (by assumption) _) (by assumption) | exact Rdr.step2 (by assumption) (by assumption)) (by omega) (by omega)).mono ?_; rintro e w' ⟨rfl, nq, rfl⟩))
    all_goals (go_meet; exact ⟨congrArg Value.bool (by rw [Hex.out, Bool.eq_iff_iff]; simp_all), ⟨by (repeat (with_reducible first | assumption | exact Rdr.step1 (by assumption) (by assumption) | exact Rdr.step1 (Rdr.q (by assumption) _) (by assumption) | exact Rdr.step2 (Rdr.q (by assumption) _) (by assumption) | exact Rdr.step2 (by assumption) (by assumption) | refine Rdr.alloc ?_ _ | refine Rdr.setOther ?_ h.old _ | refine Rdr.q ?_ _)), by (repeat (with_reducible first | assumption | exact Ext.refl _ _ | refine Ext.alloc ?_ _ | refine Ext.setL ?_ _ _ | refine Ext.setR ?_ _ _ | refine Ext.more ?_ _ | refine Ext.trans ?_ (by assumption) | refine Ext.trans ?_ (Ext.any (by assumption)))), Box.ext (by assumption) (S := fun k => k ≠ R) (by (repeat (with_reducible first | exact Ext.refl _ _ | refine Ext.alloc ?_ _ | refine Ext.setR ?_ _ _ | refine Ext.more ?_ _ | refine Ext.trans ?_ (by assumption) | refine Ext.trans ?_ (Ext.any (by assumption))))) (by omega)⟩⟩)
  clear hn
  obtain ⟨rfl, hn⟩ := hcut
  go_upto_if 55 with fail
  go_cut [5] (fun s5 wx => s5 = .bool x.1 ∧ Num B R r w x.2 wx)
  case first => --S
    obtain ⟨hr, hx0, hb⟩ := hn
    have hc := hr.cells.1
    have hfz := hr.cells.2.1
    have hRr := Nat.lt_of_lt_of_le hr.rold hr.old
    have hx := Hx.out
    unfold Ref.numExp at hx
    simp only at hx
    rw [← Hex.out] at hx
    cases ex
    · simp only [Bool.false_and, Bool.false_eq_true, ↓reduceIte] at hx
      subst hx
      go_wp2_with fail
      go_meet
      case rel => exact ⟨rfl, ⟨by (repeat (with_reducible first | assumption | exact Rdr.step1 (by assumption) (by assumption) | exact Rdr.step1 (Rdr.q (by assumption) _) (by assumption) | exact Rdr.step2 (Rdr.q (by assumption) _) (by assumption) | exact Rdr.step2 (by assumption) (by assumption) | refine Rdr.alloc ?_ _ | refine Rdr.setOther ?_ h.old _ | refine Rdr.q ?_ _)), by (repeat (with_reducible first | assumption | exact Ext.refl _ _ | refine Ext.alloc ?_ _ | refine Ext.setL ?_ _ _ | refine Ext.setR ?_ _ _ | refine Ext.more ?_ _ | refine Ext.trans ?_ (by assumption) | refine Ext.trans ?_ (Ext.any (by assumption)))), Box.ext (by assumption) (S := fun k => k ≠ R) (by (repeat (with_reducible first | exact Ext.refl _ _ | refine Ext.alloc ?_ _ | refine Ext.setR ?_ _ _ | refine Ext.more ?_ _ | refine Ext.trans ?_ (by assumption) | refine Ext.trans ?_ (Ext.any (by assumption))))) (by omega)⟩⟩
    · simp only [Bool.true_and] at hx
      have hlt0 : p2 + 1 ≤ r.length := Ref.lt_of_sgn (by have := Hex.out; simp at this; omega)
      have H2 := Lib.hid hx
      clear hx
      unfold Ref.expK at H2
      by_cases hk1 : Ref.sgn r (p2 + 1) = 43 ∨ Ref.sgn r (p2 + 1) = 45
      · have H3 := H2.out
        rw [if_pos hk1] at H3
        have hdp : Ref.digit (Ref.sgn r (p2 + 2)) = true → p2 + 2 ≤ r.length := fun e => Nat.le_of_lt (Ref.digit_lt e)
        by_cases hdg2 : Ref.digit (Ref.sgn r (p2 + 2)) = true
        · have hlt2 := hdp hdg2
          rw [if_pos hdg2] at H3
          subst H3
          clear hdp H2
          rcases hk1 with hk1 | hk1
          all_goals go_wp2_with (first | (go_at_call 28; refine (sign_any R _ _ r _ (by first | assumption | exact Rdr.q (by assumption) _ | exact Rdr.step1 (Rdr.q (by assumption) _) (by assumption) | exact Rdr.step1 (by assumption) (by assumption) | exact Rdr.q (Rdr.step1 (Rdr.q (by assumption) _) (by assumption)) _ | exact Rdr.q (Rdr.step1 (by assumption) (by assumption)) _ | exact Rdr.alloc (by assumption) _ | exact Rdr.q (Rdr.alloc (by assumption) _) _ | exact Rdr.step2 (Rdr.q (by assumption) _) (by assumption) | exact Rdr.step2 (by assumption) (by assumption)) (by omega) (by omega)).mono ?_; rintro e w' ⟨rfl, nq, rfl⟩) | (go_at_call 49; refine (Digit_any _ _).mono ?_; rintro e w' ⟨rfl, rfl⟩) | (go_at_call 70; refine (digits_any R _ r _ (by first | assumption | exact Rdr.q (by assumption) _ | exact Rdr.step1 (Rdr.q (by assumption) _) (by assumption) | exact Rdr.step1 (by assumption) (by assumption) | exact Rdr.q (Rdr.step1 (Rdr.q (by assumption) _) (by assumption)) _ | exact Rdr.q (Rdr.step1 (by assumption) (by assumption)) _ | exact Rdr.alloc (by assumption) _ | exact Rdr.q (Rdr.alloc (by assumption) _) _ | exact Rdr.step2 (Rdr.q (by assumption) _) (by assumption) | exact Rdr.step2 (by assumption) (by assumption))).mono ?_; rintro e w3 ⟨rfl, h3, hx3⟩; have hc3 := h3.cells.1; have hf3 := h3.cells.2.1; have hR3 := Nat.lt_of_lt_of_le h3.rold h3.old))
          all_goals go_meet
          all_goals exact ⟨rfl, ⟨by (repeat (with_reducible first | assumption | exact Rdr.step1 (by assumption) (by assumption) | exact Rdr.step1 (Rdr.q (by assumption) _) (by assumption) | exact Rdr.step2 (Rdr.q (by assumption) _) (by assumption) | exact Rdr.step2 (by assumption) (by assumption) | refine Rdr.alloc ?_ _ | refine Rdr.setOther ?_ h.old _ | refine Rdr.q ?_ _)), by (repeat (with_reducible first | assumption | exact Ext.refl _ _ | refine Ext.alloc ?_ _ | refine Ext.setL ?_ _ _ | refine Ext.setR ?_ _ _ | refine Ext.more ?_ _ | refine Ext.trans ?_ (by assumption) | refine Ext.trans ?_ (Ext.any (by assumption)))), Box.ext (by assumption) (S := fun k => k ≠ R) (by (repeat (with_reducible first | exact Ext.refl _ _ | refine Ext.alloc ?_ _ | refine Ext.setR ?_ _ _ | refine Ext.more ?_ _ | refine Ext.trans ?_ (by assumption) | refine Ext.trans ?_ (Ext.any (by assumption))))) (by omega)⟩⟩
        · rw [if_neg hdg2] at H3
          subst H3
          clear hdp H2
          rcases hk1 with hk1 | hk1
          all_goals go_wp2_with (first | (go_at_call 28; refine (sign_any R _ _ r _ (by first | assumption | exact Rdr.q (by assumption) _ | exact Rdr.step1 (Rdr.q (by assumption) _) (by assumption) | exact Rdr.step1 (by assumption) (by assumption) | exact Rdr.q (Rdr.step1 (Rdr.q (by assumption) _) (by assumption)) _ | exact Rdr.q (Rdr.step1 (by assumption) (by assumption)) _ | exact Rdr.alloc (by assumption) _ | exact Rdr.q (Rdr.alloc (by assumption) _) _ | exact Rdr.step2 (Rdr.q (by assumption) _) (by assumption) | exact Rdr.step2 (by assumption) (by assumption)) (by omega) (by omega)).mono ?_; rintro e w' ⟨rfl, nq, rfl⟩) | (go_at_call 49; refine (Digit_any _ _).mono ?_; rintro e w' ⟨rfl, rfl⟩) | (go_at_call 70; refine (digits_any R _ r _ (by first | assumption | exact Rdr.q (by assumption) _ | exact Rdr.step1 (Rdr.q (by assumption) _) (by assumption) | exact Rdr.step1 (by assumption) (by assumption) | exact Rdr.q (Rdr.step1 (Rdr.q (by assumption) _) (by assumption)) _ | exact Rdr.q (Rdr.step1 (by assumption) (by assumption)) _ | exact Rdr.alloc (by assumption) _ | exact Rdr.q (Rdr.alloc (by assumption) _) _ | exact Rdr.step2 (Rdr.q (by assumption) _) (by assumption) | exact Rdr.step2 (by assumption) (by assumption))).mono ?_; rintro e w3 ⟨rfl, h3, hx3⟩; have hc3 := h3.cells.1; have hf3 := h3.cells.2.1; have hR3 := Nat.lt_of_lt_of_le h3.rold h3.old))
          all_goals go_meet
          all_goals exact ⟨rfl, ⟨by (repeat (with_reducible first | assumption | exact Rdr.step1 (by assumption) (by assumption) | exact Rdr.step1 (Rdr.q (by assumption) _) (by assumption) | exact Rdr.step2 (Rdr.q (by assumption) _) (by assumption) | exact Rdr.step2 (by assumption) (by assumption) | refine Rdr.alloc ?_ _ | refine Rdr.setOther ?_ h.old _ | refine Rdr.q ?_ _)), by (repeat (with_reducible first | assumption | exact Ext.refl _ _ | refine Ext.alloc ?_ _ | refine Ext.setL ?_ _ _ | refine Ext.setR ?_ _ _ | refine Ext.more ?_ _ | refine Ext.trans ?_ (by assumption) | refine Ext.trans ?_ (Ext.any (by assumption)))), Box.ext (by assumption) (S := fun k => k ≠ R) (by (repeat (with_reducible first | exact Ext.refl _ _ | refine Ext.alloc ?_ _ | refine Ext.setR ?_ _ _ | refine Ext.more ?_ _ | refine Ext.trans ?_ (by assumption) | refine Ext.trans ?_ (Ext.any (by assumption))))) (by omega)⟩⟩
      · have H3 := H2.out
        rw [if_neg hk1] at H3
        have hk2 : (Ref.sgn r (p2 + 1) == 43) = false := by simp; omega
        have hk3 : (Ref.sgn r (p2 + 1) == 45) = false := by simp; omega
        by_cases hdg2 : Ref.digit (Ref.sgn r (p2 + 1)) = true
        · rw [if_pos hdg2] at H3
          subst H3
          clear H2 hk1
          go_wp2_with (first | (go_at_call 28; refine (sign_any R _ _ r _ (by first | assumption | exact Rdr.q (by assumption) _ | exact Rdr.step1 (Rdr.q (by assumption) _) (by assumption) | exact Rdr.step1 (by assumption) (by assumption) | exact Rdr.q (Rdr.step1 (Rdr.q (by assumption) _) (by assumption)) _ | exact Rdr.q (Rdr.step1 (by assumption) (by assumption)) _ | exact Rdr.alloc (by assumption) _ | exact Rdr.q (Rdr.alloc (by assumption) _) _ | exact Rdr.step2 (Rdr.q (by assumption) _) (by assumption) | exact Rdr.step2 (by assumption) (by assumption)) (by omega) (by omega)).mono ?_; rintro e w' ⟨rfl, nq, rfl⟩) | (go_at_call 49; refine (Digit_any _ _).mono ?_; rintro e w' ⟨rfl, rfl⟩) | (go_at_call 70; refine (digits_any R _ r _ (by first | assumption | exact Rdr.q (by assumption) _ | exact Rdr.step1 (Rdr.q (by assumption) _) (by assumption) | exact Rdr.step1 (by assumption) (by assumption) | exact Rdr.q (Rdr.step1 (Rdr.q (by assumption) _) (by assumption)) _ | exact Rdr.q (Rdr.step1 (by assumption) (by assumption)) _ | exact Rdr.alloc (by assumption) _ | exact Rdr.q (Rdr.alloc (by assumption) _) _ | exact Rdr.step2 (Rdr.q (by assumption) _) (by assumption) | exact Rdr.step2 (by assumption) (by assumption))).mono ?_; rintro e w3 ⟨rfl, h3, hx3⟩; have hc3 := h3.cells.1; have hf3 := h3.cells.2.1; have hR3 := Nat.lt_of_lt_of_le h3.rold h3.old))
          all_goals go_meet
          all_goals exact ⟨rfl, ⟨by (repeat (with_reducible first | assumption | exact Rdr.step1 (by assumption) (by assumption) | exact Rdr.step1 (Rdr.q (by assumption) _) (by assumption) | exact Rdr.step2 (Rdr.q (by assumption) _) (by assumption) | exact Rdr.step2 (by assumption) (by assumption) | refine Rdr.alloc ?_ _ | refine Rdr.setOther ?_ h.old _ | refine Rdr.q ?_ _)), by (repeat (with_reducible first | assumption | exact Ext.refl _ _ | refine Ext.alloc ?_ _ | refine Ext.setL ?_ _ _ | refine Ext.setR ?_ _ _ | refine Ext.more ?_ _ | refine Ext.trans ?_ (by assumption) | refine Ext.trans ?_ (Ext.any (by assumption)))), Box.ext (by assumption) (S := fun k => k ≠ R) (by (repeat (with_reducible first | exact Ext.refl _ _ | refine Ext.alloc ?_ _ | refine Ext.setR ?_ _ _ | refine Ext.more ?_ _ | refine Ext.trans ?_ (by assumption) | refine Ext.trans ?_ (Ext.any (by assumption))))) (by omega)⟩⟩
        · rw [if_neg hdg2] at H3
          subst H3
          clear H2 hk1
          go_wp2_with (first | (go_at_call 28; refine (sign_any R _ _ r _ (by first | assumption | exact Rdr.q (by assumption) _ | exact Rdr.step1 (Rdr.q (by assumption) _) (by assumption) | exact Rdr.step1 (by assumption) (by assumption) | exact Rdr.q (Rdr.step1 (Rdr.q (by assumption) _) (by assumption)) _ | exact Rdr.q (Rdr.step1 (by assumption) (by assumption)) _ | exact Rdr.alloc (by assumption) _ | exact Rdr.q (Rdr.alloc (by assumption) _) _ | exact Rdr.step2 (Rdr.q (by assumption) _) (by assumption) | exact Rdr.step2 (by assumption) (by assumption)) (by omega) (by omega)).mono ?_; rintro e w' ⟨rfl, nq, rfl⟩) | (go_at_call 49; refine (Digit_any _ _).mono ?_; rintro e w' ⟨rfl, rfl⟩) | (go_at_call 70; refine (digits_any R _ r _ (by first | assumption | exact Rdr.q (by assumption) _ | exact Rdr.step1 (Rdr.q (by assumption) _) (by assumption) | exact Rdr.step1 (by assumption) (by assumption) | exact Rdr.q (Rdr.step1 (Rdr.q (by assumption) _) (by assumption)) _ | exact Rdr.q (Rdr.step1 (by assumption) (by assumption)) _ | exact Rdr.alloc (by assumption) _ | exact Rdr.q (Rdr.alloc (by assumption) _) _ | exact Rdr.step2 (Rdr.q (by assumption) _) (by assumption) | exact Rdr.step2 (by assumption) (by assumption))).mono ?_; rintro e w3 ⟨rfl, h3, hx3⟩; have hc3 := h3.cells.1; have hf3 := h3.cells.2.1; have hR3 := Nat.lt_of_lt_of_le h3.rold h3.old))
          all_goals go_meet
          all_goals exact ⟨rfl, ⟨by (repeat (with_reducible first | assumption | exact Rdr.step1 (by assumption) (by assumption) | exact Rdr.step1 (Rdr.q (by assumption) _) (by assumption) | exact Rdr.step2 (Rdr.q (by assumption) _) (by assumption) | exact Rdr.step2 (by assumption) (by assumption) | refine Rdr.alloc ?_ _ | refine Rdr.setOther ?_ h.old _ | refine Rdr.q ?_ _)), by (repeat (with_reducible first | assumption | exact Ext.refl _ _ | refine Ext.alloc ?_ _ | refine Ext.setL ?_ _ _ | refine Ext.setR ?_ _ _ | refine Ext.more ?_ _ | refine Ext.trans ?_ (by assumption) | refine Ext.trans ?_ (Ext.any (by assumption)))), Box.ext (by assumption) (S := fun k => k ≠ R) (by (repeat (with_reducible first | exact Ext.refl _ _ | refine Ext.alloc ?_ _ | refine Ext.setR ?_ _ _ | refine Ext.more ?_ _ | refine Ext.trans ?_ (by assumption) | refine Ext.trans ?_ (Ext.any (by assumption))))) (by omega)⟩⟩
  clear hn Hex
  obtain ⟨rfl, hn⟩ := hcut
  have hW : Ref.numWhole r at_ = (hd.1 ++ d1, d2) := by unfold Ref.numWhole; rw [← Hhd.out, Hdd.out]
  have hF : F = if Ref.names r x.2 then ({ kind := 12, text := (Ref.name r x.2).1, num := if x.1 then Ref.int (hd.1 ++ d1) else 0, whole := x.1, sign := sg }, (Ref.name r x.2).2)
      else if Ref.sgn r x.2 = 37 then ({ kind := 11, num := if x.1 then Ref.int (hd.1 ++ d1) else 0, whole := x.1, sign := sg }, x.2 + 1)
      else ({ kind := 10, num := if x.1 then Ref.int (hd.1 ++ d1) else 0, whole := x.1, sign := sg }, x.2) := by
    rw [HF.out]; unfold Ref.number; simp only [hW]; rw [← Hp.out, ← Hx.out, Hsg.out]
  have HG := Lib.hid hF
  have hlen2 : (hd.1 ++ d1).length ≤ 4503599627370496 := by simp; omega
  rw [ByteArray.mk_append_mk]
  generalize hd.1 ++ d1 = txt at *
  clear hW hF HF Hp Hx Hdd Hhd Hsg hdg hhl
  obtain ⟨wh, a2⟩ := x
  obtain ⟨hr, hx0, hb⟩ := hn
  simp only at hr HG ⊢
  have hRw := Nat.lt_of_lt_of_le hr.rold hr.old
  obtain ⟨y0, y1, y2, y3, y4, y5, b0, b1, b2, b3, b4, b5, e0, e1, e2, e3, e4, e5, hL⟩ := hb.open6
  obtain ⟨num, hnum⟩ : ∃ num, num = if wh then Ref.int txt else 0 := ⟨_, rfl⟩
  rw [← hnum] at HG
  have Hnum := Lib.hid hnum
  clear hnum
  have hBw := hr.old
  have hSG := sg
  by_cases hnm : Ref.names r a2 = true
  · have hG := HG.out
    rw [if_pos hnm] at hG
    subst hG
    clear HG
    cases wh
    · obtain rfl : num = 0 := Hnum.out
      go_wp2_with (first | (go_at_call 28; refine (sign_any R _ _ r _ (by (repeat (with_reducible first | assumption | exact Rdr.step1 (by assumption) (by assumption) | exact Rdr.step1 (Rdr.q (by assumption) _) (by assumption) | apply Rdr.alloc | apply Rdr.setO h.old _ | apply Rdr.setO hBw _ | exact Rdr.step1 (Rdr.q (Rdr.alloc (by assumption) _) _) (by assumption) | exact Rdr.step1 (Rdr.q (Rdr.setO hBw _ (Rdr.alloc (by assumption) _)) _) (by assumption) | apply Rdr.q))) (by omega) (by omega)).mono ?_; rintro e w' ⟨rfl, nq, rfl⟩) | (go_at_call 47; refine (names_any R _ _ r _ (by (repeat (with_reducible first | assumption | exact Rdr.step1 (by assumption) (by assumption) | exact Rdr.step1 (Rdr.q (by assumption) _) (by assumption) | apply Rdr.alloc | apply Rdr.setO h.old _ | apply Rdr.setO hBw _ | exact Rdr.step1 (Rdr.q (Rdr.alloc (by assumption) _) _) (by assumption) | exact Rdr.step1 (Rdr.q (Rdr.setO hBw _ (Rdr.alloc (by assumption) _)) _) (by assumption) | apply Rdr.q))) (by omega) (by omega)).mono ?_; rintro e w' ⟨rfl, nq, rfl⟩) | (go_at_call 25; refine (Int_any _ _ (by omega)).mono ?_; rintro e w' ⟨rfl, rfl⟩) | (go_at_call 48; refine (name_any R _ r _ (by (repeat (with_reducible first | assumption | exact Rdr.step1 (by assumption) (by assumption) | exact Rdr.step1 (Rdr.q (by assumption) _) (by assumption) | apply Rdr.alloc | apply Rdr.setO h.old _ | apply Rdr.setO hBw _ | exact Rdr.step1 (Rdr.q (Rdr.alloc (by assumption) _) _) (by assumption) | exact Rdr.step1 (Rdr.q (Rdr.setO hBw _ (Rdr.alloc (by assumption) _)) _) (by assumption) | apply Rdr.q)))).mono ?_; rintro e w4 ⟨rfl, h4, hx4⟩; have hc4 := h4.cells.1; have hf4 := h4.cells.2.1; have hR4 := Nat.lt_of_lt_of_le h4.rold h4.old; obtain ⟨⟨t0, t1, t2, t3, t4, t5⟩, tf0, tf1, tf2, hX4⟩ := cells6 (Ext.heap hx4 (k := wc.heap.size) (by omega) (by (repeat (with_reducible first | exact block_new _ _ | apply tok_kind | apply tok_num | apply drewN_heap)))); obtain ⟨z0, z1, z2, z3, z4, z5, g0, g1, g2, g3, g4, g5, i0, i1, i2, i3, i4, i5, hL4⟩ := Box.open6 (Box.ext (w' := w4) hb (S := fun k => k ≠ R) (by (repeat (with_reducible first | assumption | exact Ext.refl _ _ | refine Ext.alloc ?_ _ | refine Ext.setL ?_ _ _ | refine Ext.setR ?_ _ _ | refine Ext.more ?_ _ | refine Ext.setCell ?_ _ _ (.inr (Nat.le_of_lt hL)) | refine Ext.trans ?_ (by assumption) | refine Ext.trans ?_ (Ext.any (by assumption))))) (by omega))))
      refine bodyPost_ret (v := Tok.val { kind := 12, text := (Ref.name r a2).1, num := 0, whole := _, sign := sg }) ?pv rfl ⟨rfl, ?pr, ?px⟩
      case pv => simp [results, go_sem, Tok.val, Tok.vals, *]
      case pr => (repeat (with_reducible first | assumption | exact Rdr.step1 (by assumption) (by assumption) | exact Rdr.step1 (Rdr.q (by assumption) _) (by assumption) | apply Rdr.alloc | apply Rdr.setO h.old _ | apply Rdr.setO hBw _ | exact Rdr.step1 (Rdr.q (Rdr.alloc (by assumption) _) _) (by assumption) | exact Rdr.step1 (Rdr.q (Rdr.setO hBw _ (Rdr.alloc (by assumption) _)) _) (by assumption) | apply Rdr.q))
      case px => (repeat (with_reducible first | assumption | exact Ext.refl _ _ | refine Ext.alloc ?_ _ | refine Ext.setL ?_ _ _ | refine Ext.setR ?_ _ _ | refine Ext.more ?_ _ | refine Ext.setCell ?_ _ _ (.inr (Nat.le_of_lt hL)) | refine Ext.trans ?_ (by assumption) | refine Ext.trans ?_ (Ext.any (by assumption))))
    · obtain rfl : num = Ref.int txt := by have HN := Hnum.out; rw [if_pos rfl] at HN; exact HN
      clear Hnum
      go_wp2_with (first | (go_at_call 28; refine (sign_any R _ _ r _ (by (repeat (with_reducible first | assumption | exact Rdr.step1 (by assumption) (by assumption) | exact Rdr.step1 (Rdr.q (by assumption) _) (by assumption) | apply Rdr.alloc | apply Rdr.setO h.old _ | apply Rdr.setO hBw _ | exact Rdr.step1 (Rdr.q (Rdr.alloc (by assumption) _) _) (by assumption) | exact Rdr.step1 (Rdr.q (Rdr.setO hBw _ (Rdr.alloc (by assumption) _)) _) (by assumption) | apply Rdr.q))) (by omega) (by omega)).mono ?_; rintro e w' ⟨rfl, nq, rfl⟩) | (go_at_call 47; refine (names_any R _ _ r _ (by (repeat (with_reducible first | assumption | exact Rdr.step1 (by assumption) (by assumption) | exact Rdr.step1 (Rdr.q (by assumption) _) (by assumption) | apply Rdr.alloc | apply Rdr.setO h.old _ | apply Rdr.setO hBw _ | exact Rdr.step1 (Rdr.q (Rdr.alloc (by assumption) _) _) (by assumption) | exact Rdr.step1 (Rdr.q (Rdr.setO hBw _ (Rdr.alloc (by assumption) _)) _) (by assumption) | apply Rdr.q))) (by omega) (by omega)).mono ?_; rintro e w' ⟨rfl, nq, rfl⟩) | (go_at_call 25; refine (Int_any _ _ (by omega)).mono ?_; rintro e w' ⟨rfl, rfl⟩) | (go_at_call 48; refine (name_any R _ r _ (by (repeat (with_reducible first | assumption | exact Rdr.step1 (by assumption) (by assumption) | exact Rdr.step1 (Rdr.q (by assumption) _) (by assumption) | apply Rdr.alloc | apply Rdr.setO h.old _ | apply Rdr.setO hBw _ | exact Rdr.step1 (Rdr.q (Rdr.alloc (by assumption) _) _) (by assumption) | exact Rdr.step1 (Rdr.q (Rdr.setO hBw _ (Rdr.alloc (by assumption) _)) _) (by assumption) | apply Rdr.q)))).mono ?_; rintro e w4 ⟨rfl, h4, hx4⟩; have hc4 := h4.cells.1; have hf4 := h4.cells.2.1; have hR4 := Nat.lt_of_lt_of_le h4.rold h4.old; obtain ⟨⟨t0, t1, t2, t3, t4, t5⟩, tf0, tf1, tf2, hX4⟩ := cells6 (Ext.heap hx4 (k := wc.heap.size) (by omega) (by (repeat (with_reducible first | exact block_new _ _ | apply tok_kind | apply tok_num | apply drewN_heap)))); obtain ⟨z0, z1, z2, z3, z4, z5, g0, g1, g2, g3, g4, g5, i0, i1, i2, i3, i4, i5, hL4⟩ := Box.open6 (Box.ext (w' := w4) hb (S := fun k => k ≠ R) (by (repeat (with_reducible first | assumption | exact Ext.refl _ _ | refine Ext.alloc ?_ _ | refine Ext.setL ?_ _ _ | refine Ext.setR ?_ _ _ | refine Ext.more ?_ _ | refine Ext.setCell ?_ _ _ (.inr (Nat.le_of_lt hL)) | refine Ext.trans ?_ (by assumption) | refine Ext.trans ?_ (Ext.any (by assumption))))) (by omega))))
      refine bodyPost_ret (v := Tok.val { kind := 12, text := (Ref.name r a2).1, num := Ref.int txt, whole := _, sign := sg }) ?pv rfl ⟨rfl, ?pr, ?px⟩
      case pv => simp [results, go_sem, Tok.val, Tok.vals, *]
      case pr => (repeat (with_reducible first | assumption | exact Rdr.step1 (by assumption) (by assumption) | exact Rdr.step1 (Rdr.q (by assumption) _) (by assumption) | apply Rdr.alloc | apply Rdr.setO h.old _ | apply Rdr.setO hBw _ | exact Rdr.step1 (Rdr.q (Rdr.alloc (by assumption) _) _) (by assumption) | exact Rdr.step1 (Rdr.q (Rdr.setO hBw _ (Rdr.alloc (by assumption) _)) _) (by assumption) | apply Rdr.q))
      case px => (repeat (with_reducible first | assumption | exact Ext.refl _ _ | refine Ext.alloc ?_ _ | refine Ext.setL ?_ _ _ | refine Ext.setR ?_ _ _ | refine Ext.more ?_ _ | refine Ext.setCell ?_ _ _ (.inr (Nat.le_of_lt hL)) | refine Ext.trans ?_ (by assumption) | refine Ext.trans ?_ (Ext.any (by assumption))))
  · by_cases h37 : Ref.sgn r a2 = 37
    · have hlt : a2 + 1 ≤ r.length := Ref.lt_of_sgn (by omega)
      have hG := HG.out
      rw [if_neg hnm, if_pos h37] at hG
      subst hG
      clear HG
      cases wh
      · obtain rfl : num = 0 := Hnum.out
        have hc0 := hr.cells.1
        have hf0 := hr.cells.2.1
        go_wp2_with (first | (go_at_call 28; refine (sign_any R _ _ r _ (by (repeat (with_reducible first | assumption | exact Rdr.step1 (by assumption) (by assumption) | exact Rdr.step1 (Rdr.q (by assumption) _) (by assumption) | apply Rdr.alloc | apply Rdr.setO h.old _ | apply Rdr.setO hBw _ | exact Rdr.step1 (Rdr.q (Rdr.alloc (by assumption) _) _) (by assumption) | exact Rdr.step1 (Rdr.q (Rdr.setO hBw _ (Rdr.alloc (by assumption) _)) _) (by assumption) | apply Rdr.q))) (by omega) (by omega)).mono ?_; rintro e w' ⟨rfl, nq, rfl⟩) | (go_at_call 47; refine (names_any R _ _ r _ (by (repeat (with_reducible first | assumption | exact Rdr.step1 (by assumption) (by assumption) | exact Rdr.step1 (Rdr.q (by assumption) _) (by assumption) | apply Rdr.alloc | apply Rdr.setO h.old _ | apply Rdr.setO hBw _ | exact Rdr.step1 (Rdr.q (Rdr.alloc (by assumption) _) _) (by assumption) | exact Rdr.step1 (Rdr.q (Rdr.setO hBw _ (Rdr.alloc (by assumption) _)) _) (by assumption) | apply Rdr.q))) (by omega) (by omega)).mono ?_; rintro e w' ⟨rfl, nq, rfl⟩) | (go_at_call 25; refine (Int_any _ _ (by omega)).mono ?_; rintro e w' ⟨rfl, rfl⟩))
        refine bodyPost_ret (v := Tok.val { kind := 11, num := 0, whole := _, sign := sg }) ?pv rfl ⟨rfl, ?pr, ?px⟩
        case pv => simp [results, go_sem, Tok.val, Tok.vals, *]
        case pr => (repeat (with_reducible first | assumption | exact Rdr.step1 (by assumption) (by assumption) | exact Rdr.step1 (Rdr.q (by assumption) _) (by assumption) | apply Rdr.alloc | apply Rdr.setO h.old _ | apply Rdr.setO hBw _ | exact Rdr.step1 (Rdr.q (Rdr.alloc (by assumption) _) _) (by assumption) | exact Rdr.step1 (Rdr.q (Rdr.setO hBw _ (Rdr.alloc (by assumption) _)) _) (by assumption) | apply Rdr.q))
        case px => (repeat (with_reducible first | assumption | exact Ext.refl _ _ | refine Ext.alloc ?_ _ | refine Ext.setL ?_ _ _ | refine Ext.setR ?_ _ _ | refine Ext.more ?_ _ | refine Ext.setCell ?_ _ _ (.inr (Nat.le_of_lt hL)) | refine Ext.trans ?_ (by assumption) | refine Ext.trans ?_ (Ext.any (by assumption))))
      · obtain rfl : num = Ref.int txt := by have HN := Hnum.out; rw [if_pos rfl] at HN; exact HN
        clear Hnum
        have hc0 := hr.cells.1
        have hf0 := hr.cells.2.1
        go_wp2_with (first | (go_at_call 28; refine (sign_any R _ _ r _ (by (repeat (with_reducible first | assumption | exact Rdr.step1 (by assumption) (by assumption) | exact Rdr.step1 (Rdr.q (by assumption) _) (by assumption) | apply Rdr.alloc | apply Rdr.setO h.old _ | apply Rdr.setO hBw _ | exact Rdr.step1 (Rdr.q (Rdr.alloc (by assumption) _) _) (by assumption) | exact Rdr.step1 (Rdr.q (Rdr.setO hBw _ (Rdr.alloc (by assumption) _)) _) (by assumption) | apply Rdr.q))) (by omega) (by omega)).mono ?_; rintro e w' ⟨rfl, nq, rfl⟩) | (go_at_call 47; refine (names_any R _ _ r _ (by (repeat (with_reducible first | assumption | exact Rdr.step1 (by assumption) (by assumption) | exact Rdr.step1 (Rdr.q (by assumption) _) (by assumption) | apply Rdr.alloc | apply Rdr.setO h.old _ | apply Rdr.setO hBw _ | exact Rdr.step1 (Rdr.q (Rdr.alloc (by assumption) _) _) (by assumption) | exact Rdr.step1 (Rdr.q (Rdr.setO hBw _ (Rdr.alloc (by assumption) _)) _) (by assumption) | apply Rdr.q))) (by omega) (by omega)).mono ?_; rintro e w' ⟨rfl, nq, rfl⟩) | (go_at_call 25; refine (Int_any _ _ (by omega)).mono ?_; rintro e w' ⟨rfl, rfl⟩))
        refine bodyPost_ret (v := Tok.val { kind := 11, num := Ref.int txt, whole := _, sign := sg }) ?pv rfl ⟨rfl, ?pr, ?px⟩
        case pv => simp [results, go_sem, Tok.val, Tok.vals, *]
        case pr => (repeat (with_reducible first | assumption | exact Rdr.step1 (by assumption) (by assumption) | exact Rdr.step1 (Rdr.q (by assumption) _) (by assumption) | apply Rdr.alloc | apply Rdr.setO h.old _ | apply Rdr.setO hBw _ | exact Rdr.step1 (Rdr.q (Rdr.alloc (by assumption) _) _) (by assumption) | exact Rdr.step1 (Rdr.q (Rdr.setO hBw _ (Rdr.alloc (by assumption) _)) _) (by assumption) | apply Rdr.q))
        case px => (repeat (with_reducible first | assumption | exact Ext.refl _ _ | refine Ext.alloc ?_ _ | refine Ext.setL ?_ _ _ | refine Ext.setR ?_ _ _ | refine Ext.more ?_ _ | refine Ext.setCell ?_ _ _ (.inr (Nat.le_of_lt hL)) | refine Ext.trans ?_ (by assumption) | refine Ext.trans ?_ (Ext.any (by assumption))))
    · have h37' : (Ref.sgn r a2 == 37) = false := by simp [h37]
      have hG := HG.out
      rw [if_neg hnm, if_neg h37] at hG
      subst hG
      clear HG
      cases wh
      · obtain rfl : num = 0 := Hnum.out
        have hc0 := hr.cells.1
        have hf0 := hr.cells.2.1
        go_wp2_with (first | (go_at_call 28; refine (sign_any R _ _ r _ (by (repeat (with_reducible first | assumption | exact Rdr.step1 (by assumption) (by assumption) | exact Rdr.step1 (Rdr.q (by assumption) _) (by assumption) | apply Rdr.alloc | apply Rdr.setO h.old _ | apply Rdr.setO hBw _ | exact Rdr.step1 (Rdr.q (Rdr.alloc (by assumption) _) _) (by assumption) | exact Rdr.step1 (Rdr.q (Rdr.setO hBw _ (Rdr.alloc (by assumption) _)) _) (by assumption) | apply Rdr.q))) (by omega) (by omega)).mono ?_; rintro e w' ⟨rfl, nq, rfl⟩) | (go_at_call 47; refine (names_any R _ _ r _ (by (repeat (with_reducible first | assumption | exact Rdr.step1 (by assumption) (by assumption) | exact Rdr.step1 (Rdr.q (by assumption) _) (by assumption) | apply Rdr.alloc | apply Rdr.setO h.old _ | apply Rdr.setO hBw _ | exact Rdr.step1 (Rdr.q (Rdr.alloc (by assumption) _) _) (by assumption) | exact Rdr.step1 (Rdr.q (Rdr.setO hBw _ (Rdr.alloc (by assumption) _)) _) (by assumption) | apply Rdr.q))) (by omega) (by omega)).mono ?_; rintro e w' ⟨rfl, nq, rfl⟩) | (go_at_call 25; refine (Int_any _ _ (by omega)).mono ?_; rintro e w' ⟨rfl, rfl⟩))
        refine bodyPost_ret (v := Tok.val { kind := 10, num := 0, whole := _, sign := sg }) ?pv rfl ⟨rfl, ?pr, ?px⟩
        case pv => simp [results, go_sem, Tok.val, Tok.vals, *]
        case pr => (repeat (with_reducible first | assumption | exact Rdr.step1 (by assumption) (by assumption) | exact Rdr.step1 (Rdr.q (by assumption) _) (by assumption) | apply Rdr.alloc | apply Rdr.setO h.old _ | apply Rdr.setO hBw _ | exact Rdr.step1 (Rdr.q (Rdr.alloc (by assumption) _) _) (by assumption) | exact Rdr.step1 (Rdr.q (Rdr.setO hBw _ (Rdr.alloc (by assumption) _)) _) (by assumption) | apply Rdr.q))
        case px => (repeat (with_reducible first | assumption | exact Ext.refl _ _ | refine Ext.alloc ?_ _ | refine Ext.setL ?_ _ _ | refine Ext.setR ?_ _ _ | refine Ext.more ?_ _ | refine Ext.setCell ?_ _ _ (.inr (Nat.le_of_lt hL)) | refine Ext.trans ?_ (by assumption) | refine Ext.trans ?_ (Ext.any (by assumption))))
      · obtain rfl : num = Ref.int txt := by have HN := Hnum.out; rw [if_pos rfl] at HN; exact HN
        clear Hnum
        have hc0 := hr.cells.1
        have hf0 := hr.cells.2.1
        go_wp2_with (first | (go_at_call 28; refine (sign_any R _ _ r _ (by (repeat (with_reducible first | assumption | exact Rdr.step1 (by assumption) (by assumption) | exact Rdr.step1 (Rdr.q (by assumption) _) (by assumption) | apply Rdr.alloc | apply Rdr.setO h.old _ | apply Rdr.setO hBw _ | exact Rdr.step1 (Rdr.q (Rdr.alloc (by assumption) _) _) (by assumption) | exact Rdr.step1 (Rdr.q (Rdr.setO hBw _ (Rdr.alloc (by assumption) _)) _) (by assumption) | apply Rdr.q))) (by omega) (by omega)).mono ?_; rintro e w' ⟨rfl, nq, rfl⟩) | (go_at_call 47; refine (names_any R _ _ r _ (by (repeat (with_reducible first | assumption | exact Rdr.step1 (by assumption) (by assumption) | exact Rdr.step1 (Rdr.q (by assumption) _) (by assumption) | apply Rdr.alloc | apply Rdr.setO h.old _ | apply Rdr.setO hBw _ | exact Rdr.step1 (Rdr.q (Rdr.alloc (by assumption) _) _) (by assumption) | exact Rdr.step1 (Rdr.q (Rdr.setO hBw _ (Rdr.alloc (by assumption) _)) _) (by assumption) | apply Rdr.q))) (by omega) (by omega)).mono ?_; rintro e w' ⟨rfl, nq, rfl⟩) | (go_at_call 25; refine (Int_any _ _ (by omega)).mono ?_; rintro e w' ⟨rfl, rfl⟩))
        refine bodyPost_ret (v := Tok.val { kind := 10, num := Ref.int txt, whole := _, sign := sg }) ?pv rfl ⟨rfl, ?pr, ?px⟩
        case pv => simp [results, go_sem, Tok.val, Tok.vals, *]
        case pr => (repeat (with_reducible first | assumption | exact Rdr.step1 (by assumption) (by assumption) | exact Rdr.step1 (Rdr.q (by assumption) _) (by assumption) | apply Rdr.alloc | apply Rdr.setO h.old _ | apply Rdr.setO hBw _ | exact Rdr.step1 (Rdr.q (Rdr.alloc (by assumption) _) _) (by assumption) | exact Rdr.step1 (Rdr.q (Rdr.setO hBw _ (Rdr.alloc (by assumption) _)) _) (by assumption) | apply Rdr.q))
        case px => (repeat (with_reducible first | assumption | exact Ext.refl _ _ | refine Ext.alloc ?_ _ | refine Ext.setL ?_ _ _ | refine Ext.setR ?_ _ _ | refine Ext.more ?_ _ | refine Ext.setCell ?_ _ _ (.inr (Nat.le_of_lt hL)) | refine Ext.trans ?_ (by assumption) | refine Ext.trans ?_ (Ext.any (by assumption))))
end Go.Proofs.YtihnffmnofinmaaDoor
