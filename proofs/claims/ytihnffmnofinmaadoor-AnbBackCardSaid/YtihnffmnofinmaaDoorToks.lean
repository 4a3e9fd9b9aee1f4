/- The reference's tokens of signs. -/
import Derived.Test.YtihnffmnofinmaaDoorRdrH
import Derived.Test.YtihnffmnofinmaaDoorNext
import Derived.BigRegion
namespace Go.Proofs.YtihnffmnofinmaaDoor
open Go.RowKit

theorem Rdr.cell0 {w : World} {B R at_ : Nat} {r : List Int} (h : Rdr w B R r at_) : ∃ A c, w.cell? ⟨R, 0, none⟩ = some (.slice A r.length c) := by
  obtain ⟨_, _, _, _, A, c, hb, _⟩ := h; exact ⟨A, c, by rw [block_cell hb]; rfl⟩
def Tok.dat (t : Tok) : List Dat := t.vals.toList.map .v
def toksDat (l : List Tok) : Dat := .s (l.map Tok.dat)
/-- The call returned a value that reads as d (in old blocks of S, or in new ones); nothing that was there has turned. -/
def RetDat (S : Nat → Prop) (d : Dat) (w : World) (e : Ending) (w' : World) : Prop := ∃ v, e = .returned v ∧ Dat.At w' (fun k => S k ∨ w.heap.size ≤ k) d v ∧ Ext (fun _ => True) w w'

theorem tokT : SliceT Tryd.prog 36 46 6 40 (.agg #[.int .i64 0, .string ⟨#[]⟩, .int .i64 0, .bool false, .bool false, .bool false]) := ⟨Tryd.underlying36, by kernel_rfl, rfl, by omega⟩

theorem tok_at {w : World} {S : Nat → Prop} {t : Tok} {j : Nat} {d : Dat} {u : Value} (h1 : t.dat[j]? = some d) (h2 : t.vals[j]? = some u) : Dat.At w S d u := by
  have : t.dat[j]? = (t.vals[j]?).map .v := by simp [Tok.dat]
  rw [this, h2] at h1
  simp at h1
  subst h1
  exact .v u
theorem tok_one (t : Tok) : ∀ u ∈ t.vals.toList, u.oneCell' = true := by
  intro u hu
  simp [Tok.vals] at hu
  rcases hu with rfl | rfl | rfl | rfl | rfl | rfl <;> rfl
theorem Own.weak {w : World} {S T : Nat → Prop} {base size : Nat} {e : TypeId} {v : Value} {es : List (List Dat)} (h : Own w S base e size v es) (hs : ∀ k, S k → T k) : Own w T base e size v es := by
  obtain ⟨xs, hown, hsz, hat⟩ := h
  exact ⟨xs, hown, hsz, fun i j x d hi hj => by obtain ⟨u, hu, hd⟩ := hat i j x d hi hj; exact ⟨u, hu, hd.mono fun k hk _ => ⟨hs k hk.1, hk.2⟩⟩⟩
theorem Ref.skipRun_at (r : List Int) : ∀ (f a : Nat), a ≤ r.length → a ≤ Ref.skipRun r f a ∧ Ref.skipRun r f a ≤ r.length
  | 0, a, h => ⟨Nat.le_refl _, h⟩
  | f + 1, a, h => by
    unfold Ref.skipRun
    split
    · have := Ref.skipRun_at r f (a + 1) (Ref.lt_of_sgn (by omega)); exact ⟨by omega, this.2⟩
    · exact ⟨Nat.le_refl _, h⟩

set_option maxRecDepth 100000 in
set_option maxHeartbeats 2000000 in
theorem Tokens_any (r : List Int) (v : Value) (w : World) (hr : Runes r) (hv : Dat.At w (fun _ => True) (runeDat r) v) :
    Calls Tryd.prog 16 #[v] w (RetDat (fun _ => False) (toksDat (Ref.tokens r)) w) := by
  obtain ⟨A, c, rfl, hcl, hcm⟩ := hv.form
  obtain ⟨F, hF⟩ : ∃ F, F = Ref.tokens r := ⟨_, rfl⟩
  rw [← hF]
  have HF := Lib.hid hF
  clear hF
  have hln := hr.len
  rw [List.length_map] at hv
  rw [List.length_map]
  have hrd : Rdr (w.alloc (.cells #[.slice A r.length c, .int .i64 0] 60)) (w.heap.size + 1) w.heap.size r 0 :=
    ⟨hr, Nat.zero_le _, by simp, by omega, A, c, block_new _ _, (hv.lt.alloc _).mono fun k hk _ => ⟨by omega, by omega⟩⟩
  go_enter Tryd.func16, Tryd.ntmps16
  go_wp2_with fail
  go_loopg [4] (r.length + 1) (fun f l wr => ∃ a ts, Rdr wr (w.heap.size + 1) w.heap.size r a ∧ Own wr (fun _ => False) (w.heap.size + 1) 46 6 l (ts.map Tok.dat) ∧ Ext (fun k => k ≠ w.heap.size) w wr ∧ ts.length ≤ a ∧ r.length < f + a ∧ Hid (Ref.tokensRun r f a ts = F))
  case atStart => exact ⟨0, [], hrd, Own.nil _ _ _ _ _, (Ext.refl _ _).alloc _, Nat.le_refl _, by omega, HF.out.symm⟩
  case round =>
    obtain ⟨a, ts, ha, hown, hx0, htl, hf, hrun⟩ := hrel
    have hle := ha.le
    obtain ⟨g, rfl⟩ : ∃ g, gk = g + 1 := ⟨gk - 1, by omega⟩
    obtain ⟨C, hC⟩ : ∃ C, C = Ref.comments r a := ⟨_, rfl⟩
    have HC := Lib.hid hC
    have e := hrun.out
    unfold Ref.tokensRun at e
    rw [← hC] at e
    have E := Lib.hid e
    clear e hC hrun HF
    have HO := Lib.hid hown
    have hgo := hf
    clear hf
    go_wp2_with fail
    go_loopg [] (r.length + 1) (fun f wr' => ∃ b, a ≤ b ∧ Rdr wr' (w.heap.size + 1) w.heap.size r b ∧ Ext (fun k => k ≠ w.heap.size) wr wr' ∧ r.length < f + b ∧ Hid (Ref.commentRun r f b = C))
    case atStart => exact ⟨a, Nat.le_refl _, ha, Ext.refl _ _, by omega, HC.out.symm⟩
    case round =>
      clear ha hle
      obtain ⟨b, hab, ha, hx1, hf, hrun⟩ := hrel
      have hle := ha.le
      have hc := ha.cells.1
      have hfz := ha.cells.2.1
      have hRr := Nat.lt_of_lt_of_le ha.rold ha.old
      obtain ⟨g', rfl⟩ : ∃ g', gk = g' + 1 := ⟨gk - 1, by omega⟩
      by_cases hcm : Ref.sgn r b = 47 ∧ Ref.sgn r (b + 1) = 42
      · obtain ⟨hc1, hc2⟩ := hcm
        have hlt2 : b + 2 ≤ r.length := Ref.lt_of_sgn (a := b + 1) (by omega)
        obtain ⟨K, hK⟩ : ∃ K, K = Ref.skip r (b + 2) := ⟨_, rfl⟩
        have hKat := Ref.skipRun_at r (r.length + 1) (b + 2) hlt2
        have e := hrun.out
        unfold Ref.commentRun at e
        rw [if_pos ⟨hc1, hc2⟩, ← hK] at e
        have E2 := Lib.hid e
        have HK := Lib.hid hK
        rw [show Ref.skipRun r (r.length + 1) (b + 2) = K from hK.symm] at hKat
        clear e hK hrun HC
        go_wp2_with (first | (go_at_call 28; refine (sign_any _ _ _ r _ (by (repeat (with_reducible first | assumption | exact Rdr.step1 (by assumption) (by assumption) | exact Rdr.step1 (Rdr.q (by assumption) _) (by assumption) | exact Rdr.step2 (Rdr.q (by assumption) _) (by assumption) | exact Rdr.step2 (by assumption) (by assumption) | exact Rdr.step3 (Rdr.q (by assumption) _) (by assumption) | exact Rdr.step4 (Rdr.q (by assumption) _) (by assumption) | apply Rdr.alloc | apply Rdr.setO h.old _ | apply Rdr.q))) (by omega) (by omega)).mono ?_; rintro e w' ⟨rfl, nq, rfl⟩))
        clear hc hfz
        go_loopg [] (r.length + 1) (fun f wr'' => ∃ d, b + 2 ≤ d ∧ Rdr wr'' (w.heap.size + 1) w.heap.size r d ∧ Ext (fun k => k ≠ w.heap.size) wr wr'' ∧ r.length < f + d ∧ Hid (Ref.skipRun r f d = K))
        case atStart => exact ⟨b + 2, Nat.le_refl _, by (repeat (with_reducible first | assumption | exact Rdr.step1 (by assumption) (by assumption) | exact Rdr.step1 (Rdr.q (by assumption) _) (by assumption) | exact Rdr.step2 (Rdr.q (by assumption) _) (by assumption) | exact Rdr.step2 (by assumption) (by assumption) | exact Rdr.step3 (Rdr.q (by assumption) _) (by assumption) | exact Rdr.step4 (Rdr.q (by assumption) _) (by assumption) | apply Rdr.alloc | apply Rdr.setO h.old _ | apply Rdr.q)), by (repeat (with_reducible first | assumption | exact Ext.refl _ _ | apply Ext.alloc | apply Ext.setR | apply Ext.more | refine Ext.trans ?_ (by assumption))), by omega, HK.out.symm⟩
        case round =>
          clear ha hle
          have hgb := hf
          clear hf
          obtain ⟨d, hbd, ha, hx1, hf, hrun⟩ := hrel
          have hle := ha.le
          have hc := ha.cells.1
          have hfz := ha.cells.2.1
          have hRr := Nat.lt_of_lt_of_le ha.rold ha.old
          obtain ⟨g'', rfl⟩ : ∃ g'', gk = g'' + 1 := ⟨gk - 1, by omega⟩
          by_cases hk0 : Ref.sgn r d < 0
          · have e := hrun.out
            unfold Ref.skipRun at e
            rw [if_neg (by omega)] at e
            have hk1 : Ref.sgn r d ≠ 42 := by omega
            have hk2 : ¬ 0 ≤ Ref.sgn r d := by omega
            have E3 : Hid (Ref.commentRun r g' (min (d + 2) r.length) = C) := by have := E2.out; rw [show K = d from e.symm] at this; exact this
            clear e hrun E2 HK hKat
            obtain ⟨A', c', hc0⟩ := ha.cell0
            by_cases hmin : d + 2 ≤ r.length
            · have E4 : Hid (Ref.commentRun r g' (d + 2) = C) := by have := E3.out; rw [Nat.min_eq_left hmin] at this; exact this
              clear E3
              go_wp2_with (first | (go_at_call 28; refine (sign_any _ _ _ r _ (by (repeat (with_reducible first | assumption | exact Rdr.step1 (by assumption) (by assumption) | exact Rdr.step1 (Rdr.q (by assumption) _) (by assumption) | exact Rdr.step2 (Rdr.q (by assumption) _) (by assumption) | exact Rdr.step2 (by assumption) (by assumption) | exact Rdr.step3 (Rdr.q (by assumption) _) (by assumption) | exact Rdr.step4 (Rdr.q (by assumption) _) (by assumption) | apply Rdr.alloc | apply Rdr.setO h.old _ | apply Rdr.q))) (by omega) (by omega)).mono ?_; rintro e w' ⟨rfl, nq, rfl⟩))
              go_region
              all_goals go_wp2_with fail
              all_goals go_roundg g'
              all_goals first | (show g' < _; omega) | skip
              all_goals exact ⟨d + 2, by omega, by (repeat (with_reducible first | assumption | exact Rdr.step1 (by assumption) (by assumption) | exact Rdr.step1 (Rdr.q (by assumption) _) (by assumption) | exact Rdr.step2 (Rdr.q (by assumption) _) (by assumption) | exact Rdr.step2 (by assumption) (by assumption) | exact Rdr.step3 (Rdr.q (by assumption) _) (by assumption) | exact Rdr.step4 (Rdr.q (by assumption) _) (by assumption) | apply Rdr.alloc | apply Rdr.setO h.old _ | apply Rdr.q)), by (repeat (with_reducible first | assumption | exact Ext.refl _ _ | apply Ext.alloc | apply Ext.setR | apply Ext.more | refine Ext.trans ?_ (by assumption))), by omega, E4.out⟩
            · have E4 : Hid (Ref.commentRun r g' r.length = C) := by have := E3.out; rw [Nat.min_eq_right (by omega)] at this; exact this
              clear E3
              go_wp2_with (first | (go_at_call 28; refine (sign_any _ _ _ r _ (by (repeat (with_reducible first | assumption | exact Rdr.step1 (by assumption) (by assumption) | exact Rdr.step1 (Rdr.q (by assumption) _) (by assumption) | exact Rdr.step2 (Rdr.q (by assumption) _) (by assumption) | exact Rdr.step2 (by assumption) (by assumption) | exact Rdr.step3 (Rdr.q (by assumption) _) (by assumption) | exact Rdr.step4 (Rdr.q (by assumption) _) (by assumption) | apply Rdr.alloc | apply Rdr.setO h.old _ | apply Rdr.q))) (by omega) (by omega)).mono ?_; rintro e w' ⟨rfl, nq, rfl⟩))
              go_region
              all_goals go_wp2_with fail
              all_goals go_roundg g'
              all_goals first | (show g' < _; omega) | skip
              all_goals exact ⟨r.length, by omega, by (first | exact Rdr.q (Rdr.move' (Rdr.q (by assumption) _) rfl (Nat.le_refl _)) _ | exact Rdr.move' (Rdr.q (by assumption) _) rfl (Nat.le_refl _)), by (repeat (with_reducible first | assumption | exact Ext.refl _ _ | apply Ext.alloc | apply Ext.setR | apply Ext.more | refine Ext.trans ?_ (by assumption))), by omega, E4.out⟩
          · have hlt1 : d + 1 ≤ r.length := Ref.lt_of_sgn (by omega)
            by_cases hk1 : Ref.sgn r d = 42
            · by_cases hk2 : Ref.sgn r (d + 1) = 47
              · have e := hrun.out
                unfold Ref.skipRun at e
                rw [if_neg (by omega)] at e
                have E3 : Hid (Ref.commentRun r g' (min (d + 2) r.length) = C) := by have := E2.out; rw [show K = d from e.symm] at this; exact this
                clear e hrun E2 HK hKat
                obtain ⟨A', c', hc0⟩ := ha.cell0
                by_cases hmin : d + 2 ≤ r.length
                · have E4 : Hid (Ref.commentRun r g' (d + 2) = C) := by have := E3.out; rw [Nat.min_eq_left hmin] at this; exact this
                  clear E3
                  go_wp2_with (first | (go_at_call 28; refine (sign_any _ _ _ r _ (by (repeat (with_reducible first | assumption | exact Rdr.step1 (by assumption) (by assumption) | exact Rdr.step1 (Rdr.q (by assumption) _) (by assumption) | exact Rdr.step2 (Rdr.q (by assumption) _) (by assumption) | exact Rdr.step2 (by assumption) (by assumption) | exact Rdr.step3 (Rdr.q (by assumption) _) (by assumption) | exact Rdr.step4 (Rdr.q (by assumption) _) (by assumption) | apply Rdr.alloc | apply Rdr.setO h.old _ | apply Rdr.q))) (by omega) (by omega)).mono ?_; rintro e w' ⟨rfl, nq, rfl⟩))
                  go_region
                  all_goals go_wp2_with fail
                  all_goals go_roundg g'
                  all_goals first | (show g' < _; omega) | skip
                  all_goals exact ⟨d + 2, by omega, by (repeat (with_reducible first | assumption | exact Rdr.step1 (by assumption) (by assumption) | exact Rdr.step1 (Rdr.q (by assumption) _) (by assumption) | exact Rdr.step2 (Rdr.q (by assumption) _) (by assumption) | exact Rdr.step2 (by assumption) (by assumption) | exact Rdr.step3 (Rdr.q (by assumption) _) (by assumption) | exact Rdr.step4 (Rdr.q (by assumption) _) (by assumption) | apply Rdr.alloc | apply Rdr.setO h.old _ | apply Rdr.q)), by (repeat (with_reducible first | assumption | exact Ext.refl _ _ | apply Ext.alloc | apply Ext.setR | apply Ext.more | refine Ext.trans ?_ (by assumption))), by omega, E4.out⟩
                · have E4 : Hid (Ref.commentRun r g' r.length = C) := by have := E3.out; rw [Nat.min_eq_right (by omega)] at this; exact this
                  clear E3
                  go_wp2_with (first | (go_at_call 28; refine (sign_any _ _ _ r _ (by (repeat (with_reducible first | assumption | exact Rdr.step1 (by assumption) (by assumption) | exact Rdr.step1 (Rdr.q (by assumption) _) (by assumption) | exact Rdr.step2 (Rdr.q (by assumption) _) (by assumption) | exact Rdr.step2 (by assumption) (by assumption) | exact Rdr.step3 (Rdr.q (by assumption) _) (by assumption) | exact Rdr.step4 (Rdr.q (by assumption) _) (by assumption) | apply Rdr.alloc | apply Rdr.setO h.old _ | apply Rdr.q))) (by omega) (by omega)).mono ?_; rintro e w' ⟨rfl, nq, rfl⟩))
                  go_region
                  all_goals go_wp2_with fail
                  all_goals go_roundg g'
                  all_goals first | (show g' < _; omega) | skip
                  all_goals exact ⟨r.length, by omega, by (first | exact Rdr.q (Rdr.move' (Rdr.q (by assumption) _) rfl (Nat.le_refl _)) _ | exact Rdr.move' (Rdr.q (by assumption) _) rfl (Nat.le_refl _)), by (repeat (with_reducible first | assumption | exact Ext.refl _ _ | apply Ext.alloc | apply Ext.setR | apply Ext.more | refine Ext.trans ?_ (by assumption))), by omega, E4.out⟩
              · have e := hrun.out
                unfold Ref.skipRun at e
                rw [if_pos (by omega)] at e
                have E3 := Lib.hid e
                clear e hrun
                have hk2' : (Ref.sgn r (d + 1) == 47) = false := by simp [hk2]
                go_wp2_with (first | (go_at_call 28; refine (sign_any _ _ _ r _ (by (repeat (with_reducible first | assumption | exact Rdr.step1 (by assumption) (by assumption) | exact Rdr.step1 (Rdr.q (by assumption) _) (by assumption) | exact Rdr.step2 (Rdr.q (by assumption) _) (by assumption) | exact Rdr.step2 (by assumption) (by assumption) | exact Rdr.step3 (Rdr.q (by assumption) _) (by assumption) | exact Rdr.step4 (Rdr.q (by assumption) _) (by assumption) | apply Rdr.alloc | apply Rdr.setO h.old _ | apply Rdr.q))) (by omega) (by omega)).mono ?_; rintro e w' ⟨rfl, nq, rfl⟩))
                go_roundg g''
                case measure => omega
                case rel => exact ⟨d + 1, by omega, by (repeat (with_reducible first | assumption | exact Rdr.step1 (by assumption) (by assumption) | exact Rdr.step1 (Rdr.q (by assumption) _) (by assumption) | exact Rdr.step2 (Rdr.q (by assumption) _) (by assumption) | exact Rdr.step2 (by assumption) (by assumption) | exact Rdr.step3 (Rdr.q (by assumption) _) (by assumption) | exact Rdr.step4 (Rdr.q (by assumption) _) (by assumption) | apply Rdr.alloc | apply Rdr.setO h.old _ | apply Rdr.q)), by (repeat (with_reducible first | assumption | exact Ext.refl _ _ | apply Ext.alloc | apply Ext.setR | apply Ext.more | refine Ext.trans ?_ (by assumption))), by omega, E3.out⟩
            · have e := hrun.out
              unfold Ref.skipRun at e
              rw [if_pos (by omega)] at e
              have E3 := Lib.hid e
              clear e hrun
              have hk1' : (Ref.sgn r d == 42) = false := by simp [hk1]
              go_wp2_with (first | (go_at_call 28; refine (sign_any _ _ _ r _ (by (repeat (with_reducible first | assumption | exact Rdr.step1 (by assumption) (by assumption) | exact Rdr.step1 (Rdr.q (by assumption) _) (by assumption) | exact Rdr.step2 (Rdr.q (by assumption) _) (by assumption) | exact Rdr.step2 (by assumption) (by assumption) | exact Rdr.step3 (Rdr.q (by assumption) _) (by assumption) | exact Rdr.step4 (Rdr.q (by assumption) _) (by assumption) | apply Rdr.alloc | apply Rdr.setO h.old _ | apply Rdr.q))) (by omega) (by omega)).mono ?_; rintro e w' ⟨rfl, nq, rfl⟩))
              go_roundg g''
              case measure => omega
              case rel => exact ⟨d + 1, by omega, by (repeat (with_reducible first | assumption | exact Rdr.step1 (by assumption) (by assumption) | exact Rdr.step1 (Rdr.q (by assumption) _) (by assumption) | exact Rdr.step2 (Rdr.q (by assumption) _) (by assumption) | exact Rdr.step2 (by assumption) (by assumption) | exact Rdr.step3 (Rdr.q (by assumption) _) (by assumption) | exact Rdr.step4 (Rdr.q (by assumption) _) (by assumption) | apply Rdr.alloc | apply Rdr.setO h.old _ | apply Rdr.q)), by (repeat (with_reducible first | assumption | exact Ext.refl _ _ | apply Ext.alloc | apply Ext.setR | apply Ext.more | refine Ext.trans ?_ (by assumption))), by omega, E3.out⟩
      · have e := hrun.out
        unfold Ref.commentRun at e
        rw [if_neg hcm] at e
        subst e
        clear HC hrun
        have hown2 := Own.ext HO.out hx1 (fun _ k _ => k.elim) (fun k hk => by have := (HO.out.lt k hk).1; omega)
        have HO2 := Lib.hid hown2
        have hx2 := hx0.trans hx1
        clear HO hown2
        by_cases hend : Ref.sgn r b < 0
        · have e := E.out
          rw [if_pos hend] at e
          subst e
          have h47 : (Ref.sgn r b == 47) = false := by simp; omega
          clear hcm E hc hfz
          go_wp2_with (first | (go_at_call 28; refine (sign_any _ _ _ r _ (by (repeat (with_reducible first | assumption | exact Rdr.step1 (by assumption) (by assumption) | exact Rdr.step1 (Rdr.q (by assumption) _) (by assumption) | exact Rdr.step2 (Rdr.q (by assumption) _) (by assumption) | exact Rdr.step2 (by assumption) (by assumption) | exact Rdr.step3 (Rdr.q (by assumption) _) (by assumption) | exact Rdr.step4 (Rdr.q (by assumption) _) (by assumption) | apply Rdr.alloc | apply Rdr.setO h.old _ | apply Rdr.q))) (by omega) (by omega)).mono ?_; rintro e w' ⟨rfl, nq, rfl⟩))
          go_ret
          refine ⟨_, rfl, ?_, ?_⟩
          · exact ((HO2.out.weak (T := fun k => False ∨ w.heap.size ≤ k) fun _ k => k.elim).at_ (by omega) (fun k hk => .inr (Nat.le_of_succ_le (HO2.out.lt k hk).1))).ext ((Ext.refl (fun _ => True) _).more _) fun k hk _ => ⟨trivial, hk⟩
          · exact (hx2.more _).mono fun k _ hk => by omega
        · have hge : 0 ≤ Ref.sgn r b := by omega
          have hbl : b + 1 ≤ r.length := Ref.lt_of_sgn hge
          have e := E.out
          rw [if_neg hend] at e
          have E5 := Lib.hid e
          clear e E
          by_cases h47 : Ref.sgn r b = 47
          · have h42 : (Ref.sgn r (b + 1) == 42) = false := by simp; omega
            clear hcm hend hc hfz
            go_wp2_with (first | (go_at_call 28; refine (sign_any _ _ _ r _ (by (repeat (with_reducible first | assumption | exact Rdr.step1 (by assumption) (by assumption) | exact Rdr.step1 (Rdr.q (by assumption) _) (by assumption) | exact Rdr.step2 (Rdr.q (by assumption) _) (by assumption) | exact Rdr.step2 (by assumption) (by assumption) | exact Rdr.step3 (Rdr.q (by assumption) _) (by assumption) | exact Rdr.step4 (Rdr.q (by assumption) _) (by assumption) | apply Rdr.alloc | apply Rdr.setO h.old _ | apply Rdr.q))) (by omega) (by omega)).mono ?_; rintro e w' ⟨rfl, nq, rfl⟩) | ((go_at_call 29; refine (token_any _ _ r _ (by (repeat (with_reducible first | assumption | exact Rdr.step1 (by assumption) (by assumption) | exact Rdr.step1 (Rdr.q (by assumption) _) (by assumption) | exact Rdr.step2 (Rdr.q (by assumption) _) (by assumption) | exact Rdr.step2 (by assumption) (by assumption) | exact Rdr.step3 (Rdr.q (by assumption) _) (by assumption) | exact Rdr.step4 (Rdr.q (by assumption) _) (by assumption) | apply Rdr.alloc | apply Rdr.setO h.old _ | apply Rdr.q))) (by assumption)).mono ?_; rintro e w6 ⟨rfl, h6, hx6⟩; have hR6 := Nat.lt_of_lt_of_le h6.rold h6.old; simp only [Tok.val, Tok.vals]); have hown6 := (Own.ext HO2.out (((Ext.refl _ _).more _).trans hx6) (fun _ k _ => k.elim) (fun k hk => by have := (HO2.out.lt k hk).1; omega)).ext ((Ext.refl (fun _ => True) _).alloc (.cells (Ref.token r b).1.vals 46)) (fun _ _ _ => trivial) (fun _ _ => trivial); simp only [Tok.vals] at hown6) | (at_builtin; refine Hid.out ?_))
            apply Lib.hid
            have hba := Ref.token_gt r b
            have hba2 := h6.le
            have hnew := block_new w6 (.cells (Ref.token r b).1.vals 46)
            refine wpList_append_one _ tokT rfl (.tmp 62) (.tmp 65) rfl (fun _ => False) (w.heap.size + 1) _ (ts.map Tok.dat) rfl hown6 w6.heap.size 1 (Ref.token r b).1.vals 46 (0, 0) (Tok.dat (Ref.token r b).1) rfl hnew rfl rfl (fun j d u h1 h2 => tok_at h1 h2) (tok_one _) ?hl ?h63 ?hbase ?h
            case hl => rw [List.length_map]; omega
            case h63 => rw [List.length_map]; unfold maxLen; omega
            case hbase => simp; omega
            case h =>
              intro g2 cap w7 hown7 hgrow _ hlt7
              have hx67 : Ext (fun k => u4.ownBlock ≠ some k) (w6.alloc (.cells (Ref.token r b).1.vals 46)) w7 := ⟨hgrow.os, hgrow.tape, hgrow.output, hgrow.size, fun k hk hl => hgrow.block k hl (fun e => hk e.symm)⟩
              have hR7 : Rdr w7 (w.heap.size + 1) w.heap.size r (Ref.token r b).2 := (h6.alloc _).ext (hx67.mono fun k hk hl e => by have := (hown6.lt k e).1; omega)
              have hx7 : Ext (fun k => k ≠ w.heap.size) w w7 := (hx2.trans (((Ext.refl _ _).more _).trans (hx6.alloc _))).trans' hx67 fun k _ hl e => by have := (hown6.lt k e).1; omega
              have hown8 : Own w7 (fun _ => False) (w.heap.size + 1) 46 6 (.slice (some ⟨g2, 0, none⟩) (ts.length + 1) cap) ((ts ++ [(Ref.token r b).1]).map Tok.dat) := by rw [List.map_append]; rw [List.length_map] at hown7; exact hown7
              rw [List.length_map]
              clear hown7 hx67 hgrow hown6
              go_wp2_with fail
              go_roundg g
              case measure => omega
              case rel => exact ⟨(Ref.token r b).2, ts ++ [(Ref.token r b).1], hR7, hown8, hx7, by simp; omega, by omega, E5.out⟩
          · have h47' : (Ref.sgn r b == 47) = false := by simp [h47]
            clear hcm hend hc hfz h47
            go_wp2_with (first | (go_at_call 28; refine (sign_any _ _ _ r _ (by (repeat (with_reducible first | assumption | exact Rdr.step1 (by assumption) (by assumption) | exact Rdr.step1 (Rdr.q (by assumption) _) (by assumption) | exact Rdr.step2 (Rdr.q (by assumption) _) (by assumption) | exact Rdr.step2 (by assumption) (by assumption) | exact Rdr.step3 (Rdr.q (by assumption) _) (by assumption) | exact Rdr.step4 (Rdr.q (by assumption) _) (by assumption) | apply Rdr.alloc | apply Rdr.setO h.old _ | apply Rdr.q))) (by omega) (by omega)).mono ?_; rintro e w' ⟨rfl, nq, rfl⟩) | ((go_at_call 29; refine (token_any _ _ r _ (by (repeat (with_reducible first | assumption | exact Rdr.step1 (by assumption) (by assumption) | exact Rdr.step1 (Rdr.q (by assumption) _) (by assumption) | exact Rdr.step2 (Rdr.q (by assumption) _) (by assumption) | exact Rdr.step2 (by assumption) (by assumption) | exact Rdr.step3 (Rdr.q (by assumption) _) (by assumption) | exact Rdr.step4 (Rdr.q (by assumption) _) (by assumption) | apply Rdr.alloc | apply Rdr.setO h.old _ | apply Rdr.q))) (by assumption)).mono ?_; rintro e w6 ⟨rfl, h6, hx6⟩; have hR6 := Nat.lt_of_lt_of_le h6.rold h6.old; simp only [Tok.val, Tok.vals]); have hown6 := (Own.ext HO2.out (((Ext.refl _ _).more _).trans hx6) (fun _ k _ => k.elim) (fun k hk => by have := (HO2.out.lt k hk).1; omega)).ext ((Ext.refl (fun _ => True) _).alloc (.cells (Ref.token r b).1.vals 46)) (fun _ _ _ => trivial) (fun _ _ => trivial); simp only [Tok.vals] at hown6) | (at_builtin; refine Hid.out ?_))
            apply Lib.hid
            have hba := Ref.token_gt r b
            have hba2 := h6.le
            have hnew := block_new w6 (.cells (Ref.token r b).1.vals 46)
            refine wpList_append_one _ tokT rfl (.tmp 62) (.tmp 65) rfl (fun _ => False) (w.heap.size + 1) _ (ts.map Tok.dat) rfl hown6 w6.heap.size 1 (Ref.token r b).1.vals 46 (0, 0) (Tok.dat (Ref.token r b).1) rfl hnew rfl rfl (fun j d u h1 h2 => tok_at h1 h2) (tok_one _) ?hl ?h63 ?hbase ?h
            case hl => rw [List.length_map]; omega
            case h63 => rw [List.length_map]; unfold maxLen; omega
            case hbase => simp; omega
            case h =>
              intro g2 cap w7 hown7 hgrow _ hlt7
              have hx67 : Ext (fun k => u4.ownBlock ≠ some k) (w6.alloc (.cells (Ref.token r b).1.vals 46)) w7 := ⟨hgrow.os, hgrow.tape, hgrow.output, hgrow.size, fun k hk hl => hgrow.block k hl (fun e => hk e.symm)⟩
              have hR7 : Rdr w7 (w.heap.size + 1) w.heap.size r (Ref.token r b).2 := (h6.alloc _).ext (hx67.mono fun k hk hl e => by have := (hown6.lt k e).1; omega)
              have hx7 : Ext (fun k => k ≠ w.heap.size) w w7 := (hx2.trans (((Ext.refl _ _).more _).trans (hx6.alloc _))).trans' hx67 fun k _ hl e => by have := (hown6.lt k e).1; omega
              have hown8 : Own w7 (fun _ => False) (w.heap.size + 1) 46 6 (.slice (some ⟨g2, 0, none⟩) (ts.length + 1) cap) ((ts ++ [(Ref.token r b).1]).map Tok.dat) := by rw [List.map_append]; rw [List.length_map] at hown7; exact hown7
              rw [List.length_map]
              clear hown7 hx67 hgrow hown6
              go_wp2_with fail
              go_roundg g
              case measure => omega
              case rel => exact ⟨(Ref.token r b).2, ts ++ [(Ref.token r b).1], hR7, hown8, hx7, by simp; omega, by omega, E5.out⟩
end Go.Proofs.YtihnffmnofinmaaDoor
