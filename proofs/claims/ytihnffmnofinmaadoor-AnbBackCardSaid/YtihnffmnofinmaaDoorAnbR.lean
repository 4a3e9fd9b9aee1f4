/- anb's reader of nodes: its methods. -/
import Derived.Test.YtihnffmnofinmaaDoorCopy
import Derived.Test.YtihnffmnofinmaaDoorTInt
import Derived.Test.YtihnffmnofinmaaDoorAnbP
import Derived.Deep.RegionHeld3
import Derived.StillTailTactics
namespace Go.Proofs.YtihnffmnofinmaaDoor
open Go.RowKit
/-- What a token may hold. -/
def Tok.ok (t : Tok) : Prop := t.text.length ≤ 4294967296 ∧ -2147483648 ≤ t.num ∧ t.num ≤ 2147483647
def Oks (l : List Nd) : Prop := ∀ n ∈ l, n.tok.ok
theorem Oks.head {n : Nd} {l : List Nd} (h : Oks (n :: l)) : n.tok.ok := h n (by simp)
theorem Oks.tail {n : Nd} {l : List Nd} (h : Oks (n :: l)) : Oks l := fun m hm => h m (by simp [hm])
/-- A reader in block X. -/
structure ARd (w : World) (X : Nat) (l : List Nd) (bad : Bool) : Prop where
  oks : Oks l
  len : l.length ≤ 16777216
  here : ∃ A c, w.heap[X]? = some (.cells #[.slice A l.length c, .bool bad] 44 (0, 0)) ∧ Dat.At w (fun k => k ≠ X) (nodesDat l) (.slice A l.length c)
/-- All but the reader's own block is as it was. -/
def But (X : Nat) (w w' : World) : Prop := Ext (fun k => k ≠ X) w w'
theorem ARd.ext {w w' : World} {X : Nat} {l : List Nd} {bad : Bool} (h : ARd w X l bad) (hx : Ext (fun _ => True) w w') : ARd w' X l bad := by
  obtain ⟨h1, h2, A, c, hb, hd⟩ := h
  exact ⟨h1, h2, A, c, hx.heap trivial hb, hd.ext hx fun _ h _ => ⟨trivial, h⟩⟩
theorem ARd.set {w : World} {X : Nat} {l l' : List Nd} {bad : Bool} (h : ARd w X l bad) (ho : Oks l') (hl : l'.length ≤ 16777216) {A : Option Addr} {c : Nat} (hd : Dat.At w (fun k => k ≠ X) (nodesDat l') (.slice A l'.length c)) :
    ARd (w.setCell ⟨X, 0, none⟩ (.slice A l'.length c)) X l' bad := by
  obtain ⟨_, _, A0, c0, hb, _⟩ := h
  exact ⟨ho, hl, A, c, by rw [block_set hb 0]; rfl, hd.setCell _ _ (fun e => e rfl)⟩
theorem ARd.setBad {w : World} {X : Nat} {l : List Nd} {bad : Bool} (h : ARd w X l bad) (b : Bool) : ARd (w.setCell ⟨X, 1, none⟩ (.bool b)) X l b := by
  obtain ⟨h1, h2, A0, c0, hb, hd⟩ := h
  exact ⟨h1, h2, A0, c0, by rw [block_set hb 1]; rfl, hd.setCell _ _ (fun e => e rfl)⟩
theorem ARd.alloc {w : World} {X : Nat} {l : List Nd} {bad : Bool} (h : ARd w X l bad) (o : Obj) : ARd (w.alloc o) X l bad := h.ext ((Ext.refl _ _).alloc o)
theorem ARd.lt {w : World} {X : Nat} {l : List Nd} {bad : Bool} (h : ARd w X l bad) : X < w.heap.size := by
  obtain ⟨_, _, A0, c0, hb, _⟩ := h; exact block_lt hb
theorem But.any {w w' : World} {X : Nat} (h : Ext (fun _ => True) w w') : But X w w' := h.mono fun _ _ _ => trivial
/-- What the reader's cells are. -/
theorem ARd.open0 {w : World} {X : Nat} {bad : Bool} (h : ARd w X [] bad) : ∃ A c, w.cell? ⟨X, 0, none⟩ = some (.slice A 0 c) ∧ w.cell? ⟨X, 1, none⟩ = some (.bool bad) ∧ w.frozen? ⟨X, 0, none⟩ = false ∧ w.frozen? ⟨X, 1, none⟩ = false ∧ c ≤ 9223372036854775807 := by
  obtain ⟨_, _, A, c, hb, hd⟩ := h
  have := hd.cap.2
  unfold maxLen at this
  exact ⟨A, c, by rw [block_cell hb]; rfl, by rw [block_cell hb]; rfl, block_free hb 0, block_free hb 1, by omega⟩
theorem ARd.open1 {w : World} {X : Nat} {n : Nd} {l : List Nd} {bad : Bool} (h : ARd w X (n :: l) bad) :
    ∃ b off c kv, w.cell? ⟨X, 0, none⟩ = some (.slice (some ⟨b, off, none⟩) (l.length + 1) c) ∧ w.cell? ⟨X, 1, none⟩ = some (.bool bad) ∧ w.frozen? ⟨X, 0, none⟩ = false ∧ w.frozen? ⟨X, 1, none⟩ = false ∧ l.length + 1 ≤ c ∧ c ≤ 9223372036854775807 ∧
      (w.cell? ⟨b, off, none⟩ = some (.int .i64 n.tok.kind) ∧ w.cell? ⟨b, off + 1, none⟩ = some (.string ⟨n.tok.text.toArray⟩) ∧ w.cell? ⟨b, off + 2, none⟩ = some (.int .i64 n.tok.num) ∧ w.cell? ⟨b, off + 3, none⟩ = some (.bool n.tok.whole) ∧ w.cell? ⟨b, off + 4, none⟩ = some (.bool n.tok.sign) ∧ w.cell? ⟨b, off + 5, none⟩ = some (.bool n.tok.id) ∧ w.cell? ⟨b, off + 6, none⟩ = some kv) ∧ b ≠ X ∧ b < w.heap.size ∧
      Hid (∀ off', (0 < l.length → off' = off + 7) → Dat.At w (fun k => k ≠ X) (nodesDat l) (.slice (some ⟨b, off', none⟩) l.length (c - 1))) := by
  obtain ⟨_, _, A, c, hb, hd⟩ := h
  have hcap := hd.cap
  have hm := hcap.2
  unfold maxLen at hm
  obtain ⟨b, off, kv, rfl, hbl, hS, _, hc⟩ := nds_at hd (i := 0) (by simp)
  have hnd : Ref.nd (n :: l) 0 = n := rfl
  rw [hnd] at hc
  simp only [Nat.zero_mul, Nat.add_zero] at hc
  exact ⟨b, off, c, kv, by rw [block_cell hb]; rfl, by rw [block_cell hb]; rfl, block_free hb 0, block_free hb 1, by simpa using hcap.1, by omega, nd_load hc, hS, hbl, Lib.hid fun off' ho => nds_drop hd off' ho⟩
set_option maxRecDepth 100000 in
set_option maxHeartbeats 1000000 in
theorem see_any (X : Nat) (l : List Nd) (bad : Bool) (w : World) (h : ARd w X l bad) :
    Calls Tryd.prog 19 #[.pointer (some ⟨X, 0, none⟩)] w (Ret (.tuple #[.int .i64 (Anb.see l).1, .string ⟨(Anb.see l).2.toArray⟩]) (Ext (fun _ => True) w)) := by
  cases l with
  | nil =>
    obtain ⟨A, c, h0, h1, z0, z1, hc⟩ := h.open0
    go_enter Tryd.func19, Tryd.ntmps19
    go_wp2_with fail
    go_ret2
    exact ⟨rfl, Ext.refl _ _⟩
  | cons n l =>
    have hlen := h.len
    obtain ⟨b, off, c, kv, h0, h1, z0, z1, hc, hm, ⟨c0, c1, c2, c3, c4, c5, c6⟩, hbX, hbl, hd⟩ := h.open1
    have hL : n.tok.text.length ≤ 140737488355327 := by have := h.oks.head.1; omega
    simp only [List.length_cons] at hlen
    go_enter Tryd.func19, Tryd.ntmps19
    go_wp2_with fail
    go_region_held3 (fun w' => w'.cell? ⟨X, 0, none⟩ = some (.slice (some ⟨b, off, none⟩) (l.length + 1) c) ∧ w'.cell? ⟨b, off, none⟩ = some (.int .i64 n.tok.kind) ∧ w'.cell? ⟨b, off + 1, none⟩ = some (.string ⟨n.tok.text.toArray⟩)) (go_keep) ((go_at_call 32; refine (PLower_any n.tok.text _ hL).mono ?_; rintro e w' ⟨rfl, hx⟩; have k0 : w'.cell? ⟨X, 0, none⟩ = some (.slice (some ⟨b, off, none⟩) (l.length + 1) c) := hx.cell trivial (by first | assumption | simpa using h0); have k1 : w'.cell? ⟨b, off, none⟩ = some (.int .i64 n.tok.kind) := hx.cell trivial (by first | assumption | simpa using c0); have k2 : w'.cell? ⟨b, off + 1, none⟩ = some (.string ⟨n.tok.text.toArray⟩) := hx.cell trivial (by first | assumption | simpa using c1)))
    go_wp2_with fail
    go_ret2
    exact ⟨rfl, ((Ext.refl _ w).drew).trans hx⟩
/-- The reader is behind so many nodes, and all else as it was. -/
def RdPost (X : Nat) (l : List Nd) (bad : Bool) (w w' : World) : Prop := ARd w' X l bad ∧ But X w w'
set_option maxRecDepth 100000 in
set_option maxHeartbeats 1000000 in
theorem take_any (X : Nat) (n : Nd) (l : List Nd) (bad : Bool) (w : World) (h : ARd w X (n :: l) bad) :
    Calls Tryd.prog 33 #[.pointer (some ⟨X, 0, none⟩)] w (Ret n.tok.val (RdPost X l bad w)) := by
  have hlen := h.len
  obtain ⟨b, off, c, kv, h0, h1, z0, z1, hc, hm, ⟨c0, c1, c2, c3, c4, c5, c6⟩, hbX, hbl, hd⟩ := h.open1
  have hX := h.lt
  have ho := Lib.hid h.oks.tail
  simp only [List.length_cons] at hlen
  have H := Lib.hid h
  clear h
  go_enter Tryd.func33, Tryd.ntmps33
  go_wp2_with fail
  · refine bodyPost_ret (v := n.tok.val) (by simp [results, go_sem, Tok.val, Tok.vals, *]) rfl ⟨rfl, ?pr, ?px⟩
    case pr => exact ((H.out.set (ho.out) (by omega) (by have := hd.out off (fun _ => by omega); rwa [show c - 1 = 0 by omega] at this)).alloc _).alloc _
    case px => exact (((Ext.refl _ w).setCell _ _ (.inl (fun e => e rfl))).alloc _).alloc _
  · refine bodyPost_ret (v := n.tok.val) (by simp [results, go_sem, Tok.val, Tok.vals, *]) rfl ⟨rfl, ?pr2, ?px2⟩
    case pr2 => exact ((H.out.set (ho.out) (by omega) (hd.out _ (fun _ => rfl))).alloc _).alloc _
    case px2 => exact (((Ext.refl _ w).setCell _ _ (.inl (fun e => e rfl))).alloc _).alloc _
theorem run_tok_num (a : Int) (b : ByteArray) (c : Int) (d e f : Bool) (w : World) : (Instr.field 46 (.agg #[.int .i64 a, .string b, .int .i64 c, .bool d, .bool e, .bool f]) 2).run Tryd.prog w = .ok (.int .i64 c) w := by kernel_rfl
theorem anb_white (n : Nd) : decide (n.tok.kind = 13) = Ref.isWhite n := rfl
set_option maxRecDepth 100000 in
set_option maxHeartbeats 1000000 in
theorem sign_any2 (X : Nat) (l : List Nd) (bad : Bool) (w : World) (h : ARd w X l bad) :
    Calls Tryd.prog 39 #[.pointer (some ⟨X, 0, none⟩)] w (Ret (.int .i64 (Anb.sign l).1) (RdPost X (Anb.sign l).2 bad w)) := by
  have H := Lib.hid h
  cases l with
  | nil =>
    clear h
    go_enter Tryd.func39, Tryd.ntmps39
    go_wp2_with (go_at_call 19; refine (see_any X _ _ _ (by first | assumption | exact H.out)).mono ?_; rintro e w1 ⟨rfl, hx1⟩)
    go_ret
    exact ⟨rfl, H.out.ext hx1, But.any hx1⟩
  | cons n l =>
    clear h
    by_cases hp : n.tok.kind = 9 ∧ Ref.lower n.tok.text = [43]
    · have hs : Anb.sign (n :: l) = (1, l) := by unfold Anb.sign; dsimp only; rw [if_pos hp]
      rw [hs]
      obtain ⟨h9, ht⟩ := hp
      have hse : Anb.see (n :: l) = (9, [43]) := by unfold Anb.see; dsimp only; rw [h9, ht]
      have HSE := Lib.hid hse
      clear hs hse h9 ht
      go_enter Tryd.func39, Tryd.ntmps39
      go_wp2_with fail
      refine (see_any X _ _ _ H.out).mono ?_
      rintro e w1 ⟨rfl, hx1⟩
      rw [HSE.out]
      have h1 := H.out.ext hx1
      go_wp2_with fail
      refine (take_any X n l bad _ h1).mono ?_
      rintro e w2 ⟨rfl, h2, hx2⟩
      go_wp2_with fail
      go_ret
      exact ⟨rfl, h2, (But.any hx1).trans hx2⟩
    · by_cases hm : n.tok.kind = 9 ∧ Ref.lower n.tok.text = [45]
      · have hs : Anb.sign (n :: l) = (-1, l) := by unfold Anb.sign; dsimp only; rw [if_neg hp, if_pos hm]
        rw [hs]
        obtain ⟨h9, ht⟩ := hm
        have hse : Anb.see (n :: l) = (9, [45]) := by unfold Anb.see; dsimp only; rw [h9, ht]
        have HSE := Lib.hid hse
        clear hs hse h9 ht hp
        go_enter Tryd.func39, Tryd.ntmps39
        go_wp2_with fail
        refine (see_any X _ _ _ H.out).mono ?_
        rintro e w1 ⟨rfl, hx1⟩
        rw [HSE.out]
        have h1 := H.out.ext hx1
        go_wp2_with fail
        refine (take_any X n l bad _ h1).mono ?_
        rintro e w2 ⟨rfl, h2, hx2⟩
        go_wp2_with fail
        go_ret
        exact ⟨rfl, h2, (But.any hx1).trans hx2⟩
      · have hs : Anb.sign (n :: l) = (0, n :: l) := by unfold Anb.sign; dsimp only; rw [if_neg hp, if_neg hm]
        rw [hs]
        have hse : Anb.see (n :: l) = (n.tok.kind, Ref.lower n.tok.text) := rfl
        have HSE := Lib.hid hse
        generalize n.tok.kind = K at *
        generalize Ref.lower n.tok.text = L at *
        have hk : (K == 9) = false ∨ ((K == 9) = true ∧ (L == [43]) = false ∧ (L == [45]) = false) := by
          by_cases h9 : K = 9
          · exact .inr ⟨by simp [h9], by simpa [h9] using hp, by simpa [h9] using hm⟩
          · exact .inl (by simp [h9])
        clear hs hse hp hm
        rcases hk with hk | ⟨hk, hl1, hl2⟩
        all_goals
          go_enter Tryd.func39, Tryd.ntmps39
          go_wp2_with fail
          refine (see_any X _ _ _ H.out).mono ?_
          rintro e w1 ⟨rfl, hx1⟩
          rw [HSE.out]
          go_wp2_with fail
          go_ret
          exact ⟨rfl, H.out.ext hx1, But.any hx1⟩
set_option maxRecDepth 100000 in
set_option maxHeartbeats 1000000 in
theorem white_any2 (X : Nat) (l : List Nd) (bad : Bool) (w : World) (h : ARd w X l bad) :
    Calls Tryd.prog 35 #[.pointer (some ⟨X, 0, none⟩)] w (Ret (.tuple #[]) (RdPost X (Ref.trimL l) bad w)) := by
  obtain ⟨F, hF⟩ : ∃ F, F = Ref.trimL l := ⟨_, rfl⟩
  rw [← hF]
  have HF := Lib.hid hF.symm
  clear hF
  have H := Lib.hid h
  clear h
  go_enter Tryd.func35, Tryd.ntmps35
  go_wp2_with fail
  go_loopg [] (l.length + 1) (fun g wr => ∃ m, Hid (ARd wr X m bad) ∧ But X w wr ∧ m.length < g ∧ Hid (Ref.trimL m = F))
  case atStart => exact ⟨l, H, Ext.refl _ _, by omega, HF⟩
  case round =>
    clear HF H
    obtain ⟨m, H, hx, hg, hrun⟩ := hrel
    obtain ⟨g, rfl⟩ : ∃ g, gk = g + 1 := ⟨gk - 1, by omega⟩
    cases m with
    | nil =>
      obtain ⟨A, c, h0, h1, z0, z1, hc⟩ := H.out.open0
      have e := hrun.out
      unfold Ref.trimL at e
      subst e
      go_wp2_with fail
      go_end0
      exact ⟨rfl, H.out, hx⟩
    | cons n m =>
      have hlen := H.out.len
      obtain ⟨b, off, c, kv, h0, h1, z0, z1, hc, hm, ⟨c0, c1, c2, c3, c4, c5, c6⟩, hbX, hbl, hd⟩ := H.out.open1
      have hX := H.out.lt
      have ho := Lib.hid H.out.oks.tail
      have e := hrun.out
      unfold Ref.trimL at e
      rw [← anb_white] at e
      simp only [List.length_cons] at hlen hg
      generalize hT : n.tok = T0 at *
      by_cases hw : T0.kind = 13
      · have hw' : decide (T0.kind = 13) = true := by simp [hw]
        rw [if_pos hw'] at e
        have E := Lib.hid e
        clear hw e hrun
        go_wp2_with fail
        refine (NWhite_any T0 kv _).mono ?_
        rintro e w1 ⟨rfl, hx1⟩
        rw [hw']
        have H1 := Lib.hid (H.out.ext hx1)
        have hxw := hx.trans (But.any (X := X) hx1)
        clear h0 h1 z0 z1 hc hm c0 c1 c2 c3 c4 c5 c6 hbX hbl hd hX H hx hx1
        obtain ⟨b, off, c, kv, h0, h1, z0, z1, hc, hm, ⟨c0, c1, c2, c3, c4, c5, c6⟩, hbX, hbl, hd⟩ := H1.out.open1
        clear c0 c1 c2 c3 c4 c5 c6 hT
        go_wp2_with fail
        all_goals go_roundg g
        all_goals first | (show g < _; omega) | skip
        all_goals first
          | exact ⟨m, Lib.hid (H1.out.set ho.out (by omega) (hd.out _ (fun _ => rfl))), Ext.setCell hxw _ _ (.inl (fun e => e rfl)), by omega, E⟩
          | exact ⟨m, Lib.hid (H1.out.set ho.out (by omega) (by have := hd.out off (fun _ => by omega); rwa [show c - 1 = 0 by omega] at this)), Ext.setCell hxw _ _ (.inl (fun e => e rfl)), by omega, E⟩
      · have hw' : decide (T0.kind = 13) = false := by simp [hw]
        rw [if_neg (by simp [hw])] at e
        subst e
        clear hw hrun hT
        go_wp2_with fail
        refine (NWhite_any T0 kv _).mono ?_
        rintro e w1 ⟨rfl, hx1⟩
        rw [hw']
        go_wp2_with fail
        go_end0
        exact ⟨rfl, H.out.ext hx1, hx.trans (But.any hx1)⟩
set_option maxRecDepth 100000 in
set_option maxHeartbeats 1000000 in
theorem number_yes (X : Nat) (l r : List Nd) (v : Int) (sg : Bool) (w : World) (h : ARd w X l false) (hn : Anb.number sg l = some (v, r)) :
    Calls Tryd.prog 36 #[.pointer (some ⟨X, 0, none⟩), .bool sg] w (Ret (.int .i64 v) (RdPost X r false w)) := by
  cases l with
  | nil => cases hn
  | cons n l =>
    unfold Anb.number at hn
    dsimp only at hn
    by_cases hk : n.tok.kind = 10 ∧ n.tok.sign = sg ∧ n.tok.whole = true
    · rw [if_pos hk] at hn
      obtain ⟨rfl, rfl⟩ : n.tok.num = v ∧ l = r := by simpa using hn
      obtain ⟨hk, hs, hwh⟩ := hk
      have H := Lib.hid h
      have HSE := Lib.hid (show Anb.see (n :: l) = (10, Ref.lower n.tok.text) by unfold Anb.see; dsimp only; rw [hk])
      have HS := Lib.hid hs
      have HWH := Lib.hid hwh
      clear h hk hs hwh
      cases sg
      all_goals
        go_enter Tryd.func36, Tryd.ntmps36
        go_wp2_with fail
        refine (see_any X _ _ _ H.out).mono ?_
        rintro e w1 ⟨rfl, hx1⟩
        rw [HSE.out]
        have H1 := Lib.hid (H.out.ext hx1)
        obtain ⟨b, off, c, kv, h0, h1, z0, z1, hc, hm, ⟨c0, c1, c2, c3, c4, c5, c6⟩, hbX, hbl, hd⟩ := H1.out.open1
        rw [HS.out] at c4
        rw [HWH.out] at c3
        go_wp2_with fail
        refine (take_any X n l false _ H1.out).mono ?_
        rintro e w2 ⟨rfl, h2, hx2⟩
        unfold Tok.val Tok.vals
        have hfl := fun w => run_tok_num n.tok.kind ⟨n.tok.text.toArray⟩ n.tok.num n.tok.whole n.tok.sign n.tok.id w
        go_wp2_with fail
        go_ret
        exact ⟨rfl, h2, (But.any hx1).trans hx2⟩
    · rw [if_neg hk] at hn; cases hn
set_option maxRecDepth 100000 in
set_option maxHeartbeats 1000000 in
theorem number_no (X : Nat) (l : List Nd) (sg : Bool) (w : World) (h : ARd w X l false) (hn : Anb.number sg l = none) :
    Calls Tryd.prog 36 #[.pointer (some ⟨X, 0, none⟩), .bool sg] w (Ret (.int .i64 0) (RdPost X l true w)) := by
  have H := Lib.hid h
  cases l with
  | nil =>
    have HSE := Lib.hid (show Anb.see [] = (0, []) from rfl)
    clear h hn
    go_enter Tryd.func36, Tryd.ntmps36
    go_wp2_with fail
    refine (see_any X _ _ _ H.out).mono ?_
    rintro e w1 ⟨rfl, hx1⟩
    rw [HSE.out]
    have H1 := Lib.hid (H.out.ext hx1)
    obtain ⟨A, c, h0, h1, z0, z1, hc⟩ := H1.out.open0
    go_wp2_with fail
    go_ret
    exact ⟨rfl, H1.out.setBad true, (But.any hx1).setCell _ _ (.inl (fun e => e rfl))⟩
  | cons n l =>
    unfold Anb.number at hn
    dsimp only at hn
    have HSE := Lib.hid (show Anb.see (n :: l) = (n.tok.kind, Ref.lower n.tok.text) from rfl)
    have hk : (n.tok.kind == 10) = false ∨ ((n.tok.kind == 10) = true ∧ Hid (n.tok.sign = !sg)) ∨ ((n.tok.kind == 10) = true ∧ Hid (n.tok.sign = sg) ∧ Hid (n.tok.whole = false)) := by
      by_cases h10 : n.tok.kind = 10
      · by_cases hs : n.tok.sign = sg
        · exact .inr (.inr ⟨by simp [h10], Lib.hid hs, Lib.hid (by by_cases hw : n.tok.whole = true; rw [if_pos ⟨h10, hs, hw⟩] at hn; cases hn; simpa using hw)⟩)
        · exact .inr (.inl ⟨by simp [h10], Lib.hid (by revert hs; cases n.tok.sign <;> cases sg <;> simp)⟩)
      · exact .inl (by simp [h10])
    clear h hn
    have hne : (n.tok.kind != 10) = !(n.tok.kind == 10) := rfl
    obtain ⟨K, hK⟩ : ∃ K, K = n.tok.kind := ⟨_, rfl⟩
    rw [← hK] at hk hne HSE
    have HNE := Lib.hid hne
    clear hne hK
    rcases hk with hk | ⟨hk, hs⟩ | ⟨hk, hs, hw⟩
    · have hk' := HNE.out
      rw [hk] at hk'
      go_enter Tryd.func36, Tryd.ntmps36
      go_wp2_with fail
      refine (see_any X _ _ _ H.out).mono ?_
      rintro e w1 ⟨rfl, hx1⟩
      rw [HSE.out]
      have H1 := Lib.hid (H.out.ext hx1)
      obtain ⟨b, off, c, kv, h0, h1, z0, z1, hc, hm, ⟨c0, c1, c2, c3, c4, c5, c6⟩, hbX, hbl, hd⟩ := H1.out.open1
      (go_wp2_with fail; go_ret; exact ⟨rfl, H1.out.setBad true, (But.any hx1).setCell _ _ (.inl (fun e => e rfl))⟩)
    · have hk' := HNE.out
      rw [hk] at hk'
      cases sg
      all_goals
        go_enter Tryd.func36, Tryd.ntmps36
        go_wp2_with fail
        refine (see_any X _ _ _ H.out).mono ?_
        rintro e w1 ⟨rfl, hx1⟩
        rw [HSE.out]
        have H1 := Lib.hid (H.out.ext hx1)
        obtain ⟨b, off, c, kv, h0, h1, z0, z1, hc, hm, ⟨c0, c1, c2, c3, c4, c5, c6⟩, hbX, hbl, hd⟩ := H1.out.open1
        rw [hs.out] at c4
        (go_wp2_with fail; go_ret; exact ⟨rfl, H1.out.setBad true, (But.any hx1).setCell _ _ (.inl (fun e => e rfl))⟩)
    · have hk' := HNE.out
      rw [hk] at hk'
      cases sg
      all_goals
        go_enter Tryd.func36, Tryd.ntmps36
        go_wp2_with fail
        refine (see_any X _ _ _ H.out).mono ?_
        rintro e w1 ⟨rfl, hx1⟩
        rw [HSE.out]
        have H1 := Lib.hid (H.out.ext hx1)
        obtain ⟨b, off, c, kv, h0, h1, z0, z1, hc, hm, ⟨c0, c1, c2, c3, c4, c5, c6⟩, hbX, hbl, hd⟩ := H1.out.open1
        rw [hs.out] at c4
        rw [hw.out] at c3
        (go_wp2_with fail; go_ret; exact ⟨rfl, H1.out.setBad true, (But.any hx1).setCell _ _ (.inl (fun e => e rfl))⟩)
end Go.Proofs.YtihnffmnofinmaaDoor
