/- anb's reader: the first number. -/
import Derived.Test.YtihnffmnofinmaaDoorAnbS
import Derived.Deep.RegionWith
namespace Go.Proofs.YtihnffmnofinmaaDoor
open Go.RowKit
/-- What first hands back. -/
def FirstPost (X : Nat) (w : World) : Option (Int × List UInt8 × List Nd) → Ending → World → Prop
  | some p => Ret (.tuple #[.int .i64 p.1, .string ⟨p.2.1.toArray⟩]) (RdPost X p.2.2 false w)
  | none => fun e w' => ∃ l', e = .returned (.tuple #[.int .i64 0, .string ⟨#[]⟩]) ∧ RdPost X l' true w w'
theorem extract_tail (c : UInt8) (v : List UInt8) : (ByteArray.mk (c :: v).toArray).extract 1 (v.length + 1) = ⟨v.toArray⟩ := by
  apply ByteArray.ext
  apply Array.ext'
  simp [ByteArray.extract, ByteArray.copySlice]
theorem extract_tail2 (c d : UInt8) (v : List UInt8) : (ByteArray.mk (c :: d :: v).toArray).extract 2 (v.length + 2) = ⟨v.toArray⟩ := by
  apply ByteArray.ext
  apply Array.ext'
  simp [ByteArray.extract, ByteArray.copySlice]
theorem ARd.cells {w : World} {X : Nat} {l : List Nd} {bad : Bool} (h : ARd w X l bad) : ∃ A c, w.cell? ⟨X, 0, none⟩ = some (.slice A l.length c) ∧ w.cell? ⟨X, 1, none⟩ = some (.bool bad) ∧ w.frozen? ⟨X, 1, none⟩ = false := by
  obtain ⟨_, _, A, c, hb, hd⟩ := h
  exact ⟨A, c, by rw [block_cell hb]; rfl, by rw [block_cell hb]; rfl, block_free hb 1⟩
set_option maxRecDepth 100000 in
set_option maxHeartbeats 1000000 in
theorem first_empty (X : Nat) (w : World) (h : ARd w X [] false) :
    Calls Tryd.prog 20 #[.pointer (some ⟨X, 0, none⟩)] w (FirstPost X w none) := by
  have H := Lib.hid h
  have HSE := Lib.hid (show Anb.see [] = (0, []) from rfl)
  clear h
  go_enter Tryd.func20, Tryd.ntmps20
  go_wp2_with fail
  refine (see_any X _ _ _ H.out).mono ?_
  rintro e w1 ⟨rfl, hx1⟩
  rw [HSE.out]
  have H1 := Lib.hid (H.out.ext hx1)
  obtain ⟨A1, c1, k0, k1, z1⟩ := H1.out.cells
  go_wp2_with (go_at_call 34; refine (Tryd.strings_HasPrefix _ _ _).mono ?_; rintro e w' ⟨rfl, rfl⟩)
  go_ret2
  exact ⟨_, rfl, H1.out.setBad true, (But.any hx1).setCell _ _ (.inl (fun e => e rfl))⟩
set_option maxRecDepth 100000 in
set_option maxHeartbeats 1000000 in
theorem first_bad (X : Nat) (n : Nd) (r : List Nd) (w : World) (h : ARd w X (n :: r) false) (K : Int) (u : List UInt8) (hs : Anb.see (n :: r) = (K, u)) (h9 : (K == 9) = false ∨ (K = 9 ∧ (u == [43]) = false))
    (h12 : (K == 12) = false ∨ (K = 12 ∧ n.tok.whole = false) ∨ (K = 12 ∧ Hid (n.tok.whole = true) ∧ Lib.hasPrefix u [110] = false)) (h1 : (K == 1) = false ∨ (K = 1 ∧ Lib.hasPrefix u [110] = false ∧ Lib.hasPrefix u [45, 110] = false)) :
    Calls Tryd.prog 20 #[.pointer (some ⟨X, 0, none⟩)] w (FirstPost X w none) := by
  have H := Lib.hid h
  have HSE := Lib.hid hs
  clear h hs
  rcases h9 with h9 | ⟨rfl, h9⟩
  · rcases h12 with h12 | ⟨rfl, h12⟩ | ⟨rfl, hwh, h12⟩
    · rcases h1 with h1 | ⟨rfl, h1, h2⟩
      · go_enter Tryd.func20, Tryd.ntmps20
        go_wp2_with fail
        refine (see_any X _ _ _ H.out).mono ?_
        rintro e w1 ⟨rfl, hx1⟩
        rw [HSE.out]
        have H1 := Lib.hid (H.out.ext hx1)
        obtain ⟨A1, c1, k0, k1, z1⟩ := H1.out.cells
        go_wp2_with (go_at_call 34; refine (Tryd.strings_HasPrefix _ _ _).mono ?_; rintro e w' ⟨rfl, rfl⟩)
        go_ret2
        exact ⟨_, rfl, H1.out.setBad true, (But.any hx1).setCell _ _ (.inl (fun e => e rfl))⟩
      · go_enter Tryd.func20, Tryd.ntmps20
        go_wp2_with fail
        refine (see_any X _ _ _ H.out).mono ?_
        rintro e w1 ⟨rfl, hx1⟩
        rw [HSE.out]
        have H1 := Lib.hid (H.out.ext hx1)
        obtain ⟨A1, c1, k0, k1, z1⟩ := H1.out.cells
        go_wp2_with (go_at_call 34; refine (Tryd.strings_HasPrefix _ _ _).mono ?_; rintro e w' ⟨rfl, rfl⟩)
        go_ret2
        exact ⟨_, rfl, H1.out.setBad true, (But.any hx1).setCell _ _ (.inl (fun e => e rfl))⟩
    · go_enter Tryd.func20, Tryd.ntmps20
      go_wp2_with fail
      refine (see_any X _ _ _ H.out).mono ?_
      rintro e w1 ⟨rfl, hx1⟩
      rw [HSE.out]
      have H1 := Lib.hid (H.out.ext hx1)
      obtain ⟨b, off, c, kv, k0, k1, z0, z1, hc, hm, ⟨c0, c1, c2, c3, c4, c5, c6⟩, hbX, hbl, hd⟩ := H1.out.open1
      rw [h12] at c3
      go_wp2_with (go_at_call 34; refine (Tryd.strings_HasPrefix _ _ _).mono ?_; rintro e w' ⟨rfl, rfl⟩)
      go_ret2
      exact ⟨_, rfl, H1.out.setBad true, (But.any hx1).setCell _ _ (.inl (fun e => e rfl))⟩
    · go_enter Tryd.func20, Tryd.ntmps20
      go_wp2_with fail
      refine (see_any X _ _ _ H.out).mono ?_
      rintro e w1 ⟨rfl, hx1⟩
      rw [HSE.out]
      have H1 := Lib.hid (H.out.ext hx1)
      obtain ⟨b, off, c, kv, k0, k1, z0, z1, hc, hm, ⟨c0, c1, c2, c3, c4, c5, c6⟩, hbX, hbl, hd⟩ := H1.out.open1
      rw [hwh.out] at c3
      go_wp2_with (go_at_call 34; refine (Tryd.strings_HasPrefix _ _ _).mono ?_; rintro e w' ⟨rfl, rfl⟩)
      go_ret2
      exact ⟨_, rfl, H1.out.setBad true, (But.any hx1).setCell _ _ (.inl (fun e => e rfl))⟩
  · go_enter Tryd.func20, Tryd.ntmps20
    go_wp2_with fail
    refine (see_any X _ _ _ H.out).mono ?_
    rintro e w1 ⟨rfl, hx1⟩
    rw [HSE.out]
    have H1 := Lib.hid (H.out.ext hx1)
    obtain ⟨A1, c1, k0, k1, z1⟩ := H1.out.cells
    go_wp2_with (go_at_call 34; refine (Tryd.strings_HasPrefix _ _ _).mono ?_; rintro e w' ⟨rfl, rfl⟩)
    go_ret2
    exact ⟨_, rfl, H1.out.setBad true, (But.any hx1).setCell _ _ (.inl (fun e => e rfl))⟩
theorem hasPre_n (v : List UInt8) : Lib.hasPrefix (110 :: v) [110] = true := by simp [Lib.hasPrefix, List.isPrefixOf]
theorem hasPre_mn (v : List UInt8) : Lib.hasPrefix (45 :: 110 :: v) [45, 110] = true := by simp [Lib.hasPrefix, List.isPrefixOf]
theorem hasPre_no (v : List UInt8) : Lib.hasPrefix (45 :: v) [110] = false := by simp [Lib.hasPrefix, List.isPrefixOf]
set_option maxRecDepth 100000 in
set_option maxHeartbeats 1000000 in
theorem first_n (X : Nat) (n : Nd) (r : List Nd) (v : List UInt8) (w : World) (h : ARd w X (n :: r) false) (hs : Anb.see (n :: r) = (1, 110 :: v)) :
    Calls Tryd.prog 20 #[.pointer (some ⟨X, 0, none⟩)] w (FirstPost X w (some (1, v, r))) := by
  have H := Lib.hid h
  have HSE := Lib.hid hs
  have hp := hasPre_n v
  clear h hs
  go_enter Tryd.func20, Tryd.ntmps20
  go_wp2_with fail
  refine (see_any X _ _ _ H.out).mono ?_
  rintro e w1 ⟨rfl, hx1⟩
  rw [HSE.out]
  have H1 := Lib.hid (H.out.ext hx1)
  go_wp2_with (go_at_call 34; refine (Tryd.strings_HasPrefix _ _ _).mono ?_; rintro e w' ⟨rfl, rfl⟩)
  refine (take_any X n r false _ H1.out).mono ?_
  rintro e w2 ⟨rfl, h2, hx2⟩
  have hex := extract_tail 110 v
  clear hp
  go_wp2_with (go_quiet (fail))
  go_ret2
  exact ⟨rfl, h2.ext (Ext.more (Ext.refl _ _) _), ((But.any hx1).trans hx2).more _⟩
set_option maxRecDepth 100000 in
set_option maxHeartbeats 1000000 in
theorem first_mn (X : Nat) (n : Nd) (r : List Nd) (v : List UInt8) (w : World) (h : ARd w X (n :: r) false) (hs : Anb.see (n :: r) = (1, 45 :: 110 :: v)) :
    Calls Tryd.prog 20 #[.pointer (some ⟨X, 0, none⟩)] w (FirstPost X w (some (-1, v, r))) := by
  have H := Lib.hid h
  have HSE := Lib.hid hs
  have hp := hasPre_mn v
  have hp2 := hasPre_no (110 :: v)
  clear h hs
  go_enter Tryd.func20, Tryd.ntmps20
  go_wp2_with fail
  refine (see_any X _ _ _ H.out).mono ?_
  rintro e w1 ⟨rfl, hx1⟩
  rw [HSE.out]
  have H1 := Lib.hid (H.out.ext hx1)
  go_wp2_with (go_at_call 34; refine (Tryd.strings_HasPrefix _ _ _).mono ?_; rintro e w' ⟨rfl, rfl⟩)
  refine (take_any X n r false _ H1.out).mono ?_
  rintro e w2 ⟨rfl, h2, hx2⟩
  have hex := extract_tail2 45 110 v
  clear hp hp2
  go_wp2_with (go_quiet (fail))
  go_ret2
  exact ⟨rfl, h2.ext (Ext.more (Ext.refl _ _) _), ((But.any hx1).trans hx2).more _⟩
set_option maxRecDepth 100000 in
set_option maxHeartbeats 1000000 in
theorem first_dim (X : Nat) (n : Nd) (r : List Nd) (v : List UInt8) (w : World) (h : ARd w X (n :: r) false) (hs : Anb.see (n :: r) = (12, 110 :: v)) (hwh : n.tok.whole = true) :
    Calls Tryd.prog 20 #[.pointer (some ⟨X, 0, none⟩)] w (FirstPost X w (some (n.tok.num, v, r))) := by
  have H := Lib.hid h
  have HSE := Lib.hid hs
  have HWH := Lib.hid hwh
  have hp := hasPre_n v
  have hex := extract_tail 110 v
  have hfl := fun w => run_tok_num n.tok.kind ⟨n.tok.text.toArray⟩ n.tok.num n.tok.whole n.tok.sign n.tok.id w
  clear h hs hwh
  go_enter Tryd.func20, Tryd.ntmps20
  go_wp2_with fail
  refine (see_any X _ _ _ H.out).mono ?_
  rintro e w1 ⟨rfl, hx1⟩
  rw [HSE.out]
  have H1 := Lib.hid (H.out.ext hx1)
  obtain ⟨b, off, c, kv, k0, k1, z0, z1, hc, hm, ⟨c0, c1, c2, c3, c4, c5, c6⟩, hbX, hbl, hd⟩ := H1.out.open1
  rw [HWH.out] at c3
  go_wp2_with (go_at_call 34; refine (Tryd.strings_HasPrefix _ _ _).mono ?_; rintro e w' ⟨rfl, rfl⟩)
  have hv0 : (0 : Int) ≤ (v.length : Int) + 1 := by omega
  have hv1 : (1 : Int) ≤ (v.length : Int) + 1 := by omega
  go_region_with ((go_at_call 33; refine (take_any X n r false _ (by first | exact H1.out | exact H1.out.ext (Ext.drew (Ext.refl _ _)))).mono ?_; rintro e w2 ⟨rfl, h2, hx2⟩; simp only [Tok.val, Tok.vals]))
  go_wp2_with fail
  go_ret2
  exact ⟨rfl, h2, (Ext.drew (But.any hx1)).trans hx2⟩
set_option maxRecDepth 100000 in
set_option maxHeartbeats 1000000 in
theorem first_plus_bad (X : Nat) (n : Nd) (r : List Nd) (w : World) (h : ARd w X (n :: r) false) (hs : Anb.see (n :: r) = (9, [43])) (K : Int) (u : List UInt8) (hs2 : Anb.see r = (K, u)) (h1 : (K == 1) = false ∨ (K = 1 ∧ Lib.hasPrefix u [110] = false)) (h12 : (K == 12) = true ∨ (K == 12) = false) :
    Calls Tryd.prog 20 #[.pointer (some ⟨X, 0, none⟩)] w (FirstPost X w none) := by
  have H := Lib.hid h
  have HSE := Lib.hid hs
  have HS2 := Lib.hid hs2
  clear h hs hs2
  rcases h1 with h1 | ⟨rfl, h1⟩
  · rcases h12 with h12 | h12
    all_goals
      go_enter Tryd.func20, Tryd.ntmps20
      go_wp2_with fail
      refine (see_any X _ _ _ H.out).mono ?_
      rintro e w1 ⟨rfl, hx1⟩
      rw [HSE.out]
      have H1 := Lib.hid (H.out.ext hx1)
      go_wp2_with fail
      refine (take_any X n _ false _ H1.out).mono ?_
      rintro e w2 ⟨rfl, h2, hx2⟩
      have H2 := Lib.hid h2
      have hx12 : But X w w2 := (But.any hx1).trans hx2
      clear h2 hx2 hx1 H1
      go_wp2_with fail
      refine (see_any X _ _ _ H2.out).mono ?_
      rintro e w3 ⟨rfl, hx3'⟩
      rw [HS2.out]
      have H3 := Lib.hid (H2.out.ext hx3')
      have hx3 : But X w w3 := hx12.trans (But.any hx3')
      clear hx12 hx3' H2
      obtain ⟨A1, c1, k0, k1, z1⟩ := H3.out.cells
      go_wp2_with (go_at_call 34; refine (Tryd.strings_HasPrefix _ _ _).mono ?_; rintro e w' ⟨rfl, rfl⟩)
      go_ret2
      exact ⟨_, rfl, H3.out.setBad true, hx3.setCell _ _ (.inl (fun e => e rfl))⟩
  · clear h12
    go_enter Tryd.func20, Tryd.ntmps20
    go_wp2_with fail
    refine (see_any X _ _ _ H.out).mono ?_
    rintro e w1 ⟨rfl, hx1⟩
    rw [HSE.out]
    have H1 := Lib.hid (H.out.ext hx1)
    go_wp2_with fail
    refine (take_any X n _ false _ H1.out).mono ?_
    rintro e w2 ⟨rfl, h2, hx2⟩
    have H2 := Lib.hid h2
    have hx12 : But X w w2 := (But.any hx1).trans hx2
    clear h2 hx2 hx1 H1
    go_wp2_with fail
    refine (see_any X _ _ _ H2.out).mono ?_
    rintro e w3 ⟨rfl, hx3'⟩
    rw [HS2.out]
    have H3 := Lib.hid (H2.out.ext hx3')
    have hx3 : But X w w3 := hx12.trans (But.any hx3')
    clear hx12 hx3' H2
    obtain ⟨A1, c1, k0, k1, z1⟩ := H3.out.cells
    go_wp2_with (go_at_call 34; refine (Tryd.strings_HasPrefix _ _ _).mono ?_; rintro e w' ⟨rfl, rfl⟩)
    go_ret2
    exact ⟨_, rfl, H3.out.setBad true, hx3.setCell _ _ (.inl (fun e => e rfl))⟩
set_option maxRecDepth 100000 in
set_option maxHeartbeats 1000000 in
theorem first_plus (X : Nat) (n m : Nd) (r : List Nd) (w : World) (h : ARd w X (n :: m :: r) false) (hs : Anb.see (n :: m :: r) = (9, [43])) (v : List UInt8) (hs2 : Anb.see (m :: r) = (1, 110 :: v)) :
    Calls Tryd.prog 20 #[.pointer (some ⟨X, 0, none⟩)] w (FirstPost X w (some (1, v, r))) := by
  have H := Lib.hid h
  have HSE := Lib.hid hs
  have HS2 := Lib.hid hs2
  have hp := hasPre_n v
  clear h hs hs2
  go_enter Tryd.func20, Tryd.ntmps20
  go_wp2_with fail
  refine (see_any X _ _ _ H.out).mono ?_
  rintro e w1 ⟨rfl, hx1⟩
  rw [HSE.out]
  have H1 := Lib.hid (H.out.ext hx1)
  go_wp2_with fail
  refine (take_any X n _ false _ H1.out).mono ?_
  rintro e w2 ⟨rfl, h2, hx2⟩
  have H2 := Lib.hid h2
  have hx12 : But X w w2 := (But.any hx1).trans hx2
  clear h2 hx2 hx1 H1
  go_wp2_with fail
  refine (see_any X _ _ _ H2.out).mono ?_
  rintro e w3 ⟨rfl, hx3'⟩
  rw [HS2.out]
  have H3 := Lib.hid (H2.out.ext hx3')
  have hx3 : But X w w3 := hx12.trans (But.any hx3')
  clear hx12 hx3' H2
  go_wp2_with (go_at_call 34; refine (Tryd.strings_HasPrefix _ _ _).mono ?_; rintro e w' ⟨rfl, rfl⟩)
  refine (take_any X m r false _ H3.out).mono ?_
  rintro e w4 ⟨rfl, h4, hx4⟩
  have hex := extract_tail 110 v
  clear hp
  go_wp2_with (go_quiet (fail))
  go_ret2
  exact ⟨rfl, h4.ext (Ext.more (Ext.refl _ _) _), (hx3.trans hx4).more _⟩
theorem has_pre (u p : List UInt8) : Lib.hasPrefix u p = Anb.pre p u := rfl
theorem first_any (X : Nat) (l : List Nd) (w : World) (h : ARd w X l false) :
    Calls Tryd.prog 20 #[.pointer (some ⟨X, 0, none⟩)] w (FirstPost X w (Anb.first l)) := by
  cases l with
  | nil => exact first_empty X w h
  | cons n r =>
    have hse : Anb.see (n :: r) = (n.tok.kind, Ref.lower n.tok.text) := rfl
    unfold Anb.first
    dsimp only
    by_cases hp : n.tok.kind = 9 ∧ Ref.lower n.tok.text = [43]
    · rw [if_pos hp]
      rw [hp.1, hp.2] at hse
      cases r with
      | nil => exact first_plus_bad X n [] w h hse 0 [] rfl (.inl rfl) (.inr rfl)
      | cons m r =>
        dsimp only
        by_cases h1 : m.tok.kind = 1 ∧ Anb.pre [110] (Ref.lower m.tok.text) = true
        · rw [if_pos h1]
          obtain ⟨v, hv⟩ := Anb.pre_n.1 h1.2
          rw [hv]
          exact first_plus X n m r w h hse v (by unfold Anb.see; dsimp only; rw [h1.1, hv])
        · rw [if_neg h1]
          refine first_plus_bad X n (m :: r) w h hse m.tok.kind (Ref.lower m.tok.text) rfl ?_ ?_
          · by_cases hk : m.tok.kind = 1
            · exact .inr ⟨hk, by rw [has_pre]; simpa [hk] using h1⟩
            · exact .inl (by simpa using hk)
          · cases (m.tok.kind == 12); exact .inr rfl; exact .inl rfl
    · rw [if_neg hp]
      by_cases h12 : n.tok.kind = 12 ∧ n.tok.whole = true ∧ Anb.pre [110] (Ref.lower n.tok.text) = true
      · rw [if_pos h12]
        obtain ⟨v, hv⟩ := Anb.pre_n.1 h12.2.2
        rw [hv]
        exact first_dim X n r v w h (by rw [hse, h12.1, hv]) h12.2.1
      · rw [if_neg h12]
        by_cases h1 : n.tok.kind = 1 ∧ Anb.pre [110] (Ref.lower n.tok.text) = true
        · rw [if_pos h1]
          obtain ⟨v, hv⟩ := Anb.pre_n.1 h1.2
          rw [hv]
          exact first_n X n r v w h (by rw [hse, h1.1, hv])
        · rw [if_neg h1]
          by_cases hm : n.tok.kind = 1 ∧ Anb.pre [45, 110] (Ref.lower n.tok.text) = true
          · rw [if_pos hm]
            obtain ⟨v, hv⟩ := Anb.pre_mn.1 hm.2
            rw [hv]
            exact first_mn X n r v w h (by rw [hse, hm.1, hv])
          · rw [if_neg hm]
            refine first_bad X n r w h _ _ hse ?_ ?_ ?_
            · by_cases hk : n.tok.kind = 9
              · exact .inr ⟨hk, by simpa [hk] using hp⟩
              · exact .inl (by simpa using hk)
            · by_cases hk : n.tok.kind = 12
              · by_cases hw : n.tok.whole = true
                · exact .inr (.inr ⟨hk, Lib.hid hw, by rw [has_pre]; simpa [hk, hw] using h12⟩)
                · exact .inr (.inl ⟨hk, by simpa using hw⟩)
              · exact .inl (by simpa using hk)
            · by_cases hk : n.tok.kind = 1
              · exact .inr ⟨hk, by rw [has_pre]; simpa [hk] using h1, by rw [has_pre]; simpa [hk] using hm⟩
              · exact .inl (by simpa using hk)
end Go.Proofs.YtihnffmnofinmaaDoor
