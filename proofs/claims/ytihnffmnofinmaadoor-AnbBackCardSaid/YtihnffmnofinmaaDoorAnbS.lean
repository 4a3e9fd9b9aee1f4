/- anb's reader: the second number, and the first. -/
import Derived.Test.YtihnffmnofinmaaDoorAnbR
namespace Go.Proofs.YtihnffmnofinmaaDoor
open Go.RowKit
/-- The reading has failed; what is handed back is no matter. -/
def RetBad (X : Nat) (w : World) (e : Ending) (w' : World) : Prop := ∃ v l', e = .returned (.int .i64 v) ∧ RdPost X l' true w w'
theorem num_bd {sg : Bool} {l r : List Nd} {v : Int} (ho : Oks l) (h : Anb.number sg l = some (v, r)) : -2147483648 ≤ v ∧ v ≤ 2147483647 := by
  cases l with
  | nil => cases h
  | cons n l =>
    unfold Anb.number at h
    dsimp only at h
    split at h
    · obtain ⟨rfl, rfl⟩ : n.tok.num = v ∧ l = r := by simpa using h
      exact ho.head.2
    · cases h
def decs : List UInt8 := [48, 49, 50, 51, 52, 53, 54, 55, 56, 57]
theorem decs_iff (c : UInt8) : decs.contains c = Ref.isDig c := by
  have h : ∀ x : UInt8, (c == x) = decide (c.toNat = x.toNat) := fun x => by
    rw [Bool.eq_iff_iff]; simp [← UInt8.toNat_inj]
  simp only [decs, List.contains_cons, List.contains_nil, Bool.or_false, h, Ref.isDig]
  rw [Bool.eq_iff_iff]
  simp
  omega
theorem trimS_nil (l : List UInt8) : Lib.trimS l decs = [] ↔ l.all Ref.isDig = true := by
  have hl : ∀ l : List UInt8, Lib.trimLeftS l decs = [] ↔ l.all Ref.isDig = true := by
    intro l
    induction l with
    | nil => simp [Lib.trimLeftS]
    | cons c l ih =>
      unfold Lib.trimLeftS at ih ⊢
      rw [List.dropWhile_cons, decs_iff]
      by_cases hc : Ref.isDig c = true
      · rw [hc, List.all_cons, hc]; simpa using ih
      · simp [hc]
  have hr : ∀ l : List UInt8, Lib.trimRightS l decs = [] ↔ l.all Ref.isDig = true := by
    intro l
    have := hl l.reverse
    unfold Lib.trimLeftS at this
    unfold Lib.trimRightS
    rw [List.reverse_eq_nil_iff, this, List.all_reverse]
  unfold Lib.trimS
  constructor
  · intro h
    rw [hl] at h
    rw [← hr]
    unfold Lib.trimRightS at h ⊢
    rcases hd : l.reverse.dropWhile (decs.contains ·) with _ | ⟨c, t⟩
    · simp
    · rw [hd] at h
      have hc : decs.contains c = false := by
        have := List.head?_dropWhile_not (decs.contains ·) l.reverse
        rw [hd] at this
        simpa using this
      rw [decs_iff] at hc
      simp [List.all_append, hc] at h
  · intro h
    rw [hl]
    rw [(hr l).2 h]
    rfl
/-- A number and what is behind it, or the reading has failed. -/
def NumPost (X : Nat) (w : World) : Option (Int × List Nd) → Ending → World → Prop
  | some p => Ret (.int .i64 p.1) (RdPost X p.2 false w)
  | none => RetBad X w
theorem trimL_oks {l : List Nd} (h : Oks l) : Oks (Ref.trimL l) := fun n hn => h n (by obtain ⟨a, e⟩ := Anb.trimL_suffix l; rw [e]; simp [hn])
set_option maxRecDepth 100000 in
set_option maxHeartbeats 1000000 in
theorem second_dash (X : Nat) (l : List Nd) (w : World) (h : ARd w X l false) :
    Calls Tryd.prog 21 #[.pointer (some ⟨X, 0, none⟩), .string ⟨#[45]⟩] w (NumPost X w (Anb.second [45] l)) := by
  have H := Lib.hid h
  have e : Anb.second [45] l = (Anb.number false (Ref.trimL l)).map fun p => (-p.1, p.2) := by unfold Anb.second; rw [if_pos rfl]
  rw [e]
  clear h e
  obtain ⟨o, hO⟩ : ∃ o, o = Anb.number false (Ref.trimL l) := ⟨_, rfl⟩
  rw [← hO]
  have HO := Lib.hid hO.symm
  clear hO
  cases o with
  | none =>
    go_enter Tryd.func21, Tryd.ntmps21
    go_wp2_with fail
    refine (white_any2 X l false _ H.out).mono ?_
    rintro e w1 ⟨rfl, h1, hx1⟩
    go_wp2_with fail
    refine (number_no X _ false _ h1 HO.out).mono ?_
    rintro e w2 ⟨rfl, h2, hx2⟩
    go_wp2_with fail
    go_ret
    exact ⟨_, _, rfl, h2, hx1.trans hx2⟩
  | some p =>
    obtain ⟨v, r⟩ := p
    obtain ⟨hb1, hb2⟩ := num_bd (trimL_oks H.out.oks) HO.out
    go_enter Tryd.func21, Tryd.ntmps21
    go_wp2_with fail
    refine (white_any2 X l false _ H.out).mono ?_
    rintro e w1 ⟨rfl, h1, hx1⟩
    go_wp2_with fail
    refine (number_yes X _ r v false _ h1 HO.out).mono ?_
    rintro e w2 ⟨rfl, h2, hx2⟩
    go_wp2_with fail
    go_ret
    exact ⟨rfl, h2, hx1.trans hx2⟩
set_option maxRecDepth 100000 in
set_option maxHeartbeats 1000000 in
theorem second_more (X : Nat) (l : List Nd) (c : UInt8) (v : List UInt8) (w : World) (h : ARd w X l false) (hv : v.length ≤ 4294967296) (hne : ¬ (c = 45 ∧ v = [])) :
    Calls Tryd.prog 21 #[.pointer (some ⟨X, 0, none⟩), .string ⟨(c :: v).toArray⟩] w (NumPost X w (Anb.second (c :: v) l)) := by
  have H := Lib.hid h
  have hX := h.lt
  obtain ⟨A, c0, hb, hd⟩ := h.here
  have h0 : w.cell? ⟨X, 0, none⟩ = some (.slice A l.length c0) := by rw [block_cell hb]; rfl
  have h1 : w.cell? ⟨X, 1, none⟩ = some (.bool false) := by rw [block_cell hb]; rfl
  have z1 : w.frozen? ⟨X, 1, none⟩ = false := block_free hb 1
  have e : Anb.second (c :: v) l = if c = 45 ∧ v.all Ref.isDig = true then some (Ref.int (c :: v), l) else none := by
    unfold Anb.second
    rw [if_neg (by intro e; injection e with e1 e2; exact hne ⟨e1, e2⟩), if_pos (by simp)]
    simp
  rw [e]
  clear h hb hd e
  obtain ⟨o, hO⟩ : ∃ o, o = if c = 45 ∧ v.all Ref.isDig = true then some (Ref.int (c :: v), l) else none := ⟨_, rfl⟩
  rw [← hO]
  have HO := Lib.hid hO
  clear hO
  have HNE := Lib.hid hne
  have hcv : (c == 45) = false ∨ v.isEmpty = false := by
    by_cases hc : c = 45
    · exact .inr (by cases v; exact absurd ⟨hc, rfl⟩ hne; rfl)
    · exact .inl (by simpa using hc)
  clear hne
  have hby : ∀ h : 0 < (ByteArray.mk (c :: v).toArray).size, (((ByteArray.mk (c :: v).toArray)[0].toNat : Int) = 45 ↔ c = 45) := fun h => by
    have e : (ByteArray.mk (c :: v).toArray)[0] = c := rfl
    rw [e, ← UInt8.toNat_inj]
    simp
    omega
  have HBY := Lib.hid hby
  clear hby
  rcases hcv with hcv | hcv
  all_goals
    go_enter Tryd.func21, Tryd.ntmps21
    go_wp2_with fail
  · have := (HBY.out (by simp [ByteArray.size])).1 (by assumption)
    simp [this] at hcv
  · have hb : ¬ (((ByteArray.mk (c :: v).toArray)[0]'(by simp [ByteArray.size])).toNat : Int) = 45 := by assumption
    have hc : ¬ c = 45 := fun e => hb ((HBY.out _).2 e)
    have e := HO.out
    rw [if_neg (fun h => hc h.1)] at e
    subst e
    have H1 := Lib.hid (H.out.setBad true)
    have hx1 : But X w (w.setCell ⟨X, 1, none⟩ (.bool true)) := Ext.setCell (Ext.refl _ _) _ _ (.inl (fun e => e rfl))
    refine (TInt_any (c :: v) _ (by simp; omega)).mono ?_
    rintro e w2 ⟨rfl, hx2⟩
    go_wp2_with fail
    go_ret
    exact ⟨_, _, rfl, H1.out.ext hx2, hx1.trans (But.any hx2)⟩
  · have hc := (HBY.out (by simp [ByteArray.size])).1 (by assumption)
    have hex : (ByteArray.mk (c :: v).toArray).extract 1 (v.length + 1) = ⟨v.toArray⟩ := by
      apply ByteArray.ext
      apply Array.ext'
      simp [ByteArray.extract, ByteArray.copySlice]
    rw [hex]
    have e := HO.out
    clear hex HBY
    refine (Any.strings_Trim_laid Tryd.lays160 (by kernel_rfl) ⟨v.toArray⟩ ⟨decs.toArray⟩ _ (by simp [ByteArray.size]; omega) (by decide) (ascii_of_all (by decide))).mono ?_
    rintro e1 w1 ⟨rfl, hb1⟩
    have hx1 : Ext (fun _ => True) w w1 := Ext.ofBelow hb1 (Nat.le_refl _)
    have hD : (Lib.trimS v decs) = [] ↔ v.all Ref.isDig = true := trimS_nil v
    have hDv : (ByteArray.mk (Lib.trimS (ByteArray.mk v.toArray).data.toList (ByteArray.mk decs.toArray).data.toList).toArray) = ⟨(Lib.trimS v decs).toArray⟩ := rfl
    rw [hDv]
    generalize Lib.trimS v decs = D at *
    have H1 := Lib.hid (H.out.ext hx1)
    have k0 := hx1.cell (p := ⟨X, 1, none⟩) trivial h1
    have k1 : w1.frozen? ⟨X, 1, none⟩ = false := by obtain ⟨A1, c1, hb2, _⟩ := H1.out.here; exact block_free hb2 1
    clear hDv hb1 h0 h1 z1 HO HNE
    by_cases hd0 : D = []
    · rw [if_pos ⟨hc, hD.1 hd0⟩] at e
      subst e
      subst hd0
      have H2 := Lib.hid (H1.out.setBad false)
      have hx2 : But X w (w1.setCell ⟨X, 1, none⟩ (.bool false)) := Ext.setCell (But.any hx1) _ _ (.inl (fun e => e rfl))
      clear hD hc
      go_wp2_with fail
      refine (TInt_any (c :: v) _ (by simp; omega)).mono ?_
      rintro e w2 ⟨rfl, hx3⟩
      go_wp2_with fail
      go_ret
      exact ⟨rfl, H2.out.ext hx3, hx2.trans (But.any hx3)⟩
    · rw [if_neg (fun h => hd0 (hD.2 h.2))] at e
      subst e
      have hd1 : D.isEmpty = false := by simpa using hd0
      have H2 := Lib.hid (H1.out.setBad true)
      have hx2 : But X w (w1.setCell ⟨X, 1, none⟩ (.bool true)) := Ext.setCell (But.any hx1) _ _ (.inl (fun e => e rfl))
      clear hD hc hd0
      go_wp2_with fail
      refine (TInt_any (c :: v) _ (by simp; omega)).mono ?_
      rintro e w2 ⟨rfl, hx3⟩
      go_wp2_with fail
      go_ret
      exact ⟨_, _, rfl, H2.out.ext hx3, hx2.trans (But.any hx3)⟩
  · have hb : ¬ (((ByteArray.mk (c :: v).toArray)[0]'(by simp [ByteArray.size])).toNat : Int) = 45 := by assumption
    have hc : ¬ c = 45 := fun e => hb ((HBY.out _).2 e)
    have e := HO.out
    rw [if_neg (fun h => hc h.1)] at e
    subst e
    have H1 := Lib.hid (H.out.setBad true)
    have hx1 : But X w (w.setCell ⟨X, 1, none⟩ (.bool true)) := Ext.setCell (Ext.refl _ _) _ _ (.inl (fun e => e rfl))
    refine (TInt_any (c :: v) _ (by simp; omega)).mono ?_
    rintro e w2 ⟨rfl, hx2⟩
    go_wp2_with fail
    go_ret
    exact ⟨_, _, rfl, H1.out.ext hx2, hx1.trans (But.any hx2)⟩
theorem second_end {l : List Nd} (h : Ref.trimL l = []) : Anb.second [] l = some (0, []) := by unfold Anb.second; rw [if_neg (by simp), if_neg (by simp), if_pos h]
theorem second_sign {l : List Nd} (h : Ref.trimL l ≠ []) (hs : (Anb.sign (Ref.trimL l)).1 ≠ 0) : Anb.second [] l = (Anb.number false (Ref.trimL (Anb.sign (Ref.trimL l)).2)).map fun p => ((Anb.sign (Ref.trimL l)).1 * p.1, p.2) := by
  unfold Anb.second; rw [if_neg (by simp), if_neg (by simp), if_neg h, if_pos hs]
theorem second_num {l : List Nd} (h : Ref.trimL l ≠ []) (hs : (Anb.sign (Ref.trimL l)).1 = 0) : Anb.second [] l = Anb.number true (Ref.trimL l) := by
  unfold Anb.second; rw [if_neg (by simp), if_neg (by simp), if_neg h, if_neg (by simpa using hs)]
theorem sign_cases (l : List Nd) : (Anb.sign l).1 = 0 ∧ (Anb.sign l).2 = l ∨ (Anb.sign l).1 = 1 ∨ (Anb.sign l).1 = -1 := by
  cases l with
  | nil => exact .inl ⟨rfl, rfl⟩
  | cons n l =>
    unfold Anb.sign
    dsimp only
    split
    · exact .inr (.inl rfl)
    · split
      · exact .inr (.inr rfl)
      · exact .inl ⟨rfl, rfl⟩
theorem sign_oks {l : List Nd} (h : Oks l) : Oks (Anb.sign l).2 := by
  cases l with
  | nil => exact h
  | cons n l =>
    unfold Anb.sign
    dsimp only
    split
    · exact h.tail
    · split
      · exact h.tail
      · exact h
set_option maxRecDepth 100000 in
set_option maxHeartbeats 1000000 in
theorem second_none (X : Nat) (l : List Nd) (w : World) (h : ARd w X l false) :
    Calls Tryd.prog 21 #[.pointer (some ⟨X, 0, none⟩), .string ⟨#[]⟩] w (NumPost X w (Anb.second [] l)) := by
  have H := Lib.hid h
  obtain ⟨m, hm⟩ : ∃ m, m = Ref.trimL l := ⟨_, rfl⟩
  have hok : Oks m := hm ▸ trimL_oks h.oks
  clear h
  by_cases h0 : m = []
  · rw [second_end (hm ▸ h0)]
    have HM := Lib.hid (hm.symm.trans h0)
    clear hm h0 hok
    go_enter Tryd.func21, Tryd.ntmps21
    go_wp2_with fail
    refine (white_any2 X l false _ H.out).mono ?_
    rintro e w1 ⟨rfl, h1, hx1⟩
    rw [HM.out] at h1
    obtain ⟨A, c, k0, k1, z0, z1, hc⟩ := h1.open0
    go_wp2_with fail
    go_ret
    exact ⟨rfl, h1, hx1⟩
  · obtain ⟨o, hO⟩ : ∃ o, o = Anb.second [] l := ⟨_, rfl⟩
    rw [← hO]
    have hcs := sign_cases m
    have hsok := sign_oks hok
    have hs0 : (Anb.sign m).1 = 0 → o = Anb.number true m := fun e => by rw [hO, hm]; exact second_num (hm ▸ h0) (by rw [← hm]; exact e)
    have hs1 : (Anb.sign m).1 ≠ 0 → o = (Anb.number false (Ref.trimL (Anb.sign m).2)).map fun p => ((Anb.sign m).1 * p.1, p.2) := fun e => by rw [hO, second_sign (hm ▸ h0) (by rw [← hm]; exact e), ← hm]
    have HM := Lib.hid hm.symm
    obtain ⟨S, hS⟩ : ∃ S, S = Anb.sign m := ⟨_, rfl⟩
    rw [← hS] at hcs hsok hs0 hs1
    have HS := Lib.hid hS.symm
    obtain ⟨by_, m2⟩ := S
    obtain ⟨n0, m0, rfl⟩ : ∃ n0 m0, m = n0 :: m0 := by cases m; exact absurd rfl h0; exact ⟨_, _, rfl⟩
    clear hm hS hO h0
    dsimp only at hcs hsok hs0 hs1
    rcases hcs with ⟨rfl, rfl⟩ | hcs
    · have HO := Lib.hid (hs0 rfl).symm
      have HOK := Lib.hid hok
      clear hs0 hs1 hsok hok
      go_enter Tryd.func21, Tryd.ntmps21
      go_wp2_with fail
      refine (white_any2 X l false _ H.out).mono ?_
      rintro e w1 ⟨rfl, h1, hx1⟩
      rw [HM.out] at h1
      have H1 := Lib.hid h1
      clear h1
      obtain ⟨b, off, c, kv, k0, k1, z0, z1, hc, hm, ⟨c0, c1, c2, c3, c4, c5, c6⟩, hbX, hbl, hd⟩ := H1.out.open1
      go_wp2_with fail
      refine (sign_any2 X _ false _ H1.out).mono ?_
      rintro e w3 ⟨rfl, h3, hx2⟩
      rw [HS.out] at h3
      rw [HS.out]
      have hx3 : But X w w3 := hx1.trans hx2
      clear hx2 hx1 hd
      have H3 := Lib.hid h3
      clear h3
      go_wp2_with fail
      cases o with
      | none =>
        refine (number_no X _ true _ H3.out HO.out).mono ?_
        rintro e w4 ⟨rfl, h4, hx4⟩
        go_wp2_with fail
        go_ret
        exact ⟨_, _, rfl, h4, hx3.trans hx4⟩
      | some p =>
        obtain ⟨v, r⟩ := p
        obtain ⟨hb1, hb2⟩ := num_bd HOK.out HO.out
        refine (number_yes X _ r v true _ H3.out HO.out).mono ?_
        rintro e w4 ⟨rfl, h4, hx4⟩
        go_wp2_with fail
        go_ret
        exact ⟨ret_int (by rfl), h4, hx3.trans hx4⟩
    · have hne : by_ ≠ 0 := by rcases hcs with e | e <;> rw [e] <;> decide
      have ho := hs1 hne
      obtain ⟨o', hO'⟩ : ∃ o', o' = Anb.number false (Ref.trimL m2) := ⟨_, rfl⟩
      rw [← hO'] at ho
      have HO := Lib.hid hO'.symm
      have HOK := Lib.hid (trimL_oks hsok)
      have HO2 := Lib.hid ho
      have HCS := Lib.hid hcs
      have hneb : (by_ == 0) = false := by simpa using hne
      have hb0 : -1 ≤ by_ ∧ by_ ≤ 1 := by rcases hcs with e | e <;> omega
      clear hs0 hs1 hsok hok hO' ho hcs
      rw [HO2.out]
      clear HO2 hne hneb hb0
      rcases HCS.out with rfl | rfl
      all_goals
        clear HCS
        cases o' with
        | none =>
          simp only [Option.map_none]
          go_enter Tryd.func21, Tryd.ntmps21
          go_wp2_with fail
          refine (white_any2 X l false _ H.out).mono ?_
          rintro e w1 ⟨rfl, h1, hx1⟩
          rw [HM.out] at h1
          have H1 := Lib.hid h1
          clear h1
          obtain ⟨b, off, c, kv, k0, k1, z0, z1, hc, hm, ⟨c0, c1, c2, c3, c4, c5, c6⟩, hbX, hbl, hd⟩ := H1.out.open1
          go_wp2_with fail
          refine (sign_any2 X _ false _ H1.out).mono ?_
          rintro e w3 ⟨rfl, h3, hx2⟩
          rw [HS.out] at h3
          rw [HS.out]
          have hx13 : But X w w3 := hx1.trans hx2
          clear hx2 hx1 hd
          have H3 := Lib.hid h3
          clear h3
          go_wp2_with fail
          refine (white_any2 X _ false _ H3.out).mono ?_
          rintro e w4 ⟨rfl, h4, hx4⟩
          have hx3 : But X w w4 := hx13.trans hx4
          have H4 := Lib.hid h4
          clear h4 hx4 hx13
          go_wp2_with fail
          refine (number_no X _ false _ H4.out HO.out).mono ?_
          rintro e w5 ⟨rfl, h5, hx5⟩
          go_wp2_with fail
          go_ret
          exact ⟨_, _, rfl, h5, hx3.trans hx5⟩
        | some p =>
          obtain ⟨v, r⟩ := p
          simp only [Option.map_some]
          obtain ⟨hb1, hb2⟩ := num_bd HOK.out HO.out
          go_enter Tryd.func21, Tryd.ntmps21
          go_wp2_with fail
          refine (white_any2 X l false _ H.out).mono ?_
          rintro e w1 ⟨rfl, h1, hx1⟩
          rw [HM.out] at h1
          have H1 := Lib.hid h1
          clear h1
          obtain ⟨b, off, c, kv, k0, k1, z0, z1, hc, hm, ⟨c0, c1, c2, c3, c4, c5, c6⟩, hbX, hbl, hd⟩ := H1.out.open1
          go_wp2_with fail
          refine (sign_any2 X _ false _ H1.out).mono ?_
          rintro e w3 ⟨rfl, h3, hx2⟩
          rw [HS.out] at h3
          rw [HS.out]
          have hx13 : But X w w3 := hx1.trans hx2
          clear hx2 hx1 hd
          have H3 := Lib.hid h3
          clear h3
          go_wp2_with fail
          refine (white_any2 X _ false _ H3.out).mono ?_
          rintro e w4 ⟨rfl, h4, hx4⟩
          have hx3 : But X w w4 := hx13.trans hx4
          have H4 := Lib.hid h4
          clear h4 hx4 hx13
          go_wp2_with fail
          refine (number_yes X _ r v false _ H4.out HO.out).mono ?_
          rintro e w5 ⟨rfl, h5, hx5⟩
          go_wp2_with fail
          go_ret
          exact ⟨ret_int (by omega), h5, hx3.trans hx5⟩
theorem second_any (X : Nat) (rest : List UInt8) (l : List Nd) (w : World) (h : ARd w X l false) (hr : rest.length ≤ 4294967297) :
    Calls Tryd.prog 21 #[.pointer (some ⟨X, 0, none⟩), .string ⟨rest.toArray⟩] w (NumPost X w (Anb.second rest l)) := by
  match rest, hr with
  | [], _ => exact second_none X l w h
  | c :: v, hr =>
    by_cases hne : c = 45 ∧ v = []
    · obtain ⟨rfl, rfl⟩ := hne; exact second_dash X l w h
    · exact second_more X l c v w h (by simpa using hr) hne
end Go.Proofs.YtihnffmnofinmaaDoor
