/- The reference's Anb. -/
import Derived.Test.YtihnffmnofinmaaDoorParse
import Derived.Deep.DeepCutAuto
import Derived.Deep.CutBlock
namespace Go.Proofs.YtihnffmnofinmaaDoor
open Go.RowKit
def numVal (o : Option Int) : Value := .tuple #[.int .i64 (o.getD 0), .bool o.isSome]
theorem numTok_some {n : Nd} {sg : Bool} (h : n.tok.kind = 10) (hw : n.tok.whole = true) (hs : n.tok.sign = sg) : Ref.numTok [n] sg = some n.tok.num := by unfold Ref.numTok; dsimp only; rw [if_pos ⟨h, hw, hs⟩]
theorem numTok_none {n : Nd} {sg : Bool} (h : ¬ (n.tok.kind = 10 ∧ n.tok.whole = true ∧ n.tok.sign = sg)) : Ref.numTok [n] sg = none := by unfold Ref.numTok; dsimp only; rw [if_neg h]
set_option maxRecDepth 100000 in
set_option maxHeartbeats 1000000 in
theorem rnumber_any (l : List Nd) (sg : Bool) (v : Value) (w : World) (S : Nat → Prop) (hn : l.length ≤ 16777216) (hv : Dat.At w S (nodesDat l) v) :
    Calls Tryd.prog 24 #[v, .bool sg] w (Ret (numVal (Ref.numTok l sg)) (Still w)) := by
  obtain ⟨A, c, rfl, hcl, hcm⟩ := hv.form
  rw [Nd.dats_len] at hv hcl
  rw [Nd.dats_len]
  unfold maxLen at hcm
  match l, hn, hv, hcl with
  | [], hn, hv, hcl =>
    have e : numVal (Ref.numTok [] sg) = .tuple #[.int .i64 0, .bool false] := rfl
    rw [e]
    go_enter Tryd.func24, Tryd.ntmps24
    go_wp2_with fail
    go_ret2
    exact ⟨rfl, rfl⟩
  | n :: m :: r, hn, hv, hcl =>
    have e : numVal (Ref.numTok (n :: m :: r) sg) = .tuple #[.int .i64 0, .bool false] := rfl
    rw [e]
    simp only [List.length_cons] at hn hcl
    have h1 : ((r.length : Int) + 1 + 1 != 1) = true := by simp; omega
    go_enter Tryd.func24, Tryd.ntmps24
    go_wp2_with fail
    go_ret2
    exact ⟨rfl, rfl⟩
  | [n], hn, hv, hcl =>
    obtain ⟨b, off, kv, rfl, hb, _, hkv, hc⟩ := nds_at hv (i := 0) (by simp)
    rw [show Ref.nd [n] 0 = n from rfl] at hc
    simp only [Nat.zero_mul, Nat.add_zero] at hc
    obtain ⟨hc0, hc1, hc2, hc3, hc4, hc5, hc6⟩ := nd_load hc
    clear hc hkv hv
    by_cases hk : n.tok.kind = 10
    · rw [hk] at hc0
      cases hw : n.tok.whole with
      | false =>
        rw [numTok_none (by simp [hw])]
        have e : numVal none = .tuple #[.int .i64 0, .bool false] := rfl
        rw [e]
        rw [hw] at hc3
        clear hk hw
        go_enter Tryd.func24, Tryd.ntmps24
        go_wp2_with fail
        go_ret2
        exact ⟨rfl, rfl⟩
      | true =>
        rw [hw] at hc3
        cases hs : n.tok.sign
        all_goals cases sg
        all_goals rw [hs] at hc4
        all_goals first
          | (rw [numTok_some hk hw hs]
             have e : numVal (some n.tok.num) = .tuple #[.int .i64 n.tok.num, .bool true] := rfl
             rw [e]
             clear hk hw hs
             go_enter Tryd.func24, Tryd.ntmps24
             go_wp2_with fail
             go_ret2
             exact ⟨rfl, rfl⟩)
          | (rw [numTok_none (by simp [hs])]
             have e : numVal none = .tuple #[.int .i64 0, .bool false] := rfl
             rw [e]
             clear hk hw hs
             go_enter Tryd.func24, Tryd.ntmps24
             go_wp2_with fail
             go_ret2
             exact ⟨rfl, rfl⟩)
    · rw [numTok_none (by simp [hk])]
      have e : numVal none = .tuple #[.int .i64 0, .bool false] := rfl
      rw [e]
      have hk' : (n.tok.kind != 10) = true := by simpa using hk
      clear hk
      go_enter Tryd.func24, Tryd.ntmps24
      go_wp2_with fail
      go_ret2
      exact ⟨rfl, rfl⟩
theorem numTok_bd {sg : Bool} {l : List Nd} {v : Int} (ho : Oks l) (h : Ref.numTok l sg = some v) : -2147483648 ≤ v ∧ v ≤ 2147483647 := by
  unfold Ref.numTok at h
  split at h
  · split at h
    · cases h; exact ho.head.2
    · cases h
  · cases h
theorem trim_le (l : List Nd) {k : Nat} (h : l.length ≤ k) : (Ref.trim l).length ≤ k := by
  have ht : ∀ (f : Nat) (l : List Nd), (Ref.trimR f l).length ≤ l.length := by
    intro f
    induction f with
    | zero => intro l; exact Nat.le_refl _
    | succ f ih => intro l; unfold Ref.trimR; split; exact Nat.le_trans (ih _) (by rw [List.length_take]; omega); exact Nat.le_refl _
  have hL : ∀ l : List Nd, (Ref.trimL l).length ≤ l.length := by
    intro l
    induction l with
    | nil => exact Nat.le_refl _
    | cons n l ih => unfold Ref.trimL; split; simp; omega; exact Nat.le_refl _
  exact Nat.le_trans (Nat.le_trans (ht _ _) (hL _)) h
/-- The call handed back three values. -/
def anbVal : Option (Int × Int) → Value
  | some p => .tuple #[.int .i64 p.1, .int .i64 p.2, .bool true]
  | none => .tuple #[.int .i64 0, .int .i64 0, .bool false]
set_option maxRecDepth 100000 in
set_option maxHeartbeats 12000000 in
theorem RAnb_any (l : List Nd) (v : Value) (w : World) (S : Nat → Prop) (hn : l.length ≤ 16777216) (ho : Oks l) (hv : Dat.At w S (nodesDat l) v) :
    Calls Tryd.prog 8 #[v] w (Ret (anbVal (Ref.anb l)) (Ext (fun _ => True) w)) := by
  obtain ⟨F, hF⟩ : ∃ F, F = Ref.anb l := ⟨_, rfl⟩
  rw [← hF]
  unfold Ref.anb at hF
  obtain ⟨m, hm⟩ : ∃ m, m = Ref.trim l := ⟨_, rfl⟩
  rw [← hm] at hF
  have HF := Lib.hid hF
  have HM := Lib.hid hm
  clear hF hm
  go_enter Tryd.func8, Tryd.ntmps8
  go_wp2_with fail
  refine (Trim_any l v _ S hn hv).mono ?_
  rintro e w' ⟨rfl, v1, rfl, hd1⟩
  rw [← HM.out] at hd1
  obtain ⟨A, c, rfl, hcl, hcm⟩ := hd1.form
  rw [Nd.dats_len] at hcl hd1
  rw [Nd.dats_len]
  unfold maxLen at hcm
  have hml : m.length ≤ 16777216 := HM.out ▸ trim_le l hn
  have HD := Lib.hid hd1
  clear hd1
  go_wp2_with fail
  go_loopg [5] (m.length + 1) (fun g s wr => ∃ k : Nat, s = .int .i64 k ∧ k ≤ m.length ∧ m.length < g + k ∧ w = wr ∧ Hid (∀ i, i < k → (Ref.nd m i).kids = []))
  case atStart => exact ⟨0, rfl, Nat.zero_le _, by omega, rfl, Lib.hid fun i hi => by omega⟩
  case round =>
    obtain ⟨k, rfl, hk, hg, rfl, hno⟩ := hrel
    by_cases hlt : k < m.length
    · obtain ⟨b, off, kv, rfl, hb, _, hkv, hc⟩ := nds_at HD.out hlt
      obtain ⟨KA, kc, rfl, hkl, hkm⟩ := hkv.form
      rw [Nd.dats_len] at hc hkl
      have hc6 := (nd_load hc).2.2.2.2.2.2
      have hsome : 0 < (Ref.nd m k).kids.length → F = none := fun h => by
        rw [HF.out, if_pos (List.any_eq_true.2 ⟨Ref.nd m k, by simp [Ref.nd, List.getD, List.getElem?_eq_getElem hlt], by cases hks : (Ref.nd m k).kids; rw [hks] at h; simp at h; rfl⟩)]
      have hnext : (Ref.nd m k).kids.length = 0 → Hid (∀ i, i < k + 1 → (Ref.nd m i).kids = []) := fun h => Lib.hid fun i hi => by
        by_cases e : i = k
        · rw [e]; exact List.eq_nil_of_length_eq_zero h
        · exact hno.out i (by omega)
      have HSOME := Lib.hid hsome
      have HNEXT := Lib.hid hnext
      clear hsome hnext hc hkv HF
      generalize (Ref.nd m k).kids.length = KL at *
      by_cases h0 : 0 < KL
      · have e := HSOME.out h0
        subst e
        clear HSOME HNEXT
        go_wp2_with fail
        go_ret3
        exact ⟨rfl, Ext.refl _ _⟩
      · obtain rfl : KL = 0 := by omega
        have E := HNEXT.out rfl
        clear HSOME HNEXT
        go_wp2_with fail
        go_roundg (gk - 1)
        case measure => omega
        case rel => exact ⟨k + 1, by go_num, by omega, by omega, rfl, E⟩
    · have hno2 : m.any (fun n => !n.kids.isEmpty) = false := by
        rw [List.any_eq_false]
        intro n hn
        obtain ⟨i, hi, rfl⟩ := List.mem_iff_getElem.1 hn
        have := hno.out i (by omega)
        simp [Ref.nd, List.getD, List.getElem?_eq_getElem hi] at this
        simp [this]
      have hF := HF.out
      rw [hno2, if_neg (by simp)] at hF
      clear hno hno2 HF
      cases m with
      | nil =>
        dsimp only at hF
        subst hF
        go_wp2_with fail
        go_ret3
        exact ⟨rfl, Ext.refl _ _⟩
      | cons n r =>
        dsimp only at hF
        have HF := Lib.hid hF
        clear hF
        have hno : Oks (n :: r) := HM.out ▸ trim_oks ho
        obtain ⟨b, off, kv, rfl, hb, _, hkv, hc⟩ := nds_at HD.out (i := 0) (by simp)
        rw [show Ref.nd (n :: r) 0 = n from rfl] at hc
        simp only [Nat.zero_mul, Nat.add_zero] at hc
        obtain ⟨hc0, hc1, hc2, hc3, hc4, hc5, hc6⟩ := nd_load hc
        clear hc hkv
        have hd := Lib.hid fun off' => nds_drop HD.out off'
        have hL : n.tok.text.length ≤ 4503599627370496 := by have := hno.head.1; omega
        simp only [List.length_cons] at *
        go_wp2_with fail
        refine (Lower_any n.tok.text _ hL).mono ?_
        rintro e w1 ⟨rfl, hx1⟩
        go_upto_block 2 with fail
        have hof : ∃ off', (if c = 1 then some (⟨b, off, none⟩ : Addr) else some ⟨b, off + 7, none⟩) = some ⟨b, off', none⟩ ∧ (0 < r.length → off' = off + 7) := by
          by_cases h1 : c = 1
          · exact ⟨off, by rw [if_pos h1], fun h => by omega⟩
          · exact ⟨off + 7, by rw [if_neg h1], fun _ => rfl⟩
        obtain ⟨off', hof, hof'⟩ := hof
        rw [hof]
        have hr1 := hd.out off' hof'
        have HR := Lib.hid (hr1.ext (T := fun _ => True) (S' := fun _ => True) (((Ext.refl _ _).alloc _).trans hx1) fun _ _ _ => ⟨trivial, trivial⟩)
        have hxw : Ext (fun _ => True) w w1 := ((Ext.refl _ _).alloc _).trans hx1
        have hbw : ∀ j u, (nvals n.tok (.bool false))[j]? = some u → j < 6 → w1.cell? ⟨w.heap.size, j, none⟩ = some u := fun j u hu hj => by
          refine hx1.cell trivial ?_
          rw [block_cell (block_new _ _)]
          rw [← hu]
          match j, hj with
          | 0, _ | 1, _ | 2, _ | 3, _ | 4, _ | 5, _ => rfl
        have k0 : w1.cell? ⟨w.heap.size, 0, none⟩ = some (.int .i64 n.tok.kind) := hbw 0 _ rfl (by omega)
        have k1 : w1.cell? ⟨w.heap.size, 1, none⟩ = some (.string ⟨n.tok.text.toArray⟩) := hbw 1 _ rfl (by omega)
        have k2 : w1.cell? ⟨w.heap.size, 2, none⟩ = some (.int .i64 n.tok.num) := hbw 2 _ rfl (by omega)
        have k3 : w1.cell? ⟨w.heap.size, 3, none⟩ = some (.bool n.tok.whole) := hbw 3 _ rfl (by omega)
        have HD1 := Lib.hid (HD.out.ext (T := fun _ => True) (S' := fun _ => True) hxw fun _ _ _ => ⟨trivial, trivial⟩)
        have HNO := Lib.hid hno
        clear hbw hof hof' hr1 hd hx1 HD hc0 hc1 hc2 hc3 hc4 hc5 hc6 hL hno
        go_cut [7, 8, 9] (fun s7 s8 s9 wx => ∃ (a : Int) (u : List UInt8) (rest : List Nd) (v9 : Value), s7 = .string ⟨u.toArray⟩ ∧ s8 = .int .i64 a ∧ s9 = v9 ∧ Hid (Dat.At wx (fun _ => True) (nodesDat rest) v9) ∧ rest.length ≤ 16777216 ∧ u.length ≤ 4294967296 ∧ -2147483648 ≤ a ∧ a ≤ 2147483647 ∧ Hid (Oks rest) ∧ Ext (fun _ => True) w wx ∧ Hid (F = Ref.anbTail a u rest))
        case first =>
          have hnn := HNO.out.head
          obtain ⟨hnt, hnum0, hnum1⟩ := hnn
          have hro := Lib.hid HNO.out.tail
          have hU : (Ref.lower n.tok.text).length ≤ 4294967296 := by rw [lower_len]; exact hnt
          obtain ⟨K, hK⟩ : ∃ K, K = n.tok.kind := ⟨_, rfl⟩
          obtain ⟨U, hUU⟩ : ∃ U, U = Ref.lower n.tok.text := ⟨_, rfl⟩
          obtain ⟨T, hT⟩ : ∃ T, T = n.tok.text := ⟨_, rfl⟩
          obtain ⟨W, hW⟩ : ∃ W, W = n.tok.whole := ⟨_, rfl⟩
          obtain ⟨Z, hZ⟩ : ∃ Z, Z = n.tok.num := ⟨_, rfl⟩
          have hF := HF.out
          unfold Ref.anbHead at hF
          rw [← hK, ← hUU, ← hT, ← hW, ← hZ] at hF
          rw [← hUU] at hU ⊢
          rw [← hK] at k0
          rw [← hT] at k1
          rw [← hZ] at k2 hnum0 hnum1
          rw [← hW] at k3
          clear hK hUU hT hW hZ HF hnt HNO HM hcm
          by_cases h1 : K = 1
          · as_aux_lemma =>
            subst h1
            have hD : F = (if U.head? = some 45 then Ref.anbTail (-1) (U.drop 1) r else Ref.anbTail 1 U r) ∨ (r = [] ∧ U = [111, 100, 100] ∧ F = some (2, 1)) ∨ (r = [] ∧ U = [101, 118, 101, 110] ∧ F = some (2, 0)) := by
              by_cases e1 : r = [] ∧ (1 : Int) = 1 ∧ U = [111, 100, 100]
              · rw [if_pos e1] at hF; exact .inr (.inl ⟨e1.1, e1.2.2, hF⟩)
              rw [if_neg e1] at hF
              by_cases e2 : r = [] ∧ (1 : Int) = 1 ∧ U = [101, 118, 101, 110]
              · rw [if_pos e2] at hF; exact .inr (.inr ⟨e2.1, e2.2.2, hF⟩)
              rw [if_neg e2] at hF
              simp only [show ¬ ((1 : Int) = 10) by omega, show ¬ ((1 : Int) = 12) by omega, show ¬ ((1 : Int) = 9) by omega, false_and, and_false, if_false, if_true] at hF
              exact .inl hF
            rcases hD with hD | ⟨hr, hU2, hF2⟩ | ⟨hr, hU2, hF2⟩
            · by_cases hodd : r = [] ∧ (U = [111, 100, 100] ∨ U = [101, 118, 101, 110])
              · obtain ⟨hr, hU2⟩ := hodd
                clear hD
                subst hr
                rcases hU2 with hU2 | hU2
                · subst hU2
                  rw [if_pos ⟨rfl, rfl, rfl⟩] at hF
                  subst hF
                  go_wp2_with fail
                  go_ret3
                  exact ⟨rfl, hxw⟩
                · subst hU2
                  rw [if_neg (by simp), if_pos ⟨rfl, rfl, rfl⟩] at hF
                  subst hF
                  go_wp2_with fail
                  go_ret3
                  exact ⟨rfl, hxw⟩
              · have HDD := Lib.hid hD
                have hro1 : (((r.length : Int) + 1 == 1) = false) ∨ (r = [] ∧ (U == [111, 100, 100]) = false ∧ (U == [101, 118, 101, 110]) = false) := by
                  by_cases hr : r = []
                  · exact .inr ⟨hr, by simpa [hr] using fun e => hodd ⟨hr, .inl e⟩, by simpa [hr] using fun e => hodd ⟨hr, .inr e⟩⟩
                  · exact .inl (by have := List.length_pos_iff.2 hr; simp; omega)
                clear hD hF hodd
                match U, hU, HDD with
                | [], hU, HDD =>
                  have HE : Hid (F = Ref.anbTail 1 [] r) := HDD.out
                  clear HDD
                  rcases hro1 with hro1 | ⟨rfl, _, _⟩
                  all_goals
                    go_wp2_with fail
                    go_meet
                    exact ⟨1, [], _, _, rfl, rfl, rfl, HR, by first | omega | simp, by simp, by omega, by omega, hro, hxw, HE⟩
                | c1 :: u1, hU, HDD =>
                  simp only [List.length_cons] at hU
                  by_cases h45 : c1 = 45
                  · subst h45
                    have HE : Hid (F = Ref.anbTail (-1) u1 r) := by have := HDD.out; rw [if_pos (show (45 :: u1).head? = some 45 from rfl)] at this; exact Lib.hid this
                    have hb0 : (((ByteArray.mk (45 :: u1).toArray)[0]'(by simp [ByteArray.size])).toNat : Int) = 45 := rfl
                    have hex := extract_tail 45 u1
                    clear HDD
                    rcases hro1 with hro1 | ⟨rfl, hu1, hu2⟩
                    all_goals
                      go_wp2_with fail
                      go_meet
                      exact ⟨-1, u1, _, _, rfl, rfl, rfl, HR, by first | omega | simp, by omega, by omega, by omega, hro, hxw, HE⟩
                  · have HE : Hid (F = Ref.anbTail 1 (c1 :: u1) r) := by have := HDD.out; rw [if_neg (by simpa using h45)] at this; exact Lib.hid this
                    have hb0 : ((((ByteArray.mk (c1 :: u1).toArray)[0]'(by simp [ByteArray.size])).toNat : Int) == 45) = false := by
                      have : ¬ ((((ByteArray.mk (c1 :: u1).toArray)[0]'(by simp [ByteArray.size])).toNat : Int) = 45) := fun e => h45 (by apply UInt8.toNat_inj.1; have : (c1.toNat : Int) = 45 := e; simp; omega)
                      simpa using this
                    clear HDD h45
                    rcases hro1 with hro1 | ⟨rfl, hu1, hu2⟩
                    all_goals
                      go_wp2_with fail
                      go_meet
                      exact ⟨1, c1 :: u1, _, _, rfl, rfl, rfl, HR, by first | omega | simp, by simp; omega, by omega, by omega, hro, hxw, HE⟩
            · subst hr
              subst hU2
              subst hF2
              clear hF
              go_wp2_with fail
              go_ret3
              exact ⟨rfl, hxw⟩
            · subst hr
              subst hU2
              subst hF2
              clear hF
              go_wp2_with fail
              go_ret3
              exact ⟨rfl, hxw⟩
          · have h1' : (K == 1) = false := by simpa using h1
            rw [if_neg (fun e => h1 e.2.1), if_neg (fun e => h1 e.2.1)] at hF
            by_cases h10 : K = 10
            · as_aux_lemma =>
              subst h10
              clear h1 h1'
              simp only [show ¬ ((10 : Int) = 1) by omega, show ¬ ((10 : Int) = 12) by omega, show ¬ ((10 : Int) = 9) by omega, false_and, if_false, true_and] at hF
              cases W with
              | true =>
                cases r with
                | nil =>
                  rw [if_pos ⟨rfl, rfl⟩] at hF
                  subst hF
                  go_wp2_with (go_quiet (fail))
                  go_ret3
                  exact ⟨rfl, hxw.more _⟩
                | cons r0 r1 =>
                  rw [if_neg (by simp)] at hF
                  subst hF
                  have hlr : ((r1.length : Int) + 1 + 1 == 1) = false := by simp; omega
                  go_wp2_with fail
                  go_ret3
                  exact ⟨rfl, hxw⟩
              | false =>
                rw [if_neg (by simp)] at hF
                subst hF
                go_wp2_with fail
                all_goals go_ret3
                all_goals exact ⟨rfl, hxw⟩
            · rw [if_neg (fun e => h10 e.2.1)] at hF
              have h10' : (K == 10) = false := by simpa using h10
              by_cases h12 : K = 12
              · as_aux_lemma =>
                subst h12
                clear h1 h1' h10 h10'
                cases W with
                | true =>
                  rw [if_pos ⟨rfl, rfl⟩] at hF
                  have HE := Lib.hid hF
                  clear hF
                  by_cases hl0 : (r.length : Int) + 1 = 1
                  all_goals
                    go_wp2_with fail
                    go_meet
                    exact ⟨Z, U, _, _, rfl, rfl, rfl, HR, by omega, hU, hnum0, hnum1, hro, hxw, HE⟩
                | false =>
                  rw [if_neg (by simp), if_neg (by simp), if_neg (by simp)] at hF
                  subst hF
                  go_wp2_with fail
                  all_goals go_ret3
                  all_goals exact ⟨rfl, hxw⟩
              · rw [if_neg (fun e => h12 e.1)] at hF
                have h12' : (K == 12) = false := by simpa using h12
                by_cases h9 : K = 9 ∧ T = [43]
                · as_aux_lemma =>
                  obtain ⟨rfl, rfl⟩ := h9
                  clear h1 h1' h10 h10' h12 h12'
                  cases r with
                  | nil =>
                    rw [if_neg (by simp), if_neg (by simp)] at hF
                    subst hF
                    go_wp2_with fail
                    go_ret3
                    exact ⟨rfl, hxw⟩
                  | cons m1 r1 =>
                    obtain ⟨b1, off1, kv1, hA1, hb1, _, hkv1, hc1⟩ := nds_at HD1.out (i := 1) (by simp)
                    rw [show Ref.nd (n :: m1 :: r1) 1 = m1 from rfl] at hc1
                    rw [show Ref.nd (m1 :: r1) 0 = m1 from rfl] at hF
                    cases hA1
                    obtain ⟨g0, g1, _⟩ := nd_load hc1
                    simp only [Nat.one_mul] at g0 g1
                    clear hc1 hkv1
                    have hmo := hro.out.head
                    simp only [List.length_cons] at hcl hml
                    have hlr : ((r1.length : Int) + 1 + 1 == 1) = false := by simp; omega
                    by_cases hm1 : m1.tok.kind = 1
                    · rw [if_pos ⟨rfl, rfl, by simp, hm1⟩] at hF
                      have HE := Lib.hid hF
                      rw [hm1] at g0
                      have hLm : m1.tok.text.length ≤ 4503599627370496 := by have := hmo.1; omega
                      clear hF hm1
                      have hdr : ∀ off', (0 < r1.length → off' = off + 14) → Dat.At w1 (fun _ => True) (nodesDat r1) (.slice (some ⟨b, off', none⟩) r1.length (c - 2)) := fun off' h => by
                        have hq : Dat.At w1 (fun _ => True) (.s ((Nd.dats (n :: m1 :: r1)).drop 2)) (.slice (some ⟨b, off', none⟩) ((m1 :: r1).length + 1 - 2) (c - 2)) := HD1.out.drop (size := 7) (k := 2) (Nd.dats_size _) (by simp only [List.length_cons]; omega) (fun hk => by
                          simp only [List.length_cons] at hk
                          have := h (by omega)
                          omega)
                        have hl : (m1 :: r1).length + 1 - 2 = r1.length := by simp only [List.length_cons]; omega
                        rw [hl] at hq
                        exact hq
                      have HDR0 := Lib.hid hdr
                      clear hdr
                      have hc2 : c = 2 ∨ ¬ c = 2 := by omega
                      have hml1 : (Ref.lower m1.tok.text).length ≤ 4294967296 := by rw [lower_len]; exact hmo.1
                      rcases hc2 with rfl | hc2
                      all_goals
                        go_wp2_with fail
                        refine (Lower_any m1.tok.text _ hLm).mono ?_
                        rintro e w2 ⟨rfl, hx2⟩
                        have HDR := Lib.hid (fun off' h => (HDR0.out off' h).ext (T := fun _ => True) (S' := fun _ => True) hx2 fun _ _ _ => ⟨trivial, trivial⟩)
                        clear g0 g1 k0 k1 k2 k3
                        go_wp2_with fail
                        all_goals go_meet
                        all_goals exact ⟨1, _, r1, _, rfl, rfl, rfl, Lib.hid (by first | exact HDR.out _ (fun h => by omega) | (have h := HDR.out off (fun h => by omega); rwa [show r1.length = 0 by omega] at h)), by omega, hml1, by omega, by omega, Lib.hid hro.out.tail, hxw.trans hx2, HE⟩
                    · rw [if_neg (fun e => hm1 e.2.2.2), if_neg (by omega)] at hF
                      subst hF
                      have hm1' : (m1.tok.kind == 1) = false := by simpa using hm1
                      clear hm1
                      go_wp2_with fail
                      go_ret3
                      exact ⟨rfl, hxw⟩
                · as_aux_lemma =>
                  have h9' : (K == 9) = false ∨ (K = 9 ∧ (T == [43]) = false) := by
                    by_cases hk : K = 9
                    · exact .inr ⟨hk, by simpa [hk] using h9⟩
                    · exact .inl (by simpa using hk)
                  rw [if_neg (fun e => h9 ⟨e.1, e.2.1⟩), if_neg h1] at hF
                  subst hF
                  clear h1 h10 h12 h9
                  rcases h9' with h9 | ⟨rfl, h9⟩
                  · by_cases hl0 : (r.length : Int) + 1 = 1
                    all_goals
                      go_wp2_with fail
                      go_ret3
                      exact ⟨rfl, hxw⟩
                  · clear h1' h10' h12'
                    by_cases hl0 : (r.length : Int) + 1 = 1
                    all_goals
                      go_wp2_with fail
                      go_ret3
                      exact ⟨rfl, hxw⟩
        clear k0 k1 k2 k3 HD1 HR HNO HF HM hcm hxw hb
        --TAIL
        obtain ⟨a, u, rest, v9, rfl, rfl, rfl, HR, hrl, hul, ha0, ha1, hro, hx, HF⟩ := hcut
        clear hcl hml hk hg hlt
        obtain ⟨RA, rc, rfl, hrcl, hrcm⟩ := HR.out.form
        rw [Nd.dats_len] at HR hrcl
        rw [Nd.dats_len]
        unfold maxLen at hrcm
        match u, hul, HF with
        | [], hul, HF =>
          obtain rfl : F = none := HF.out
          go_wp2_with fail
          go_ret3
          exact ⟨rfl, hx⟩
        | c0 :: v0, hul, HF =>
          simp only [List.length_cons] at hul
          by_cases hc0 : c0 = 110
          · subst hc0
            have hF := HF.out
            rw [Anb.anbTail_n] at hF
            have hb0 : ((ByteArray.mk (110 :: v0).toArray)[0]'(by simp [ByteArray.size])).toNat = 110 := rfl
            go_wp2_with fail
            refine (Trim_any rest _ _ (fun _ => True) hrl HR.out).mono ?_
            rintro e w' ⟨rfl, v2, rfl, hd2⟩
            obtain ⟨M, hM⟩ : ∃ M, M = Ref.trim rest := ⟨_, rfl⟩
            have hMo : Oks M := hM ▸ trim_oks hro.out
            have hMl : M.length ≤ 16777216 := hM ▸ trim_le rest hrl
            rw [← hM] at hd2 hF
            have HMT := Lib.hid hM
            clear hb0 hM
            obtain ⟨MA, mc, rfl, hmcl, hmcm⟩ := hd2.form
            rw [Nd.dats_len] at hd2 hmcl
            rw [Nd.dats_len]
            unfold maxLen at hmcm
            have HMD := Lib.hid hd2
            have HMO := Lib.hid hMo
            clear hd2 hMo
            by_cases hv0 : v0 = []
            · subst hv0
              rw [if_pos rfl] at hF
              unfold Ref.anbN at hF
              rw [← HMT.out] at hF
              by_cases hr0 : rest = []
              · as_aux_lemma =>
                rw [if_pos hr0] at hF
                subst hF
                subst hr0
                go_wp2_with fail
                go_ret3
                exact ⟨rfl, hx⟩
              · rw [if_neg hr0] at hF
                have hrl0 : 0 < rest.length := List.length_pos_iff.2 hr0
                have hrl1 : ((rest.length : Int) == 0) = false := by simp; omega
                clear hr0
                cases ho : Ref.numTok M true with
                | some b0 => as_aux_lemma =>
                  rw [ho] at hF
                  subst hF
                  go_wp2_with fail
                  refine (rnumber_any M true _ _ _ hMl HMD.out).mono ?_
                  rw [ho]
                  rintro e w' ⟨rfl, rfl⟩
                  unfold numVal
                  go_wp2_with fail
                  go_ret3
                  exact ⟨rfl, hx⟩
                | none =>
                  rw [ho] at hF
                  dsimp only at hF
                  match M, hMl, HMD, HMO, hmcl, ho, hF with
                  | [], hMl, HMD, HMO, hmcl, ho, hF => as_aux_lemma =>
                    obtain rfl : F = none := hF
                    go_wp2_with fail
                    refine (rnumber_any _ true _ _ _ hMl HMD.out).mono ?_
                    rw [ho]
                    rintro e w' ⟨rfl, rfl⟩
                    unfold numVal
                    go_wp2_with fail
                    go_ret3
                    exact ⟨rfl, hx⟩
                  | [m1], hMl, HMD, HMO, hmcl, ho, hF => as_aux_lemma =>
                    obtain rfl : F = none := hF
                    go_wp2_with fail
                    refine (rnumber_any _ true _ _ _ hMl HMD.out).mono ?_
                    rw [ho]
                    rintro e w' ⟨rfl, rfl⟩
                    unfold numVal
                    go_wp2_with fail
                    go_ret3
                    exact ⟨rfl, hx⟩
                  | m1 :: m2 :: ms, hMl, HMD, HMO, hmcl, ho, hF =>
                    unfold Ref.anbSign at hF
                    dsimp only at hF
                    obtain ⟨mb, moff, mkv, hmA, hmb, _, hmkv, hmc⟩ := nds_at HMD.out (i := 0) (by simp)
                    rw [show Ref.nd (m1 :: m2 :: ms) 0 = m1 from rfl] at hmc
                    simp only [Nat.zero_mul, Nat.add_zero] at hmc
                    obtain ⟨mc0, mc1, _⟩ := nd_load hmc
                    subst hmA
                    clear hmc hmkv
                    simp only [List.length_cons] at hMl hmcl
                    have hd3 : Dat.At wc (fun _ => True) (nodesDat (m2 :: ms)) (.slice (some ⟨mb, moff + 7, none⟩) (ms.length + 1) (mc - 1)) := nds_drop HMD.out (moff + 7) (fun _ => rfl)
                    have HD3 := Lib.hid hd3
                    have hif : (if mc = 1 then some (⟨mb, moff, none⟩ : Addr) else some ⟨mb, moff + 7, none⟩) = some ⟨mb, moff + 7, none⟩ := if_neg (by omega)
                    have HIF := Lib.hid hif
                    have hto : Oks (Ref.trim (m2 :: ms)) := trim_oks HMO.out.tail
                    have htl : (Ref.trim (m2 :: ms)).length ≤ 16777216 := trim_le _ (by simp; omega)
                    have HMD' := Lib.hid (show Dat.At wc (fun _ => True) (nodesDat (m1 :: m2 :: ms)) (.slice (some ⟨mb, moff, none⟩) (ms.length + 1 + 1) mc) from HMD.out)
                    have HO := Lib.hid ho
                    clear hd3 hif HMD ho
                    by_cases hk : m1.tok.kind = 9
                    · rw [hk] at mc0
                      by_cases h43 : m1.tok.text = [43]
                      · as_aux_lemma =>
                        rw [if_pos ⟨hk, .inl h43⟩] at hF
                        rw [h43] at hF mc1
                        clear hk h43
                        cases hob : Ref.numTok (Ref.trim (m2 :: ms)) false with
                        | none =>
                          rw [hob] at hF
                          obtain rfl : F = none := hF
                          have HOB := Lib.hid hob
                          clear hob
                          go_wp2_with fail
                          refine (rnumber_any _ true _ _ _ (by simp; omega) HMD'.out).mono ?_
                          rw [HO.out]
                          rintro e w' ⟨rfl, rfl⟩
                          unfold numVal
                          go_wp2_with fail
                          try rw [HIF.out]
                          refine (Trim_any (m2 :: ms) _ _ _ (by simp; omega) HD3.out).mono ?_
                          rintro e w' ⟨rfl, v5, rfl, hd5⟩
                          obtain ⟨A5, c5, rfl, h5l, h5m⟩ := hd5.form
                          rw [Nd.dats_len] at hd5
                          rw [Nd.dats_len]
                          have HD5 := Lib.hid hd5
                          clear hd5 h5l h5m
                          go_wp2_with fail
                          refine (rnumber_any _ false _ _ _ htl HD5.out).mono ?_
                          rw [HOB.out]
                          rintro e w' ⟨rfl, rfl⟩
                          unfold numVal
                          go_wp2_with fail
                          go_ret3
                          exact ⟨rfl, hx⟩
                        | some b2 =>
                          rw [hob] at hF
                          obtain rfl : F = some (a, if false = true then -b2 else b2) := by rw [hF]; simp
                          obtain ⟨hb1, hb2⟩ := numTok_bd hto hob
                          have HOB := Lib.hid hob
                          clear hob
                          go_wp2_with fail
                          refine (rnumber_any _ true _ _ _ (by simp; omega) HMD'.out).mono ?_
                          rw [HO.out]
                          rintro e w' ⟨rfl, rfl⟩
                          unfold numVal
                          go_wp2_with fail
                          try rw [HIF.out]
                          refine (Trim_any (m2 :: ms) _ _ _ (by simp; omega) HD3.out).mono ?_
                          rintro e w' ⟨rfl, v5, rfl, hd5⟩
                          obtain ⟨A5, c5, rfl, h5l, h5m⟩ := hd5.form
                          rw [Nd.dats_len] at hd5
                          rw [Nd.dats_len]
                          have HD5 := Lib.hid hd5
                          clear hd5 h5l h5m
                          go_wp2_with fail
                          refine (rnumber_any _ false _ _ _ htl HD5.out).mono ?_
                          rw [HOB.out]
                          rintro e w' ⟨rfl, rfl⟩
                          unfold numVal
                          go_wp2_with fail
                          go_ret3
                          exact ⟨rfl, hx⟩
                      · by_cases h45 : m1.tok.text = [45]
                        · as_aux_lemma =>
                          rw [if_pos ⟨hk, .inr h45⟩] at hF
                          rw [h45] at hF mc1
                          clear hk h43 h45
                          cases hob : Ref.numTok (Ref.trim (m2 :: ms)) false with
                          | none =>
                            rw [hob] at hF
                            obtain rfl : F = none := hF
                            have HOB := Lib.hid hob
                            clear hob
                            go_wp2_with fail
                            refine (rnumber_any _ true _ _ _ (by simp; omega) HMD'.out).mono ?_
                            rw [HO.out]
                            rintro e w' ⟨rfl, rfl⟩
                            unfold numVal
                            go_wp2_with fail
                            try rw [HIF.out]
                            refine (Trim_any (m2 :: ms) _ _ _ (by simp; omega) HD3.out).mono ?_
                            rintro e w' ⟨rfl, v5, rfl, hd5⟩
                            obtain ⟨A5, c5, rfl, h5l, h5m⟩ := hd5.form
                            rw [Nd.dats_len] at hd5
                            rw [Nd.dats_len]
                            have HD5 := Lib.hid hd5
                            clear hd5 h5l h5m
                            go_wp2_with fail
                            refine (rnumber_any _ false _ _ _ htl HD5.out).mono ?_
                            rw [HOB.out]
                            rintro e w' ⟨rfl, rfl⟩
                            unfold numVal
                            go_wp2_with fail
                            go_ret3
                            exact ⟨rfl, hx⟩
                          | some b2 =>
                            rw [hob] at hF
                            obtain rfl : F = some (a, if true = true then -b2 else b2) := by rw [hF]; simp
                            obtain ⟨hb1, hb2⟩ := numTok_bd hto hob
                            have HOB := Lib.hid hob
                            clear hob
                            go_wp2_with fail
                            refine (rnumber_any _ true _ _ _ (by simp; omega) HMD'.out).mono ?_
                            rw [HO.out]
                            rintro e w' ⟨rfl, rfl⟩
                            unfold numVal
                            go_wp2_with fail
                            try rw [HIF.out]
                            refine (Trim_any (m2 :: ms) _ _ _ (by simp; omega) HD3.out).mono ?_
                            rintro e w' ⟨rfl, v5, rfl, hd5⟩
                            obtain ⟨A5, c5, rfl, h5l, h5m⟩ := hd5.form
                            rw [Nd.dats_len] at hd5
                            rw [Nd.dats_len]
                            have HD5 := Lib.hid hd5
                            clear hd5 h5l h5m
                            go_wp2_with fail
                            refine (rnumber_any _ false _ _ _ htl HD5.out).mono ?_
                            rw [HOB.out]
                            rintro e w' ⟨rfl, rfl⟩
                            unfold numVal
                            go_wp2_with fail
                            go_ret3
                            exact ⟨rfl, hx⟩
                        · as_aux_lemma =>
                          rw [if_neg (fun e => e.2.elim h43 h45)] at hF
                          subst hF
                          have t1 : (m1.tok.text == [43]) = false := by simpa using h43
                          have t2 : (m1.tok.text == [45]) = false := by simpa using h45
                          clear h43 h45 hk
                          go_wp2_with fail
                          refine (rnumber_any _ true _ _ _ (by simp; omega) HMD'.out).mono ?_
                          rw [HO.out]
                          rintro e w' ⟨rfl, rfl⟩
                          unfold numVal
                          go_wp2_with fail
                          go_ret3
                          exact ⟨rfl, hx⟩
                    · as_aux_lemma =>
                      rw [if_neg (fun e => hk e.1)] at hF
                      subst hF
                      have hk' : (m1.tok.kind != 9) = true := by simpa using hk
                      clear hk
                      go_wp2_with fail
                      refine (rnumber_any _ true _ _ _ (by simp; omega) HMD'.out).mono ?_
                      rw [HO.out]
                      rintro e w' ⟨rfl, rfl⟩
                      unfold numVal
                      go_wp2_with fail
                      go_ret3
                      exact ⟨rfl, hx⟩
            · rw [if_neg hv0] at hF
              have hv0' : v0.isEmpty = false := by simpa using hv0
              by_cases hv45 : v0 = [45]
              · as_aux_lemma =>
                subst hv45
                rw [if_pos rfl] at hF
                cases ho : Ref.numTok M false with
                | none =>
                  rw [ho] at hF
                  subst hF
                  go_wp2_with fail
                  refine (rnumber_any M false _ _ _ hMl HMD.out).mono ?_
                  rw [ho]
                  rintro e w' ⟨rfl, rfl⟩
                  unfold numVal
                  go_wp2_with fail
                  go_ret3
                  exact ⟨rfl, hx⟩
                | some b0 =>
                  rw [ho] at hF
                  subst hF
                  obtain ⟨hb1, hb2⟩ := numTok_bd HMO.out ho
                  go_wp2_with fail
                  refine (rnumber_any M false _ _ _ hMl HMD.out).mono ?_
                  rw [ho]
                  rintro e w' ⟨rfl, rfl⟩
                  unfold numVal
                  go_wp2_with fail
                  go_ret3
                  exact ⟨rfl, hx⟩
              · rw [if_neg hv45] at hF
                clear HF
                cases v0 with
                | nil => exact absurd rfl hv0
                | cons d v1 =>
                  by_cases hr0 : rest = []
                  · subst hr0
                    have hdt : (((ByteArray.mk (110 :: d :: v1).toArray)[1]'(by simp [ByteArray.size])).toNat : Int) = d.toNat := rfl
                    by_cases hd : d = 45
                    · as_aux_lemma =>
                      subst hd
                      have hv1 : v1.isEmpty = false := by cases v1; exact absurd rfl hv45; rfl
                      have hv1l : v1.length ≤ 4294967296 := by simp only [List.length_cons] at hul; omega
                      have hF' : F = if v1.all Ref.isDig = true then some (a, Ref.int (45 :: v1)) else none := by rw [hF]; simp
                      have hby : ∀ (k : Nat) (h : k < v1.length) (h2 : k + 2 < (ByteArray.mk (110 :: 45 :: v1).toArray).size), (ByteArray.mk (110 :: 45 :: v1).toArray)[k + 2] = v1[k] := fun k h h2 => rfl
                      have HBY := Lib.hid hby
                      have HF' := Lib.hid hF'
                      have hb1 : ((((ByteArray.mk (110 :: 45 :: v1).toArray)[1]'(by simp [ByteArray.size])).toNat : Int) != 45) = false := rfl
                      clear hdt hv45 hv0 hF hF' hby
                      go_wp2_with fail
                      go_loopg [15] (v1.length + 1) (fun g s wr => ∃ k : Nat, s = .int .i64 ((k + 2 : Nat) : Int) ∧ k ≤ v1.length ∧ v1.length < g + k ∧ wc = wr ∧ Hid (∀ i (h : i < v1.length), i < k → Ref.isDig v1[i] = true))
                      case atStart => exact ⟨0, rfl, Nat.zero_le _, by omega, rfl, Lib.hid fun i _ hi => by omega⟩
                      case round =>
                        clear hb1 hv1
                        obtain ⟨kk, rfl, hkk, hgk, rfl, hall⟩ := hrel
                        by_cases hlk : kk < v1.length
                        · have hS : kk + 2 < (ByteArray.mk (110 :: 45 :: v1).toArray).size := by simp [ByteArray.size]; omega
                          have HBX := Lib.hid (congrArg (fun c : UInt8 => (c.toNat : Int)) (HBY.out kk hlk hS))
                          clear HBY
                          go_wp2_with fail
                          all_goals first
                            | (go_ret3
                               exact ⟨congrArg Ending.returned (by
                                 have hnd : ¬ Ref.isDig v1[kk] = true := by
                                   have e1 := HBX.out
                                   simp [Ref.isDig]
                                   omega
                                 rw [HF'.out, if_neg (fun h => hnd (List.all_eq_true.1 h _ (List.getElem_mem hlk)))]; rfl), hx⟩)
                            | (go_roundg (gk - 1)
                               case measure => omega
                               case rel => exact ⟨kk + 1, by go_num, by omega, by omega, rfl, Lib.hid fun i hi hik => by
                                 by_cases e : i = kk
                                 · subst e
                                   have e1 := HBX.out
                                   simp [Ref.isDig]
                                   omega
                                 · exact hall.out i hi (by omega)⟩)
                        · have e := HF'.out
                          rw [if_pos (List.all_eq_true.2 fun c hc => by obtain ⟨i, hi, rfl⟩ := List.mem_iff_getElem.1 hc; exact hall.out i hi (by omega))] at e
                          subst e
                          have hex := extract_tail 110 (45 :: v1)
                          simp only [List.length_cons] at hex
                          have hlen2 : (45 :: v1).length ≤ 4503599627370496 := by simp only [List.length_cons] at hul ⊢; omega
                          go_wp2_with (go_at_call 25; refine (Int_any (45 :: v1) _ hlen2).mono ?_; rintro e w' ⟨rfl, rfl⟩)
                          go_ret3
                          exact ⟨rfl, hx⟩
                    · as_aux_lemma =>
                      rw [if_neg (by simp [hd])] at hF
                      subst hF
                      have hb1 : ((((ByteArray.mk (110 :: d :: v1).toArray)[1]'(by simp [ByteArray.size])).toNat : Int) != 45) = true := by
                        rw [hdt]
                        have : ¬ ((d.toNat : Int) = 45) := fun e => hd (by apply UInt8.toNat_inj.1; simp; omega)
                        simpa using this
                      have hdb : (d == 45) = false := by simpa using hd
                      clear hdt hd hv45 hv0
                      go_wp2_with fail
                      go_ret3
                      exact ⟨rfl, hx⟩
                  · as_aux_lemma =>
                    rw [if_neg (fun e => hr0 e.1)] at hF
                    subst hF
                    have hrl0 : 0 < rest.length := List.length_pos_iff.2 hr0
                    have hdb : (d == 45) = false ∨ ((d == 45) = true ∧ v1.isEmpty = false) := by
                      by_cases hd : d = 45
                      · exact .inr ⟨by simp [hd], by cases v1; exact absurd (by rw [hd]) hv45; rfl⟩
                      · exact .inl (by simpa using hd)
                    clear hv45 hv0 hr0
                    rcases hdb with hdb | ⟨hdb, hv1⟩
                    all_goals
                      go_wp2_with fail
                      go_ret3
                      exact ⟨rfl, hx⟩
          · have hF := HF.out
            unfold Ref.anbTail at hF
            dsimp only at hF
            rw [if_pos hc0] at hF
            subst hF
            have hb0 : ((((ByteArray.mk (c0 :: v0).toArray)[0]'(by simp [ByteArray.size])).toNat : Int) != 110) = true := by
              have : ¬ ((((ByteArray.mk (c0 :: v0).toArray)[0]'(by simp [ByteArray.size])).toNat : Int) = 110) := fun e => hc0 (by apply UInt8.toNat_inj.1; have : (c0.toNat : Int) = 110 := e; simp; omega)
              simpa using this
            go_wp2_with fail
            go_ret3
            exact ⟨rfl, hx⟩
end Go.Proofs.YtihnffmnofinmaaDoor
