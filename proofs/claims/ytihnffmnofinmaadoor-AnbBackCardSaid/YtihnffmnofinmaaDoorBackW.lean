/- The statement AnbBack, walked. -/
import Derived.Test.YtihnffmnofinmaaDoorBack
import Derived.Test.YtihnffmnofinmaaDoorAwake
import Derived.Test.YtihnffmnofinmaaDoorArith
import Derived.Deep.DeepCutAuto
import Derived.Deep.CutBlock
namespace Go.Proofs.YtihnffmnofinmaaDoor
open Go.RowKit
theorem back_text {a b : Int} (ha : Ref.I32 a) (hb : Ref.I32 b) : Anb.parse (Ref.nodesOf (anbText a b)) = some (a, b) := by
  unfold anbText
  by_cases h0 : a = 0
  · subst h0; rw [if_pos rfl]; exact Ref.back0 hb
  rw [if_neg h0]
  by_cases hb0 : b = 0
  · subst hb0; rw [if_pos rfl]; exact Ref.back1 ha
  rw [if_neg hb0]
  by_cases hbn : b < 0
  · rw [if_pos hbn]; exact Ref.back2 ha hb hbn
  · rw [if_neg hbn]; exact Ref.back3 ha hb (by omega)
theorem itoa_abs {n : Int} (h : 0 ≤ n) : Lib.itoa n = Lib.decDigits n.natAbs := by
  unfold Lib.itoa; rw [if_neg (by omega)]; congr 1; omega
theorem round_bd (k : Int) : 0 ≤ roundN k 7 ∧ roundN k 7 ≤ 6 := by
  unfold roundN
  have h1 := Int.lt_tmod_of_pos k (show (0 : Int) < 7 by omega)
  have h2 := Int.tmod_lt_of_pos (k.tmod 7 + 7) (show (0 : Int) < 7 by omega)
  have h3 := Int.tmod_nonneg (a := k.tmod 7 + 7) 7 (by omega)
  omega
theorem anbText_len (a b : Int) (ha : Ref.I32 a) (hb : Ref.I32 b) : (anbText a b).length ≤ 44 := by
  have h1 := itoa_len a (by have := ha.1; omega) (by have := ha.2; omega)
  have h2 := itoa_len b (by have := hb.1; omega) (by have := hb.2; omega)
  unfold anbText
  repeat' split
  all_goals simp
  all_goals omega
set_option maxRecDepth 100000 in
set_option maxHeartbeats 8000000 in
theorem Back_any (a b k : Int) (w : World) (ha0 : -9223372036854775808 ≤ a) (ha1 : a ≤ 9223372036854775807) (hb0 : -9223372036854775808 ≤ b) (hb1 : b ≤ 9223372036854775807) (hk0 : -9223372036854775808 ≤ k) (hk1 : k ≤ 9223372036854775807) (ht : Tab10 w) :
    Calls Tryd.prog 4 #[.int .i64 a, .int .i64 b, .int .i64 k] w (Ret (.bool true) (Ext (fun _ => True) w)) := by
  have HT := Lib.hid ht
  clear ht
  by_cases hr : -2147483648 ≤ a ∧ a < 2147483648 ∧ -2147483648 < b ∧ b < 2147483648
  · obtain ⟨ha2, ha3, hb2, hb3⟩ := hr
    have hIa : Ref.I32 a := ⟨by omega, by omega⟩
    have hIb : Ref.I32 b := ⟨by omega, by omega⟩
    have HIA := Lib.hid hIa
    have HIB := Lib.hid hIb
    have HP := Lib.hid (back_text hIa hIb)
    have HTL := Lib.hid (anbText_len a b hIa hIb)
    clear hIa hIb
    go_enter Tryd.func4, Tryd.ntmps4
    go_wp2_with fail
    refine (Text_any a b _ ha0 ha1 hb0 hb1 HT.out).mono ?_
    rintro e w1 ⟨rfl, hx1⟩
    go_wp2_with fail
    refine (nodes_any (anbText a b) _ (by have := HTL.out; omega)).mono ?_
    rintro e w2 ⟨v2, rfl, hd2, hx2⟩
    go_wp2_with fail
    refine (parse_nodes (anbText a b) _ _ (by have := HTL.out; omega) hd2).mono ?_
    rw [HP.out]
    unfold anbRes
    rintro e w3 ⟨rfl, hx3⟩
    have hxw : Ext (fun _ => True) w w3 := (hx1.trans hx2).trans hx3
    clear hd2 hx1 hx2 hx3 HP HTL
    by_cases ha : a = 0
    · subst ha
      go_wp2_with fail
      refine (awake_any _ (HT.out.ext hxw)).mono ?_
      rintro e w4 ⟨rfl, hx4⟩
      go_wp2_with fail
      go_ret
      exact ⟨rfl, hxw.trans hx4⟩
    have ha' : (a == 0) = false := by simpa using ha
    by_cases hb : b = 0
    · subst hb
      go_wp2_with fail
      refine (awake_any _ (HT.out.ext hxw)).mono ?_
      rintro e w4 ⟨rfl, hx4⟩
      go_wp2_with fail
      go_ret
      exact ⟨rfl, hxw.trans hx4⟩
    have hb' : (b == 0) = false := by simpa using hb
    by_cases hbn : b < 0
    · go_wp2_with fail
      refine (Decimal_any a _ ha0 ha1).mono ?_
      rintro e w4 ⟨rfl, hx4⟩
      go_wp2_with fail
      refine (Decimal_any (-b) _ (by omega) (by omega)).mono ?_
      rw [show Lib.itoa (-b) = Lib.decDigits b.natAbs by rw [itoa_abs (by omega)]; congr 1; omega]
      rintro e w5 ⟨rfl, hx5⟩
      have hx := (hxw.trans hx4).trans hx5
      go_wp2_with fail
      refine (Round_any k _).mono ?_
      rintro e w' ⟨rfl, rfl⟩
      have hla := itoa_len a ha0 ha1
      have hlb : (Lib.decDigits b.natAbs).length ≤ 21 := by
        have := itoa_len (-b) (by omega) (by omega)
        rw [itoa_abs (by omega), show (-b).natAbs = b.natAbs by omega] at this; exact this
      have hrd := round_bd k
      clear hxw hx4 hx5
      generalize roundN k 7 = i at *
      have hsg : Ref.sg b = 45 := if_pos hbn
      have HSG := Lib.hid hsg
      clear hsg
      go_upto_block 0 with fail
      go_cut [7, 15] (fun s7 s15 wx => ∃ (t : List UInt8) (good : Bool), s7 = .string ⟨t.toArray⟩ ∧ s15 = .bool good ∧ t.length ≤ 60 ∧ wx = w5 ∧ Hid (Anb.parse (Ref.nodesOf t) = if good then some (a, b) else none))
      case first =>
        have hi : i = 0 ∨ i = 1 ∨ i = 2 ∨ i = 3 ∨ i = 4 ∨ i = 5 ∨ i = 6 := by omega
        clear hrd
        rcases hi with rfl | rfl | rfl | rfl | rfl | rfl | rfl
        · go_wp2_with fail
          go_meet
          exact ⟨Lib.itoa a ++ (110 :: 32 :: Ref.sg b :: 32 :: Lib.decDigits b.natAbs), true, by rw [HSG.out]; exact (congrArg Value.string (by apply ByteArray.ext; apply Array.ext'; simp)), rfl, by simp; omega, rfl, Lib.hid (Ref.k0 HIA.out HIB.out hb2)⟩
        · go_wp2_with fail
          go_meet
          exact ⟨Lib.itoa a ++ (78 :: 32 :: Ref.sg b :: Lib.decDigits b.natAbs), true, by rw [HSG.out]; exact (congrArg Value.string (by apply ByteArray.ext; apply Array.ext'; simp)), rfl, by simp; omega, rfl, Lib.hid (Ref.k1 HIA.out HIB.out)⟩
        · go_wp2_with fail
          go_meet
          exact ⟨Lib.itoa a ++ (110 :: Ref.sg b :: 32 :: Lib.decDigits b.natAbs), true, by rw [HSG.out]; exact (congrArg Value.string (by apply ByteArray.ext; apply Array.ext'; simp)), rfl, by simp; omega, rfl, Lib.hid (by
            rw [HSG.out]
            exact Ref.k2m HIA.out HIB.out hb2 hbn)⟩
        · go_wp2_with fail
          go_meet
          exact ⟨Lib.itoa a ++ (32 :: 110 :: Ref.sg b :: Lib.decDigits b.natAbs), false, by rw [HSG.out]; exact (congrArg Value.string (by apply ByteArray.ext; apply Array.ext'; simp)), rfl, by simp; omega, rfl, Lib.hid (by
            rw [HSG.out]
            exact Ref.k3m HIA.out)⟩
        · go_wp2_with fail
          go_meet
          exact ⟨Lib.itoa a ++ (110 :: 32 :: Lib.decDigits b.natAbs), false, (congrArg Value.string (by apply ByteArray.ext; apply Array.ext'; simp)), rfl, by simp; omega, rfl, Lib.hid (Ref.k4 HIA.out HIB.out hb2)⟩
        · go_wp2_with fail
          go_meet
          exact ⟨Lib.itoa a ++ (110 :: 32 :: Ref.sg b :: 32 :: Ref.sg b :: Lib.decDigits b.natAbs), false, by rw [HSG.out]; exact (congrArg Value.string (by apply ByteArray.ext; apply Array.ext'; simp)), rfl, by simp; omega, rfl, Lib.hid (Ref.k5 HIA.out HIB.out)⟩
        · go_wp2_with fail
          go_meet
          exact ⟨Lib.itoa a ++ (110 :: Ref.sg b :: (Lib.decDigits b.natAbs ++ [32, 49])), false, by rw [HSG.out]; exact (congrArg Value.string (by apply ByteArray.ext; apply Array.ext'; simp)), rfl, by simp; omega, rfl, Lib.hid (by
            rw [HSG.out]
            exact Ref.k6m HIA.out)⟩
      obtain ⟨t, good, rfl, rfl, htl, rfl, HPT⟩ := hcut
      clear hla hlb hrd
      go_wp2_with fail
      refine (nodes_any t _ (by omega)).mono ?_
      rintro e w6 ⟨v6, rfl, hd6, hx6⟩
      go_wp2_with fail
      refine (parse_nodes t _ _ (by omega) hd6).mono ?_
      rw [HPT.out]
      rintro e w7 ⟨he, hx7⟩
      have hx67 := (hx.trans hx6).trans hx7
      clear hd6 hx hx6 hx7
      cases good
      all_goals
        subst he
        simp only [Bool.false_eq_true, if_true, if_false]
        unfold anbRes
        go_wp2_with fail
        refine (awake_any _ (HT.out.ext hx67)).mono ?_
        rintro e w8 ⟨rfl, hx8⟩
        go_wp2_with fail
        go_ret
        exact ⟨rfl, hx67.trans hx8⟩
    · go_wp2_with fail
      refine (Decimal_any a _ ha0 ha1).mono ?_
      rintro e w4 ⟨rfl, hx4⟩
      go_wp2_with fail
      refine (Decimal_any b _ (by omega) (by omega)).mono ?_
      rw [show Lib.itoa b = Lib.decDigits b.natAbs by rw [itoa_abs (by omega)]]
      rintro e w5 ⟨rfl, hx5⟩
      have hx := (hxw.trans hx4).trans hx5
      go_wp2_with fail
      refine (Round_any k _).mono ?_
      rintro e w' ⟨rfl, rfl⟩
      have hla := itoa_len a ha0 ha1
      have hlb : (Lib.decDigits b.natAbs).length ≤ 21 := by
        have := itoa_len b (by omega) (by omega)
        rw [itoa_abs (by omega)] at this; exact this
      have hrd := round_bd k
      clear hxw hx4 hx5
      generalize roundN k 7 = i at *
      have hsg : Ref.sg b = 43 := if_neg (by omega)
      have HSG := Lib.hid hsg
      clear hsg
      go_upto_block 0 with fail
      go_cut [7, 15] (fun s7 s15 wx => ∃ (t : List UInt8) (good : Bool), s7 = .string ⟨t.toArray⟩ ∧ s15 = .bool good ∧ t.length ≤ 60 ∧ wx = w5 ∧ Hid (Anb.parse (Ref.nodesOf t) = if good then some (a, b) else none))
      case first =>
        have hi : i = 0 ∨ i = 1 ∨ i = 2 ∨ i = 3 ∨ i = 4 ∨ i = 5 ∨ i = 6 := by omega
        clear hrd
        rcases hi with rfl | rfl | rfl | rfl | rfl | rfl | rfl
        · go_wp2_with fail
          go_meet
          exact ⟨Lib.itoa a ++ (110 :: 32 :: Ref.sg b :: 32 :: Lib.decDigits b.natAbs), true, by rw [HSG.out]; exact (congrArg Value.string (by apply ByteArray.ext; apply Array.ext'; simp)), rfl, by simp; omega, rfl, Lib.hid (Ref.k0 HIA.out HIB.out hb2)⟩
        · go_wp2_with fail
          go_meet
          exact ⟨Lib.itoa a ++ (78 :: 32 :: Ref.sg b :: Lib.decDigits b.natAbs), true, by rw [HSG.out]; exact (congrArg Value.string (by apply ByteArray.ext; apply Array.ext'; simp)), rfl, by simp; omega, rfl, Lib.hid (Ref.k1 HIA.out HIB.out)⟩
        · go_wp2_with fail
          go_meet
          exact ⟨Lib.itoa a ++ (110 :: Ref.sg b :: 32 :: Lib.decDigits b.natAbs), true, by rw [HSG.out]; exact (congrArg Value.string (by apply ByteArray.ext; apply Array.ext'; simp)), rfl, by simp; omega, rfl, Lib.hid (by
            rw [HSG.out]
            exact Ref.k2p HIA.out HIB.out (by omega))⟩
        · go_wp2_with fail
          go_meet
          exact ⟨Lib.itoa a ++ (32 :: 110 :: Ref.sg b :: Lib.decDigits b.natAbs), false, by rw [HSG.out]; exact (congrArg Value.string (by apply ByteArray.ext; apply Array.ext'; simp)), rfl, by simp; omega, rfl, Lib.hid (by
            rw [HSG.out]
            exact Ref.k3p HIA.out HIB.out (by omega))⟩
        · go_wp2_with fail
          go_meet
          exact ⟨Lib.itoa a ++ (110 :: 32 :: Lib.decDigits b.natAbs), false, (congrArg Value.string (by apply ByteArray.ext; apply Array.ext'; simp)), rfl, by simp; omega, rfl, Lib.hid (Ref.k4 HIA.out HIB.out hb2)⟩
        · go_wp2_with fail
          go_meet
          exact ⟨Lib.itoa a ++ (110 :: 32 :: Ref.sg b :: 32 :: Ref.sg b :: Lib.decDigits b.natAbs), false, by rw [HSG.out]; exact (congrArg Value.string (by apply ByteArray.ext; apply Array.ext'; simp)), rfl, by simp; omega, rfl, Lib.hid (Ref.k5 HIA.out HIB.out)⟩
        · go_wp2_with fail
          go_meet
          exact ⟨Lib.itoa a ++ (110 :: Ref.sg b :: (Lib.decDigits b.natAbs ++ [32, 49])), false, by rw [HSG.out]; exact (congrArg Value.string (by apply ByteArray.ext; apply Array.ext'; simp)), rfl, by simp; omega, rfl, Lib.hid (by
            rw [HSG.out]
            exact Ref.k6p HIA.out HIB.out (by omega))⟩
      obtain ⟨t, good, rfl, rfl, htl, rfl, HPT⟩ := hcut
      clear hla hlb hrd
      go_wp2_with fail
      refine (nodes_any t _ (by omega)).mono ?_
      rintro e w6 ⟨v6, rfl, hd6, hx6⟩
      go_wp2_with fail
      refine (parse_nodes t _ _ (by omega) hd6).mono ?_
      rw [HPT.out]
      rintro e w7 ⟨he, hx7⟩
      have hx67 := (hx.trans hx6).trans hx7
      clear hd6 hx hx6 hx7
      cases good
      all_goals
        subst he
        simp only [Bool.false_eq_true, if_true, if_false]
        unfold anbRes
        go_wp2_with fail
        refine (awake_any _ (HT.out.ext hx67)).mono ?_
        rintro e w8 ⟨rfl, hx8⟩
        go_wp2_with fail
        go_ret
        exact ⟨rfl, hx67.trans hx8⟩
  · have hd : a < -2147483648 ∨ ¬ a < -2147483648 ∧ (2147483648 ≤ a ∨ ¬ 2147483648 ≤ a ∧ (b ≤ -2147483648 ∨ ¬ b ≤ -2147483648 ∧ 2147483648 ≤ b)) := by omega
    rcases hd with h1 | ⟨h1, h2 | ⟨h2, h3 | ⟨h3, h4⟩⟩⟩
    all_goals
      clear hr
      go_enter Tryd.func4, Tryd.ntmps4
      go_wp2_with fail
      refine (awake_any _ HT.out).mono ?_
      rintro e w1 ⟨rfl, hx1⟩
      go_wp2_with fail
      go_ret
      exact ⟨rfl, hx1⟩
end Go.Proofs.YtihnffmnofinmaaDoor
