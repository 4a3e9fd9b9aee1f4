/- The statement AnbTells, walked. -/
import Derived.Test.YtihnffmnofinmaaDoorRAnb
import Derived.Test.YtihnffmnofinmaaDoorAnbE
import Derived.Test.YtihnffmnofinmaaDoorAwake
namespace Go.Proofs.YtihnffmnofinmaaDoor
open Go.RowKit
set_option maxRecDepth 100000 in
set_option maxHeartbeats 2000000 in
theorem Tells_any (s : List UInt8) (a b n : Int) (w : World) (hs : s.length ≤ 9223372036854775807) (ha0 : -9223372036854775808 ≤ a) (ha1 : a ≤ 9223372036854775807) (hb0 : -9223372036854775808 ≤ b) (hb1 : b ≤ 9223372036854775807) (hn0 : -9223372036854775808 ≤ n) (hn1 : n ≤ 9223372036854775807) (ht : Tab10 w) :
    Calls Tryd.prog 3 #[.string ⟨s.toArray⟩, .int .i64 a, .int .i64 b, .int .i64 n] w (Ret (.bool true) (Ext (fun _ => True) w)) := by
  have HT := Lib.hid ht
  clear ht
  by_cases h200 : 200 < s.length
  · go_enter Tryd.func3, Tryd.ntmps3
    go_wp2_with fail
    refine (awake_any _ HT.out).mono ?_
    rintro e w1 ⟨rfl, hx1⟩
    go_wp2_with fail
    go_ret
    exact ⟨rfl, hx1⟩
  · obtain ⟨P, hP⟩ : ∃ P, P = Anb.parse (Ref.nodesOf s) := ⟨_, rfl⟩
    have hR : P = Ref.anb (Ref.nodesOf s) := by rw [hP]; exact Anb.parse_eq _
    have HP := Lib.hid hP
    have HR := Lib.hid hR
    obtain ⟨MV, hMV⟩ : ∃ MV, MV = matchN a b n := ⟨_, rfl⟩
    obtain ⟨TV, hTV⟩ : ∃ TV, TV = anbText a b := ⟨_, rfl⟩
    have HMV := Lib.hid hMV
    have HTV := Lib.hid hTV
    clear hP hR hMV hTV
    have hsl : s.length ≤ 16777214 := by omega
    go_enter Tryd.func3, Tryd.ntmps3
    go_wp2_with fail
    refine (nodes_any s _ (by omega)).mono ?_
    rintro e w1 ⟨v1, rfl, hd1, hx1⟩
    have HD := Lib.hid hd1
    have HSZ := Nat.le_trans (Ref.nodesOf_sizes s) (show s.length + 1 ≤ 16777216 by omega)
    have HLN := Nat.le_trans (Nd.len_le (Ref.nodesOf s)) HSZ
    have HOK := Lib.hid (Ref.nodesOf_oks s (by omega))
    clear hd1
    go_wp2_with fail
    refine (Parse_any _ v1 _ _ HSZ HOK.out HD.out).mono ?_
    rw [← HP.out]
    rintro e w2 ⟨rfl, hx2⟩
    have HD2 := Lib.hid (HD.out.ext (T := fun _ => True) (S' := fun _ => True) hx2 fun _ _ _ => ⟨trivial, trivial⟩)
    have hx12 := hx1.trans hx2
    clear hx1 hx2
    cases P with
    | none =>
      unfold anbRes
      go_wp2_with fail
      refine (RAnb_any _ v1 _ _ HLN HOK.out HD2.out).mono ?_
      rw [← HR.out]
      rintro e w3 ⟨rfl, hx3'⟩
      unfold anbVal
      have hx3 := hx12.trans hx3'
      clear hx12 hx3'
      cases MV
      all_goals
        go_wp2_with fail
        refine (Match_any a b n _ ha0 ha1 hb0 hb1 hn0 hn1).mono ?_
        rw [← HMV.out]
        rintro e w' ⟨rfl, rfl⟩
        go_wp2_with fail
        refine (MatchAnb_any a b n _ ha0 ha1 hb0 hb1 hn0 hn1).mono ?_
        rw [← HMV.out]
        rintro e w' ⟨rfl, rfl⟩
        go_wp2_with fail
        refine (Text_any a b _ ha0 ha1 hb0 hb1 (HT.out.ext hx3)).mono ?_
        rw [← HTV.out]
        rintro e w5 ⟨rfl, hx5⟩
        go_wp2_with fail
        refine (TextAnb_any a b _ ha0 ha1 hb0 hb1).mono ?_
        rw [← HTV.out]
        rintro e w6 ⟨rfl, hx6⟩
        have hx36 := (hx3.trans hx5).trans hx6
        go_wp2_with fail
        refine (awake_any _ (HT.out.ext hx36)).mono ?_
        rintro e w7 ⟨rfl, hx7⟩
        go_wp2_with fail
        go_ret
        exact ⟨rfl, hx36.trans hx7⟩
    | some p =>
      obtain ⟨x, y⟩ := p
      unfold anbRes
      go_wp2_with fail
      refine (RAnb_any _ v1 _ _ HLN HOK.out HD2.out).mono ?_
      rw [← HR.out]
      rintro e w3 ⟨rfl, hx3'⟩
      unfold anbVal
      have hx3 := hx12.trans hx3'
      clear hx12 hx3'
      cases MV
      all_goals
        go_wp2_with fail
        refine (Match_any a b n _ ha0 ha1 hb0 hb1 hn0 hn1).mono ?_
        rw [← HMV.out]
        rintro e w' ⟨rfl, rfl⟩
        go_wp2_with fail
        refine (MatchAnb_any a b n _ ha0 ha1 hb0 hb1 hn0 hn1).mono ?_
        rw [← HMV.out]
        rintro e w' ⟨rfl, rfl⟩
        go_wp2_with fail
        refine (Text_any a b _ ha0 ha1 hb0 hb1 (HT.out.ext hx3)).mono ?_
        rw [← HTV.out]
        rintro e w5 ⟨rfl, hx5⟩
        go_wp2_with fail
        refine (TextAnb_any a b _ ha0 ha1 hb0 hb1).mono ?_
        rw [← HTV.out]
        rintro e w6 ⟨rfl, hx6⟩
        have hx36 := (hx3.trans hx5).trans hx6
        go_wp2_with fail
        refine (awake_any _ (HT.out.ext hx36)).mono ?_
        rintro e w7 ⟨rfl, hx7⟩
        go_wp2_with fail
        go_ret
        exact ⟨rfl, hx36.trans hx7⟩
end Go.Proofs.YtihnffmnofinmaaDoor
