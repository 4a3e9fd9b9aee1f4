/- What the statement calls awake: the document's own words, at given texts. -/
import Derived.Test.YtihnffmnofinmaaDoorParse
import Derived.Test.YtihnffmnofinmaaDoorTextB
import Derived.Test.YtihnffmnofinmaaDoorOk
import Derived.Test.YtihnffmnofinmaaDoorMatch
namespace Go.Proofs.YtihnffmnofinmaaDoor
open Go.RowKit
/-- The statement's nodes of a text, read by Parse. -/
theorem parse_nodes (s : List UInt8) (w w1 : World) (hs : s.length ≤ 16777214) {v : Value} (hv : Dat.At w1 (fun k => False ∨ w.heap.size ≤ k) (nodesDat (Ref.nodesOf s)) v) :
    Calls Tryd.prog 7 #[v] w1 (Ret (anbRes (Anb.parse (Ref.nodesOf s))) (Ext (fun _ => True) w1)) :=
  Parse_any _ v w1 _ (Nat.le_trans (Ref.nodesOf_sizes s) (by omega)) (Ref.nodesOf_oks s (by omega)) hv
theorem p1 : Anb.parse (Ref.nodesOf [32, 45, 110, 43, 51, 32]) = some (-1, 3) := by kernel_rfl
theorem p2 : Anb.parse (Ref.nodesOf [79, 68, 68]) = some (2, 1) := by kernel_rfl
theorem p3 : Anb.parse (Ref.nodesOf [110, 32, 51]) = none := by kernel_rfl
theorem t1 : anbText (-1) 3 = [45, 49, 110, 43, 51] := by simp [anbText, Lib.itoa, Lib.decDigits_one]
theorem t2 : anbText 0 4 = [52] := by simp [anbText, Lib.itoa, Lib.decDigits_one]
theorem t3 : anbText 2 0 = [50, 110] := by simp [anbText, Lib.itoa, Lib.decDigits_one]
set_option maxRecDepth 100000 in
set_option maxHeartbeats 1000000 in
theorem awake_any (w : World) (ht : Tab10 w) :
    Calls Tryd.prog 5 #[] w (Ret (.bool true) (Ext (fun _ => True) w)) := by
  have HT := Lib.hid ht
  clear ht
  go_enter Tryd.func5, Tryd.ntmps5
  go_wp2_with fail
  refine (nodes_any [32, 45, 110, 43, 51, 32] _ (by decide)).mono ?_
  rintro e wa ⟨v1, rfl, hd1, hxa⟩
  go_wp2_with fail
  refine (parse_nodes [32, 45, 110, 43, 51, 32] _ _ (by decide) hd1).mono ?_
  rw [p1]
  unfold anbRes
  rintro e wb ⟨rfl, hxb⟩
  have hx1 := hxa.trans hxb
  clear hd1 hxa hxb
  go_wp2_with fail
  refine (nodes_any [79, 68, 68] _ (by decide)).mono ?_
  rintro e wa ⟨v1, rfl, hd1, hxa⟩
  go_wp2_with fail
  refine (parse_nodes [79, 68, 68] _ _ (by decide) hd1).mono ?_
  rw [p2]
  unfold anbRes
  rintro e wb ⟨rfl, hxb⟩
  have hx2 := (hx1.trans hxa).trans hxb
  clear hd1 hxa hxb
  go_wp2_with fail
  refine (nodes_any [110, 32, 51] _ (by decide)).mono ?_
  rintro e wa ⟨v1, rfl, hd1, hxa⟩
  go_wp2_with fail
  refine (parse_nodes [110, 32, 51] _ _ (by decide) hd1).mono ?_
  rw [p3]
  unfold anbRes
  rintro e wb ⟨rfl, hxb⟩
  have hx3 := (hx2.trans hxa).trans hxb
  clear hd1 hxa hxb
  clear hx1 hx2
  go_wp2_with fail
  refine (Match_any 2 1 5 _ (by omega) (by omega) (by omega) (by omega) (by omega) (by omega)).mono ?_
  rw [show matchN 2 1 5 = true by decide]
  rintro e w' ⟨rfl, rfl⟩
  go_wp2_with fail
  refine (Match_any 2 1 4 _ (by omega) (by omega) (by omega) (by omega) (by omega) (by omega)).mono ?_
  rw [show matchN 2 1 4 = false by decide]
  rintro e w' ⟨rfl, rfl⟩
  go_wp2_with fail
  refine (Match_any (-1) 3 4 _ (by omega) (by omega) (by omega) (by omega) (by omega) (by omega)).mono ?_
  rw [show matchN (-1) 3 4 = false by decide]
  rintro e w' ⟨rfl, rfl⟩
  go_wp2_with fail
  refine (Match_any 0 4 4 _ (by omega) (by omega) (by omega) (by omega) (by omega) (by omega)).mono ?_
  rw [show matchN 0 4 4 = true by decide]
  rintro e w' ⟨rfl, rfl⟩
  go_wp2_with fail
  refine (Text_any (-1) 3 _ (by omega) (by omega) (by omega) (by omega) (HT.out.ext hx3)).mono ?_
  rw [t1]
  rintro e w4 ⟨rfl, hx4⟩
  go_wp2_with fail
  refine (Text_any 0 4 _ (by omega) (by omega) (by omega) (by omega) (HT.out.ext (hx3.trans hx4))).mono ?_
  rw [t2]
  rintro e w5 ⟨rfl, hx5⟩
  go_wp2_with fail
  refine (Text_any 2 0 _ (by omega) (by omega) (by omega) (by omega) (HT.out.ext ((hx3.trans hx4).trans hx5))).mono ?_
  rw [t3]
  rintro e w6 ⟨rfl, hx6⟩
  go_wp2_with fail
  go_ret
  exact ⟨rfl, ((hx3.trans hx4).trans hx5).trans hx6⟩
end Go.Proofs.YtihnffmnofinmaaDoor
