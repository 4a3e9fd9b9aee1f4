/- anb.Text. -/
import Derived.Test.YtihnffmnofinmaaDoorTextA
import Derived.Test.YtihnffmnofinmaaDoorShelf
import Derived.Test.YtihnffmnofinmaaDoorCopy
namespace Go.Proofs.YtihnffmnofinmaaDoor
open Go.RowKit Go.Sort
/-- strconv's table of powers lies in memory. -/
def Tab10 (w : World) : Prop := Lib.TabIs Tryd.prog w "internal/strconv.uint64pow10" .u64 Lib.pow10Tab
theorem gTab : Tryd.prog.globalNamed "internal/strconv.uint64pow10" = some 0 := by kernel_rfl
theorem Tab10.lt {w : World} (h : Tab10 w) : 0 < w.heap.size := by
  have := h.cell gTab 0 (by rw [Lib.pow10Tab_length]; omega)
  exact World.block_lt_of_cell? w _ this
theorem Tab10.ext {w w' : World} (h : Tab10 w) (he : Ext (fun _ => True) w w') : Tab10 w' := by
  have hl := h.lt
  unfold Tab10 Lib.TabIs World.var? at h ⊢
  simp only [gTab, Option.bind_some] at h ⊢
  rw [he.block _ trivial hl]
  exact h
theorem Ext.ofGrow (w : World) (k : Nat) (os : Array Obj) : Ext (fun _ => True) w (grow (w.drewN k) os) :=
  ⟨rfl, rfl, rfl, by simp [grow], fun i _ hl => by simp [grow, Array.getElem?_append_left hl]⟩
theorem Itoa_any (n : Int) (w : World) (h0 : -9223372036854775808 ≤ n) (h1 : n ≤ 9223372036854775807) (ht : Tab10 w) :
    Calls Tryd.prog 26 #[.int .i64 n] w (Ret (.string ⟨(Lib.itoa n).toArray⟩) (Ext (fun _ => True) w)) := by
  refine (Tryd.strconv_Itoa n h0 h1 w ht).mono ?_
  rintro e w' ⟨rfl, k, os, rfl⟩
  exact ⟨rfl, Ext.ofGrow _ _ _⟩
set_option maxRecDepth 100000 in
set_option maxHeartbeats 1000000 in
theorem Text_any (a b : Int) (w : World) (ha0 : -9223372036854775808 ≤ a) (ha1 : a ≤ 9223372036854775807) (hb0 : -9223372036854775808 ≤ b) (hb1 : b ≤ 9223372036854775807) (ht : Tab10 w) :
    Calls Tryd.prog 11 #[.int .i64 a, .int .i64 b] w (Ret (.string ⟨(anbText a b).toArray⟩) (Ext (fun _ => True) w)) := by
  have hla := itoa_len a ha0 ha1
  have hlb := itoa_len b hb0 hb1
  have HT := Lib.hid ht
  clear ht
  go_enter Tryd.func11, Tryd.ntmps11
  go_wp2_with (first | (go_at_call 26; refine (Itoa_any _ _ (by omega) (by omega) (by first | exact HT.out | exact Tab10.ext HT.out (by assumption))).mono ?_; rintro e w1 ⟨rfl, hx1⟩))
  all_goals go_ret
  all_goals refine ⟨ret_str2 ?_, by repeat (with_reducible first | assumption | refine Ext.trans ?_ (by assumption))⟩
  all_goals (try simp only [ByteArray.mk_append_mk])
  all_goals (congr 1; unfold anbText; simp at *; repeat' split)
  all_goals first | (exfalso; omega) | (simp; done) | simp_all
end Go.Proofs.YtihnffmnofinmaaDoor
