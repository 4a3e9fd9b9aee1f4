/- The statement's nodes of a text; the reference's Trim and Decimal. -/
import Derived.Test.YtihnffmnofinmaaDoorRead
import Derived.Lib.ConvBytes
namespace Go.Proofs.YtihnffmnofinmaaDoor
open Go.RowKit

namespace Ref
def nodesOf (s : List UInt8) : List Nd := nodes (tokens (read ⟨s.toArray⟩))
end Ref
theorem Ref.tokensRun_len (r : List Int) : ∀ (f a : Nat) (l : List Tok), (Ref.tokensRun r f a l).length ≤ l.length + f
  | 0, a, l => Nat.le_refl _
  | f + 1, a, l => by
    unfold Ref.tokensRun
    split
    · omega
    · have := Ref.tokensRun_len r f (Ref.token r (Ref.comments r a)).2 (l ++ [(Ref.token r (Ref.comments r a)).1])
      simp at this
      omega
set_option maxHeartbeats 2000000 in
theorem nodes_any (s : List UInt8) (w : World) (hs : s.length ≤ 16777215) :
    Calls Tryd.prog 6 #[.string ⟨s.toArray⟩] w (RetDat (fun _ => False) (nodesDat (Ref.nodesOf s)) w) := by
  have HR := Lib.hid (Ref.read_runes ⟨s.toArray⟩ (by simp [ByteArray.size]; omega))
  have HT := Lib.hid (show (Ref.tokens (Ref.read ⟨s.toArray⟩)).length ≤ 16777216 by
    have h1 := Ref.tokensRun_len (Ref.read ⟨s.toArray⟩) ((Ref.read ⟨s.toArray⟩).length + 1) 0 []
    have h2 := Ref.readRun_len ⟨s.toArray⟩ (s.length + 1) 0 true false [] (by simp [ByteArray.size]) (Nat.zero_le _) (.inr trivial) (Nat.le_refl _)
    have h3 : (Ref.read ⟨s.toArray⟩).length ≤ s.length := by have : (ByteArray.mk s.toArray).size = s.length := by simp [ByteArray.size]
                                                             rw [this] at h2; unfold Ref.read; rw [this]; exact h2
    unfold Ref.tokens
    simp at h1
    omega)
  have hcv := Lib.run_convert_string_bytes (P := Tryd.prog) w 9 40 5 ⟨s.toArray⟩ Tryd.underlying9 Tryd.underlying40 Tryd.underlying5
  generalize grownCap w _ 0 _ = cap at hcv
  rw [show (ByteArray.mk s.toArray).size = s.length by simp [ByteArray.size]] at hcv
  have hB := BytesIn.made w ⟨s.toArray⟩ 5
  have hE := Ext.bytes w 5 ⟨s.toArray⟩
  generalize Lib.bytesWorld w 5 ⟨s.toArray⟩ = w0 at *
  have hB' : BytesIn w0 w.heap.size s := hB
  clear hB
  have hs : s.length ≤ 16777216 := by omega
  obtain ⟨F, hF⟩ : ∃ F, F = Ref.nodesOf s := ⟨_, rfl⟩
  rw [← hF]
  have HF := Lib.hid hF
  clear hF
  go_enter Tryd.func6, Tryd.ntmps6
  go_wp2_with (first | (go_at_call 17; refine (Read_any s _ _ _ hs hB').mono ?_; rintro e w1 ⟨v1, rfl, h1, hx1⟩) | (go_at_call 16; refine (Tokens_any _ _ _ HR.out (h1.mono fun _ _ _ => trivial)).mono ?_; rintro e w2 ⟨v2, rfl, h2, hx2⟩) | (go_at_call 15; refine (Nodes_any _ _ _ HT.out (h2.mono fun _ _ _ => trivial)).mono ?_; rintro e w3 ⟨v3, rfl, h3, hx3⟩))
  go_ret
  obtain rfl := HF.out
  refine ⟨_, rfl, h3.mono fun k hk _ => ?_, ((hE.trans hx1).trans hx2).trans hx3⟩
  have := hE.size; have := hx1.size; have := hx2.size
  rcases hk with hk | hk
  · exact hk.elim
  · exact .inr (by omega)
end Go.Proofs.YtihnffmnofinmaaDoor
