/- The reference's nodes: all of them. -/
import Derived.Test.YtihnffmnofinmaaDoorNode
namespace Go.Proofs.YtihnffmnofinmaaDoor
open Go.RowKit

namespace Ref
/-- All nodes from a place on. -/
def nodesRun (t : List Tok) : Nat → Nat → List Nd → List Nd
  | 0, _, l => l
  | f + 1, a, l => if a < t.length then nodesRun t f (nodeRun t (2 * t.length) a 1).2 (l ++ [(nodeRun t (2 * t.length) a 1).1]) else l
def nodes (t : List Tok) : List Nd := nodesRun t (t.length + 1) 0 []
end Ref
set_option maxRecDepth 100000 in
set_option maxHeartbeats 2000000 in
theorem Nodes_any (t : List Tok) (v : Value) (w : World) (hn : t.length ≤ 16777216) (hv : Dat.At w (fun _ => True) (toksDat t) v) :
    Calls Tryd.prog 15 #[v] w (RetDat (fun _ => False) (nodesDat (Ref.nodes t)) w) := by
  obtain ⟨A, c, rfl, hcl, hcm⟩ := hv.form
  rw [List.length_map] at hv hcl
  rw [List.length_map]
  unfold maxLen at hcm
  obtain ⟨F, hF⟩ : ∃ F, F = Ref.nodes t := ⟨_, rfl⟩
  rw [← hF]
  have HF := Lib.hid hF
  clear hF
  obtain ⟨n, hlen⟩ : ∃ n, n = t.length := ⟨_, rfl⟩
  rw [← hlen] at hn hv hcl
  rw [← hlen]
  have HLEN := Lib.hid hlen
  clear hlen
  go_enter Tryd.func15, Tryd.ntmps15
  go_wp2_with fail
  go_loopg [3, 4] (n + 1) (fun g s3 s4 wr => ∃ (a : Nat) (ls : List Nd), s4 = .int .i64 (a : Int) ∧ Own wr (fun k => w.heap.size ≤ k) w.heap.size 48 7 s3 (Nd.dats ls) ∧ Ext (fun _ => True) w wr ∧ ls.length ≤ a ∧ a ≤ n ∧ n < g + a ∧ Hid (Ref.nodesRun t g a ls = F))
  case atStart => exact ⟨0, [], rfl, Own.nil _ _ _ _ _, Ext.refl _ _, Nat.le_refl _, Nat.zero_le _, by omega, by rw [HF.out, HLEN.out]; rfl⟩
  case round =>
    obtain ⟨a, ls, rfl, hown, hx0, hla, han, hg, hrun⟩ := hrel
    obtain ⟨LA, lc, rfl, hkl, hkm⟩ := hown.form
    rw [Nd.dats_len] at hown hkl
    rw [Nd.dats_len]
    obtain ⟨g, rfl⟩ : ∃ g, gk = g + 1 := ⟨gk - 1, by omega⟩
    have e := hrun.out
    unfold Ref.nodesRun at e
    rw [← HLEN.out] at e
    have HO := Lib.hid hown
    clear hrun hown HF
    by_cases hlt : a < n
    · rw [if_pos hlt] at e
      obtain ⟨⟨⟨T2, k2⟩, b3⟩, hN⟩ : ∃ N, N = Ref.nodeRun t (2 * n) a 1 := ⟨_, rfl⟩
      have hb3 := Ref.nodeRun_gt t (2 * n) a 1
      have hb3' := Ref.nodeRun_le t (2 * n) a 1 (HLEN.out ▸ hlt)
      have hcall : ∀ w', Ext (fun _ => True) w w' → Calls Tryd.prog 27 #[.slice A n c, .int .i64 a, .int .i64 1] w' (RetNode (Ref.nodeRun t (2 * n) a 1) w') := fun w' hx =>
        node_any t (by rw [← HLEN.out]; exact hn) (2 * n) a 1 _ w' (hv.ext hx fun _ _ _ => ⟨trivial, trivial⟩) (by rw [← HLEN.out]; exact hlt) (by omega) (by rw [← HLEN.out]; omega)
      have HN := Lib.hid hcall
      rw [← hN] at hb3 hb3' HN e
      rw [← HLEN.out] at hb3'
      simp only at hb3 hb3' e
      clear hN hcall
      have E := Lib.hid e
      clear e
      go_wp2_with (first | (go_at_call 27; refine (HN.out _ (by assumption)).mono ?_; rintro e w3 ⟨kv2, rfl, hkd, hx3⟩; simp only [Nd.kids] at hkd; obtain ⟨A2, c2, rfl, hl2, hm2⟩ := hkd.form; rw [Nd.dats_len] at hkd hl2; rw [Nd.dats_len]; simp only [Nd.tok, nvals]) | (at_builtin; refine Hid.out ?_))
      apply Lib.hid
      generalize hw5 : (World.alloc (World.alloc w3 _) _) = w5
      have hx35 : Ext (fun _ => True) w3 w5 := hw5 ▸ (((Ext.refl _ _).alloc _).alloc _)
      have hX5 : w5.heap[w3.heap.size + 1]? = some (.cells (nvals T2 (.slice A2 k2.length c2)) 48 (0, 0)) := hw5 ▸ block_new' _ _ (by simp)
      have hO5 := HO.out.ext (hx3.trans hx35) (fun _ _ _ => trivial) (fun _ _ => trivial)
      have hsr := hx0.size
      have hs3 := hx3.size
      refine wpList_append_one _ tokN rfl (.tmp 17) (.tmp 19) rfl (fun k => w.heap.size ≤ k) w.heap.size _ (Nd.dats ls) rfl hO5 (w3.heap.size + 1) 1 (nvals T2 (.slice A2 k2.length c2)) 48 (0, 0) (Nd.dat (.mk T2 k2)) rfl hX5 rfl rfl (fun j d u h1 h2 => nd_at (hkd.ext hx35 fun k hk _ => ⟨trivial, by omega, fun e => by have := (HO.out.lt k e).2; omega⟩) h1 h2) (nd_one _ rfl) ?hl ?h63 ?hbase ?h
      case hl => rw [Nd.dats_len]; omega
      case h63 => rw [Nd.dats_len]; unfold maxLen; omega
      case hbase => have := hx35.size; omega
      case h =>
        intro g2 cap w7 hown7 hgrow _ hlt7
        rw [← Nd.dats_add] at hown7
        have hx7 : Ext (fun _ => True) w w7 := ((hx0.trans hx3).trans hx35).trans' ((Ext.refl (fun k => k < w.heap.size) _).grown hgrow fun k e => .inl (by have := (HO.out.lt k e).1; omega)) fun k _ hl => hl
        clear hgrow hX5 hO5 hw5
        have HO7 := Lib.hid hown7
        clear hown7
        go_wp2_with fail
        go_roundg g
        case measure => omega
        case rel => exact ⟨b3, ls ++ [.mk T2 k2], rfl, HO7.out, hx7, by simp; omega, by omega, by omega, E⟩
    · rw [if_neg hlt] at e
      subst e
      go_wp2_with fail
      go_ret
      refine ⟨_, rfl, ?_, hx0⟩
      exact HO.out.weak (fun _ k => .inr k) |>.at_ (by omega) (fun k hk => .inr (HO.out.lt k hk).1)
end Go.Proofs.YtihnffmnofinmaaDoor
