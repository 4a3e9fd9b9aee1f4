/- The reference's Trim. -/
import Derived.Test.YtihnffmnofinmaaDoorLaw
namespace Go.Proofs.YtihnffmnofinmaaDoor
open Go.RowKit

namespace Ref
def nd (l : List Nd) (i : Nat) : Nd := l.getD i (.mk { kind := 0 } [])
def isWhite (n : Nd) : Bool := decide (n.tok.kind = 13)
def trimL : List Nd → List Nd
  | [] => []
  | n :: l => if isWhite n then trimL l else n :: l
def trimR : Nat → List Nd → List Nd
  | 0, l => l
  | f + 1, l => if 0 < l.length ∧ isWhite (nd l (l.length - 1)) = true then trimR f (l.take (l.length - 1)) else l
def trim (l : List Nd) : List Nd := trimR ((trimL l).length + 1) (trimL l)
end Ref
theorem Nd.dat_len (n : Nd) : n.dat.length = 7 := by cases n; rfl
theorem Nd.dats_get (l : List Nd) (i : Nat) (h : i < l.length) : (Nd.dats l)[i]? = some (Ref.nd l i).dat := by
  rw [Nd.dats_map, List.getElem?_map, List.getElem?_eq_getElem h]; simp [Ref.nd, List.getD, List.getElem?_eq_getElem h]
theorem Nd.dats_size (l : List Nd) : ∀ (i : Nat) (e : List Dat), (Nd.dats l)[i]? = some e → e.length = 7 := by
  intro i e h
  rw [Nd.dats_map, List.getElem?_map] at h
  cases hl : l[i]? with
  | none => rw [hl] at h; cases h
  | some n => rw [hl] at h; cases h; exact Nd.dat_len n
/-- A node's cells. -/
theorem nds_at {w : World} {S : Nat → Prop} {l : List Nd} {A : Option Addr} {n c i : Nat} (h : Dat.At w S (nodesDat l) (.slice A n c)) (hi : i < l.length) :
    ∃ b off kv, A = some ⟨b, off, none⟩ ∧ b < w.heap.size ∧ S b ∧ Dat.At w S (nodesDat (Ref.nd l i).kids) kv ∧ ∀ (j : Nat) (u : Value), (nvals (Ref.nd l i).tok kv)[j]? = some u → w.cell? ⟨b, off + i * 7 + j, none⟩ = some u := by
  obtain ⟨b, off, hA, hS, hb, f, hf⟩ := h.elem (Nd.dats_get l i hi) (Nd.dat_len _)
  generalize Ref.nd l i = N at *
  obtain ⟨t, ks⟩ := N
  have hd : Nd.dat (.mk t ks) = [.v (.int .i64 t.kind), .v (.string ⟨t.text.toArray⟩), .v (.int .i64 t.num), .v (.bool t.whole), .v (.bool t.sign), .v (.bool t.id), nodesDat ks] := rfl
  rw [hd] at hf
  refine ⟨b, off, f 6, hA, hb, hS, (hf 6 (by omega)).2 _ rfl, fun j u hu => ?_⟩
  have hj : j < 7 := (Array.getElem?_eq_some_iff.1 hu).1
  rw [(hf j hj).1]
  match j, hj with
  | 0, h | 1, h | 2, h | 3, h | 4, h | 5, h => rw [((hf _ h).2 _ rfl).plain]; exact hu
  | 6, _ => exact hu

theorem nds_drop {w : World} {S : Nat → Prop} {n0 : Nd} {k : List Nd} {b off c n : Nat} (h : Dat.At w S (nodesDat (n0 :: k)) (.slice (some ⟨b, off, none⟩) n c)) (off' : Nat) (ho : 0 < k.length → off' = off + 7) :
    Dat.At w S (nodesDat k) (.slice (some ⟨b, off', none⟩) k.length (c - 1)) := by
  have hn : n = k.length + 1 := by have := h.len; rw [Nd.dats_len] at this; simpa using this.symm
  subst hn
  exact h.drop (size := 7) (k := 1) (Nd.dats_size _) (by omega) (fun hk => by have := ho (by omega); omega)
theorem nds_take {w : World} {S : Nat → Prop} {k : List Nd} {A : Option Addr} {c n m : Nat} (h : Dat.At w S (nodesDat k) (.slice A n c)) (hm : m ≤ n) : Dat.At w S (nodesDat (k.take m)) (.slice A m c) := by
  have := h.take hm
  rw [Nd.dats_map, ← List.map_take, ← Nd.dats_map] at this
  exact this
/-- Returned: a slice that reads as d in the world as it is. -/
def RetRead (S : Nat → Prop) (d : Dat) (w : World) (e : Ending) (w' : World) : Prop := w = w' ∧ ∃ v', e = .returned v' ∧ Dat.At w S d v'
set_option maxHeartbeats 2000000 in
theorem Trim_any (l : List Nd) (v : Value) (w : World) (S : Nat → Prop) (hn : l.length ≤ 16777216) (hv : Dat.At w S (nodesDat l) v) :
    Calls Tryd.prog 22 #[v] w (RetRead S (nodesDat (Ref.trim l)) w) := by
  obtain ⟨F, hF⟩ : ∃ F, F = Ref.trim l := ⟨_, rfl⟩
  rw [← hF]
  have HF := Lib.hid hF
  clear hF
  obtain ⟨A, c, rfl, hcl, hcm⟩ := hv.form
  rw [Nd.dats_len] at hv hcl
  rw [Nd.dats_len]
  unfold maxLen at hcm
  go_enter Tryd.func22, Tryd.ntmps22
  go_wp2_with fail
  go_loopg [0] (l.length + 1) (fun g s0 wr => ∃ (k : List Nd), Dat.At w S (nodesDat k) s0 ∧ w = wr ∧ k.length ≤ l.length ∧ k.length < g ∧ Hid (Ref.trimR ((Ref.trimL k).length + 1) (Ref.trimL k) = F))
  case atStart => exact ⟨l, hv, rfl, Nat.le_refl _, by omega, HF.out.symm⟩
  case round =>
    clear HF hv hcl hcm
    obtain ⟨k, hv, rfl, hkl, hg, hrun⟩ := hrel
    obtain ⟨A, c, rfl, hcl, hcm⟩ := hv.form
    rw [Nd.dats_len] at hv hcl
    rw [Nd.dats_len]
    unfold maxLen at hcm
    obtain ⟨g, rfl⟩ : ∃ g, gk = g + 1 := ⟨gk - 1, by omega⟩
    cases k with
    | nil =>
      simp only [List.length_nil] at *
      go_wp2_with fail
      go_loopg [0] (([] : List Nd).length + 1) (fun g s0 wr => ∃ (m : List Nd), Dat.At w S (nodesDat m) s0 ∧ w = wr ∧ m.length ≤ l.length ∧ m.length < g ∧ Hid (Ref.trimR g m = F))
      case atStart => exact ⟨_, hv, rfl, by first | exact hkl | simp, by simp, hrun⟩
      case round =>
        clear hv hcl hcm hkl hg
        obtain ⟨m, hv, rfl, hml, hg, hrun⟩ := hrel
        obtain ⟨A, c, rfl, hcl, hcm⟩ := hv.form
        rw [Nd.dats_len] at hv hcl
        rw [Nd.dats_len]
        unfold maxLen at hcm
        obtain ⟨g', rfl⟩ : ∃ g', gk = g' + 1 := ⟨gk - 1, by omega⟩
        have e := hrun.out
        unfold Ref.trimR Ref.isWhite at e
        clear hrun
        by_cases h0 : 0 < m.length
        · obtain ⟨b, off, kv, rfl, hb, hSb, hkv, hc⟩ := nds_at hv (i := m.length - 1) (by omega)
          have hc0 : w.cell? ⟨b, off + (m.length - 1) * 7, none⟩ = some (.int .i64 (Ref.nd m (m.length - 1)).tok.kind) := hc 0 _ rfl
          clear hc
          have hvt := nds_take hv (m := m.length - 1) (by omega)
          by_cases hw : (Ref.nd m (m.length - 1)).tok.kind = 13
          · rw [if_pos ⟨h0, by simp [hw]⟩] at e
            have E := Lib.hid e
            clear e
            rw [hw] at hc0
            have hi : ((m.length : Int) - 1) = ((m.length - 1 : Nat) : Int) := by omega
            have hlt : (m.take (m.length - 1)).length = m.length - 1 := by simp
            generalize hN : m.length - 1 = N at *
            have hmN : m.length = N + 1 := by omega
            rw [hmN] at hv hcl hml hg ⊢
            clear hi
            go_wp2_with fail
            all_goals go_roundg g'
            all_goals first | (show g' < _; omega) | skip
            all_goals exact ⟨m.take N, hvt, rfl, by omega, by omega, E⟩
          · rw [if_neg (by simp [hw])] at e
            have hw' : ((Ref.nd m (m.length - 1)).tok.kind == 13) = false := by simp [hw]
            clear hw hvt
            subst e
            generalize (Ref.nd m (m.length - 1)).tok.kind = K at *
            generalize hN : m.length - 1 = N at *
            have hmN : m.length = N + 1 := by omega
            rw [hmN] at hv hcl hml hg ⊢
            go_wp2_with fail
            go_ret
            exact ⟨rfl, _, rfl, hv⟩
        · rw [if_neg (by omega)] at e
          subst e
          have hz : m.length = 0 := by omega
          rw [hz] at hv hcl hml hg ⊢
          go_wp2_with fail
          go_ret
          exact ⟨rfl, _, rfl, hv⟩
    | cons n0 k =>
      obtain ⟨b, off, kv, rfl, hb, hSb, hkv, hc⟩ := nds_at hv (i := 0) (by simp)
      have hnd : Ref.nd (n0 :: k) 0 = n0 := rfl
      rw [hnd] at hc
      have hc0 : w.cell? ⟨b, off, none⟩ = some (.int .i64 n0.tok.kind) := by have := hc 0 (.int .i64 n0.tok.kind) rfl; simp only [Nat.zero_mul, Nat.add_zero] at this; exact this
      clear hc
      have e := hrun.out
      unfold Ref.trimL Ref.isWhite at e
      by_cases hw : n0.tok.kind = 13
      · clear hrun
        rw [if_pos (by simp [hw])] at e
        have E := Lib.hid e
        clear e
        have hd := fun off' => nds_drop hv off'
        rw [hw] at hc0
        simp only [List.length_cons] at *
        go_wp2_with fail
        all_goals go_roundg g
        all_goals first | (show g < _; omega) | skip
        all_goals first | exact ⟨k, hd _ (fun _ => by omega), rfl, by omega, by omega, E⟩ | exact ⟨k, (by have := hd off (fun _ => by omega); rwa [show c - 1 = 0 by omega] at this), rfl, by omega, by omega, E⟩
      · rw [if_neg (by simp [hw])] at e
        have E := Lib.hid e
        clear e hrun
        have hw' : (n0.tok.kind == 13) = false := by simp [hw]
        clear hw
        simp only [List.length_cons] at *
        go_wp2_with fail
        go_loopg [0] ((n0 :: k).length + 1) (fun g s0 wr => ∃ (m : List Nd), Dat.At w S (nodesDat m) s0 ∧ w = wr ∧ m.length ≤ l.length ∧ m.length < g ∧ Hid (Ref.trimR g m = F))
        case atStart => exact ⟨_, hv, rfl, by first | exact hkl | simp, by simp, E⟩
        case round =>
          clear hv hcl hcm hkl hg
          obtain ⟨m, hv, rfl, hml, hg, hrun⟩ := hrel
          obtain ⟨A, c, rfl, hcl, hcm⟩ := hv.form
          rw [Nd.dats_len] at hv hcl
          rw [Nd.dats_len]
          unfold maxLen at hcm
          obtain ⟨g', rfl⟩ : ∃ g', gk = g' + 1 := ⟨gk - 1, by omega⟩
          have e := hrun.out
          unfold Ref.trimR Ref.isWhite at e
          clear hrun
          by_cases h0 : 0 < m.length
          · obtain ⟨b, off, kv, rfl, hb, hSb, hkv, hc⟩ := nds_at hv (i := m.length - 1) (by omega)
            have hc0 : w.cell? ⟨b, off + (m.length - 1) * 7, none⟩ = some (.int .i64 (Ref.nd m (m.length - 1)).tok.kind) := hc 0 _ rfl
            clear hc
            have hvt := nds_take hv (m := m.length - 1) (by omega)
            by_cases hw : (Ref.nd m (m.length - 1)).tok.kind = 13
            · rw [if_pos ⟨h0, by simp [hw]⟩] at e
              have E := Lib.hid e
              clear e
              rw [hw] at hc0
              have hi : ((m.length : Int) - 1) = ((m.length - 1 : Nat) : Int) := by omega
              have hlt : (m.take (m.length - 1)).length = m.length - 1 := by simp
              generalize hN : m.length - 1 = N at *
              have hmN : m.length = N + 1 := by omega
              rw [hmN] at hv hcl hml hg ⊢
              clear hi
              go_wp2_with fail
              all_goals go_roundg g'
              all_goals first | (show g' < _; omega) | skip
              all_goals exact ⟨m.take N, hvt, rfl, by omega, by omega, E⟩
            · rw [if_neg (by simp [hw])] at e
              have hw' : ((Ref.nd m (m.length - 1)).tok.kind == 13) = false := by simp [hw]
              clear hw hvt
              subst e
              generalize (Ref.nd m (m.length - 1)).tok.kind = K at *
              generalize hN : m.length - 1 = N at *
              have hmN : m.length = N + 1 := by omega
              rw [hmN] at hv hcl hml hg ⊢
              go_wp2_with fail
              go_ret
              exact ⟨rfl, _, rfl, hv⟩
          · rw [if_neg (by omega)] at e
            subst e
            have hz : m.length = 0 := by omega
            rw [hz] at hv hcl hml hg ⊢
            go_wp2_with fail
            go_ret
            exact ⟨rfl, _, rfl, hv⟩
end Go.Proofs.YtihnffmnofinmaaDoor
