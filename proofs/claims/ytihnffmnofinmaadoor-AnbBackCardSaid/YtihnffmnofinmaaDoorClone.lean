/- slices.Clone of nodes; how many nodes there are, all told. -/
import Derived.Test.YtihnffmnofinmaaDoorTrim
namespace Go.Proofs.YtihnffmnofinmaaDoor
open Go.RowKit
mutual
def Nd.size : Nd → Nat
  | .mk _ ks => Nd.sizes ks + 1
def Nd.sizes : List Nd → Nat
  | [] => 0
  | n :: l => Nd.size n + Nd.sizes l
end
theorem Nd.size_eq (n : Nd) : n.size = Nd.sizes n.kids + 1 := by cases n; rfl
theorem Nd.len_le : ∀ l : List Nd, l.length ≤ Nd.sizes l
  | [] => Nat.le_refl _
  | n :: l => by
    have := Nd.len_le l
    rw [Nd.sizes, Nd.size_eq, List.length_cons]; omega
theorem Nd.sizes_mem : ∀ (l : List Nd) (i : Nat), i < l.length → Nd.sizes (Ref.nd l i).kids < Nd.sizes l
  | [], i, h => by simp at h
  | n :: l, 0, _ => by rw [Nd.sizes, Nd.size_eq]; show Nd.sizes n.kids < _; omega
  | n :: l, i + 1, h => by
    have := Nd.sizes_mem l i (by simpa using h)
    rw [Nd.sizes]
    show Nd.sizes (Ref.nd l i).kids < _
    omega
theorem Nd.sizes_append : ∀ a b : List Nd, Nd.sizes (a ++ b) = Nd.sizes a + Nd.sizes b
  | [], b => by simp [Nd.sizes]
  | n :: a, b => by rw [List.cons_append, Nd.sizes, Nd.sizes, Nd.sizes_append a b]; omega
theorem Ref.trimL_sizes : ∀ l : List Nd, Nd.sizes (Ref.trimL l) ≤ Nd.sizes l
  | [] => Nat.le_refl _
  | n :: l => by
    unfold Ref.trimL
    split
    · have := Ref.trimL_sizes l; rw [Nd.sizes]; omega
    · exact Nat.le_refl _
theorem Ref.take_sizes (l : List Nd) (k : Nat) : Nd.sizes (l.take k) ≤ Nd.sizes l := by
  have h := Nd.sizes_append (l.take k) (l.drop k)
  rw [List.take_append_drop] at h
  omega
theorem Ref.trimR_sizes : ∀ (f : Nat) (l : List Nd), Nd.sizes (Ref.trimR f l) ≤ Nd.sizes l
  | 0, l => Nat.le_refl _
  | f + 1, l => by
    unfold Ref.trimR
    split
    · exact Nat.le_trans (Ref.trimR_sizes f _) (Ref.take_sizes l _)
    · exact Nat.le_refl _
theorem Ref.trim_sizes (l : List Nd) : Nd.sizes (Ref.trim l) ≤ Nd.sizes l := Nat.le_trans (Ref.trimR_sizes _ _) (Ref.trimL_sizes l)
mutual
theorem Ref.nodeRun_sizes (t : List Tok) : ∀ (f a d : Nat), (Ref.nodeRun t f a d).1.size + a ≤ (Ref.nodeRun t f a d).2
  | 0, a, _ => by unfold Ref.nodeRun; simp [Nd.size, Nd.sizes]; omega
  | f + 1, a, d => by
    unfold Ref.nodeRun
    split
    · simp [Nd.size, Nd.sizes]; omega
    · have := Ref.kidsRun_sizes t (Ref.closes (Ref.tok t a)) f (a + 1) d []
      simp only [Nd.size, Nd.sizes] at this ⊢
      omega
theorem Ref.kidsRun_sizes (t : List Tok) (c : List UInt8) : ∀ (f a d : Nat) (ks : List Nd), Nd.sizes (Ref.kidsRun t c f a d ks).1 + a ≤ Nd.sizes ks + (Ref.kidsRun t c f a d ks).2
  | 0, a, _, ks => Nat.le_refl _
  | f + 1, a, d, ks => by
    unfold Ref.kidsRun
    split
    · split
      · show Nd.sizes ks + a ≤ Nd.sizes ks + (a + 1); omega
      · have h1 := Ref.nodeRun_sizes t f a (d + 1)
        have h2 := Ref.kidsRun_sizes t c f (Ref.nodeRun t f a (d + 1)).2 d (if d < 32 then ks ++ [(Ref.nodeRun t f a (d + 1)).1] else ks)
        have h3 : Nd.sizes (if d < 32 then ks ++ [(Ref.nodeRun t f a (d + 1)).1] else ks) ≤ Nd.sizes ks + (Ref.nodeRun t f a (d + 1)).1.size := by
          split
          · rw [Nd.sizes_append]; simp [Nd.sizes]
          · omega
        omega
    · exact Nat.le_refl _
end
theorem Ref.nodesRun_sizes (t : List Tok) : ∀ (f a : Nat) (l : List Nd), a ≤ t.length → Nd.sizes (Ref.nodesRun t f a l) + a ≤ Nd.sizes l + t.length
  | 0, a, l, h => by unfold Ref.nodesRun; omega
  | f + 1, a, l, h => by
    unfold Ref.nodesRun
    split
    · rename_i hl
      have h1 := Ref.nodeRun_sizes t (2 * t.length) a 1
      have h0 := Ref.nodeRun_le t (2 * t.length) a 1 hl
      have h2 := Ref.nodesRun_sizes t f (Ref.nodeRun t (2 * t.length) a 1).2 (l ++ [(Ref.nodeRun t (2 * t.length) a 1).1]) h0
      rw [Nd.sizes_append] at h2
      simp [Nd.sizes] at h2
      omega
    · omega
theorem Ref.nodesOf_sizes (s : List UInt8) : Nd.sizes (Ref.nodesOf s) ≤ s.length + 1 := by
  have h1 := Ref.tokensRun_len (Ref.read ⟨s.toArray⟩) ((Ref.read ⟨s.toArray⟩).length + 1) 0 []
  have h2 := Ref.readRun_len ⟨s.toArray⟩ (s.length + 1) 0 true false [] (by simp [ByteArray.size]) (Nat.zero_le _) (.inr trivial) (Nat.le_refl _)
  have h4 : (ByteArray.mk s.toArray).size = s.length := by simp [ByteArray.size]
  have h3 : (Ref.read ⟨s.toArray⟩).length ≤ s.length := by rw [h4] at h2; unfold Ref.read; rw [h4]; exact h2
  have h5 := Ref.nodesRun_sizes (Ref.tokens (Ref.read ⟨s.toArray⟩)) ((Ref.tokens (Ref.read ⟨s.toArray⟩)).length + 1) 0 [] (Nat.zero_le _)
  have h6 : (Ref.tokens (Ref.read ⟨s.toArray⟩)).length ≤ s.length + 1 := by unfold Ref.tokens; simp at h1; omega
  unfold Ref.nodesOf Ref.nodes
  simp [Nd.sizes] at h5
  omega
/-- Returned: a slice of the call's own that holds these cells. -/
def RetRow (n : Nat) (xs : List Value) (w : World) (e : Ending) (w' : World) : Prop := ∃ v, e = .returned v ∧ w'.ownsRow w.heap.size 48 7 v n xs ∧ Ext (fun _ => True) w w'
theorem row_empty (w : World) (e : TypeId) (size : Nat) : (w.alloc (.cells #[] e (0, 0))).ownsRow w.heap.size e size (.slice (some ⟨w.heap.size, 0, none⟩) 0 0) 0 [] :=
  ⟨by simp, .inr ⟨w.heap.size, 0, #[], rfl, Nat.le_refl _, block_new _ _, Nat.le_refl _, by unfold maxLen; omega, by simp, by simp⟩⟩
set_option maxRecDepth 100000 in
set_option maxHeartbeats 1000000 in
theorem Clone_any (A : Option Addr) (n c : Nat) (xs : List Value) (w : World) (hn : n ≤ 16777216) (hA : A = none → n = 0) (hl : xs.length = n * 7)
    (hsrc : ∀ ad, A = some ad → ∀ (j : Nat) u, xs[j]? = some u → w.cell? (ad.add j) = some u) (h1 : ∀ u ∈ xs, u.oneCell' = true) :
    Calls Tryd.prog 54 #[.slice A n c] w (RetRow n xs w) := by
  obtain ⟨i0, hi, hz, hz1, hz2⟩ := info_parts tokN.info
  have heq := Lib.run_eql_slice_nil w 23 48 A n c 0 0 Tryd.underlying23
  cases A with
  | none =>
    obtain rfl := hA rfl
    obtain rfl := List.eq_nil_of_length_eq_zero (by simpa using hl)
    clear hA hl hsrc h1 hi hz hz1 hz2
    simp only [Option.isNone_none] at heq
    go_enter Tryd.func54, Tryd.ntmps54
    go_wp2_with fail
    go_ret
    exact ⟨_, rfl, World.ownsRow_nil _ _ _ _, Ext.refl _ _⟩
  | some ad =>
    have HSRC := Lib.hid (hsrc ad rfl)
    have H1 := Lib.hid h1
    have HL := Lib.hid hl
    simp only [Option.isNone_some] at heq
    clear hA hl hsrc h1
    go_enter Tryd.func54, Tryd.ntmps54
    go_wp2_with (at_builtin; refine Hid.out ?_)
    apply Lib.hid
    refine wpList_append_own _ rfl (.tmp 5) (.tmp 6) 23 rfl w.heap.size 48 i0 _ 7 64 Tryd.underlying23 hi hz hz1 hz2 rfl (by decide) _ 0 [] rfl (row_empty w _ 7) ad n c xs rfl HL.out ?c1 H1.out ?c3 ?c4 ?c5 ?_
    case c1 => intro j u hj; have := HSRC.out j u hj; exact (Ext.refl (fun _ => True) w).alloc _ |>.cell trivial this
    case c3 => unfold maxLen; omega
    case c4 => omega
    case c5 => simp
    intro v' w2 hown hgrow _
    have hx : Ext (fun _ => True) w w2 := ((Ext.refl (fun _ => True) w).alloc _).trans' ((Ext.refl (fun k => k < w.heap.size) _).grown hgrow fun k e => .inl (by cases e; exact Nat.lt_irrefl _)) fun k _ hl => hl
    simp only [Nat.zero_add, List.nil_append] at hown
    have HO := Lib.hid hown
    clear hown hgrow hi hz hz1 hz2 heq
    go_wp2_with fail
    go_ret
    exact ⟨_, rfl, HO.out, hx⟩
end Go.Proofs.YtihnffmnofinmaaDoor
