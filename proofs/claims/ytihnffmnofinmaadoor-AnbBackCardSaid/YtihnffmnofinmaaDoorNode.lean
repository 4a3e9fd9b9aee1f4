/- The reference's nodes of tokens. -/
import Derived.Test.YtihnffmnofinmaaDoorToks
namespace Go.Proofs.YtihnffmnofinmaaDoor
open Go.RowKit

namespace Ref
def closes (t : Tok) : List UInt8 :=
  if t.kind = 2 ∨ (t.kind = 19 ∧ t.text = [40]) then [41] else if t.kind = 19 ∧ t.text = [91] then [93] else if t.kind = 19 ∧ t.text = [123] then [125] else []
end Ref
theorem ret_closes {t : Tok} {v : ByteArray} (h : ⟨(Ref.closes t).toArray⟩ = v) : Ending.returned (.string v) = .returned (.string ⟨(Ref.closes t).toArray⟩) := by rw [h]
theorem closes_any (t : Tok) (w : World) :
    Calls Tryd.prog 41 #[t.val] w (Ret (.string ⟨(Ref.closes t).toArray⟩) (Ext (fun _ => True) w)) := by
  obtain ⟨kind, text, num, whole, sign, id⟩ := t
  unfold Tok.val Tok.vals
  simp only
  go_enter Tryd.func41, Tryd.ntmps41
  go_wp2
  all_goals go_ret
  all_goals refine ⟨ret_closes (by unfold Ref.closes; simp_all), (Ext.refl _ _).alloc _⟩

mutual
def Nd.dat : Nd → List Dat
  | .mk t ks => t.dat ++ [.s (Nd.dats ks)]
def Nd.dats : List Nd → List (List Dat)
  | [] => []
  | n :: l => Nd.dat n :: Nd.dats l
end
theorem Nd.dats_map : ∀ l : List Nd, Nd.dats l = l.map Nd.dat
  | [] => rfl
  | n :: l => by rw [Nd.dats, Nd.dats_map l]; rfl
theorem Nd.dats_len (l : List Nd) : (Nd.dats l).length = l.length := by rw [Nd.dats_map, List.length_map]
theorem Nd.dats_add (l : List Nd) (n : Nd) : Nd.dats (l ++ [n]) = Nd.dats l ++ [Nd.dat n] := by simp [Nd.dats_map]
def nodesDat (l : List Nd) : Dat := .s (Nd.dats l)

namespace Ref
def tok (t : List Tok) (a : Nat) : Tok := t.getD a { kind := 0 }
mutual
/-- A node from a place on, at a depth, with what is behind it. -/
def nodeRun (t : List Tok) : Nat → Nat → Nat → Nd × Nat
  | 0, a, _ => (.mk (tok t a) [], a + 1)
  | f + 1, a, d => if closes (tok t a) = [] then (.mk (tok t a) [], a + 1) else
      (.mk (tok t a) (kidsRun t (closes (tok t a)) f (a + 1) d []).1, (kidsRun t (closes (tok t a)) f (a + 1) d []).2)
/-- The nodes up to what closes them. -/
def kidsRun (t : List Tok) (c : List UInt8) : Nat → Nat → Nat → List Nd → List Nd × Nat
  | 0, a, _, ks => (ks, a)
  | f + 1, a, d, ks =>
    if a < t.length then
      if (tok t a).kind = 20 ∧ (tok t a).text = c then (ks, a + 1)
      else kidsRun t c f (nodeRun t f a (d + 1)).2 d (if d < 32 then ks ++ [(nodeRun t f a (d + 1)).1] else ks)
    else (ks, a)
end
mutual
theorem nodeRun_gt (t : List Tok) : ∀ (f a d : Nat), a < (nodeRun t f a d).2
  | 0, a, _ => Nat.lt_succ_self a
  | f + 1, a, d => by
    unfold nodeRun
    split
    · exact Nat.lt_succ_self a
    · exact kidsRun_ge t _ f (a + 1) d []
theorem kidsRun_ge (t : List Tok) (c : List UInt8) : ∀ (f a d : Nat) (ks : List Nd), a ≤ (kidsRun t c f a d ks).2
  | 0, a, _, _ => Nat.le_refl a
  | f + 1, a, d, ks => by
    unfold kidsRun
    split
    · split
      · exact Nat.le_succ a
      · exact Nat.le_trans (Nat.le_of_lt (nodeRun_gt t f a (d + 1))) (kidsRun_ge t c f _ d _)
    · exact Nat.le_refl a
end
end Ref
theorem tokN : SliceT Tryd.prog 23 48 7 64 (.agg #[.int .i64 0, .string ⟨#[]⟩, .int .i64 0, .bool false, .bool false, .bool false, .slice none 0 0]) := ⟨Tryd.underlying23, by kernel_rfl, rfl, by omega⟩
/-- A token's cells. -/
theorem toks_at {w : World} {S : Nat → Prop} {t : List Tok} {A : Option Addr} {n c a : Nat} (h : Dat.At w S (toksDat t) (.slice A n c)) (ha : a < t.length) :
    ∃ b off, A = some ⟨b, off, none⟩ ∧ b < w.heap.size ∧ ∀ (j : Nat) (u : Value), (Ref.tok t a).vals[j]? = some u → w.cell? ⟨b, off + a * 6 + j, none⟩ = some u := by
  have hi : (t.map Tok.dat)[a]? = some (Tok.dat (Ref.tok t a)) := by simp [Ref.tok, List.getD, List.getElem?_eq_getElem ha]
  obtain ⟨b, off, hA, _, hb, f, hf⟩ := h.elem hi (size := 6) rfl
  refine ⟨b, off, hA, hb, fun j u hu => ?_⟩
  have hj : j < 6 := (Array.getElem?_eq_some_iff.1 hu).1
  have h1 := hf j hj
  have h2 := (h1.2 (.v u) (by unfold Tok.dat; rw [List.getElem?_map, Array.getElem?_toList, hu]; rfl)).plain
  rw [h1.1, h2]

theorem block_new' (w : World) (o : Obj) {k : Nat} (hk : k = w.heap.size) : (w.alloc o).heap[k]? = some o := hk ▸ block_new w o
/-- A node of the call's own in a block: a token, and its kids' slice. -/
def NBox (w : World) (R : Nat) (t : Tok) (v : Value) : Prop := w.heap[R]? = some (.cells #[.int .i64 t.kind, .string ⟨t.text.toArray⟩, .int .i64 t.num, .bool t.whole, .bool t.sign, .bool t.id, v] 48)
theorem NBox.cells {w : World} {R : Nat} {t : Tok} {v : Value} (h : NBox w R t v) :
    w.cell? ⟨R, 0, none⟩ = some (.int .i64 t.kind) ∧ w.cell? ⟨R, 1, none⟩ = some (.string ⟨t.text.toArray⟩) ∧ w.cell? ⟨R, 2, none⟩ = some (.int .i64 t.num) ∧ w.cell? ⟨R, 3, none⟩ = some (.bool t.whole) ∧ w.cell? ⟨R, 4, none⟩ = some (.bool t.sign) ∧ w.cell? ⟨R, 5, none⟩ = some (.bool t.id) ∧ w.cell? ⟨R, 6, none⟩ = some v ∧ w.frozen? ⟨R, 6, none⟩ = false ∧ R < w.heap.size :=
  ⟨by rw [block_cell h]; rfl, by rw [block_cell h]; rfl, by rw [block_cell h]; rfl, by rw [block_cell h]; rfl, by rw [block_cell h]; rfl, by rw [block_cell h]; rfl, by rw [block_cell h]; rfl, block_free h 6, block_lt h⟩
theorem NBox.ext {S : Nat → Prop} {w w' : World} {R : Nat} {t : Tok} {v : Value} (h : NBox w R t v) (he : Ext S w w') (hR : S R) : NBox w' R t v := he.heap hR h
theorem Box.open7 {w : World} {L : Nat} (h : Box w L 7) : ∃ x0 x1 x2 x3 x4 x5 x6, w.cell? ⟨L, 0, none⟩ = some x0 ∧ w.cell? ⟨L, 1, none⟩ = some x1 ∧ w.cell? ⟨L, 2, none⟩ = some x2 ∧ w.cell? ⟨L, 3, none⟩ = some x3 ∧ w.cell? ⟨L, 4, none⟩ = some x4 ∧ w.cell? ⟨L, 5, none⟩ = some x5 ∧ w.cell? ⟨L, 6, none⟩ = some x6 ∧
    w.frozen? ⟨L, 0, none⟩ = false ∧ w.frozen? ⟨L, 1, none⟩ = false ∧ w.frozen? ⟨L, 2, none⟩ = false ∧ w.frozen? ⟨L, 3, none⟩ = false ∧ w.frozen? ⟨L, 4, none⟩ = false ∧ w.frozen? ⟨L, 5, none⟩ = false ∧ w.frozen? ⟨L, 6, none⟩ = false ∧ L < w.heap.size := by
  obtain ⟨cs, T, hb, hs⟩ := h
  obtain ⟨l⟩ := cs
  match l, hs with
  | [a0, a1, a2, a3, a4, a5, a6], _ =>
    exact ⟨a0, a1, a2, a3, a4, a5, a6, block_cell hb 0, block_cell hb 1, block_cell hb 2, block_cell hb 3, block_cell hb 4, block_cell hb 5, block_cell hb 6, block_free hb 0, block_free hb 1, block_free hb 2, block_free hb 3, block_free hb 4, block_free hb 5, block_free hb 6, block_lt hb⟩
def Nd.tok : Nd → Tok
  | .mk t _ => t
def Nd.kids : Nd → List Nd
  | .mk _ ks => ks
def nvals (t : Tok) (v : Value) : Array Value := #[.int .i64 t.kind, .string ⟨t.text.toArray⟩, .int .i64 t.num, .bool t.whole, .bool t.sign, .bool t.id, v]
/-- The call returned a node that reads so, its kids in new blocks, and a place. -/
def RetNode (n : Nd × Nat) (w : World) (e : Ending) (w' : World) : Prop :=
  ∃ v, e = .returned (.tuple #[.agg (nvals n.1.tok v), .int .i64 n.2]) ∧ Dat.At w' (fun k => w.heap.size ≤ k) (nodesDat n.1.kids) v ∧ Ext (fun _ => True) w w'
mutual
theorem Ref.nodeRun_le (t : List Tok) : ∀ (f a d : Nat), a < t.length → (nodeRun t f a d).2 ≤ t.length
  | 0, a, _, h => h
  | f + 1, a, d, h => by
    unfold nodeRun
    split
    · exact h
    · exact Ref.kidsRun_le t _ f (a + 1) d [] h
theorem Ref.kidsRun_le (t : List Tok) (c : List UInt8) : ∀ (f a d : Nat) (ks : List Nd), a ≤ t.length → (kidsRun t c f a d ks).2 ≤ t.length
  | 0, a, _, _, h => h
  | f + 1, a, d, ks, h => by
    unfold kidsRun
    split
    · rename_i hl
      split
      · exact hl
      · exact Ref.kidsRun_le t c f _ d _ (Ref.nodeRun_le t f a (d + 1) hl)
    · exact h
end
theorem nd_at {w : World} {S : Nat → Prop} {t : Tok} {ks : List Nd} {v : Value} (h : Dat.At w S (nodesDat ks) v) {j : Nat} {d : Dat} {u : Value} (h1 : (Nd.dat (.mk t ks))[j]? = some d) (h2 : (nvals t v)[j]? = some u) : Dat.At w S d u := by
  have hj : j < 7 := (Array.getElem?_eq_some_iff.1 h2).1
  have hd : Nd.dat (.mk t ks) = [.v (.int .i64 t.kind), .v (.string ⟨t.text.toArray⟩), .v (.int .i64 t.num), .v (.bool t.whole), .v (.bool t.sign), .v (.bool t.id), nodesDat ks] := rfl
  rw [hd] at h1
  match j, hj with
  | 0, _ | 1, _ | 2, _ | 3, _ | 4, _ | 5, _ => simp [nvals] at h1 h2; subst h1; subst h2; exact .v _
  | 6, _ => simp [nvals] at h1 h2; subst h1; subst h2; exact h
theorem nd_one (t : Tok) {v : Value} (hv : v.oneCell' = true) : ∀ u ∈ (nvals t v).toList, u.oneCell' = true := by
  intro u hu
  simp [nvals] at hu
  rcases hu with rfl | rfl | rfl | rfl | rfl | rfl | rfl
  all_goals first | rfl | exact hv
theorem NBox.set {w : World} {R : Nat} {t : Tok} {v : Value} (h : NBox w R t v) (u : Value) : NBox (w.setCell ⟨R, 6, none⟩ u) R t u := by
  have := block_set h 6 u
  unfold NBox
  rw [this]
  rfl
set_option maxRecDepth 100000 in
set_option maxHeartbeats 2000000 in
theorem node_any (t : List Tok) (hn : t.length ≤ 16777216) : ∀ (f a d : Nat) (v : Value) (w : World), Dat.At w (fun _ => True) (toksDat t) v → a < t.length → d ≤ a + 1 → 2 * (t.length - a) ≤ f →
    Calls Tryd.prog 27 #[v, .int .i64 a, .int .i64 d] w (RetNode (Ref.nodeRun t f a d) w) := by
  intro f
  induction f using Nat.strongRecOn with
  | ind f ih =>
    intro a d v w hv ha hd hf
    obtain ⟨f, rfl⟩ : ∃ g, f = g + 1 := ⟨f - 1, by omega⟩
    obtain ⟨A, c, rfl, hcl, hcm⟩ := hv.form
    rw [List.length_map] at hv hcl
    rw [List.length_map]
    obtain ⟨b, off, rfl, hb, hc⟩ := toks_at hv ha
    have hc0 : w.cell? ⟨b, off + a * 6, none⟩ = some (.int .i64 (Ref.tok t a).kind) := hc 0 _ rfl
    have hc1 : w.cell? ⟨b, off + a * 6 + 1, none⟩ = some (.string ⟨(Ref.tok t a).text.toArray⟩) := hc 1 _ rfl
    have hc2 : w.cell? ⟨b, off + a * 6 + 2, none⟩ = some (.int .i64 (Ref.tok t a).num) := hc 2 _ rfl
    have hc3 : w.cell? ⟨b, off + a * 6 + 3, none⟩ = some (.bool (Ref.tok t a).whole) := hc 3 _ rfl
    have hc4 : w.cell? ⟨b, off + a * 6 + 4, none⟩ = some (.bool (Ref.tok t a).sign) := hc 4 _ rfl
    have hc5 : w.cell? ⟨b, off + a * 6 + 5, none⟩ = some (.bool (Ref.tok t a).id) := hc 5 _ rfl
    clear hc
    unfold maxLen at hcm
    obtain ⟨n, hlen⟩ : ∃ n, n = t.length := ⟨_, rfl⟩
    rw [← hlen] at hn ha hf hv hcl
    simp only [← hlen] at ih
    rw [← hlen]
    have hcall : ∀ (g b' : Nat) (w' : World), g < f → Ext (fun _ => True) w w' → b' < n → d ≤ b' → 2 * (n - b') ≤ g → Calls Tryd.prog 27 #[.slice (some ⟨b, off, none⟩) n c, .int .i64 b', .int .i64 ((d : Int) + 1)] w' (RetNode (Ref.nodeRun t g b' (d + 1)) w') := by
      intro g b' w' hg hx h1 h2 h3
      have := ih g (by omega) b' (d + 1) _ w' (hv.ext hx fun _ _ _ => ⟨trivial, trivial⟩) h1 (by omega) h3
      simpa using this
    have HLEN := Lib.hid hlen
    have HCALL := Lib.hid hcall
    clear ih hlen hcall
    go_enter Tryd.func27, Tryd.ntmps27
    obtain ⟨T0, hT⟩ : ∃ T0, T0 = Ref.tok t a := ⟨_, rfl⟩
    rw [← hT] at hc0 hc1 hc2 hc3 hc4 hc5
    have hck : Ref.closes T0 = [] ∨ (Ref.closes T0).isEmpty = false := by cases Ref.closes T0 <;> simp
    rcases hck with hck | hck
    · have E : Ref.nodeRun t (f + 1) a d = (.mk T0 [], a + 1) := by unfold Ref.nodeRun; rw [← hT, if_pos hck]
      rw [E]
      clear E hT
      go_wp2_with (first | (go_at_call 41; refine (closes_any T0 _).mono ?_; rintro e w1 ⟨rfl, hx1⟩; have hn1 : NBox w1 (w.heap.size + 1) T0 (.slice none 0 0) := hx1.heap trivial (block_new' _ _ (by simp)); obtain ⟨n0, n1, n2, n3, n4, n5, n6, nz, nR⟩ := hn1.cells; have hbox1 : Box w1 w.heap.size 7 := Box.ext (Box.ext (Box.new w _ _) ((Ext.refl (fun _ => True) _).alloc _) trivial) hx1 trivial; obtain ⟨x0, x1, x2, x3, x4, x5, x6, b0, b1, b2, b3, b4, b5, b6, d0, d1, d2, d3, d4, d5, d6, hL⟩ := hbox1.open7; have hx2 : Ext (fun _ => True) w w1 := Ext.trans (((Ext.refl _ _).alloc _).alloc _) hx1; have hs2 := hx1.size; simp at hs2))
      refine bodyPost_ret (v := .tuple #[.agg (nvals T0 (.slice none 0 0)), .int .i64 ((a + 1 : Nat) : Int)]) ?pv rfl ⟨_, rfl, ?pd, ?px⟩
      case pv => simp [results, go_sem, nvals, *]
      case pd => exact Dat.At.nil _ _
      case px => (repeat (with_reducible first | assumption | apply Ext.setL | apply Ext.alloc))
    · obtain ⟨K, hK⟩ : ∃ K, K = Ref.kidsRun t (Ref.closes T0) f (a + 1) d [] := ⟨_, rfl⟩
      have E : Ref.nodeRun t (f + 1) a d = (.mk T0 K.1, K.2) := by
        unfold Ref.nodeRun; rw [← hT, ← hK, if_neg]; intro e; rw [e] at hck; simp at hck
      rw [E]
      clear E
      have HK := Lib.hid hK
      clear hK hT
      go_wp2_with (first | (go_at_call 41; refine (closes_any T0 _).mono ?_; rintro e w1 ⟨rfl, hx1⟩; have hn1 : NBox w1 (w.heap.size + 1) T0 (.slice none 0 0) := hx1.heap trivial (block_new' _ _ (by simp)); obtain ⟨n0, n1, n2, n3, n4, n5, n6, nz, nR⟩ := hn1.cells; have hbox1 : Box w1 w.heap.size 7 := Box.ext (Box.ext (Box.new w _ _) ((Ext.refl (fun _ => True) _).alloc _) trivial) hx1 trivial; obtain ⟨x0, x1, x2, x3, x4, x5, x6, b0, b1, b2, b3, b4, b5, b6, d0, d1, d2, d3, d4, d5, d6, hL⟩ := hbox1.open7; have hx2 : Ext (fun _ => True) w w1 := Ext.trans (((Ext.refl _ _).alloc _).alloc _) hx1; have hs2 := hx1.size; simp at hs2))
      go_loopg [1] f (fun g s1 wr => ∃ (b' : Nat) (ks : List Nd) (kv : Value), s1 = .int .i64 (b' : Int) ∧ g ≤ f ∧ ks.length ≤ b' ∧ a + 1 ≤ b' ∧ b' ≤ n ∧ NBox wr (w.heap.size + 1) T0 kv ∧ Box wr w.heap.size 7 ∧ Own wr (fun k => w.heap.size + 2 ≤ k) (w.heap.size + 2) 48 7 kv (Nd.dats ks) ∧ Ext (fun _ => True) w wr ∧ 2 * (n - b') + 1 ≤ g ∧ Hid (Ref.kidsRun t (Ref.closes T0) g b' d ks = K))
      case atStart => exact ⟨a + 1, [], .slice none 0 0, by simp, Nat.le_refl _, Nat.zero_le _, Nat.le_refl _, by omega, hn1, hbox1, Own.nil _ _ _ _ _, hx2, by omega, HK.out.symm⟩
      case round =>
        clear hc0 hc1 hc2 hc3 hc4 hc5 hx1 hn1 n0 n1 n2 n3 n4 n5 n6 nz nR hbox1 b0 b1 b2 b3 b4 b5 b6 d0 d1 d2 d3 d4 d5 d6 hL hx2 hs2 HK
        obtain ⟨b', ks, kv, rfl, hgf, hksl, hab, hbn, hn1, hbox1, hown, hx2, hg, hrun⟩ := hrel
        obtain ⟨KA, kc, rfl, hkl, hkm⟩ := hown.form
        rw [Nd.dats_len] at hn1 hown hkl
        obtain ⟨n0, n1, n2, n3, n4, n5, n6, nz, nR⟩ := hn1.cells
        obtain ⟨x0, x1, x2, x3, x4, x5, x6, b0, b1, b2, b3, b4, b5, b6, d0, d1, d2, d3, d4, d5, d6, hL⟩ := hbox1.open7
        obtain ⟨g, rfl⟩ : ∃ g, gk = g + 1 := ⟨gk - 1, by omega⟩
        have e := hrun.out
        unfold Ref.kidsRun at e
        rw [← HLEN.out] at e
        have HO := Lib.hid hown
        clear hrun
        by_cases hlt : b' < n
        · rw [if_pos hlt] at e
          obtain ⟨_, _, hp, hbr, hc⟩ := toks_at (hv.ext hx2 fun _ _ _ => ⟨trivial, trivial⟩ : Dat.At wr (fun _ => True) _ _) (HLEN.out ▸ hlt)
          cases hp
          obtain ⟨T1, hT1⟩ : ∃ T1, T1 = Ref.tok t b' := ⟨_, rfl⟩
          rw [← hT1] at hc e
          have hc0 : wr.cell? ⟨b, off + b' * 6, none⟩ = some (.int .i64 T1.kind) := hc 0 _ rfl
          have hc1 : wr.cell? ⟨b, off + b' * 6 + 1, none⟩ = some (.string ⟨T1.text.toArray⟩) := hc 1 _ rfl
          clear hc hT1
          by_cases hk : T1.kind = 20 ∧ T1.text = Ref.closes T0
          · rw [if_pos hk] at e
            obtain ⟨hk1, hk2⟩ := hk
            have hk3 : (T1.text == Ref.closes T0) = true := by simp [hk2]
            clear hk2
            go_wp2_with fail
            refine bodyPost_ret (v := .tuple #[.agg (nvals T0 (.slice KA ks.length kc)), .int .i64 ((b' + 1 : Nat) : Int)]) ?pv rfl ?pp
            case pv => simp [results, go_sem, nvals, *]
            case pp =>
              try subst e
              refine ⟨_, rfl, ?pd, ?px⟩
              case pd => exact (HO.out.at_ (S := fun k => w.heap.size + 2 ≤ k) (by omega) (fun k hk => (HO.out.lt k hk).1)).ext (T := fun k => k ≠ w.heap.size) (by (repeat (with_reducible first | assumption | exact Ext.refl _ _ | apply Ext.alloc | apply Ext.setR | apply Ext.more | refine Ext.trans ?_ (by assumption)))) fun k hk _ => ⟨by omega, by omega⟩
              case px => (repeat (with_reducible first | assumption | apply Ext.setL | apply Ext.alloc))
          · rw [if_neg hk] at e
            obtain ⟨⟨⟨T2, k2⟩, b3⟩, hN⟩ : ∃ N, N = Ref.nodeRun t g b' (d + 1) := ⟨_, rfl⟩
            have hb3 := Ref.nodeRun_gt t g b' (d + 1)
            have hb3' := Ref.nodeRun_le t g b' (d + 1) (HLEN.out ▸ hlt)
            have HN := Lib.hid fun w' hx => HCALL.out g b' w' (by omega) hx hlt (by omega) (by omega)
            rw [← hN] at hb3 hb3' HN e
            rw [← HLEN.out] at hb3'
            simp only at hb3 hb3' e
            clear hN HCALL
            have E := Lib.hid e
            clear e
            have hk3 : ¬ T1.kind = 20 ∨ (T1.kind = 20 ∧ (T1.text == Ref.closes T0) = false) := by
              by_cases h20 : T1.kind = 20
              · exact .inr ⟨h20, by simpa [h20] using hk⟩
              · exact .inl h20
            clear hk
            by_cases hdd : d < 32
            · rw [if_pos hdd] at E
              rcases hk3 with hk3 | ⟨hk4, hk3⟩
              · go_wp2_with (first | (go_at_call 27; refine (HN.out _ (by assumption)).mono ?_; rintro e w3 ⟨kv2, rfl, hkd, hx3⟩; simp only [Nd.kids] at hkd; obtain ⟨A2, c2, rfl, hl2, hm2⟩ := hkd.form; rw [Nd.dats_len] at hkd hl2; rw [Nd.dats_len]; simp only [Nd.tok, nvals]; have hn3 : NBox w3 (w.heap.size + 1) T0 (.slice KA ks.length kc) := hx3.heap trivial hn1; have hbox3 := hbox1.ext hx3 trivial; have HO3 := Lib.hid (HO.out.ext hx3 (fun _ _ _ => trivial) (fun _ _ => trivial)); have hR3 := Nat.lt_of_lt_of_le nR hx3.size; have hn36 := hn3.cells.2.2.2.2.2.2) | (at_builtin; refine Hid.out ?_))
                apply Lib.hid
                generalize hw5 : (World.alloc (World.alloc w3 _) _) = w5
                have hx35 : Ext (fun _ => True) w3 w5 := hw5 ▸ (((Ext.refl _ _).alloc _).alloc _)
                have hX5 : w5.heap[w3.heap.size + 1]? = some (.cells (nvals T2 (.slice A2 k2.length c2)) 48 (0, 0)) := hw5 ▸ block_new' _ _ (by simp)
                have hO5 := HO3.out.ext hx35 (fun _ _ _ => trivial) (fun _ _ => trivial)
                have hsr := hx2.size
                refine wpList_append_one _ tokN rfl (.tmp 61) (.tmp 63) rfl (fun k => w.heap.size + 2 ≤ k) (w.heap.size + 2) _ (Nd.dats ks) rfl hO5 (w3.heap.size + 1) 1 (nvals T2 (.slice A2 k2.length c2)) 48 (0, 0) (Nd.dat (.mk T2 k2)) rfl hX5 rfl rfl (fun j d u h1 h2 => nd_at (hkd.ext hx35 fun k hk _ => ⟨trivial, by omega, fun e => by have := (HO.out.lt k e).2; omega⟩) h1 h2) (nd_one _ rfl) ?hl ?h63 ?hbase ?h
                case hl => rw [Nd.dats_len]; omega
                case h63 => rw [Nd.dats_len]; unfold maxLen; omega
                case hbase => have := hx35.size; omega
                case h =>
                  intro g2 cap w7 hown7 hgrow _ hlt7
                  rw [Nd.dats_len] at hown7
                  rw [Nd.dats_len]
                  rw [← Nd.dats_add] at hown7
                  have hx57 : Ext (fun k => k < w.heap.size + 2) w5 w7 := (Ext.refl _ _).grown hgrow fun k e => .inl (by have := (HO.out.lt k e).1; omega)
                  have hn7 : NBox w7 (w.heap.size + 1) T0 (.slice KA ks.length kc) := (hn3.ext hx35 trivial).ext hx57 (by omega)
                  have hbox7 : Box w7 w.heap.size 7 := (hbox3.ext hx35 trivial).ext hx57 (by omega)
                  have hx7 : Ext (fun _ => True) w w7 := ((hx2.trans hx3).trans hx35).trans' hx57 fun k _ hl => by omega
                  have hR7 := block_lt hn7
                  obtain ⟨-, -, -, -, -, -, n76, n7z, n7R⟩ := hn7.cells
                  clear hgrow hX5 hO5 hw5
                  have HO7 := Lib.hid hown7
                  clear hown7
                  go_wp2_with fail
                  go_roundg g
                  case measure => omega
                  case rel => exact ⟨b3, ks ++ [.mk T2 k2], _, rfl, by omega, by simp; omega, by omega, hb3', hn7.set _, hbox7.ext (S := fun k => k ≠ w.heap.size + 1) (by (repeat (with_reducible first | assumption | exact Ext.refl _ _ | apply Ext.alloc | apply Ext.setR | apply Ext.more | refine Ext.trans ?_ (by assumption)))) (by omega), Own.ext (T := fun k => k ≠ w.heap.size + 1) (by simpa using HO7.out) (by (repeat (with_reducible first | assumption | exact Ext.refl _ _ | apply Ext.alloc | apply Ext.setR | apply Ext.more | refine Ext.trans ?_ (by assumption)))) (fun k hk _ => by omega) (fun k hk => by have := (HO7.out.lt k hk).1; omega), hx7.setCell _ _ (.inr (Nat.le_succ _)), by omega, E⟩
              · go_wp2_with (first | (go_at_call 27; refine (HN.out _ (by assumption)).mono ?_; rintro e w3 ⟨kv2, rfl, hkd, hx3⟩; simp only [Nd.kids] at hkd; obtain ⟨A2, c2, rfl, hl2, hm2⟩ := hkd.form; rw [Nd.dats_len] at hkd hl2; rw [Nd.dats_len]; simp only [Nd.tok, nvals]; have hn3 : NBox w3 (w.heap.size + 1) T0 (.slice KA ks.length kc) := hx3.heap trivial hn1; have hbox3 := hbox1.ext hx3 trivial; have HO3 := Lib.hid (HO.out.ext hx3 (fun _ _ _ => trivial) (fun _ _ => trivial)); have hR3 := Nat.lt_of_lt_of_le nR hx3.size; have hn36 := hn3.cells.2.2.2.2.2.2) | (at_builtin; refine Hid.out ?_))
                apply Lib.hid
                generalize hw5 : (World.alloc (World.alloc w3 _) _) = w5
                have hx35 : Ext (fun _ => True) w3 w5 := hw5 ▸ (((Ext.refl _ _).alloc _).alloc _)
                have hX5 : w5.heap[w3.heap.size + 1]? = some (.cells (nvals T2 (.slice A2 k2.length c2)) 48 (0, 0)) := hw5 ▸ block_new' _ _ (by simp)
                have hO5 := HO3.out.ext hx35 (fun _ _ _ => trivial) (fun _ _ => trivial)
                have hsr := hx2.size
                refine wpList_append_one _ tokN rfl (.tmp 61) (.tmp 63) rfl (fun k => w.heap.size + 2 ≤ k) (w.heap.size + 2) _ (Nd.dats ks) rfl hO5 (w3.heap.size + 1) 1 (nvals T2 (.slice A2 k2.length c2)) 48 (0, 0) (Nd.dat (.mk T2 k2)) rfl hX5 rfl rfl (fun j d u h1 h2 => nd_at (hkd.ext hx35 fun k hk _ => ⟨trivial, by omega, fun e => by have := (HO.out.lt k e).2; omega⟩) h1 h2) (nd_one _ rfl) ?hl ?h63 ?hbase ?h
                case hl => rw [Nd.dats_len]; omega
                case h63 => rw [Nd.dats_len]; unfold maxLen; omega
                case hbase => have := hx35.size; omega
                case h =>
                  intro g2 cap w7 hown7 hgrow _ hlt7
                  rw [Nd.dats_len] at hown7
                  rw [Nd.dats_len]
                  rw [← Nd.dats_add] at hown7
                  have hx57 : Ext (fun k => k < w.heap.size + 2) w5 w7 := (Ext.refl _ _).grown hgrow fun k e => .inl (by have := (HO.out.lt k e).1; omega)
                  have hn7 : NBox w7 (w.heap.size + 1) T0 (.slice KA ks.length kc) := (hn3.ext hx35 trivial).ext hx57 (by omega)
                  have hbox7 : Box w7 w.heap.size 7 := (hbox3.ext hx35 trivial).ext hx57 (by omega)
                  have hx7 : Ext (fun _ => True) w w7 := ((hx2.trans hx3).trans hx35).trans' hx57 fun k _ hl => by omega
                  have hR7 := block_lt hn7
                  obtain ⟨-, -, -, -, -, -, n76, n7z, n7R⟩ := hn7.cells
                  clear hgrow hX5 hO5 hw5
                  have HO7 := Lib.hid hown7
                  clear hown7
                  go_wp2_with fail
                  go_roundg g
                  case measure => omega
                  case rel => exact ⟨b3, ks ++ [.mk T2 k2], _, rfl, by omega, by simp; omega, by omega, hb3', hn7.set _, hbox7.ext (S := fun k => k ≠ w.heap.size + 1) (by (repeat (with_reducible first | assumption | exact Ext.refl _ _ | apply Ext.alloc | apply Ext.setR | apply Ext.more | refine Ext.trans ?_ (by assumption)))) (by omega), Own.ext (T := fun k => k ≠ w.heap.size + 1) (by simpa using HO7.out) (by (repeat (with_reducible first | assumption | exact Ext.refl _ _ | apply Ext.alloc | apply Ext.setR | apply Ext.more | refine Ext.trans ?_ (by assumption)))) (fun k hk _ => by omega) (fun k hk => by have := (HO7.out.lt k hk).1; omega), hx7.setCell _ _ (.inr (Nat.le_succ _)), by omega, E⟩
            · rw [if_neg hdd] at E
              rcases hk3 with hk3 | ⟨hk4, hk3⟩
              · go_wp2_with (first | (go_at_call 27; refine (HN.out _ (by assumption)).mono ?_; rintro e w3 ⟨kv2, rfl, hkd, hx3⟩; simp only [Nd.kids] at hkd; obtain ⟨A2, c2, rfl, hl2, hm2⟩ := hkd.form; rw [Nd.dats_len] at hkd hl2; rw [Nd.dats_len]; simp only [Nd.tok, nvals]; have hn3 : NBox w3 (w.heap.size + 1) T0 (.slice KA ks.length kc) := hx3.heap trivial hn1; have hbox3 := hbox1.ext hx3 trivial; have HO3 := Lib.hid (HO.out.ext hx3 (fun _ _ _ => trivial) (fun _ _ => trivial)); have hR3 := Nat.lt_of_lt_of_le nR hx3.size; have hn36 := hn3.cells.2.2.2.2.2.2))
                go_roundg g
                case measure => omega
                case rel => exact ⟨b3, ks, .slice KA ks.length kc, rfl, by omega, by omega, by omega, hb3', hn3.ext (S := fun _ => True) (by (repeat (with_reducible first | assumption | exact Ext.refl _ _ | apply Ext.alloc | apply Ext.setR | apply Ext.more | refine Ext.trans ?_ (by assumption)))) trivial, hbox3.ext (S := fun _ => True) (by (repeat (with_reducible first | assumption | exact Ext.refl _ _ | apply Ext.alloc | apply Ext.setR | apply Ext.more | refine Ext.trans ?_ (by assumption)))) trivial, Own.ext (T := fun _ => True) HO3.out (by (repeat (with_reducible first | assumption | exact Ext.refl _ _ | apply Ext.alloc | apply Ext.setR | apply Ext.more | refine Ext.trans ?_ (by assumption)))) (fun _ _ _ => trivial) (fun _ _ => trivial), Ext.trans hx2 (by (repeat (with_reducible first | assumption | exact Ext.refl _ _ | apply Ext.alloc | apply Ext.setR | apply Ext.more | refine Ext.trans ?_ (by assumption)))), by omega, E⟩
              · go_wp2_with (first | (go_at_call 27; refine (HN.out _ (by assumption)).mono ?_; rintro e w3 ⟨kv2, rfl, hkd, hx3⟩; simp only [Nd.kids] at hkd; obtain ⟨A2, c2, rfl, hl2, hm2⟩ := hkd.form; rw [Nd.dats_len] at hkd hl2; rw [Nd.dats_len]; simp only [Nd.tok, nvals]; have hn3 : NBox w3 (w.heap.size + 1) T0 (.slice KA ks.length kc) := hx3.heap trivial hn1; have hbox3 := hbox1.ext hx3 trivial; have HO3 := Lib.hid (HO.out.ext hx3 (fun _ _ _ => trivial) (fun _ _ => trivial)); have hR3 := Nat.lt_of_lt_of_le nR hx3.size; have hn36 := hn3.cells.2.2.2.2.2.2))
                go_roundg g
                case measure => omega
                case rel => exact ⟨b3, ks, .slice KA ks.length kc, rfl, by omega, by omega, by omega, hb3', hn3.ext (S := fun _ => True) (by (repeat (with_reducible first | assumption | exact Ext.refl _ _ | apply Ext.alloc | apply Ext.setR | apply Ext.more | refine Ext.trans ?_ (by assumption)))) trivial, hbox3.ext (S := fun _ => True) (by (repeat (with_reducible first | assumption | exact Ext.refl _ _ | apply Ext.alloc | apply Ext.setR | apply Ext.more | refine Ext.trans ?_ (by assumption)))) trivial, Own.ext (T := fun _ => True) HO3.out (by (repeat (with_reducible first | assumption | exact Ext.refl _ _ | apply Ext.alloc | apply Ext.setR | apply Ext.more | refine Ext.trans ?_ (by assumption)))) (fun _ _ _ => trivial) (fun _ _ => trivial), Ext.trans hx2 (by (repeat (with_reducible first | assumption | exact Ext.refl _ _ | apply Ext.alloc | apply Ext.setR | apply Ext.more | refine Ext.trans ?_ (by assumption)))), by omega, E⟩
        · rw [if_neg hlt] at e
          subst e
          go_wp2_with fail
          refine bodyPost_ret (v := .tuple #[.agg (nvals T0 (.slice KA ks.length kc)), .int .i64 ((b' : Nat) : Int)]) ?pv rfl ?pp
          case pv => simp [results, go_sem, nvals, *]
          case pp =>
            try subst e
            refine ⟨_, rfl, ?pd, ?px⟩
            case pd => exact (HO.out.at_ (S := fun k => w.heap.size + 2 ≤ k) (by omega) (fun k hk => (HO.out.lt k hk).1)).ext (T := fun k => k ≠ w.heap.size) (by (repeat (with_reducible first | assumption | exact Ext.refl _ _ | apply Ext.alloc | apply Ext.setR | apply Ext.more | refine Ext.trans ?_ (by assumption)))) fun k hk _ => ⟨by omega, by omega⟩
            case px => (repeat (with_reducible first | assumption | apply Ext.setL | apply Ext.alloc))
end Go.Proofs.YtihnffmnofinmaaDoor
