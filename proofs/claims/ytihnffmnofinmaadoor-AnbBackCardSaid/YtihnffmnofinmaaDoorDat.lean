/- Plain data in memory, of no program: a slice of elements, each a row of cells, each cell plain or a slice again; what keeps such a reading, how it is opened, and a slice of one's own that grows. -/
import Derived.WalkKit
import Derived.WalkSpells
import Derived.WalkLawsBesides
import Derived.Deep.AppendLies
import Derived.Lib.Builder
namespace Go.Proofs.YtihnffmnofinmaaDoor
open Go.RowKit

/-- The call returned v, and of the world R holds: behind a name that the walk does not open. -/
def Ret (v : Value) (R : World → Prop) (e : Ending) (w' : World) : Prop := e = .returned v ∧ R w'
/-- The world is as it was, but for draws. -/
def Quiet (w w' : World) : Prop := ∃ n, w' = w.drewN n
/-- The world is as it was. -/
def Still (w w' : World) : Prop := w = w'

/-- A cell's datum: a plain value, or a slice of elements (each a list of cells). -/
inductive Dat where
  | v (x : Value)
  | s (es : List (List Dat))

/-- How a cell's value in memory reads as a datum; S tells in which blocks the reading may look. -/
inductive Dat.At (w : World) (S : Nat → Prop) : Dat → Value → Prop
  | v (x : Value) : Dat.At w S (.v x) x
  | s (es : List (List Dat)) (A : Option Addr) (n c size : Nat) (f : Nat → Value) (hn : es.length = n) (hc : n ≤ c) (hm : c ≤ maxLen) (hp : 0 < size)
      (hsz : ∀ (i : Nat) (e : List Dat), es[i]? = some e → e.length = size)
      (hat : 0 < n → ∃ b off, A = some ⟨b, off, none⟩ ∧ S b ∧ ∀ j, j < n * size → w.cell? ⟨b, off + j, none⟩ = some (f j))
      (hrec : ∀ (i j : Nat) (e : List Dat) (d : Dat), es[i]? = some e → e[j]? = some d → Dat.At w S d (f (i * size + j))) :
      Dat.At w S (.s es) (.slice A n c)

/-- The worlds agree on all blocks that S names and that were there; nothing but memory has turned. -/
structure Ext (S : Nat → Prop) (w w' : World) : Prop where
  os : w'.os = w.os
  tape : w'.tape = w.tape
  output : w'.output = w.output
  size : w.heap.size ≤ w'.heap.size
  block : ∀ k, S k → k < w.heap.size → w'.heap[k]? = w.heap[k]?

namespace Ext
variable {S T : Nat → Prop} {a b c w w' : World}
theorem refl (S : Nat → Prop) (w : World) : Ext S w w := ⟨rfl, rfl, rfl, Nat.le_refl _, fun _ _ _ => rfl⟩
theorem trans (h : Ext S a b) (k : Ext S b c) : Ext S a c :=
  ⟨k.os.trans h.os, k.tape.trans h.tape, k.output.trans h.output, Nat.le_trans h.size k.size, fun i hi hl => (k.block i hi (Nat.lt_of_lt_of_le hl h.size)).trans (h.block i hi hl)⟩
theorem mono (h : Ext T a b) (hs : ∀ k, S k → k < a.heap.size → T k) : Ext S a b := ⟨h.os, h.tape, h.output, h.size, fun k hk hl => h.block k (hs k hk hl) hl⟩
theorem trans' (h : Ext S a b) (k : Ext T b c) (hs : ∀ i, S i → i < a.heap.size → T i) : Ext S a c :=
  ⟨k.os.trans h.os, k.tape.trans h.tape, k.output.trans h.output, Nat.le_trans h.size k.size, fun i hi hl => (k.block i (hs i hi hl) (Nat.lt_of_lt_of_le hl h.size)).trans (h.block i hi hl)⟩
theorem drew (h : Ext S a w) : Ext S a w.drew := ⟨h.os, h.tape, h.output, h.size, h.block⟩
theorem alloc (h : Ext S a w) (o : Obj) : Ext S a (w.alloc o) :=
  h.trans ⟨rfl, rfl, rfl, by simp, fun k _ hl => Below.heap_alloc _ _ _ hl⟩
theorem setCell (h : Ext S a w) (p : Addr) (u : Value) (hp : ¬ S p.block ∨ a.heap.size ≤ p.block) : Ext S a (w.setCell p u) :=
  ⟨h.os, h.tape, h.output, by simpa [World.setCell] using h.size, fun k hk hl => (Below.heap_setCell _ _ _ _ (fun e => by subst e; rcases hp with hp | hp; exact hp hk; omega)).trans (h.block k hk hl)⟩
theorem grown (h : Ext S a w) {row : Option Nat} (hg : w.grownBy w' row) (hr : ∀ k, row = some k → ¬ S k ∨ a.heap.size ≤ k) : Ext S a w' :=
  ⟨hg.os.trans h.os, hg.tape.trans h.tape, hg.output.trans h.output, Nat.le_trans h.size hg.size,
    fun k hk hl => (hg.block k (Nat.lt_of_lt_of_le hl h.size) (fun e => by rcases hr k e.symm with hp | hp; exact hp hk; omega)).trans (h.block k hk hl)⟩
theorem cell (h : Ext S a b) {p : Addr} {v : Value} (hp : S p.block) (hc : a.cell? p = some v) : b.cell? p = some v :=
  (World.cell?_of_block (h.block p.block hp (World.block_lt_of_cell? a p hc))).trans hc
theorem heap (h : Ext S a b) {k : Nat} {o : Obj} (hk : S k) (hc : a.heap[k]? = some o) : b.heap[k]? = some o :=
  (h.block k hk (Array.getElem?_eq_some_iff.1 hc).1).trans hc
theorem ofBelow {B : Nat} (h : Below B a b) (hB : a.heap.size ≤ B) : Ext S a b := ⟨h.os, h.tape, h.output, h.size, fun k _ hl => h.block k (by omega)⟩
theorem toBelow (h : Ext (fun _ => True) a b) : Below a.heap.size a b := ⟨h.os, h.tape, h.output, h.size, fun k hk => h.block k trivial hk⟩
end Ext

theorem block_cell {w : World} {b : Nat} {cs : Array Value} {T : TypeId} {fr : Nat × Nat} (hb : w.heap[b]? = some (.cells cs T fr)) (j : Nat) : w.cell? ⟨b, j, none⟩ = cs[j]? := by simp [World.cell?, hb]
theorem block_free {w : World} {b : Nat} {cs : Array Value} {T : TypeId} (hb : w.heap[b]? = some (.cells cs T (0, 0))) (j : Nat) : w.frozen? ⟨b, j, none⟩ = false := by simp [World.frozen?, hb]
theorem block_lt {w : World} {b : Nat} {o : Obj} (hb : w.heap[b]? = some o) : b < w.heap.size := (Array.getElem?_eq_some_iff.1 hb).1
theorem block_set {w : World} {b : Nat} {cs : Array Value} {T : TypeId} {fr : Nat × Nat} (hb : w.heap[b]? = some (.cells cs T fr)) (j : Nat) (u : Value) :
    (w.setCell ⟨b, j, none⟩ u).heap[b]? = some (.cells (cs.setIfInBounds j u) T fr) := by simp [World.setCell, Array.getElem?_modify, hb]
theorem block_set_ne {w : World} {b : Nat} {o : Obj} (hb : w.heap[b]? = some o) {p : Addr} (hp : b ≠ p.block) (u : Value) : (w.setCell p u).heap[b]? = some o := (Below.heap_setCell _ _ _ _ hp).trans hb
theorem block_alloc {w : World} {b : Nat} {o : Obj} (hb : w.heap[b]? = some o) (o' : Obj) : (w.alloc o').heap[b]? = some o := (Below.heap_alloc w o' b (block_lt hb)).trans hb
theorem block_new (w : World) (o : Obj) : (w.alloc o).heap[w.heap.size]? = some o := heap_alloc_new w o

namespace Dat
variable {w w' : World} {S S' T : Nat → Prop} {d : Dat} {v : Value} {es : List (List Dat)} {A : Option Addr} {n c : Nat}

theorem At.ext (h : Dat.At w S d v) (he : Ext T w w') (hST : ∀ k, S k → k < w.heap.size → T k ∧ S' k) : Dat.At w' S' d v := by
  induction h with
  | v x => exact .v x
  | s es A n c size f hn hc hm hp hsz hat hrec ih =>
    refine .s es A n c size f hn hc hm hp hsz (fun h0 => ?_) ih
    obtain ⟨b, off, hA, hSb, hcell⟩ := hat h0
    have hb : b < w.heap.size := World.block_lt_of_cell? w _ (hcell 0 (Nat.mul_pos h0 hp))
    exact ⟨b, off, hA, (hST b hSb hb).2, fun j hj => he.cell (p := ⟨b, off + j, none⟩) (hST b hSb hb).1 (hcell j hj)⟩
theorem At.mono (h : Dat.At w S d v) (hs : ∀ k, S k → k < w.heap.size → S' k) : Dat.At w S' d v := h.ext (Ext.refl (fun _ => True) w) fun k hk hl => ⟨trivial, hs k hk hl⟩
theorem At.keep (h : Dat.At w S d v) (he : Ext S w w') : Dat.At w' S d v := h.ext he fun _ hk _ => ⟨hk, hk⟩
theorem At.drew (h : Dat.At w S d v) : Dat.At w.drew S d v := h.keep (Ext.refl _ _).drew
theorem At.alloc (h : Dat.At w S d v) (o : Obj) : Dat.At (w.alloc o) S d v := h.keep ((Ext.refl _ _).alloc o)
theorem At.setCell (h : Dat.At w S d v) (p : Addr) (u : Value) (hp : ¬ S p.block) : Dat.At (w.setCell p u) S d v := h.keep ((Ext.refl _ _).setCell p u (.inl hp))
theorem At.lt (h : Dat.At w S d v) : Dat.At w (fun k => S k ∧ k < w.heap.size) d v := h.mono fun _ hk hl => ⟨hk, hl⟩

theorem At.plain {x : Value} (h : Dat.At w S (.v x) v) : v = x := by cases h; rfl
theorem At.form (h : Dat.At w S (.s es) v) : ∃ A c, v = .slice A es.length c ∧ es.length ≤ c ∧ c ≤ maxLen := by
  cases h with
  | s _ A n c size f hn hc hm hp hsz hat hrec => subst hn; exact ⟨A, c, rfl, hc, hm⟩
theorem At.len (h : Dat.At w S (.s es) (.slice A n c)) : es.length = n := by
  cases h with
  | s _ A n c size f hn hc hm hp hsz hat hrec => exact hn
theorem At.cap (h : Dat.At w S (.s es) (.slice A n c)) : n ≤ c ∧ c ≤ maxLen := by
  cases h with
  | s _ A n c size f hn hc hm hp hsz hat hrec => exact ⟨hc, hm⟩

/-- The i-th element's cells, at an element size that is known. -/
theorem At.elem (h : Dat.At w S (.s es) (.slice A n c)) {size i : Nat} {e : List Dat} (hi : es[i]? = some e) (hs : e.length = size) :
    ∃ b off, A = some ⟨b, off, none⟩ ∧ S b ∧ b < w.heap.size ∧ ∃ f : Nat → Value, ∀ j, j < size → w.cell? ⟨b, off + i * size + j, none⟩ = some (f j) ∧ ∀ d, e[j]? = some d → Dat.At w S d (f j) := by
  cases h with
  | s _ A n c size' f hn hc hm hp hsz hat hrec =>
    have e1 : size' = size := (hsz i e hi).symm.trans hs
    subst e1
    have hlt : i < es.length := (List.getElem?_eq_some_iff.1 hi).1
    obtain ⟨b, off, hA, hSb, hcell⟩ := hat (by omega)
    refine ⟨b, off, hA, hSb, World.block_lt_of_cell? w _ (hcell 0 (Nat.mul_pos (by omega) hp)), fun j => f (i * size' + j), fun j hj => ⟨?_, fun d hd => hrec i j e d hi hd⟩⟩
    have hlt2 : i * size' + j < n * size' := by
      have : (i + 1) * size' ≤ n * size' := Nat.mul_le_mul_right _ (by omega)
      rw [Nat.add_mul, Nat.one_mul] at this
      omega
    have := hcell (i * size' + j) hlt2
    rw [← Nat.add_assoc] at this
    exact this

theorem At.nil (w : World) (S : Nat → Prop) : Dat.At w S (.s []) (.slice none 0 0) :=
  .s [] none 0 0 1 (fun _ => undef) rfl (Nat.le_refl _) (Nat.zero_le _) Nat.one_pos (fun _ _ h => by simp at h) (fun h => absurd h (by omega)) (fun _ _ _ _ h => by simp at h)

/-- Cutting off what stands ahead: 's[k:]', as the model has it (at 'cap = k' the address stays). -/
theorem At.drop {b off : Nat} (h : Dat.At w S (.s es) (.slice (some ⟨b, off, none⟩) n c)) {size k off' : Nat} (hsz : ∀ (i : Nat) (e : List Dat), es[i]? = some e → e.length = size) (hk : k ≤ n) (ho : k < n → off' = off + k * size) :
    Dat.At w S (.s (es.drop k)) (.slice (some ⟨b, off', none⟩) (n - k) (c - k)) := by
  cases h with
  | s _ A n c size' f hn hc hm hp hsz' hat hrec =>
    by_cases hkn : k < n
    · have hi : es[k]? = some es[k] := List.getElem?_eq_getElem (by omega)
      have e1 : size' = size := (hsz' k _ hi).symm.trans (hsz k _ hi)
      subst e1
      refine .s _ _ _ _ size' (fun j => f (k * size' + j)) (by rw [List.length_drop, hn]) (by omega) (by omega) hp (fun i e he => hsz' (k + i) e (by rw [← he, List.getElem?_drop])) (fun _ => ?_)
        (fun i j e d he hd => by have := hrec (k + i) j e d (by rw [← he, List.getElem?_drop]) hd; rw [Nat.add_mul, Nat.add_assoc] at this; exact this)
      obtain ⟨b', o', hA, hSb, hcell⟩ := hat (by omega)
      cases hA
      refine ⟨b, off', rfl, hSb, fun j hj => ?_⟩
      have := hcell (k * size' + j) (by rw [Nat.sub_mul] at hj; have := Nat.mul_le_mul_right size' (show k ≤ n from hk); omega)
      rw [ho hkn, Nat.add_assoc]
      exact this
    · have e0 : es.drop k = [] := List.drop_eq_nil_of_le (by omega)
      rw [e0, show n - k = 0 by omega]
      exact .s [] _ 0 _ 1 (fun _ => undef) rfl (by omega) (by omega) Nat.one_pos (fun _ _ h => by simp at h) (fun h => absurd h (by omega)) (fun _ _ _ _ h => by simp at h)
theorem At.dropNil (h : Dat.At w S (.s es) (.slice none n c)) (k : Nat) : Dat.At w S (.s (es.drop k)) (.slice none (n - k) (c - k)) := by
  cases h with
  | s _ A n c size' f hn hc hm hp hsz' hat hrec =>
    have h0 : n = 0 := by
      rcases Nat.eq_zero_or_pos n with h | h
      · exact h
      · obtain ⟨_, _, h, _⟩ := hat h; cases h
    have : es = [] := List.eq_nil_of_length_eq_zero (by omega)
    subst this
    rw [List.drop_nil]
    exact .s [] _ _ _ 1 (fun _ => undef) (by simp; omega) (by omega) (by omega) Nat.one_pos (fun _ _ h => by simp at h) (fun h => absurd h (by omega)) (fun _ _ _ _ h => by simp at h)
/-- Cutting off what stands behind: 's[:k]'. -/
theorem At.take (h : Dat.At w S (.s es) (.slice A n c)) {k : Nat} (hk : k ≤ n) : Dat.At w S (.s (es.take k)) (.slice A k c) := by
  cases h with
  | s _ A n c size' f hn hc hm hp hsz' hat hrec =>
    have tk : ∀ {i : Nat} {e : List Dat}, (es.take k)[i]? = some e → es[i]? = some e := fun {i e} he => by
      rw [List.getElem?_take] at he
      split at he
      · exact he
      · cases he
    refine .s _ _ _ _ size' f (by rw [List.length_take]; omega) (by omega) hm hp (fun i e he => hsz' i e (tk he)) (fun h0 => ?_) (fun i j e d he hd => hrec i j e d (tk he) hd)
    obtain ⟨b', o', hA, hSb, hcell⟩ := hat (by omega)
    exact ⟨b', o', hA, hSb, fun j hj => hcell j (Nat.lt_of_lt_of_le hj (Nat.mul_le_mul_right _ hk))⟩
end Dat

/-- What is known of a slice type and of its elements' type. -/
structure SliceT (P : Program) (t e : TypeId) (size bytes : Nat) (z : Value) : Prop where
  und : P.underlying t = some (.slice e)
  info : (P.info? e).map (fun i => (i.zero, i.size, i.bytes)) = some (some z, size, bytes)
  zsize : z.cells.size = size
  pos : 0 < size

/-- A slice that the call owns (from block base on), holding es; what lies in it is read outside its own block, in blocks of S. -/
def Own (w : World) (S : Nat → Prop) (base : Nat) (e : TypeId) (size : Nat) (v : Value) (es : List (List Dat)) : Prop :=
  ∃ xs : List Value, w.ownsRow base e size v es.length xs ∧ (∀ (i : Nat) (x : List Dat), es[i]? = some x → x.length = size) ∧
    ∀ (i j : Nat) (x : List Dat) (d : Dat), es[i]? = some x → x[j]? = some d → ∃ u, xs[i * size + j]? = some u ∧ Dat.At w (fun k => S k ∧ v.ownBlock ≠ some k) d u

namespace Own
variable {w w' : World} {S T : Nat → Prop} {base size : Nat} {e : TypeId} {v : Value} {es : List (List Dat)}
theorem nil (w : World) (S : Nat → Prop) (base : Nat) (e : TypeId) (size : Nat) : Own w S base e size (.slice none 0 0) [] :=
  ⟨[], World.ownsRow_nil w base e size, fun _ _ h => by simp at h, fun _ _ _ _ h => by simp at h⟩
theorem form (h : Own w S base e size v es) : ∃ A c, v = .slice A es.length c ∧ es.length ≤ c ∧ c ≤ maxLen := by
  obtain ⟨xs, hown, _⟩ := h
  rcases hown.2 with ⟨hv, h0⟩ | ⟨g, cap, cur, hv, _, _, hc, hm, _⟩
  · exact ⟨none, 0, by rw [hv, h0], by omega, Nat.zero_le _⟩
  · exact ⟨_, cap, hv, hc, hm⟩
theorem lt (h : Own w S base e size v es) : ∀ k, v.ownBlock = some k → base ≤ k ∧ k < w.heap.size := by
  obtain ⟨xs, hown, _⟩ := h
  exact hown.lt
theorem ext (h : Own w S base e size v es) (he : Ext T w w') (hS : ∀ k, S k → k < w.heap.size → T k) (hv : ∀ k, v.ownBlock = some k → T k) : Own w' S base e size v es := by
  obtain ⟨xs, hown, hsz, hat⟩ := h
  refine ⟨xs, ⟨hown.1, ?_⟩, hsz, fun i j x d hi hj => ?_⟩
  · rcases hown.2 with hn | ⟨g, cap, cur, rfl, hb, hgg, rest⟩
    · exact .inl hn
    · exact .inr ⟨g, cap, cur, rfl, hb, he.heap (hv g rfl) hgg, rest⟩
  · obtain ⟨u, hu, hd⟩ := hat i j x d hi hj
    exact ⟨u, hu, hd.ext he fun k hk hl => ⟨hS k hk.1 hl, hk⟩⟩
/-- Read as plain data. -/
theorem at_ (h : Own w S base e size v es) (hp : 0 < size) (hS : ∀ k, v.ownBlock = some k → S k) : Dat.At w S (.s es) v := by
  obtain ⟨xs, hown, hsz, hat⟩ := h
  rcases hown.2 with ⟨rfl, h0⟩ | ⟨g, cap, cur, rfl, hb, hg, hc, hm, hcs, htake⟩
  · have : es = [] := List.eq_nil_of_length_eq_zero h0
    subst this
    exact Dat.At.nil w S
  · refine .s es _ _ cap size (fun j => xs.getD j undef) rfl hc hm hp hsz (fun _ => ⟨g, 0, rfl, hS g rfl, fun j hj => ?_⟩) (fun i j x d hi hj => ?_)
    · have hx : j < xs.length := by rw [hown.1]; exact hj
      have := hown.cells (g := g) rfl j xs[j] (List.getElem?_eq_getElem hx)
      have hadd : (⟨g, 0, none⟩ : Addr).add j = ⟨g, 0 + j, none⟩ := by unfold Addr.add; split <;> simp_all
      rw [hadd] at this
      rw [this]
      simp [List.getD, List.getElem?_eq_getElem hx]
    · obtain ⟨u, hu, hd⟩ := hat i j x d hi hj
      have : xs.getD (i * size + j) undef = u := by simp [List.getD, hu]
      rw [this]
      exact hd.mono fun k hk _ => hk.1
end Own

/-- append of one element that lies in a block of its own, onto a slice of one's own: what the law leaves. -/
theorem wpList_append_one {P : Program} {ops : Array Oper} {rest : List Oper} {o : Oper} {a : Act} {Q : Exit → Act → World → Prop} (w : World) {t e : TypeId} {size bytes : Nat} {z : Value} (T : SliceT P t e size bytes z)
    (hgd : o.guard = none) (s x : Operand) (ho : o.op = .call { callee := .builtin .append, args := #[s, x], argTypes := #[t, t] })
    (S : Nat → Prop) (base : Nat) (v : Value) (es : List (List Dat)) (hs : a.eval s = v) (hown : Own w S base e size v es)
    (X c : Nat) (cs : Array Value) (e' : TypeId) (fr : Nat × Nat) (ds : List Dat) (hx : a.eval x = .slice (some ⟨X, 0, none⟩) 1 c) (hX : w.heap[X]? = some (.cells cs e' fr)) (hcs : cs.size = size) (hds : ds.length = size)
    (hat : ∀ (j : Nat) (d : Dat) (u : Value), ds[j]? = some d → cs[j]? = some u → Dat.At w (fun k => S k ∧ v.ownBlock ≠ some k) d u) (h1 : ∀ u ∈ cs.toList, u.oneCell' = true)
    (hlen : (es.length + 1) * bytes ≤ 140737488355328) (h63 : es.length + 1 ≤ maxLen) (hbase : base ≤ w.heap.size)
    (h : ∀ g cap w', Own w' S base e size (.slice (some ⟨g, 0, none⟩) (es.length + 1) cap) (es ++ [ds]) → w.grownBy w' v.ownBlock → (v.ownBlock = some g ∨ g = w.heap.size) → g < w'.heap.size →
      wpList P ops Q rest (a.put o.dst (.slice (some ⟨g, 0, none⟩) (es.length + 1) cap)) w') : wpList P ops Q (o :: rest) a w := by
  obtain ⟨i, hi, hz, hz1, hz2⟩ := info_parts T.info
  obtain ⟨xs, hown', hsz, hat'⟩ := hown
  refine wpList_append_lies w hgd s x t ho base e i z size bytes T.und hi hz hz1 hz2 T.zsize T.pos v es.length xs hs hown' ⟨X, 0, none⟩ 1 c cs.toList hx (by simp [hcs]) ?_ h1 Nat.one_pos h63 hlen hbase _ rfl ?_
  · intro j u hu
    have hadd : (⟨X, 0, none⟩ : Addr).add j = ⟨X, j, none⟩ := by unfold Addr.add; split <;> simp_all
    rw [hadd, block_cell hX]
    simpa using hu
  · intro g cap w' hown2 hgrow hg hlt
    have hnew : ∀ {d : Dat} {u : Value}, Dat.At w (fun k => S k ∧ v.ownBlock ≠ some k) d u → Dat.At w' (fun k => S k ∧ Value.ownBlock (.slice (some ⟨g, 0, none⟩) (es.length + 1) cap) ≠ some k) d u := fun hd => by
      refine hd.ext (T := fun k => v.ownBlock ≠ some k) ⟨hgrow.os, hgrow.tape, hgrow.output, hgrow.size, fun k hk hl => hgrow.block k hl (fun e => hk e.symm)⟩ fun k hk hl => ⟨hk.2, hk.1, fun e => ?_⟩
      simp only [Value.ownBlock, Option.some.injEq] at e
      rcases hg with hg | hg
      · exact hk.2 (by rw [hg, e])
      · omega
    refine h g cap w' ⟨xs ++ cs.toList, by rw [List.length_append]; exact hown2, ?_, ?_⟩ hgrow hg hlt
    · intro i' x' hx'
      rcases Nat.lt_or_ge i' es.length with hl | hl
      · rw [List.getElem?_append_left hl] at hx'; exact hsz i' x' hx'
      · rw [List.getElem?_append_right hl] at hx'
        have : i' - es.length = 0 := by
          rcases Nat.eq_zero_or_pos (i' - es.length) with h0 | h0
          · exact h0
          · rw [List.getElem?_eq_none (by simp; omega)] at hx'; cases hx'
        rw [this] at hx'
        simp at hx'
        subst hx'
        exact hds
    · intro i' j x' d hx' hd
      have hxl : xs.length = es.length * size := hown'.1
      rcases Nat.lt_or_ge i' es.length with hl | hl
      · rw [List.getElem?_append_left hl] at hx'
        obtain ⟨u, hu, hdu⟩ := hat' i' j x' d hx' hd
        have : i' * size + j < xs.length := (List.getElem?_eq_some_iff.1 hu).1
        exact ⟨u, by rw [List.getElem?_append_left this]; exact hu, hnew hdu⟩
      · rw [List.getElem?_append_right hl] at hx'
        have h0 : i' - es.length = 0 := by
          rcases Nat.eq_zero_or_pos (i' - es.length) with h0 | h0
          · exact h0
          · rw [List.getElem?_eq_none (by simp; omega)] at hx'; cases hx'
        rw [h0] at hx'
        simp at hx'
        subst hx'
        have hie : i' = es.length := by omega
        have hj : j < cs.size := by rw [hcs, ← hds]; exact (List.getElem?_eq_some_iff.1 hd).1
        refine ⟨cs[j], ?_, hnew (hat j d cs[j] hd (Array.getElem?_eq_getElem hj))⟩
        rw [hie, ← hxl, List.getElem?_append_right (by omega)]
        simp [Array.getElem?_eq_getElem hj]
end Go.Proofs.YtihnffmnofinmaaDoor
