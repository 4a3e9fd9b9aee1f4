/- The reference's small letters; bytes of a text and back. -/
import Derived.Test.YtihnffmnofinmaaDoorText
import Derived.Lib.ConvBytes
namespace Go.Proofs.YtihnffmnofinmaaDoor
open Go.RowKit

/-- A row of bytes in block X: its first cells are l. -/
def BytesIn (w : World) (X : Nat) (l : List UInt8) : Prop := ∃ cs T fr, w.heap[X]? = some (.cells cs T fr) ∧ (∀ j, j < l.length → w.frozen? ⟨X, j, none⟩ = false) ∧ ∀ (j : Nat) (x : UInt8), l[j]? = some x → cs[j]? = some (.int .u8 x.toNat)
theorem BytesIn.cell {w : World} {X : Nat} {l : List UInt8} (h : BytesIn w X l) {j : Nat} {x : UInt8} (hx : l[j]? = some x) : w.cell? ⟨X, j, none⟩ = some (.int .u8 x.toNat) ∧ w.frozen? ⟨X, j, none⟩ = false := by
  obtain ⟨cs, T, fr, hb, hf, hc⟩ := h
  exact ⟨by rw [block_cell hb]; exact hc j x hx, hf j (List.getElem?_eq_some_iff.1 hx).1⟩
theorem BytesIn.set {w : World} {X : Nat} {l : List UInt8} (h : BytesIn w X l) (j : Nat) (y : UInt8) : BytesIn (w.setCell ⟨X, j, none⟩ (.int .u8 y.toNat)) X (l.set j y) := by
  obtain ⟨cs, T, fr, hb, hf, hc⟩ := h
  refine ⟨_, T, fr, block_set hb j _, fun i hi => by rw [World.frozen?_setCell]; exact hf i (by simpa using hi), fun i x hx => ?_⟩
  by_cases e : i = j
  · subst e
    have hl : i < l.length := by have := (List.getElem?_eq_some_iff.1 hx).1; simpa using this
    have hcs : i < cs.size := (Array.getElem?_eq_some_iff.1 (hc i l[i] (List.getElem?_eq_getElem hl))).1
    simp [hl] at hx
    subst hx
    simp [hcs]
  · rw [List.getElem?_set_ne (by omega)] at hx
    rw [Array.getElem?_setIfInBounds_ne (by omega)]
    exact hc i x hx
theorem BytesIn.made (w : World) (s : ByteArray) (e : TypeId) : BytesIn (Lib.bytesWorld w e s) w.heap.size s.data.toList := by
  refine ⟨_, _, _, Lib.bytesWorld_at_new w e s, fun j hj => ?_, fun j x hx => ?_⟩
  · have : j < (Lib.bytesCells w e s).size := by simp [Lib.bytesCells] at hj ⊢; have : s.data.size = s.size := rfl; omega
    simp [World.frozen?, Lib.bytesWorld_at_new]; omega
  · have hl := (List.getElem?_eq_some_iff.1 hx).1
    simp at hl
    simp only [Lib.bytesCells]
    rw [Array.getElem?_append_left (by simpa using hl)]
    simp at hx ⊢
    exact ⟨x, hx, rfl⟩
theorem run_bytes_back {P : Program} {w : World} {X : Nat} {l : List UInt8} (h : BytesIn w X l) {src dst e : TypeId} (cap : Nat) (hs : P.underlying src = some (.slice e)) (he : P.underlying e = some (.int .u8)) (hd : P.underlying dst = some .string) :
    (convert src dst (.slice (some ⟨X, 0, none⟩) l.length cap)).run P w = .ok (.string ⟨l.toArray⟩) w := by
  rw [run_convert_bytes_string w src dst e _ _ _ hs he hd, run_bytesToString w _ l.length cap (l.map fun x => (x.toNat : Int))]
  · congr 2
    have : ∀ (l : List UInt8) (r : ByteArray), ((l.map fun x => (x.toNat : Int)).foldl (fun r n => r.push (UInt8.ofNat n.toNat)) r) = ⟨(r.data.toList ++ l).toArray⟩ := by
      intro l
      induction l with
      | nil => intro r; simp
      | cons a l ih =>
        intro r
        simp only [List.map_cons, List.foldl_cons]
        rw [ih]
        simp [ByteArray.push]
    rw [this]
    rfl
  · rw [run_loadCells w _ l.length (fun j => .int .u8 ((l.getD j 0).toNat : Int))]
    · congr 1
      congr 1
      apply List.ext_getElem
      · simp
      · intro i h1 h2
        simp at h1
        simp [List.getD, List.getElem?_eq_getElem h1]
    · intro j hj
      have hadd : (⟨X, 0, none⟩ : Addr).add j = ⟨X, j, none⟩ := by unfold Addr.add; split <;> simp_all
      rw [hadd, (h.cell (List.getElem?_eq_getElem hj)).1]
      simp [List.getD, List.getElem?_eq_getElem hj]
theorem Ext.bytes (w : World) (e : TypeId) (s : ByteArray) : Ext (fun _ => True) w (Lib.bytesWorld w e s) :=
  ⟨rfl, rfl, rfl, by rw [Lib.bytesWorld_size]; omega, fun k _ hk => Lib.bytesWorld_at_old w e s k hk⟩

theorem Ext.setL {S : Nat → Prop} {w x : World} (h : Ext S w x) (j : Nat) (v : Value) : Ext S w (x.setCell ⟨w.heap.size, j, none⟩ v) := h.setCell _ _ (.inr (Nat.le_refl _))
theorem lowB_big {x : UInt8} (h : ¬ (65 ≤ x.toNat ∧ x.toNat ≤ 90)) : Ref.lowB x = x := if_neg h
theorem lowB_toNat {x : UInt8} (h : 65 ≤ x.toNat ∧ x.toNat ≤ 90) : (Ref.lowB x).toNat = x.toNat + 32 := by
  unfold Ref.lowB; rw [if_pos h, UInt8.toNat_add]; simp; omega

set_option maxHeartbeats 2000000 in
theorem Lower_any (l : List UInt8) (w : World) (hl : l.length ≤ 4503599627370496) :
    Calls Tryd.prog 23 #[.string ⟨l.toArray⟩] w (Ret (.string ⟨(Ref.lower l).toArray⟩) (Ext (fun _ => True) w)) := by
  obtain ⟨F, hF⟩ : ∃ F, F = Ref.lower l := ⟨_, rfl⟩
  rw [← hF]
  have HF := Lib.hid hF
  clear hF
  have hcv := fun w0 => Lib.run_convert_string_bytes (P := Tryd.prog) w0 9 40 5 ⟨l.toArray⟩ Tryd.underlying9 Tryd.underlying40 Tryd.underlying5
  obtain ⟨cap, hcap⟩ : ∃ cap, cap = grownCap w l.length 0 5 := ⟨_, rfl⟩
  have hge : l.length ≤ cap := by rw [hcap]; exact grownCap_ge _ _ _ _
  have hcv' := hcv w
  rw [show (ByteArray.mk l.toArray).size = l.length by simp [ByteArray.size], ← hcap] at hcv'
  clear hcv hcap
  have hB := BytesIn.made w ⟨l.toArray⟩ 5
  have hE := Ext.bytes w 5 ⟨l.toArray⟩
  generalize Lib.bytesWorld w 5 ⟨l.toArray⟩ = w0 at *
  have hB' : BytesIn w0 w.heap.size l := hB
  clear hB
  go_enter Tryd.func23, Tryd.ntmps23
  go_wp2_with fail
  clear hcv'
  go_loopg [4] (l.length + 1) (fun f i wr => ∃ k m, l.length < k + f ∧ k ≤ l.length ∧ i = .int .i64 k ∧ BytesIn wr w.heap.size m ∧ m.length = l.length ∧ Ext (fun _ => True) w wr ∧ Hid (∀ j, m[j]? = if j < k then (l[j]?).map Ref.lowB else l[j]?))
  case atStart => exact ⟨0, l, by omega, by omega, rfl, hB', rfl, hE, fun j => by simp⟩
  case round =>
    obtain ⟨k, m, hf, hk, rfl, hb, hm, hx, hmm⟩ := hrel
    by_cases hlt : k < l.length
    · have hmk : m[k]? = some l[k] := by rw [hmm.out k, if_neg (by omega)]; exact List.getElem?_eq_getElem hlt
      obtain ⟨x, hxk⟩ : ∃ x, x = l[k] := ⟨_, rfl⟩
      rw [← hxk] at hmk
      obtain ⟨hc, hfz⟩ := hb.cell hmk
      have hnext : Hid (∀ j, (m.set k (Ref.lowB x))[j]? = if j < k + 1 then (l[j]?).map Ref.lowB else l[j]?) := by
        intro j
        rw [List.getElem?_set, hm]
        by_cases e : k = j
        · subst e; rw [if_pos rfl, if_pos hlt, if_pos (by omega), List.getElem?_eq_getElem hlt, hxk]; rfl
        · rw [if_neg e, hmm.out j]
          by_cases e1 : j < k
          · rw [if_pos e1, if_pos (by omega)]
          · rw [if_neg e1, if_neg (by omega)]
      have hsame : Hid (Ref.lowB x = x → ∀ j, m[j]? = if j < k + 1 then (l[j]?).map Ref.lowB else l[j]?) := by
        intro e j
        rw [← hnext.out j, e, List.getElem?_set]
        by_cases e : k = j
        · subst e; rw [if_pos rfl, hmk, if_pos (by omega)]
        · rw [if_neg e]
      have Hm := Lib.hid hm
      clear hmk hm hxk
      go_wp2_with fail
      all_goals have hbx := x.toNat_lt
      all_goals go_roundg (gk - 1)
      all_goals first | (show _ - 1 < _; omega) | skip
      all_goals first
        | exact ⟨k + 1, m, by omega, by omega, by go_num, hb, Hm.out, hx, hsame.out (lowB_big (by omega))⟩
        | exact ⟨k + 1, m.set k (Ref.lowB x), by omega, by omega, by go_num, by (have := hb.set k (Ref.lowB x)); rw [lowB_toNat (by omega)] at this; exact this, by simp [Hm.out], Ext.setL hx _ _, hnext⟩
    · have hF : m = F := by
        rw [HF.out]
        apply List.ext_getElem?
        intro j
        rw [hmm.out j]
        unfold Ref.lower
        rw [List.getElem?_map]
        split
        · rfl
        · rw [List.getElem?_eq_none (by omega)]; rfl
      have hback := run_bytes_back hb cap Tryd.underlying40 Tryd.underlying5 Tryd.underlying9
      rw [hm, hF] at hback
      clear hm hmm HF hF
      go_wp2_with fail
      go_ret
      exact ⟨rfl, hx⟩
end Go.Proofs.YtihnffmnofinmaaDoor
