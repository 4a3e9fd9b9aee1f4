/- The reference's signs of bytes. -/
import Derived.Test.YtihnffmnofinmaaDoorLow
import Derived.Test.YtihnffmnofinmaaDoorNodes
import Derived.Laws.RangeAny
import Derived.Lib.OthersKept
namespace Go.Proofs.YtihnffmnofinmaaDoor
open Go.RowKit

theorem decode_hi (s : ByteArray) (pos : Nat) : (Utf8.decode s pos).1 ≤ 1114111 := by
  have hb : ∀ k, (s.get! (pos + k)).toNat < 256 := fun k => (s.get! (pos + k)).toNat_lt
  have h0 := hb 0; have h1 := hb 1; have h2 := hb 2; have h3 := hb 3
  simp only [Utf8.decode]
  repeat' split
  all_goals simp_all [Utf8.runeError, Utf8.valid]
  all_goals omega
theorem decode_pos (s : ByteArray) (pos : Nat) (h : pos < s.size) : 1 ≤ (Utf8.decode s pos).2 := by
  by_cases ha : (s[pos]'h).toNat < 128
  · rw [decode_ascii s pos h ha]; exact Nat.le_refl _
  · exact (decode_high s pos h (by omega)).2
namespace Ref
def readSign (x : Int) : Int := if x = 13 ∨ x = 12 then 10 else if x = 0 then 65533 else x
def readRun (s : ByteArray) : Nat → Nat → Bool → Bool → List Int → List Int
  | 0, _, _, _, l => l
  | f + 1, p, first, cr, l =>
    if p < s.size then
      if first = true ∧ ((Utf8.decode s p).1 : Int) = 65279 then readRun s f (p + (Utf8.decode s p).2) false cr l
      else if cr = true ∧ ((Utf8.decode s p).1 : Int) = 10 then readRun s f (p + (Utf8.decode s p).2) false false l
      else readRun s f (p + (Utf8.decode s p).2) false (decide (((Utf8.decode s p).1 : Int) = 13)) (l ++ [readSign (Utf8.decode s p).1])
    else l
def read (s : ByteArray) : List Int := readRun s (s.size + 1) 0 true false []
theorem readSign_ok {x : Nat} (h : x ≤ 1114111) : 0 ≤ readSign x ∧ readSign x ≤ 1114111 := by
  unfold readSign; repeat' split
  all_goals omega
theorem readRun_ok (s : ByteArray) : ∀ (f p : Nat) (first cr : Bool) (l : List Int), (∀ x ∈ l, 0 ≤ x ∧ x ≤ 1114111) → l.length ≤ p → (∀ x ∈ readRun s f p first cr l, 0 ≤ x ∧ x ≤ 1114111)
  | 0, p, first, cr, l, h, hl => h
  | f + 1, p, first, cr, l, h, hl => by
    unfold readRun
    split
    · rename_i hp
      have hd := decode_hi s p
      have hq := decode_pos s p hp
      split
      · exact readRun_ok s f _ _ _ _ h (by omega)
      · split
        · exact readRun_ok s f _ _ _ _ h (by omega)
        · refine readRun_ok s f _ _ _ _ (fun y hy => ?_) (by simp; omega)
          rcases List.mem_append.1 hy with hy | hy
          · exact h y hy
          · rw [List.mem_singleton.1 hy]; exact readSign_ok hd
    · exact h
theorem readRun_len (s : ByteArray) : ∀ (f p : Nat) (first cr : Bool) (l : List Int), l.length + f ≤ s.size + 1 → l.length ≤ s.size → p ≤ s.size ∨ True → l.length ≤ p → (readRun s f p first cr l).length ≤ s.size
  | 0, p, first, cr, l, h, hl, _, _ => hl
  | f + 1, p, first, cr, l, h, hl, _, hlp => by
    unfold readRun
    split
    · rename_i hp
      have hq := decode_pos s p hp
      split
      · exact readRun_len s f _ _ _ _ (by omega) hl (.inr trivial) (by omega)
      · split
        · exact readRun_len s f _ _ _ _ (by omega) hl (.inr trivial) (by omega)
        · exact readRun_len s f _ _ _ _ (by simp; omega) (by simp; omega) (.inr trivial) (by simp; omega)
    · exact hl
theorem read_runes (s : ByteArray) (hs : s.size ≤ 16777216) : Runes (read s) :=
  have h := readRun_ok s (s.size + 1) 0 true false [] (by simp) (Nat.le_refl _)
  ⟨fun x hx => (h x hx).1, fun x hx => (h x hx).2, Nat.le_trans (readRun_len s (s.size + 1) 0 true false [] (by simp) (Nat.zero_le _) (.inr trivial) (Nat.le_refl _)) hs⟩
end Ref
theorem sgnT : SliceT Tryd.prog 38 21 1 4 (.int .i32 0) := ⟨Tryd.underlying38, by kernel_rfl, rfl, by omega⟩
def sgnD (x : Int) : List Dat := [.v (.int .i32 x)]
theorem one_at {w : World} {S : Nat → Prop} {x : Value} {j : Nat} {d : Dat} {u : Value} (h1 : [Dat.v x][j]? = some d) (h2 : #[x][j]? = some u) : Dat.At w S d u := by
  have hj : j < 1 := (Array.getElem?_eq_some_iff.1 h2).1
  obtain rfl : j = 0 := by omega
  simp at h1 h2; subst h1; subst h2; exact .v _
set_option maxRecDepth 100000 in
set_option maxHeartbeats 2000000 in
theorem Read_any (s : List UInt8) (X cap : Nat) (w : World) (hs : s.length ≤ 16777216) (hb : BytesIn w X s) :
    Calls Tryd.prog 17 #[.slice (some ⟨X, 0, none⟩) s.length cap] w (RetDat (fun _ => False) (runeDat (Ref.read ⟨s.toArray⟩)) w) := by
  obtain ⟨F, hF⟩ : ∃ F, F = Ref.read ⟨s.toArray⟩ := ⟨_, rfl⟩
  rw [← hF]
  have HF := Lib.hid hF
  clear hF
  have hback := run_bytes_back (P := Tryd.prog) (dst := 9) (src := 40) hb cap Tryd.underlying40 Tryd.underlying5 Tryd.underlying9
  obtain ⟨S, hS⟩ : ∃ S : ByteArray, S = ⟨s.toArray⟩ := ⟨_, rfl⟩
  have hSz : S.size = s.length := by rw [hS]; simp [ByteArray.size]
  rw [← hS] at HF hback
  clear hS
  go_enter Tryd.func17, Tryd.ntmps17
  go_wp2_with fail
  go_loopg [3, 4, 5] (S.size + 1) (fun g s3 s4 s5 wr => ∃ (p : Nat) (first cr : Bool) (l : List Int), s4 = .bool first ∧ s5 = .bool cr ∧ Own wr (fun _ => False) (w.heap.size + 1) 21 1 s3 (l.map sgnD) ∧ wr.heap[w.heap.size]? = some (.stringIter S p) ∧ Ext (fun _ => True) w wr ∧ l.length ≤ p ∧ p < g + p ∧ S.size < g + p ∧ Hid (Ref.readRun S g p first cr l = F))
  case atStart => exact ⟨0, true, false, [], rfl, rfl, Own.nil _ _ _ _ _, World.iter_heap _ _ _, (Ext.refl _ _).alloc _, Nat.le_refl _, by omega, by omega, HF.out.symm⟩
  case round =>
    clear hback HF
    obtain ⟨p, first, cr, l, rfl, rfl, hown, hit, hx0, hlp, _, hg, hrun⟩ := hrel
    obtain ⟨LA, lc, rfl, hkl, hkm⟩ := hown.form
    rw [List.length_map] at hkl
    rw [List.length_map] at hown
    rw [List.length_map]
    obtain ⟨g, rfl⟩ : ∃ g, gk = g + 1 := ⟨gk - 1, by omega⟩
    have e := hrun.out
    unfold Ref.readRun at e
    have HO := Lib.hid hown
    have hsz : w.heap.size < wr.heap.size := (Array.getElem?_eq_some_iff.1 hit).1
    clear hrun hown
    by_cases hp : p < S.size
    · have hd := decode_hi S p
      have hd1 := decode_pos S p hp
      have hnx : ∀ ty, (Instr.next (.pointer (some ⟨w.heap.size, 0, none⟩)) true ty).run Tryd.prog wr = _ := fun ty => Lib.run_next_any_at wr w.heap.size S p ty hit hp
      have hit2 := Lib.iterAt_heap wr w.heap.size S p (p + (Utf8.decode S p).2) hit
      have hxi : Ext (fun k => k ≠ w.heap.size) wr (wr.iterAt w.heap.size S (p + (Utf8.decode S p).2)) := ⟨rfl, rfl, rfl, by rw [Lib.iterAt_size]; exact Nat.le_refl _, fun k hk _ => Lib.iterAt_other wr w.heap.size k S _ hk⟩
      have hOi := HO.out.ext hxi (fun _ k _ => k.elim) (fun k hk => by have := (HO.out.lt k hk).1; omega)
      rw [if_pos hp] at e
      generalize hz : (Utf8.decode S p).1 = x at *
      generalize hq : p + (Utf8.decode S p).2 = q at *
      have hpq : p < q := by omega
      have hsz2 : w.heap.size < (wr.iterAt w.heap.size S q).heap.size := by rw [Lib.iterAt_size]; exact hsz
      clear hz hq hd1 hit hsz
      generalize hwi : wr.iterAt w.heap.size S q = wi at *
      have hxw : Ext (fun _ => True) w wi := hx0.trans' hxi fun k _ hl => by omega
      clear hwi hxi hx0 HO
      have HO := Lib.hid hOi
      clear hOi
      have E := Lib.hid e
      clear e
      by_cases h1 : first = true ∧ (x : Int) = 65279
      · obtain ⟨rfl, hx⟩ := h1
        have e := E.out
        rw [if_pos ⟨rfl, hx⟩] at e
        obtain rfl : x = 65279 := by omega
        go_wp2_with fail
        go_roundg g
        case measure => omega
        case rel => exact ⟨q, false, cr, l, rfl, rfl, HO.out, hit2, hxw, by omega, by omega, by omega, e⟩
      · have e := E.out
        rw [if_neg h1] at e
        clear E
        by_cases h2 : cr = true ∧ (x : Int) = 10
        · obtain ⟨rfl, hx⟩ := h2
          rw [if_pos ⟨rfl, hx⟩] at e
          obtain rfl : x = 10 := by omega
          have E := Lib.hid e
          clear e hd h1 hx
          cases first
          all_goals go_wp2_with fail
          all_goals go_roundg g
          all_goals first | (show g < _; omega) | skip
          all_goals exact ⟨q, false, false, l, rfl, rfl, HO.out, hit2, hxw, by omega, by omega, by omega, E⟩
        · rw [if_neg h2] at e
          have E := Lib.hid e
          clear e
          by_cases h13 : x = 13
          · subst h13
            have hy : Ref.readSign ((13 : Nat) : Int) = 10 := rfl
            rw [hy] at E
            all_goals (cases first <;> cases cr)
            all_goals (try have n1 : ((x : Int) == 65279) = false := by simp at h1 ⊢; omega)
            all_goals (try have n2 : ((x : Int) == 10) = false := by simp at h2 ⊢; omega)
            all_goals clear h1 h2
            all_goals go_wp2_with (at_builtin; refine Hid.out ?_)
            all_goals (apply Lib.hid)
            all_goals generalize hw5 : World.alloc wi _ = w5
            all_goals have hx35 : Ext (fun _ => True) wi w5 := hw5 ▸ ((Ext.refl _ _).alloc _)
            all_goals have hX5 : w5.heap[wi.heap.size]? = some (.cells #[.int .i32 10] 21 (0, 0)) := hw5 ▸ block_new' _ _ rfl
            all_goals have hO5 := HO.out.ext hx35 (fun _ _ _ => trivial) (fun _ _ => trivial)
            all_goals refine wpList_append_one _ sgnT rfl (.tmp 32) (.tmp 34) rfl (fun _ => False) (w.heap.size + 1) _ (l.map sgnD) rfl hO5 wi.heap.size 1 #[.int .i32 10] 21 (0, 0) (sgnD 10) rfl hX5 rfl rfl (fun j d u h1 h2 => one_at h1 h2) (fun u hu => by simp at hu; subst hu; rfl) (by rw [List.length_map]; omega) (by rw [List.length_map]; unfold maxLen; omega) (by have := hx35.size; omega) ?_
            all_goals intro g2 cap2 w7 hown7 hgrow _ hlt7
            all_goals rw [List.length_map] at hown7 ⊢
            all_goals have hown8 : Own w7 (fun _ => False) (w.heap.size + 1) 21 1 (.slice (some ⟨g2, 0, none⟩) (l.length + 1) cap2) ((l ++ [10]).map sgnD) := by rw [List.map_append]; exact hown7
            all_goals have hx57 : Ext (fun k => k < w.heap.size + 1) w5 w7 := (Ext.refl _ _).grown hgrow fun k e => .inl (by have := (HO.out.lt k e).1; omega)
            all_goals have hx7 : Ext (fun _ => True) w w7 := (hxw.trans hx35).trans' hx57 fun k _ hl => by omega
            all_goals have hit7 := hx57.heap (by omega) (hx35.heap trivial hit2)
            all_goals clear hgrow hX5 hO5 hw5 hown7 hnx
            all_goals go_wp2_with fail
            all_goals go_roundg g
            all_goals first | (show g < _; omega) | skip
            all_goals exact ⟨q, false, true, l ++ [10], rfl, rfl, hown8, hit7, hx7, by simp; omega, by omega, by omega, E⟩
          by_cases h12 : x = 12
          · subst h12
            have hy : Ref.readSign ((12 : Nat) : Int) = 10 := rfl
            rw [hy] at E
            all_goals (cases first <;> cases cr)
            all_goals (try have n1 : ((x : Int) == 65279) = false := by simp at h1 ⊢; omega)
            all_goals (try have n2 : ((x : Int) == 10) = false := by simp at h2 ⊢; omega)
            all_goals clear h1 h2
            all_goals go_wp2_with (at_builtin; refine Hid.out ?_)
            all_goals (apply Lib.hid)
            all_goals generalize hw5 : World.alloc wi _ = w5
            all_goals have hx35 : Ext (fun _ => True) wi w5 := hw5 ▸ ((Ext.refl _ _).alloc _)
            all_goals have hX5 : w5.heap[wi.heap.size]? = some (.cells #[.int .i32 10] 21 (0, 0)) := hw5 ▸ block_new' _ _ rfl
            all_goals have hO5 := HO.out.ext hx35 (fun _ _ _ => trivial) (fun _ _ => trivial)
            all_goals refine wpList_append_one _ sgnT rfl (.tmp 32) (.tmp 34) rfl (fun _ => False) (w.heap.size + 1) _ (l.map sgnD) rfl hO5 wi.heap.size 1 #[.int .i32 10] 21 (0, 0) (sgnD 10) rfl hX5 rfl rfl (fun j d u h1 h2 => one_at h1 h2) (fun u hu => by simp at hu; subst hu; rfl) (by rw [List.length_map]; omega) (by rw [List.length_map]; unfold maxLen; omega) (by have := hx35.size; omega) ?_
            all_goals intro g2 cap2 w7 hown7 hgrow _ hlt7
            all_goals rw [List.length_map] at hown7 ⊢
            all_goals have hown8 : Own w7 (fun _ => False) (w.heap.size + 1) 21 1 (.slice (some ⟨g2, 0, none⟩) (l.length + 1) cap2) ((l ++ [10]).map sgnD) := by rw [List.map_append]; exact hown7
            all_goals have hx57 : Ext (fun k => k < w.heap.size + 1) w5 w7 := (Ext.refl _ _).grown hgrow fun k e => .inl (by have := (HO.out.lt k e).1; omega)
            all_goals have hx7 : Ext (fun _ => True) w w7 := (hxw.trans hx35).trans' hx57 fun k _ hl => by omega
            all_goals have hit7 := hx57.heap (by omega) (hx35.heap trivial hit2)
            all_goals clear hgrow hX5 hO5 hw5 hown7 hnx
            all_goals go_wp2_with fail
            all_goals go_roundg g
            all_goals first | (show g < _; omega) | skip
            all_goals exact ⟨q, false, false, l ++ [10], rfl, rfl, hown8, hit7, hx7, by simp; omega, by omega, by omega, E⟩
          by_cases h0 : x = 0
          · subst h0
            have hy : Ref.readSign ((0 : Nat) : Int) = 65533 := rfl
            rw [hy] at E
            all_goals (cases first <;> cases cr)
            all_goals (try have n1 : ((x : Int) == 65279) = false := by simp at h1 ⊢; omega)
            all_goals (try have n2 : ((x : Int) == 10) = false := by simp at h2 ⊢; omega)
            all_goals clear h1 h2
            all_goals go_wp2_with (at_builtin; refine Hid.out ?_)
            all_goals (apply Lib.hid)
            all_goals generalize hw5 : World.alloc wi _ = w5
            all_goals have hx35 : Ext (fun _ => True) wi w5 := hw5 ▸ ((Ext.refl _ _).alloc _)
            all_goals have hX5 : w5.heap[wi.heap.size]? = some (.cells #[.int .i32 65533] 21 (0, 0)) := hw5 ▸ block_new' _ _ rfl
            all_goals have hO5 := HO.out.ext hx35 (fun _ _ _ => trivial) (fun _ _ => trivial)
            all_goals refine wpList_append_one _ sgnT rfl (.tmp 32) (.tmp 34) rfl (fun _ => False) (w.heap.size + 1) _ (l.map sgnD) rfl hO5 wi.heap.size 1 #[.int .i32 65533] 21 (0, 0) (sgnD 65533) rfl hX5 rfl rfl (fun j d u h1 h2 => one_at h1 h2) (fun u hu => by simp at hu; subst hu; rfl) (by rw [List.length_map]; omega) (by rw [List.length_map]; unfold maxLen; omega) (by have := hx35.size; omega) ?_
            all_goals intro g2 cap2 w7 hown7 hgrow _ hlt7
            all_goals rw [List.length_map] at hown7 ⊢
            all_goals have hown8 : Own w7 (fun _ => False) (w.heap.size + 1) 21 1 (.slice (some ⟨g2, 0, none⟩) (l.length + 1) cap2) ((l ++ [65533]).map sgnD) := by rw [List.map_append]; exact hown7
            all_goals have hx57 : Ext (fun k => k < w.heap.size + 1) w5 w7 := (Ext.refl _ _).grown hgrow fun k e => .inl (by have := (HO.out.lt k e).1; omega)
            all_goals have hx7 : Ext (fun _ => True) w w7 := (hxw.trans hx35).trans' hx57 fun k _ hl => by omega
            all_goals have hit7 := hx57.heap (by omega) (hx35.heap trivial hit2)
            all_goals clear hgrow hX5 hO5 hw5 hown7 hnx
            all_goals go_wp2_with fail
            all_goals go_roundg g
            all_goals first | (show g < _; omega) | skip
            all_goals exact ⟨q, false, false, l ++ [65533], rfl, rfl, hown8, hit7, hx7, by simp; omega, by omega, by omega, E⟩
          have hy : Ref.readSign (x : Int) = x := by unfold Ref.readSign; rw [if_neg (by omega), if_neg (by omega)]
          have hc : decide ((x : Int) = 13) = false := by simp; omega
          rw [hy, hc] at E
          have n13 : ((x : Int) == 13) = false := by simp; omega
          have n12 : ((x : Int) == 12) = false := by simp; omega
          have n0 : ((x : Int) == 0) = false := by simp; omega
          clear hy hc
          all_goals (cases first <;> cases cr)
          all_goals (try have n1 : ((x : Int) == 65279) = false := by simp at h1 ⊢; omega)
          all_goals (try have n2 : ((x : Int) == 10) = false := by simp at h2 ⊢; omega)
          all_goals clear h1 h2
          all_goals go_wp2_with (at_builtin; refine Hid.out ?_)
          all_goals (apply Lib.hid)
          all_goals generalize hw5 : World.alloc wi _ = w5
          all_goals have hx35 : Ext (fun _ => True) wi w5 := hw5 ▸ ((Ext.refl _ _).alloc _)
          all_goals have hX5 : w5.heap[wi.heap.size]? = some (.cells #[.int .i32 (x : Int)] 21 (0, 0)) := hw5 ▸ block_new' _ _ rfl
          all_goals have hO5 := HO.out.ext hx35 (fun _ _ _ => trivial) (fun _ _ => trivial)
          all_goals refine wpList_append_one _ sgnT rfl (.tmp 32) (.tmp 34) rfl (fun _ => False) (w.heap.size + 1) _ (l.map sgnD) rfl hO5 wi.heap.size 1 #[.int .i32 (x : Int)] 21 (0, 0) (sgnD (x : Int)) rfl hX5 rfl rfl (fun j d u h1 h2 => one_at h1 h2) (fun u hu => by simp at hu; subst hu; rfl) (by rw [List.length_map]; omega) (by rw [List.length_map]; unfold maxLen; omega) (by have := hx35.size; omega) ?_
          all_goals intro g2 cap2 w7 hown7 hgrow _ hlt7
          all_goals rw [List.length_map] at hown7 ⊢
          all_goals have hown8 : Own w7 (fun _ => False) (w.heap.size + 1) 21 1 (.slice (some ⟨g2, 0, none⟩) (l.length + 1) cap2) ((l ++ [(x : Int)]).map sgnD) := by rw [List.map_append]; exact hown7
          all_goals have hx57 : Ext (fun k => k < w.heap.size + 1) w5 w7 := (Ext.refl _ _).grown hgrow fun k e => .inl (by have := (HO.out.lt k e).1; omega)
          all_goals have hx7 : Ext (fun _ => True) w w7 := (hxw.trans hx35).trans' hx57 fun k _ hl => by omega
          all_goals have hit7 := hx57.heap (by omega) (hx35.heap trivial hit2)
          all_goals clear hgrow hX5 hO5 hw5 hown7 hnx
          all_goals go_wp2_with fail
          all_goals go_roundg g
          all_goals first | (show g < _; omega) | skip
          all_goals exact ⟨q, false, false, l ++ [(x : Int)], rfl, rfl, hown8, hit7, hx7, by simp; omega, by omega, by omega, E⟩
    · have hnx : ∀ ty, (Instr.next (.pointer (some ⟨w.heap.size, 0, none⟩)) true ty).run Tryd.prog wr = _ := fun ty => Lib.run_next_end_at wr w.heap.size S p ty hit hp
      rw [if_neg hp] at e
      subst e
      go_wp2_with fail
      go_ret
      refine ⟨_, rfl, ?_, hx0⟩
      exact HO.out.weak (fun _ k => k.elim) |>.at_ (by omega) (fun k hk => .inr (Nat.le_of_succ_le (HO.out.lt k hk).1))
end Go.Proofs.YtihnffmnofinmaaDoor
