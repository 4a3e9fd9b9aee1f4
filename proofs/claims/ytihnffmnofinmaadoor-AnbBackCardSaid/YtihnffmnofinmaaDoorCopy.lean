/- nest.Copy, nest.White, nest.Trim. -/
import Derived.Test.YtihnffmnofinmaaDoorClone
namespace Go.Proofs.YtihnffmnofinmaaDoor
open Go.RowKit
theorem NWhite_any (t : Tok) (v : Value) (w : World) :
    Calls Tryd.prog 30 #[.agg (nvals t v)] w (Ret (.bool (decide (t.kind = 13))) (Ext (fun _ => True) w)) := by
  unfold nvals
  go_enter Tryd.func30, Tryd.ntmps30
  go_wp2
  go_ret
  exact ⟨rfl, (Ext.refl _ _).alloc _⟩
/-- What a slice of nodes is in memory: its cells, and how they read. -/
theorem nds_open {w : World} {S : Nat → Prop} {l : List Nd} {A : Option Addr} {n c : Nat} (h : Dat.At w S (nodesDat l) (.slice A n c)) :
    ∃ xs : List Value, xs.length = n * 7 ∧ (A = none → n = 0) ∧ (∀ ad, A = some ad → ∀ (j : Nat) u, xs[j]? = some u → w.cell? (ad.add j) = some u) ∧ (∀ u ∈ xs, u.oneCell' = true) ∧
      ∀ i, i < l.length → ∃ kv, Dat.At w S (nodesDat (Ref.nd l i).kids) kv ∧ ∀ (j : Nat) u, (nvals (Ref.nd l i).tok kv)[j]? = some u → xs[i * 7 + j]? = some u := by
  have hlen : n = l.length := by have := h.len; rw [Nd.dats_len] at this; exact this.symm
  subst hlen
  rcases Nat.eq_zero_or_pos l.length with h0 | h0
  · refine ⟨[], by simp [h0], fun _ => h0, fun _ _ _ _ h => by simp at h, fun _ h => by simp at h, fun i hi => by omega⟩
  · have hex : ∃ b off, A = some ⟨b, off, none⟩ := by obtain ⟨b, off, _, hA, _⟩ := nds_at h h0; exact ⟨b, off, hA⟩
    obtain ⟨b, off, rfl⟩ := hex
    have hall : ∀ i, i < l.length → ∃ kv, Dat.At w S (nodesDat (Ref.nd l i).kids) kv ∧ ∀ (j : Nat) u, (nvals (Ref.nd l i).tok kv)[j]? = some u → w.cell? ⟨b, off + i * 7 + j, none⟩ = some u := fun i hi => by
      obtain ⟨b', off', kv, hA, _, _, hk, hc⟩ := nds_at h hi
      cases hA
      exact ⟨kv, hk, hc⟩
    have hcell : ∀ j, j < l.length * 7 → ∃ u, w.cell? ⟨b, off + j, none⟩ = some u ∧ u.oneCell' = true := fun j hj => by
      obtain ⟨kv, hk, hc⟩ := hall (j / 7) (by omega)
      have hs : j % 7 < (nvals (Ref.nd l (j / 7)).tok kv).size := by simp [nvals]; omega
      have := hc (j % 7) _ (Array.getElem?_eq_getElem hs)
      rw [show off + j / 7 * 7 + j % 7 = off + j by omega] at this
      refine ⟨_, this, nd_one (Ref.nd l (j / 7)).tok (v := kv) ?_ _ (by simp)⟩
      obtain ⟨A', c', rfl, _⟩ := hk.form
      rfl
    refine ⟨(List.range (l.length * 7)).map fun j => (w.cell? ⟨b, off + j, none⟩).getD undef, by simp, (fun h => by cases h), fun ad had j u hu => ?_, fun u hu => ?_, fun i hi => ?_⟩
    · cases had
      have hj : j < l.length * 7 := by have := (List.getElem?_eq_some_iff.1 hu).1; simpa using this
      obtain ⟨x, hx, _⟩ := hcell j hj
      have hadd : (⟨b, off, none⟩ : Addr).add j = ⟨b, off + j, none⟩ := by unfold Addr.add; split <;> simp_all
      rw [hadd, hx]
      simp [List.getElem?_range hj, hx] at hu
      rw [hu]
    · obtain ⟨j, hj, rfl⟩ := List.mem_map.1 hu
      obtain ⟨x, hx, h1⟩ := hcell j (by simpa using hj)
      rw [hx]; exact h1
    · obtain ⟨kv, hk, hc⟩ := hall i hi
      refine ⟨kv, hk, fun j u hu => ?_⟩
      have hj : j < 7 := (Array.getElem?_eq_some_iff.1 hu).1
      have hj2 : i * 7 + j < l.length * 7 := by omega
      simp [List.getElem?_range hj2]
      have := hc j u hu
      rw [Nat.add_assoc] at this
      rw [this]; rfl
/-- A row of nodes in block g, the first k of which have kids of the call's own. -/
structure CopyRow (w0 wr : World) (S : Nat → Prop) (l : List Nd) (g k : Nat) (cs : Array Value) : Prop where
  row : wr.heap[g]? = some (.cells cs 48 (0, 0))
  own : w0.heap.size ≤ g
  old : ∀ i, k ≤ i → i < l.length → ∃ kv, Dat.At wr S (nodesDat (Ref.nd l i).kids) kv ∧ ∀ (j : Nat) u, (nvals (Ref.nd l i).tok kv)[j]? = some u → cs[i * 7 + j]? = some u
  new : ∀ i, i < k → i < l.length → ∃ kv, Dat.At wr (fun b => w0.heap.size ≤ b ∧ b ≠ g) (nodesDat (Ref.nd l i).kids) kv ∧ ∀ (j : Nat) u, (nvals (Ref.nd l i).tok kv)[j]? = some u → cs[i * 7 + j]? = some u
theorem CopyRow.step {w0 wr w2 : World} {S : Nat → Prop} {l : List Nd} {g k : Nat} {cs : Array Value} (h : CopyRow w0 wr S l g k cs) (hk : k < l.length) (hS : ∀ b, S b → b ≠ g) (hx : Ext (fun _ => True) wr w2) {v : Value}
    (hv : Dat.At w2 (fun b => wr.heap.size ≤ b) (nodesDat (Ref.nd l k).kids) v) (hsz : w0.heap.size ≤ wr.heap.size) :
    CopyRow w0 (w2.setCell ⟨g, k * 7 + 6, none⟩ v) S l g (k + 1) (cs.setIfInBounds (k * 7 + 6) v) := by
  obtain ⟨kv, hkv, hc⟩ := h.old k (Nat.le_refl _) hk
  have h6 : cs[k * 7 + 6]? = some kv := hc 6 kv rfl
  have hin : k * 7 + 6 < cs.size := (Array.getElem?_eq_some_iff.1 h6).1
  have hgl : g < wr.heap.size := block_lt h.row
  have hx2 : Ext (fun b => b ≠ g) wr (w2.setCell ⟨g, k * 7 + 6, none⟩ v) := (hx.mono fun _ _ _ => trivial).setCell _ _ (.inl (fun e => e rfl))
  refine ⟨block_set (hx.heap trivial h.row) _ _, h.own, fun i hi hl => ?_, fun i hi hl => ?_⟩
  · obtain ⟨kv', hkv', hc'⟩ := h.old i (by omega) hl
    exact ⟨kv', hkv'.ext hx2 fun b hb _ => ⟨hS b hb, hb⟩, fun j u hu => by
      have hj : j < 7 := (Array.getElem?_eq_some_iff.1 hu).1
      rw [Array.getElem?_setIfInBounds_ne (by omega)]; exact hc' j u hu⟩
  · by_cases e : i = k
    · subst e
      refine ⟨v, hv.ext ((Ext.refl (fun b => b ≠ g) w2).setCell _ _ (.inl (fun e => e rfl))) fun b hb _ => ⟨by omega, by omega, by omega⟩, fun j u hu => ?_⟩
      have hj : j < 7 := (Array.getElem?_eq_some_iff.1 hu).1
      by_cases e6 : j = 6
      · subst e6
        simp [nvals] at hu
        subst hu
        simp [hin]
      · rw [Array.getElem?_setIfInBounds_ne (by omega)]
        refine hc j u ?_
        rw [← hu]
        match j, hj, e6 with
        | 0, _, _ | 1, _, _ | 2, _, _ | 3, _, _ | 4, _, _ | 5, _, _ => rfl
        | 6, _, e => exact absurd rfl e
    · obtain ⟨kv', hkv', hc'⟩ := h.new i (by omega) hl
      exact ⟨kv', hkv'.ext hx2 fun b hb _ => ⟨hb.2, hb⟩, fun j u hu => by
        have hj : j < 7 := (Array.getElem?_eq_some_iff.1 hu).1
        rw [Array.getElem?_setIfInBounds_ne (by omega)]; exact hc' j u hu⟩
theorem CopyRow.done {w0 wr : World} {S : Nat → Prop} {l : List Nd} {g k : Nat} {cs : Array Value} (h : CopyRow w0 wr S l g k cs) (hk : l.length ≤ k) {cap : Nat} (hc : l.length ≤ cap) (hm : cap ≤ maxLen) :
    Dat.At wr (fun b => w0.heap.size ≤ b) (nodesDat l) (.slice (some ⟨g, 0, none⟩) l.length cap) := by
  have hall : ∀ i, i < l.length → ∀ j, j < 7 → ∃ u, cs[i * 7 + j]? = some u ∧ ∀ d, (Nd.dat (Ref.nd l i))[j]? = some d → Dat.At wr (fun b => w0.heap.size ≤ b) d u := fun i hi j hj => by
    obtain ⟨kv, hkv, hcc⟩ := h.new i (by omega) hi
    have hs : j < (nvals (Ref.nd l i).tok kv).size := by simpa [nvals] using hj
    refine ⟨_, hcc j _ (Array.getElem?_eq_getElem hs), fun d hd => nd_at (t := (Ref.nd l i).tok) (hkv.mono fun b hb _ => hb.1) (j := j) ?_ (Array.getElem?_eq_getElem hs)⟩
    rw [← hd]
    cases Ref.nd l i; rfl
  refine .s _ _ _ _ 7 (fun j => cs.getD j undef) (Nd.dats_len l) hc hm (by omega) (Nd.dats_size l) (fun _ => ⟨g, 0, rfl, h.own, fun j hj => ?_⟩) (fun i j e d he hd => ?_)
  · obtain ⟨u, hu, _⟩ := hall (j / 7) (by omega) (j % 7) (by omega)
    rw [show j / 7 * 7 + j % 7 = j by omega] at hu
    rw [Nat.zero_add, block_cell h.row, hu]
    simp [Array.getD_eq_getD_getElem?, hu]
  · have hi : i < l.length := by have := (List.getElem?_eq_some_iff.1 he).1; rwa [Nd.dats_len] at this
    rw [Nd.dats_get l i hi] at he
    cases he
    have hj : j < 7 := by have := (List.getElem?_eq_some_iff.1 hd).1; rwa [Nd.dat_len] at this
    obtain ⟨u, hu, hd'⟩ := hall i hi j hj
    simp only [Array.getD_eq_getD_getElem?, hu, Option.getD_some]
    exact hd' d hd
set_option maxRecDepth 100000 in
set_option maxHeartbeats 2000000 in
theorem Copy_any : ∀ (N : Nat) (l : List Nd) (v : Value) (w : World) (S : Nat → Prop), Nd.sizes l ≤ N → N ≤ 16777216 → Dat.At w S (nodesDat l) v →
    Calls Tryd.prog 31 #[v] w (RetDat (fun _ => False) (nodesDat l) w) := by
  intro N
  induction N using Nat.strongRecOn with
  | ind N ih =>
    intro l v w S hN hN2 hv
    have hlen := Nd.len_le l
    obtain ⟨A, c, rfl, hcl, hcm⟩ := hv.form
    rw [Nd.dats_len] at hv hcl
    rw [Nd.dats_len]
    obtain ⟨xs, hxl, hA, hsrc, h1, hall⟩ := nds_open hv
    have hn : l.length ≤ 16777216 := by omega
    have IH := Lib.hid ih
    have HXL := Lib.hid hxl
    have HA := Lib.hid hA
    have HSRC := Lib.hid hsrc
    have H1 := Lib.hid h1
    have HALL := Lib.hid hall
    clear ih hA hsrc h1 hall hxl
    go_enter Tryd.func31, Tryd.ntmps31
    go_wp2_with fail
    refine (Clone_any A l.length c xs _ hn HA.out HXL.out HSRC.out H1.out).mono ?_
    rintro e w1 ⟨v1, rfl, hown, hx1⟩
    rcases Nat.eq_zero_or_pos l.length with h0 | h0
    · obtain rfl := List.eq_nil_of_length_eq_zero h0
      obtain ⟨A1, c1, rfl, hc1, hm1⟩ : ∃ A1 c1, v1 = .slice A1 0 c1 ∧ 0 ≤ c1 ∧ c1 ≤ maxLen := by
        rcases hown.2 with ⟨hv, _⟩ | ⟨g, cap, cur, hv, _, _, hc, hm, _⟩
        · exact ⟨none, 0, hv, Nat.zero_le _, Nat.zero_le _⟩
        · exact ⟨_, _, hv, hc, hm⟩
      clear hown
      go_wp2_with fail
      go_loopg [9] 1 (fun f i wr => i = .int .i64 0 ∧ wr = w1 ∧ 0 < f)
      case atStart => exact ⟨rfl, rfl, by omega⟩
      case round =>
        obtain ⟨rfl, rfl, _⟩ := hrel
        go_wp2_with fail
        go_ret
        exact ⟨_, rfl, .s _ _ _ _ 1 (fun _ => undef) rfl hc1 hm1 Nat.one_pos (fun _ _ h => by simp [Nd.dats] at h) (fun h => absurd h (by omega)) (fun _ _ _ _ h => by simp [Nd.dats] at h), hx1⟩
    · have hex : ∃ g cap cur, v1 = .slice (some ⟨g, 0, none⟩) l.length cap ∧ l.length ≤ cap ∧ cap ≤ maxLen ∧ Hid (CopyRow w w1 (fun b => S b ∧ b < w.heap.size) l g 0 cur) ∧ w.heap.size ≤ g := by
        rcases hown.2 with ⟨_, h⟩ | ⟨g, cap, cur, hv1, hb, hg, hc, hm, hcs, htake⟩
        · omega
        · refine ⟨g, cap, cur, hv1, hc, hm, Lib.hid ⟨hg, hb, fun i _ hi => ?_, fun i hi => by omega⟩, hb⟩
          obtain ⟨kv, hk, hcc⟩ := HALL.out i hi
          refine ⟨kv, hk.ext hx1 fun _ h hl => ⟨trivial, h, hl⟩, fun j u hu => ?_⟩
          have := hcc j u hu
          rw [← htake, List.getElem?_take] at this
          split at this
          · simpa using this
          · cases this
      obtain ⟨g, cap, cur, rfl, hc, hm, hrow, hg⟩ := hex
      clear hown
      go_wp2_with fail
      go_loopg [9] (l.length + 1) (fun f i wr => ∃ (k : Nat) (cs : Array Value), i = .int .i64 k ∧ k ≤ l.length ∧ l.length < f + k ∧ Hid (CopyRow w wr (fun b => S b ∧ b < w.heap.size) l g k cs) ∧ Ext (fun _ => True) w wr)
      case atStart => exact ⟨0, cur, rfl, Nat.zero_le _, by omega, hrow, hx1⟩
      case round =>
        obtain ⟨k, cs, rfl, hk, hf, hrow, hx⟩ := hrel
        have hgl := block_lt hrow.out.row
        have hwr := hx.size
        by_cases hlt : k < l.length
        · obtain ⟨kv, hkv, hcc⟩ := hrow.out.old k (Nat.le_refl _) hlt
          have hc6 : wr.cell? ⟨g, k * 7 + 6, none⟩ = some kv := by rw [block_cell hrow.out.row]; exact hcc 6 kv rfl
          have hks := Nd.sizes_mem l k hlt
          have HK := Lib.hid hkv
          clear hcc hkv
          go_wp2_with fail
          refine (IH.out (Nd.sizes (Ref.nd l k).kids) (by omega) (Ref.nd l k).kids kv _ _ (Nat.le_refl _) (by omega) HK.out).mono ?_
          rintro e w2 ⟨v2, rfl, hd2, hx2⟩
          have hg2 := hx2.size
          have hd3 := hd2.mono (S' := fun b => wr.heap.size ≤ b) fun b hb _ => by rcases hb with hb | hb; exact hb.elim; exact hb
          have H2 := Lib.hid (hrow.out.step hlt (fun b hb => by omega) hx2 hd3 hwr)
          have hz2 : w2.frozen? ⟨g, k * 7 + 6, none⟩ = false := block_free (hx2.heap trivial hrow.out.row) _
          have hs2 : (w2.cell? ⟨g, k * 7 + 6, none⟩) = some kv := hx2.cell (p := ⟨g, k * 7 + 6, none⟩) trivial hc6
          have hx3 : Ext (fun _ => True) w (w2.setCell ⟨g, k * 7 + 6, none⟩ v2) := (hx.trans hx2).setCell _ _ (.inr hg)
          obtain ⟨A2, c2, hv2, _⟩ := hd2.form
          clear hd2 hd3 hc6 HK
          rw [hv2] at H2 hx3
          rw [hv2]
          clear hv2
          go_wp2_with fail
          go_roundg (gk - 1)
          case measure => omega
          case rel => exact ⟨k + 1, _, by go_num, by omega, by omega, H2, hx3⟩
        · go_wp2_with fail
          go_ret
          exact ⟨_, rfl, (hrow.out.done (by omega) hc hm).mono fun b hb _ => .inr hb, hx⟩
theorem nd_load {t : Tok} {kv : Value} {w : World} {b off : Nat} (hc : ∀ (j : Nat) (u : Value), (nvals t kv)[j]? = some u → w.cell? ⟨b, off + j, none⟩ = some u) :
    w.cell? ⟨b, off, none⟩ = some (.int .i64 t.kind) ∧ w.cell? ⟨b, off + 1, none⟩ = some (.string ⟨t.text.toArray⟩) ∧ w.cell? ⟨b, off + 2, none⟩ = some (.int .i64 t.num) ∧ w.cell? ⟨b, off + 3, none⟩ = some (.bool t.whole) ∧ w.cell? ⟨b, off + 4, none⟩ = some (.bool t.sign) ∧ w.cell? ⟨b, off + 5, none⟩ = some (.bool t.id) ∧ w.cell? ⟨b, off + 6, none⟩ = some kv :=
  ⟨hc 0 _ rfl, hc 1 _ rfl, hc 2 _ rfl, hc 3 _ rfl, hc 4 _ rfl, hc 5 _ rfl, hc 6 _ rfl⟩
set_option maxRecDepth 100000 in
set_option maxHeartbeats 2000000 in
theorem NTrim_any (l : List Nd) (v : Value) (w : World) (S : Nat → Prop) (hn : Nd.sizes l ≤ 16777216) (hv : Dat.At w S (nodesDat l) v) :
    Calls Tryd.prog 18 #[v] w (RetDat (fun _ => False) (nodesDat (Ref.trim l)) w) := by
  have hlen := Nd.len_le l
  obtain ⟨F, hF⟩ : ∃ F, F = Ref.trim l := ⟨_, rfl⟩
  have hFs : Nd.sizes F ≤ 16777216 := by rw [hF]; exact Nat.le_trans (Ref.trim_sizes l) hn
  rw [← hF]
  have HF := Lib.hid hF
  clear hF
  obtain ⟨A, c, rfl, hcl, hcm⟩ := hv.form
  rw [Nd.dats_len] at hv hcl
  rw [Nd.dats_len]
  unfold maxLen at hcm
  go_enter Tryd.func18, Tryd.ntmps18
  go_wp2_with fail
  go_loopg [0] (l.length + 1) (fun g s0 wr => ∃ (k : List Nd), Dat.At w S (nodesDat k) s0 ∧ Ext (fun _ => True) w wr ∧ k.length ≤ l.length ∧ k.length < g ∧ Hid (Ref.trimR ((Ref.trimL k).length + 1) (Ref.trimL k) = F))
  case atStart => exact ⟨l, hv, Ext.refl _ _, Nat.le_refl _, by omega, HF.out.symm⟩
  case round =>
    clear HF hv hcl hcm
    obtain ⟨k, hv, hx, hkl, hg, hrun⟩ := hrel
    obtain ⟨A, c, rfl, hcl, hcm⟩ := hv.form
    rw [Nd.dats_len] at hv hcl
    rw [Nd.dats_len]
    unfold maxLen at hcm
    obtain ⟨g, rfl⟩ : ∃ g, gk = g + 1 := ⟨gk - 1, by omega⟩
    cases k with
    | nil =>
      simp only [List.length_nil] at *
      go_wp2_with (first | (go_at_call 30; refine (NWhite_any T0 _ _).mono ?_; rintro e w1 ⟨rfl, hx1⟩))
      go_loopg [0] (([] : List Nd).length + 1) (fun g s0 wr => ∃ (m : List Nd), Dat.At w S (nodesDat m) s0 ∧ Ext (fun _ => True) w wr ∧ m.length ≤ l.length ∧ m.length < g ∧ Hid (Ref.trimR g m = F))
      case atStart => exact ⟨_, hv, by (repeat (with_reducible first | assumption | exact Ext.refl _ _ | apply Ext.alloc | refine Ext.trans ?_ (by assumption))), by first | exact hkl | simp, by simp, hrun⟩
      case round =>
        clear hv hcl hcm hkl hg hx
        obtain ⟨m, hv, hx, hml, hg, hrun⟩ := hrel
        obtain ⟨A, c, rfl, hcl, hcm⟩ := hv.form
        rw [Nd.dats_len] at hv hcl
        rw [Nd.dats_len]
        unfold maxLen at hcm
        obtain ⟨g', rfl⟩ : ∃ g', gk = g' + 1 := ⟨gk - 1, by omega⟩
        have e := hrun.out
        unfold Ref.trimR Ref.isWhite at e
        clear hrun
        by_cases h0 : 0 < m.length
        · have hvr := hv.ext (S' := S) hx fun _ h _ => ⟨trivial, h⟩
          obtain ⟨b, off, kv, rfl, hb, hSb, hkv, hc⟩ := nds_at hvr (i := m.length - 1) (by omega)
          obtain ⟨T0, hT⟩ : ∃ T0, T0 = (Ref.nd m (m.length - 1)).tok := ⟨_, rfl⟩
          rw [← hT] at hc e
          obtain ⟨hc0, hc1, hc2, hc3, hc4, hc5, hc6⟩ := nd_load hc
          clear hc hkv hvr
          have hvt := nds_take hv (m := m.length - 1) (by omega)
          by_cases hw : T0.kind = 13
          · rw [if_pos ⟨h0, by simp [hw]⟩] at e
            have hw' : decide (T0.kind = 13) = true := by simp [hw]
            have E := Lib.hid e
            clear e hT hw
            have hi : ((m.length : Int) - 1) = ((m.length - 1 : Nat) : Int) := by omega
            have hlt : (m.take (m.length - 1)).length = m.length - 1 := by simp
            generalize hN : m.length - 1 = N at *
            have hmN : m.length = N + 1 := by omega
            rw [hmN] at hv hcl hml hg ⊢
            clear hi
            go_wp2_with (first | (go_at_call 30; refine (NWhite_any T0 _ _).mono ?_; rintro e w1 ⟨rfl, hx1⟩))
            all_goals go_roundg g'
            all_goals first | (show g' < _; omega) | skip
            all_goals exact ⟨m.take N, hvt, by (repeat (with_reducible first | assumption | exact Ext.refl _ _ | apply Ext.alloc | refine Ext.trans ?_ (by assumption))), by omega, by omega, E⟩
          · rw [if_neg (by simp [hw])] at e
            have hw' : decide (T0.kind = 13) = false := by simp [hw]
            have HM := e
            clear hw hvt e hT
            obtain ⟨N, hmN⟩ : ∃ N, m.length = N + 1 := ⟨m.length - 1, by omega⟩
            have hN : m.length - 1 = N := by omega
            rw [hN] at hc0 hc1 hc2 hc3 hc4 hc5 hc6
            rw [hmN] at hv hcl hml hg ⊢
            subst HM
            have HMN := Lib.hid hmN
            clear hmN hN h0
            have hvr := hv.ext (S' := S) hx fun _ h _ => ⟨trivial, h⟩
            have hsz := hx.size
            clear hv
            go_wp2_with (first | (go_at_call 30; refine (NWhite_any T0 _ _).mono ?_; rintro e w1 ⟨rfl, hx1⟩))
            all_goals have hvq := hvr.ext (T := fun _ => True) (S' := S) (w' := w1) (by (repeat (with_reducible first | assumption | exact Ext.refl _ _ | apply Ext.alloc | refine Ext.trans ?_ (by assumption)))) fun _ h _ => ⟨trivial, h⟩
            all_goals refine (Copy_any _ m _ _ S (Nat.le_refl _) hFs hvq).mono ?_
            all_goals rintro e w2 ⟨v2, rfl, hd2, hx2⟩
            all_goals go_wp2_with fail
            all_goals go_ret
            all_goals exact ⟨_, rfl, hd2.mono fun b hb _ => by rcases hb with hb | hb; exact hb.elim; exact .inr (Nat.le_trans (Ext.size (by (repeat (with_reducible first | assumption | exact Ext.refl _ _ | apply Ext.alloc | refine Ext.trans ?_ (by assumption))))) hb), by (repeat (with_reducible first | assumption | exact Ext.refl _ _ | apply Ext.alloc | refine Ext.trans ?_ (by assumption)))⟩
        · rw [if_neg (by omega)] at e
          have HM := e
          clear e
          have hz : m.length = 0 := by omega
          rw [hz] at hv hcl hml hg ⊢
          subst HM
          clear hz h0
          have hvr := hv.ext (S' := S) hx fun _ h _ => ⟨trivial, h⟩
          have hsz := hx.size
          clear hv
          go_wp2_with (first | (go_at_call 30; refine (NWhite_any T0 _ _).mono ?_; rintro e w1 ⟨rfl, hx1⟩))
          all_goals have hvq := hvr.ext (T := fun _ => True) (S' := S) (w' := wr) (by (repeat (with_reducible first | assumption | exact Ext.refl _ _ | apply Ext.alloc | refine Ext.trans ?_ (by assumption)))) fun _ h _ => ⟨trivial, h⟩
          all_goals refine (Copy_any _ m _ _ S (Nat.le_refl _) hFs hvq).mono ?_
          all_goals rintro e w2 ⟨v2, rfl, hd2, hx2⟩
          all_goals go_wp2_with fail
          all_goals go_ret
          all_goals exact ⟨_, rfl, hd2.mono fun b hb _ => by rcases hb with hb | hb; exact hb.elim; exact .inr (Nat.le_trans (Ext.size (by (repeat (with_reducible first | assumption | exact Ext.refl _ _ | apply Ext.alloc | refine Ext.trans ?_ (by assumption))))) hb), by (repeat (with_reducible first | assumption | exact Ext.refl _ _ | apply Ext.alloc | refine Ext.trans ?_ (by assumption)))⟩
    | cons n0 k =>
      have hvr := hv.ext (S' := S) hx fun _ h _ => ⟨trivial, h⟩
      obtain ⟨b, off, kv, rfl, hb, hSb, hkv, hc⟩ := nds_at hvr (i := 0) (by simp)
      have hnd : Ref.nd (n0 :: k) 0 = n0 := rfl
      rw [hnd] at hc
      simp only [Nat.zero_mul, Nat.add_zero] at hc
      obtain ⟨T0, hT⟩ : ∃ T0, T0 = n0.tok := ⟨_, rfl⟩
      rw [← hT] at hc
      obtain ⟨hc0, hc1, hc2, hc3, hc4, hc5, hc6⟩ := nd_load hc
      clear hc
      have e := hrun.out
      unfold Ref.trimL Ref.isWhite at e
      by_cases hw : T0.kind = 13
      · rw [← hT] at e
        rw [if_pos (by simp [hw])] at e
        have hw' : decide (T0.kind = 13) = true := by simp [hw]
        have E := Lib.hid e
        have hd := fun off' => nds_drop hv off'
        clear hrun e hT hw
        simp only [List.length_cons] at *
        go_wp2_with (first | (go_at_call 30; refine (NWhite_any T0 _ _).mono ?_; rintro e w1 ⟨rfl, hx1⟩))
        all_goals go_roundg g
        all_goals first | (show g < _; omega) | skip
        all_goals first | exact ⟨k, hd _ (fun _ => by omega), by (repeat (with_reducible first | assumption | exact Ext.refl _ _ | apply Ext.alloc | refine Ext.trans ?_ (by assumption))), by omega, by omega, E⟩ | exact ⟨k, (by have := hd off (fun _ => by omega); rwa [show c - 1 = 0 by omega] at this), by (repeat (with_reducible first | assumption | exact Ext.refl _ _ | apply Ext.alloc | refine Ext.trans ?_ (by assumption))), by omega, by omega, E⟩
      · rw [← hT] at e
        rw [if_neg (by simp [hw])] at e
        have E := Lib.hid e
        clear e hrun
        have hw' : decide (T0.kind = 13) = false := by simp [hw]
        clear hw hT
        simp only [List.length_cons] at *
        go_wp2_with (first | (go_at_call 30; refine (NWhite_any T0 _ _).mono ?_; rintro e w1 ⟨rfl, hx1⟩))
        go_loopg [0] ((n0 :: k).length + 1) (fun g s0 wr => ∃ (m : List Nd), Dat.At w S (nodesDat m) s0 ∧ Ext (fun _ => True) w wr ∧ m.length ≤ l.length ∧ m.length < g ∧ Hid (Ref.trimR g m = F))
        case atStart => exact ⟨_, hv, by (repeat (with_reducible first | assumption | exact Ext.refl _ _ | apply Ext.alloc | refine Ext.trans ?_ (by assumption))), by first | exact hkl | simp, by simp, E⟩
        case round =>
          clear hv hcl hcm hkl hg hx
          obtain ⟨m, hv, hx, hml, hg, hrun⟩ := hrel
          obtain ⟨A, c, rfl, hcl, hcm⟩ := hv.form
          rw [Nd.dats_len] at hv hcl
          rw [Nd.dats_len]
          unfold maxLen at hcm
          obtain ⟨g', rfl⟩ : ∃ g', gk = g' + 1 := ⟨gk - 1, by omega⟩
          have e := hrun.out
          unfold Ref.trimR Ref.isWhite at e
          clear hrun
          by_cases h0 : 0 < m.length
          · have hvr := hv.ext (S' := S) hx fun _ h _ => ⟨trivial, h⟩
            obtain ⟨b, off, kv, rfl, hb, hSb, hkv, hc⟩ := nds_at hvr (i := m.length - 1) (by omega)
            obtain ⟨T0, hT⟩ : ∃ T0, T0 = (Ref.nd m (m.length - 1)).tok := ⟨_, rfl⟩
            rw [← hT] at hc e
            obtain ⟨hc0, hc1, hc2, hc3, hc4, hc5, hc6⟩ := nd_load hc
            clear hc hkv hvr
            have hvt := nds_take hv (m := m.length - 1) (by omega)
            by_cases hw : T0.kind = 13
            · rw [if_pos ⟨h0, by simp [hw]⟩] at e
              have hw' : decide (T0.kind = 13) = true := by simp [hw]
              have E := Lib.hid e
              clear e hT hw
              have hi : ((m.length : Int) - 1) = ((m.length - 1 : Nat) : Int) := by omega
              have hlt : (m.take (m.length - 1)).length = m.length - 1 := by simp
              generalize hN : m.length - 1 = N at *
              have hmN : m.length = N + 1 := by omega
              rw [hmN] at hv hcl hml hg ⊢
              clear hi
              go_wp2_with (first | (go_at_call 30; refine (NWhite_any T0 _ _).mono ?_; rintro e w1 ⟨rfl, hx1⟩))
              all_goals go_roundg g'
              all_goals first | (show g' < _; omega) | skip
              all_goals exact ⟨m.take N, hvt, by (repeat (with_reducible first | assumption | exact Ext.refl _ _ | apply Ext.alloc | refine Ext.trans ?_ (by assumption))), by omega, by omega, E⟩
            · rw [if_neg (by simp [hw])] at e
              have hw' : decide (T0.kind = 13) = false := by simp [hw]
              have HM := e
              clear hw hvt e hT
              obtain ⟨N, hmN⟩ : ∃ N, m.length = N + 1 := ⟨m.length - 1, by omega⟩
              have hN : m.length - 1 = N := by omega
              rw [hN] at hc0 hc1 hc2 hc3 hc4 hc5 hc6
              rw [hmN] at hv hcl hml hg ⊢
              subst HM
              have HMN := Lib.hid hmN
              clear hmN hN h0
              have hvr := hv.ext (S' := S) hx fun _ h _ => ⟨trivial, h⟩
              have hsz := hx.size
              clear hv
              go_wp2_with (first | (go_at_call 30; refine (NWhite_any T0 _ _).mono ?_; rintro e w1 ⟨rfl, hx1⟩))
              all_goals have hvq := hvr.ext (T := fun _ => True) (S' := S) (w' := w1) (by (repeat (with_reducible first | assumption | exact Ext.refl _ _ | apply Ext.alloc | refine Ext.trans ?_ (by assumption)))) fun _ h _ => ⟨trivial, h⟩
              all_goals refine (Copy_any _ m _ _ S (Nat.le_refl _) hFs hvq).mono ?_
              all_goals rintro e w2 ⟨v2, rfl, hd2, hx2⟩
              all_goals go_wp2_with fail
              all_goals go_ret
              all_goals exact ⟨_, rfl, hd2.mono fun b hb _ => by rcases hb with hb | hb; exact hb.elim; exact .inr (Nat.le_trans (Ext.size (by (repeat (with_reducible first | assumption | exact Ext.refl _ _ | apply Ext.alloc | refine Ext.trans ?_ (by assumption))))) hb), by (repeat (with_reducible first | assumption | exact Ext.refl _ _ | apply Ext.alloc | refine Ext.trans ?_ (by assumption)))⟩
          · rw [if_neg (by omega)] at e
            have HM := e
            clear e
            have hz : m.length = 0 := by omega
            rw [hz] at hv hcl hml hg ⊢
            subst HM
            clear hz h0
            have hvr := hv.ext (S' := S) hx fun _ h _ => ⟨trivial, h⟩
            have hsz := hx.size
            clear hv
            go_wp2_with (first | (go_at_call 30; refine (NWhite_any T0 _ _).mono ?_; rintro e w1 ⟨rfl, hx1⟩))
            all_goals have hvq := hvr.ext (T := fun _ => True) (S' := S) (w' := wr) (by (repeat (with_reducible first | assumption | exact Ext.refl _ _ | apply Ext.alloc | refine Ext.trans ?_ (by assumption)))) fun _ h _ => ⟨trivial, h⟩
            all_goals refine (Copy_any _ m _ _ S (Nat.le_refl _) hFs hvq).mono ?_
            all_goals rintro e w2 ⟨v2, rfl, hd2, hx2⟩
            all_goals go_wp2_with fail
            all_goals go_ret
            all_goals exact ⟨_, rfl, hd2.mono fun b hb _ => by rcases hb with hb | hb; exact hb.elim; exact .inr (Nat.le_trans (Ext.size (by (repeat (with_reducible first | assumption | exact Ext.refl _ _ | apply Ext.alloc | refine Ext.trans ?_ (by assumption))))) hb), by (repeat (with_reducible first | assumption | exact Ext.refl _ _ | apply Ext.alloc | refine Ext.trans ?_ (by assumption)))⟩
end Go.Proofs.YtihnffmnofinmaaDoor
