/- anb.Parse. -/
import Derived.Test.YtihnffmnofinmaaDoorAnbF
namespace Go.Proofs.YtihnffmnofinmaaDoor
open Go.RowKit
def anbRes : Option (Int × Int) → Value
  | some p => .tuple #[.int .i64 p.1, .int .i64 p.2, .int .i64 0]
  | none => .tuple #[.int .i64 0, .int .i64 0, .int .i64 2]
theorem lower_len (s : List UInt8) : (Ref.lower s).length = s.length := by simp [Ref.lower]
theorem first_len {l l1 : List Nd} {a : Int} {rest : List UInt8} (ho : Oks l) (h : Anb.first l = some (a, rest, l1)) : rest.length ≤ 4294967296 := by
  have hl : ∀ n ∈ l, (Ref.lower n.tok.text).length ≤ 4294967296 := fun n hn => by rw [lower_len]; exact (ho n hn).1
  have hd : ∀ (k : Nat) (n : Nd), n ∈ l → ((Ref.lower n.tok.text).drop k).length ≤ 4294967296 := fun k n hn => by
    have := hl n hn
    rw [List.length_drop]; omega
  unfold Anb.first at h
  split at h
  · cases h
  · rename_i n r
    split at h
    · split at h
      · cases h
      · rename_i m r2
        split at h
        · injection h with h; injection h with _ h; injection h with h _; rw [← h]; exact hd 1 m (by simp)
        · cases h
    · split at h
      · injection h with h; injection h with _ h; injection h with h _; rw [← h]; exact hd 1 n (by simp)
      · split at h
        · injection h with h; injection h with _ h; injection h with h _; rw [← h]; exact hd 1 n (by simp)
        · split at h
          · injection h with h; injection h with _ h; injection h with h _; rw [← h]; exact hd 2 n (by simp)
          · cases h
theorem trim_oks {l : List Nd} (h : Oks l) : Oks (Ref.trim l) := by
  have ht : ∀ (f : Nat) (l : List Nd), Oks l → Oks (Ref.trimR f l) := by
    intro f
    induction f with
    | zero => intro l h; exact h
    | succ f ih =>
      intro l h
      unfold Ref.trimR
      split
      · exact ih _ fun n hn => h n (List.mem_of_mem_take hn)
      · exact h
  exact ht _ _ (trimL_oks h)
theorem tail_none {m : List Nd} (h : Anb.first m = none) : Anb.tail m = none := Anb.tail_none h
set_option maxRecDepth 100000 in
set_option maxHeartbeats 2000000 in
theorem Parse_any (l : List Nd) (v : Value) (w : World) (S : Nat → Prop) (hn : Nd.sizes l ≤ 16777216) (ho : Oks l) (hv : Dat.At w S (nodesDat l) v) :
    Calls Tryd.prog 7 #[v] w (Ret (anbRes (Anb.parse l)) (Ext (fun _ => True) w)) := by
  obtain ⟨F, hF⟩ : ∃ F, F = Anb.parse l := ⟨_, rfl⟩
  rw [← hF]
  unfold Anb.parse at hF
  have htl : (Ref.trim l).length ≤ 16777216 := Nat.le_trans (Nd.len_le _) (Nat.le_trans (Ref.trim_sizes l) hn)
  have hto := trim_oks ho
  obtain ⟨m, hm⟩ : ∃ m, m = Ref.trim l := ⟨_, rfl⟩
  rw [← hm] at hF htl hto
  have HF := Lib.hid hF
  have HM := Lib.hid hm
  have HTO := Lib.hid hto
  clear hF hm hto
  go_enter Tryd.func7, Tryd.ntmps7
  go_wp2_with fail
  refine (NTrim_any l v _ S hn hv).mono ?_
  rintro e w1 ⟨v1, rfl, hd1, hx1⟩
  rw [← HM.out] at hd1
  obtain ⟨A, c, rfl, hcl, hcm⟩ := hd1.form
  rw [Nd.dats_len] at hcl hd1
  rw [Nd.dats_len]
  unfold maxLen at hcm
  have hrd : ARd (w1.alloc (.cells #[.slice A m.length c, .bool false] 44)) w1.heap.size m false :=
    ⟨HTO.out, htl, A, c, block_new _ _, (hd1.lt.alloc _).mono (S' := fun k => k ≠ w1.heap.size) fun k hk _ => by omega⟩
  have hx2 : Ext (fun _ => True) w (w1.alloc (.cells #[.slice A m.length c, .bool false] 44)) := hx1.alloc _
  have HRD := Lib.hid hrd
  have HD := Lib.hid ((hd1.alloc (.cells #[.slice A m.length c, .bool false] 44)).mono (S' := fun _ => True) fun _ _ _ => trivial)
  clear hrd hd1
  go_wp2_with fail
  go_loopg [20] (m.length + 1) (fun g s wr => ∃ k : Nat, s = .int .i64 k ∧ k ≤ m.length ∧ m.length < g + k ∧ Hid (ARd wr w1.heap.size m false) ∧ Hid (Dat.At wr (fun _ => True) (nodesDat m) (.slice A m.length c)) ∧ Ext (fun _ => True) w wr ∧ Hid (∀ i, i < k → Anb.odd (Ref.nd m i) = false))
  case atStart => exact ⟨0, rfl, Nat.zero_le _, by omega, HRD, HD, hx2, Lib.hid fun i hi => by omega⟩
  case round =>
    clear HRD HD hx2
    obtain ⟨k, rfl, hk, hg, HRD, HD, hx, hno⟩ := hrel
    by_cases hlt : k < m.length
    · obtain ⟨b, off, kv, rfl, hb, _, hkv, hc⟩ := nds_at HD.out hlt
      obtain ⟨KA, kc, rfl, hkl, hkm⟩ := hkv.form
      rw [Nd.dats_len] at hc hkl
      obtain ⟨hc0, hc1, hc2, hc3, hc4, hc5, hc6⟩ := nd_load hc
      have hodd : Anb.odd (Ref.nd m k) = true → F = none := fun h => by
        rw [HF.out, if_pos (List.any_eq_true.2 ⟨Ref.nd m k, by simp [Ref.nd, List.getD, List.getElem?_eq_getElem hlt], h⟩)]
      have hnext : Anb.odd (Ref.nd m k) = false → Hid (∀ i, i < k + 1 → Anb.odd (Ref.nd m i) = false) := fun h => Lib.hid fun i hi => by
        by_cases e : i = k
        · rw [e]; exact h
        · exact hno.out i (by omega)
      have hov : Anb.odd (Ref.nd m k) = (decide (0 < (Ref.nd m k).kids.length) || decide ((Ref.nd m k).tok.kind = 19) || decide ((Ref.nd m k).tok.kind = 2)) := by
        unfold Anb.odd
        cases (Ref.nd m k).kids <;> simp
      rw [hov] at hodd hnext
      have HODD := Lib.hid hodd
      have HNEXT := Lib.hid hnext
      clear hodd hnext hov hc hkv HF
      generalize (Ref.nd m k).tok = T0 at *
      generalize (Ref.nd m k).kids.length = KL at *
      by_cases h0 : 0 < KL
      · have e := HODD.out (by simp [h0])
        subst e
        clear HODD HNEXT
        go_wp2_with fail
        go_ret3
        exact ⟨rfl, hx.alloc _⟩
      · obtain rfl : KL = 0 := by omega
        by_cases h19 : T0.kind = 19
        · have e := HODD.out (by simp [h19])
          subst e
          clear HODD HNEXT
          rw [h19] at hc0
          go_wp2_with fail
          go_ret3
          exact ⟨rfl, hx.alloc _⟩
        · by_cases h2 : T0.kind = 2
          · have e := HODD.out (by simp [h2])
            subst e
            rw [h2] at hc0
            clear HODD HNEXT
            go_wp2_with fail
            go_ret3
            exact ⟨rfl, hx.alloc _⟩
          · have E := HNEXT.out (by simp [h19, h2])
            have h19' : (T0.kind == 19) = false := by simpa using h19
            have h2' : (T0.kind == 2) = false := by simpa using h2
            clear HODD HNEXT h19 h2
            go_wp2_with fail
            go_roundg (gk - 1)
            case measure => omega
            case rel => exact ⟨k + 1, by go_num, by omega, by omega, Lib.hid (HRD.out.ext ((Ext.refl _ _).alloc _)), Lib.hid (HD.out.alloc _), hx.alloc _, E⟩
    · have hno2 : m.any Anb.odd = false := by
        rw [List.any_eq_false]
        intro n hn
        obtain ⟨i, hi, rfl⟩ := List.mem_iff_getElem.1 hn
        have := hno.out i (by omega)
        simpa [Ref.nd, List.getD, List.getElem?_eq_getElem hi] using this
      have hF := HF.out
      rw [hno2, if_neg (by simp)] at hF
      have HF := Lib.hid hF
      have hxs := hx1.size
      clear hno hno2 HD hF hcl
      go_wp2_with fail
      refine (see_any _ m false _ HRD.out).mono ?_
      rintro e w2 ⟨rfl, hxs2⟩
      have H2 := Lib.hid (HRD.out.ext hxs2)
      have hx2 := hx.trans hxs2
      clear hxs2 HRD hx
      match m, HF, H2 with
      | [], HF, H2 =>
        have hF : F = Anb.tail [] := by rw [HF.out]; rfl
        have HT := Lib.hid hF
        clear hF
        obtain ⟨A2, c2, k20, k21, k2z⟩ := H2.out.cells
        go_wp2_with fail
        refine (first_any _ _ _ H2.out).mono ?_
        cases hf : Anb.first ([] : List Nd) with
        | none =>
          have e := HT.out
          rw [tail_none hf] at e
          subst e
          rintro e w3 ⟨l', rfl, h3, hx3⟩
          obtain ⟨A3, c3, k30, k31, k3z⟩ := h3.cells
          have hxx : Ext (fun _ => True) w w3 := hx2.trans' (T := fun k => k ≠ w1.heap.size) hx3 fun k _ hl => by omega
          go_wp2_with fail
          go_ret3
          exact ⟨rfl, hxx⟩
        | some p =>
          obtain ⟨a, rest, l1⟩ := p
          have e := HT.out
          rw [Anb.tail_some hf] at e
          have HT2 := Lib.hid e
          have hrl := first_len H2.out.oks hf
          rintro e w3 ⟨rfl, h3, hx3⟩
          obtain ⟨A3, c3, k30, k31, k3z⟩ := h3.cells
          have H3 := Lib.hid h3
          clear h3 HT HF e
          go_wp2_with fail
          refine (second_any _ rest l1 _ H3.out (by omega)).mono ?_
          cases hs : Anb.second rest l1 with
          | none =>
            have e := HT2.out
            rw [hs] at e
            obtain rfl : F = none := e
            rintro e w4 ⟨v4, l', rfl, h4, hx4⟩
            obtain ⟨A4, c4, k40, k41, k4z⟩ := h4.cells
            have hxx : Ext (fun _ => True) w w4 := hx2.trans' (T := fun k => k ≠ w1.heap.size) (hx3.trans hx4) fun k _ hl => by omega
            go_wp2_with fail
            go_ret3
            exact ⟨rfl, hxx⟩
          | some p2 =>
            obtain ⟨b, l2⟩ := p2
            have e := HT2.out
            rw [hs] at e
            unfold Anb.fin at e
            dsimp only at e
            rintro e2 w4 ⟨rfl, h4, hx4⟩
            obtain ⟨A4, c4, k40, k41, k4z⟩ := h4.cells
            have hxx : Ext (fun _ => True) w w4 := hx2.trans' (T := fun k => k ≠ w1.heap.size) (hx3.trans hx4) fun k _ hl => by omega
            clear HT2
            cases l2 with
            | nil =>
              rw [if_pos rfl] at e
              subst e
              go_wp2_with fail
              go_ret3
              exact ⟨rfl, hxx⟩
            | cons n3 l3 =>
              rw [if_neg (by simp)] at e
              subst e
              go_wp2_with fail
              go_ret3
              exact ⟨rfl, hxx⟩
      | n :: n2 :: r, HF, H2 =>
        have hF : F = Anb.tail (n :: n2 :: r) := by rw [HF.out]; unfold Anb.whole; rw [if_neg (by simp), if_neg (by simp), if_neg (by simp)]
        have HT := Lib.hid hF
        have hse : Anb.see (n :: n2 :: r) = (n.tok.kind, Ref.lower n.tok.text) := rfl
        rw [hse]
        clear hF hse
        have h1 : ((r.length : Int) + 1 + 1 == 1) = false := by simp; omega
        obtain ⟨A2, c2, k20, k21, k2z⟩ := H2.out.cells
        go_wp2_with fail
        refine (first_any _ _ _ H2.out).mono ?_
        cases hf : Anb.first (n :: n2 :: r) with
        | none =>
          have e := HT.out
          rw [tail_none hf] at e
          subst e
          rintro e w3 ⟨l', rfl, h3, hx3⟩
          obtain ⟨A3, c3, k30, k31, k3z⟩ := h3.cells
          have hxx : Ext (fun _ => True) w w3 := hx2.trans' (T := fun k => k ≠ w1.heap.size) hx3 fun k _ hl => by omega
          go_wp2_with fail
          go_ret3
          exact ⟨rfl, hxx⟩
        | some p =>
          obtain ⟨a, rest, l1⟩ := p
          have e := HT.out
          rw [Anb.tail_some hf] at e
          have HT2 := Lib.hid e
          have hrl := first_len H2.out.oks hf
          rintro e w3 ⟨rfl, h3, hx3⟩
          obtain ⟨A3, c3, k30, k31, k3z⟩ := h3.cells
          have H3 := Lib.hid h3
          clear h3 HT HF e
          go_wp2_with fail
          refine (second_any _ rest l1 _ H3.out (by omega)).mono ?_
          cases hs : Anb.second rest l1 with
          | none =>
            have e := HT2.out
            rw [hs] at e
            obtain rfl : F = none := e
            rintro e w4 ⟨v4, l', rfl, h4, hx4⟩
            obtain ⟨A4, c4, k40, k41, k4z⟩ := h4.cells
            have hxx : Ext (fun _ => True) w w4 := hx2.trans' (T := fun k => k ≠ w1.heap.size) (hx3.trans hx4) fun k _ hl => by omega
            go_wp2_with fail
            go_ret3
            exact ⟨rfl, hxx⟩
          | some p2 =>
            obtain ⟨b, l2⟩ := p2
            have e := HT2.out
            rw [hs] at e
            unfold Anb.fin at e
            dsimp only at e
            rintro e2 w4 ⟨rfl, h4, hx4⟩
            obtain ⟨A4, c4, k40, k41, k4z⟩ := h4.cells
            have hxx : Ext (fun _ => True) w w4 := hx2.trans' (T := fun k => k ≠ w1.heap.size) (hx3.trans hx4) fun k _ hl => by omega
            clear HT2
            cases l2 with
            | nil =>
              rw [if_pos rfl] at e
              subst e
              go_wp2_with fail
              go_ret3
              exact ⟨rfl, hxx⟩
            | cons n3 l3 =>
              rw [if_neg (by simp)] at e
              subst e
              go_wp2_with fail
              go_ret3
              exact ⟨rfl, hxx⟩
      | [n], HF, H2 =>
        have hse : Anb.see [n] = (n.tok.kind, Ref.lower n.tok.text) := rfl
        have hF := HF.out
        unfold Anb.whole at hF
        rw [hse] at hF ⊢
        clear hse
        simp only [List.length_cons, List.length_nil, true_and, Nat.zero_add] at hF
        rw [show Ref.nd [n] 0 = n from rfl] at hF
        clear HTO HM HF hk hg htl hlt
        obtain ⟨K, hK⟩ : ∃ K, K = n.tok.kind := ⟨_, rfl⟩
        obtain ⟨U, hU⟩ : ∃ U, U = Ref.lower n.tok.text := ⟨_, rfl⟩
        rw [← hK, ← hU] at hF ⊢
        clear hK hU
        dsimp only
        by_cases ho1 : K = 1 ∧ U = [111, 100, 100]
        · rw [if_pos ho1] at hF
          obtain ⟨rfl, rfl⟩ := ho1
          subst hF
          obtain ⟨A2, c2, k20, k21, k2z⟩ := H2.out.cells
          go_wp2_with fail
          go_ret3
          exact ⟨rfl, hx2⟩
        rw [if_neg ho1] at hF
        by_cases ho2 : K = 1 ∧ U = [101, 118, 101, 110]
        · rw [if_pos ho2] at hF
          obtain ⟨rfl, rfl⟩ := ho2
          subst hF
          obtain ⟨A2, c2, k20, k21, k2z⟩ := H2.out.cells
          go_wp2_with fail
          go_ret3
          exact ⟨rfl, hx2⟩
        rw [if_neg ho2] at hF
        by_cases h10 : K = 10 ∧ n.tok.whole = true
        · rw [if_pos h10] at hF
          obtain ⟨rfl, hwh⟩ := h10
          subst hF
          have HWH := Lib.hid hwh
          clear hwh ho1 ho2
          obtain ⟨b, off, c, kv, k0, k1, z0, z1, hc, hm, ⟨c0, c1, c2, c3, c4, c5, c6⟩, hbX, hbl, hd⟩ := H2.out.open1
          rw [HWH.out] at c3
          go_wp2_with (go_quiet (fail))
          go_ret3
          exact ⟨rfl, hx2.more _⟩
        rw [if_neg h10] at hF
        have HT := Lib.hid hF
        have HF := HT
        have hK1 : (K == 1) = false ∨ (K = 1 ∧ (U == [111, 100, 100]) = false ∧ (U == [101, 118, 101, 110]) = false) := by
          by_cases hk : K = 1
          · exact .inr ⟨hk, by simpa [hk] using ho1, by simpa [hk] using ho2⟩
          · exact .inl (by simpa using hk)
        have hK10 : (K == 10) = false ∨ (K = 10 ∧ Hid (n.tok.whole = false)) := by
          by_cases hk : K = 10
          · exact .inr ⟨hk, Lib.hid (by simpa [hk] using h10)⟩
          · exact .inl (by simpa using hk)
        clear hF ho1 ho2 h10
        rcases hK1 with hK1 | ⟨rfl, hK1, hK2⟩
        · rcases hK10 with hK10 | ⟨rfl, hwh⟩
          · obtain ⟨A2, c2, k20, k21, k2z⟩ := H2.out.cells
            go_wp2_with fail
            refine (first_any _ _ _ H2.out).mono ?_
            cases hf : Anb.first [n] with
            | none =>
              have e := HT.out
              rw [tail_none hf] at e
              subst e
              rintro e w3 ⟨l', rfl, h3, hx3⟩
              obtain ⟨A3, c3, k30, k31, k3z⟩ := h3.cells
              have hxx : Ext (fun _ => True) w w3 := hx2.trans' (T := fun k => k ≠ w1.heap.size) hx3 fun k _ hl => by omega
              go_wp2_with fail
              go_ret3
              exact ⟨rfl, hxx⟩
            | some p =>
              obtain ⟨a, rest, l1⟩ := p
              have e := HT.out
              rw [Anb.tail_some hf] at e
              have HT2 := Lib.hid e
              have hrl := first_len H2.out.oks hf
              rintro e w3 ⟨rfl, h3, hx3⟩
              obtain ⟨A3, c3, k30, k31, k3z⟩ := h3.cells
              have H3 := Lib.hid h3
              clear h3 HT HF e
              go_wp2_with fail
              refine (second_any _ rest l1 _ H3.out (by omega)).mono ?_
              cases hs : Anb.second rest l1 with
              | none =>
                have e := HT2.out
                rw [hs] at e
                obtain rfl : F = none := e
                rintro e w4 ⟨v4, l', rfl, h4, hx4⟩
                obtain ⟨A4, c4, k40, k41, k4z⟩ := h4.cells
                have hxx : Ext (fun _ => True) w w4 := hx2.trans' (T := fun k => k ≠ w1.heap.size) (hx3.trans hx4) fun k _ hl => by omega
                go_wp2_with fail
                go_ret3
                exact ⟨rfl, hxx⟩
              | some p2 =>
                obtain ⟨b, l2⟩ := p2
                have e := HT2.out
                rw [hs] at e
                unfold Anb.fin at e
                dsimp only at e
                rintro e2 w4 ⟨rfl, h4, hx4⟩
                obtain ⟨A4, c4, k40, k41, k4z⟩ := h4.cells
                have hxx : Ext (fun _ => True) w w4 := hx2.trans' (T := fun k => k ≠ w1.heap.size) (hx3.trans hx4) fun k _ hl => by omega
                clear HT2
                cases l2 with
                | nil =>
                  rw [if_pos rfl] at e
                  subst e
                  go_wp2_with fail
                  go_ret3
                  exact ⟨rfl, hxx⟩
                | cons n3 l3 =>
                  rw [if_neg (by simp)] at e
                  subst e
                  go_wp2_with fail
                  go_ret3
                  exact ⟨rfl, hxx⟩
          · obtain ⟨b, off, c, kv, k0, k1, z0, z1, hc, hm, ⟨c0, c1, c2, c3, c4, c5, c6⟩, hbX, hbl, hd⟩ := H2.out.open1
            rw [hwh.out] at c3
            obtain ⟨A2, c2, k20, k21, k2z⟩ := H2.out.cells
            go_wp2_with fail
            refine (first_any _ _ _ H2.out).mono ?_
            cases hf : Anb.first [n] with
            | none =>
              have e := HT.out
              rw [tail_none hf] at e
              subst e
              rintro e w3 ⟨l', rfl, h3, hx3⟩
              obtain ⟨A3, c3, k30, k31, k3z⟩ := h3.cells
              have hxx : Ext (fun _ => True) w w3 := hx2.trans' (T := fun k => k ≠ w1.heap.size) hx3 fun k _ hl => by omega
              go_wp2_with fail
              go_ret3
              exact ⟨rfl, hxx⟩
            | some p =>
              obtain ⟨a, rest, l1⟩ := p
              have e := HT.out
              rw [Anb.tail_some hf] at e
              have HT2 := Lib.hid e
              have hrl := first_len H2.out.oks hf
              rintro e w3 ⟨rfl, h3, hx3⟩
              obtain ⟨A3, c3, k30, k31, k3z⟩ := h3.cells
              have H3 := Lib.hid h3
              clear h3 HT HF e
              go_wp2_with fail
              refine (second_any _ rest l1 _ H3.out (by omega)).mono ?_
              cases hs : Anb.second rest l1 with
              | none =>
                have e := HT2.out
                rw [hs] at e
                obtain rfl : F = none := e
                rintro e w4 ⟨v4, l', rfl, h4, hx4⟩
                obtain ⟨A4, c4, k40, k41, k4z⟩ := h4.cells
                have hxx : Ext (fun _ => True) w w4 := hx2.trans' (T := fun k => k ≠ w1.heap.size) (hx3.trans hx4) fun k _ hl => by omega
                go_wp2_with fail
                go_ret3
                exact ⟨rfl, hxx⟩
              | some p2 =>
                obtain ⟨b, l2⟩ := p2
                have e := HT2.out
                rw [hs] at e
                unfold Anb.fin at e
                dsimp only at e
                rintro e2 w4 ⟨rfl, h4, hx4⟩
                obtain ⟨A4, c4, k40, k41, k4z⟩ := h4.cells
                have hxx : Ext (fun _ => True) w w4 := hx2.trans' (T := fun k => k ≠ w1.heap.size) (hx3.trans hx4) fun k _ hl => by omega
                clear HT2
                cases l2 with
                | nil =>
                  rw [if_pos rfl] at e
                  subst e
                  go_wp2_with fail
                  go_ret3
                  exact ⟨rfl, hxx⟩
                | cons n3 l3 =>
                  rw [if_neg (by simp)] at e
                  subst e
                  go_wp2_with fail
                  go_ret3
                  exact ⟨rfl, hxx⟩
        · clear hK10
          obtain ⟨A2, c2, k20, k21, k2z⟩ := H2.out.cells
          go_wp2_with fail
          refine (first_any _ _ _ H2.out).mono ?_
          cases hf : Anb.first [n] with
          | none =>
            have e := HT.out
            rw [tail_none hf] at e
            subst e
            rintro e w3 ⟨l', rfl, h3, hx3⟩
            obtain ⟨A3, c3, k30, k31, k3z⟩ := h3.cells
            have hxx : Ext (fun _ => True) w w3 := hx2.trans' (T := fun k => k ≠ w1.heap.size) hx3 fun k _ hl => by omega
            go_wp2_with fail
            go_ret3
            exact ⟨rfl, hxx⟩
          | some p =>
            obtain ⟨a, rest, l1⟩ := p
            have e := HT.out
            rw [Anb.tail_some hf] at e
            have HT2 := Lib.hid e
            have hrl := first_len H2.out.oks hf
            rintro e w3 ⟨rfl, h3, hx3⟩
            obtain ⟨A3, c3, k30, k31, k3z⟩ := h3.cells
            have H3 := Lib.hid h3
            clear h3 HT HF e
            go_wp2_with fail
            refine (second_any _ rest l1 _ H3.out (by omega)).mono ?_
            cases hs : Anb.second rest l1 with
            | none =>
              have e := HT2.out
              rw [hs] at e
              obtain rfl : F = none := e
              rintro e w4 ⟨v4, l', rfl, h4, hx4⟩
              obtain ⟨A4, c4, k40, k41, k4z⟩ := h4.cells
              have hxx : Ext (fun _ => True) w w4 := hx2.trans' (T := fun k => k ≠ w1.heap.size) (hx3.trans hx4) fun k _ hl => by omega
              go_wp2_with fail
              go_ret3
              exact ⟨rfl, hxx⟩
            | some p2 =>
              obtain ⟨b, l2⟩ := p2
              have e := HT2.out
              rw [hs] at e
              unfold Anb.fin at e
              dsimp only at e
              rintro e2 w4 ⟨rfl, h4, hx4⟩
              obtain ⟨A4, c4, k40, k41, k4z⟩ := h4.cells
              have hxx : Ext (fun _ => True) w w4 := hx2.trans' (T := fun k => k ≠ w1.heap.size) (hx3.trans hx4) fun k _ hl => by omega
              clear HT2
              cases l2 with
              | nil =>
                rw [if_pos rfl] at e
                subst e
                go_wp2_with fail
                go_ret3
                exact ⟨rfl, hxx⟩
              | cons n3 l3 =>
                rw [if_neg (by simp)] at e
                subst e
                go_wp2_with fail
                go_ret3
                exact ⟨rfl, hxx⟩
end Go.Proofs.YtihnffmnofinmaaDoor
