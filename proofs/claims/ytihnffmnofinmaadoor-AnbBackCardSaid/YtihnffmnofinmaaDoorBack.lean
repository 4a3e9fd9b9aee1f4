/- What was written is read as it was; nowhere else. Plain. -/
import Derived.Test.YtihnffmnofinmaaDoorCuts
namespace Go.Proofs.YtihnffmnofinmaaDoor
namespace Ref
theorem back {t : List UInt8} {l : List Tok} {p : Option (Int × Int)} (hp : Plain t) (hc : Cuts t l) (hl : ∀ x ∈ l, closes x = []) (he : anb (l.map (Nd.mk · [])) = p) : Anb.parse (nodesOf t) = p := by
  rw [Anb.parse_eq, nodesOf_cuts hp hc hl, he]
def sOf (n : Int) : Nat := if n < 0 then 2 else 0
theorem sOf_le (n : Int) : sOf n ≤ 2 := by unfold sOf; split <;> omega
/-- A number of 32 binary digits. -/
def I32 (n : Int) : Prop := -2147483648 ≤ n ∧ n ≤ 2147483647
theorem I32.le {n : Int} (h : I32 n) : n.natAbs ≤ 2147483648 := by have := h.1; have := h.2; omega
theorem I32.lt {n : Int} (h : I32 n) : sOf n ≠ 2 → n.natAbs ≤ 2147483647 := by
  have := h.1; have := h.2
  unfold sOf; split <;> intro <;> omega
theorem plain_dec (u : Nat) : Plain (Lib.decDigits u) := fun c hc => by
  have := dec_dig u c hc
  have h2 : 48 ≤ c.toNat ∧ c.toNat ≤ 57 := by simpa [isDig] using this
  omega
theorem plain_app {a b : List UInt8} (ha : Plain a) (hb : Plain b) : Plain (a ++ b) := fun c hc => (List.mem_append.1 hc).elim (ha c) (hb c)
theorem plain_cons {c : UInt8} {b : List UInt8} (hc : 32 ≤ c.toNat ∧ c.toNat < 127) (hb : Plain b) : Plain (c :: b) := fun x hx => by
  cases hx with
  | head => exact hc
  | tail _ hx => exact hb x hx
theorem plain_nil : Plain [] := fun _ h => by cases h
theorem plain_itoa (n : Int) : Plain (Lib.itoa n) := by
  rw [itoa_mark]
  refine plain_app ?_ (plain_dec _)
  split
  · exact plain_cons (by decide) plain_nil
  · exact plain_nil
def sg (b : Int) : UInt8 := if b < 0 then 45 else 43
theorem sg_or (b : Int) : sg b = 43 ∨ sg b = 45 := by unfold sg; split; exact .inr rfl; exact .inl rfl
def ms (b : Int) : Nat := if b < 0 then 2 else 1
theorem ms_mark (b : Int) : mark (ms b) = [sg b] := by unfold ms sg; split <;> rfl
theorem ms_val {b : Int} : val (ms b) b.natAbs = b := by unfold val ms; split <;> simp <;> omega
theorem ms_le (b : Int) : ms b ≤ 2 := by unfold ms; split <;> omega
theorem I32.ms {b : Int} (h : I32 b) : Ref.ms b ≠ 2 → b.natAbs ≤ 2147483647 := by
  have := h.1; have := h.2
  unfold Ref.ms; split <;> intro <;> omega
/-- Digits that stand alone: of |b|. -/
theorem abs_le {b : Int} (h : -2147483648 < b ∧ b ≤ 2147483647) : b.natAbs ≤ 2147483647 := by omega
theorem nameB (c : UInt8) (h : isNameB c = true) (h2 : c.toNat < 128) : ∀ x ∈ [c], isNameB x = true ∧ x.toNat < 128 := fun x hx => by rw [List.mem_singleton.1 hx]; exact ⟨h, h2⟩
theorem name_n : ∀ x ∈ ([110] : List UInt8), isNameB x = true ∧ x.toNat < 128 := nameB 110 (by decide) (by decide)
theorem name_N : ∀ x ∈ ([78] : List UInt8), isNameB x = true ∧ x.toNat < 128 := nameB 78 (by decide) (by decide)
theorem name_nd (u : Nat) : ∀ x ∈ (110 :: 45 :: Lib.decDigits u : List UInt8), isNameB x = true ∧ x.toNat < 128 := fun x hx => by
  rcases List.mem_cons.1 hx with rfl | hx
  · exact ⟨by decide, by decide⟩
  · rcases List.mem_cons.1 hx with rfl | hx
    · exact ⟨by decide, by decide⟩
    · exact dec_names u x hx
theorem name_nm : ∀ x ∈ ([110, 45] : List UInt8), isNameB x = true ∧ x.toNat < 128 := fun x hx => by
  rcases List.mem_cons.1 hx with rfl | hx
  · exact ⟨by decide, by decide⟩
  · exact nameB 45 (by decide) (by decide) x hx
theorem closes_of {t : Tok} (h2 : t.kind ≠ 2) (h19 : t.kind ≠ 19) : closes t = [] := by
  unfold closes; rw [if_neg (by simp [h2, h19]), if_neg (by simp [h19]), if_neg (by simp [h19])]
theorem lower_dec (u : Nat) : lower (Lib.decDigits u) = Lib.decDigits u := by
  unfold lower
  conv => rhs; rw [← List.map_id (Lib.decDigits u)]
  apply List.map_congr_left
  intro c hc
  have := dec_dig u c hc
  have h2 : 48 ≤ c.toNat ∧ c.toNat ≤ 57 := by simpa [isDig] using this
  unfold lowB; rw [if_neg (by omega)]; rfl
variable {a b : Int}
theorem dim_tail (s u : Nat) (w : List UInt8) (rest : List Nd) (hno : trim (Nd.mk (dimT s u w) [] :: rest) = Nd.mk (dimT s u w) [] :: rest) (hk : rest.any (fun n => !n.kids.isEmpty) = false) :
    anb (Nd.mk (dimT s u w) [] :: rest) = anbTail (val s u) (lower w) rest := by
  unfold anb
  rw [hno, List.any_cons, hk]
  show anbHead (Nd.mk (dimT s u w) []) rest = _
  unfold anbHead
  rw [if_neg (fun e => absurd (show (12 : Int) = 1 from e.2.1) (by decide)), if_neg (fun e => absurd (show (12 : Int) = 1 from e.2.1) (by decide)), if_neg (fun e => absurd (show (12 : Int) = 10 from e.2.1) (by decide)), if_pos ⟨rfl, rfl⟩]
  rfl
/-- One number alone. -/
theorem back0 (hb : I32 b) : Anb.parse (nodesOf (Lib.itoa b)) = some (0, b) := by
  refine back (l := [numT (sOf b) b.natAbs]) (plain_itoa b) ?_ ?_ ?_
  · have := cuts_num (sOf_le b) hb.le hb.lt (t := []) (.inl rfl) cuts_nil
    rw [List.append_nil] at this
    rw [itoa_mark]; exact this
  · intro x hx; rw [List.mem_singleton.1 hx]; rfl
  · show some (0, val (sOf b) b.natAbs) = _
    rw [show val (sOf b) b.natAbs = b from val_eq b]
theorem back1 (ha : I32 a) : Anb.parse (nodesOf (Lib.itoa a ++ [110])) = some (a, 0) := by
  refine back (l := [dimT (sOf a) a.natAbs [110]]) (plain_app (plain_itoa a) (plain_cons (by decide) plain_nil)) ?_ ?_ ?_
  · have := cuts_dim (sOf_le a) ha.le ha.lt (c := 110) (.inl rfl) (w := []) (t := []) name_n (.inl rfl) cuts_nil
    rw [List.append_nil] at this
    rw [itoa_mark]; exact this
  · intro x hx; rw [List.mem_singleton.1 hx]; rfl
  · show some (val (sOf a) a.natAbs, 0) = _
    rw [show val (sOf a) a.natAbs = a from val_eq a]
theorem back3 (ha : I32 a) (hb : I32 b) (h0 : 0 < b) : Anb.parse (nodesOf (Lib.itoa a ++ [110, 43] ++ Lib.itoa b)) = some (a, b) := by
  have e : Lib.itoa a ++ [110, 43] ++ Lib.itoa b = mark (sOf a) ++ Lib.decDigits a.natAbs ++ ([110] ++ (mark 1 ++ Lib.decDigits b.natAbs ++ [])) := by
    rw [itoa_mark a, itoa_mark b, if_neg (show ¬ b < 0 by omega)]; simp [mark, sOf]
  refine back (l := [dimT (sOf a) a.natAbs [110], numT 1 b.natAbs]) ?_ ?_ (by intro x hx; simp at hx; rcases hx with rfl | rfl <;> rfl) ?_
  · exact plain_app (plain_app (plain_itoa a) (plain_cons (by decide) (plain_cons (by decide) plain_nil))) (plain_itoa b)
  · rw [e]
    exact cuts_dim (sOf_le a) ha.le ha.lt (.inl rfl) (w := []) name_n (.inr (.inr rfl)) (cuts_num (by omega) hb.le (fun _ => by have := hb.2; omega) (.inl rfl) cuts_nil)
  · show some (val (sOf a) a.natAbs, val 1 b.natAbs) = _
    rw [show val (sOf a) a.natAbs = a from val_eq a, show val 1 b.natAbs = b by unfold val; rw [if_neg (by decide)]; omega]
theorem back2 (ha : I32 a) (hb : I32 b) (h0 : b < 0) : Anb.parse (nodesOf (Lib.itoa a ++ [110] ++ Lib.itoa b)) = some (a, b) := by
  have e : Lib.itoa a ++ [110] ++ Lib.itoa b = mark (sOf a) ++ Lib.decDigits a.natAbs ++ ((110 :: 45 :: Lib.decDigits b.natAbs) ++ []) := by
    rw [itoa_mark a, itoa_mark b, if_pos h0]; simp [mark, sOf]
  refine back (l := [dimT (sOf a) a.natAbs (110 :: 45 :: Lib.decDigits b.natAbs)]) (plain_app (plain_app (plain_itoa a) (plain_cons (by decide) plain_nil)) (plain_itoa b)) ?_ ?_ ?_
  · rw [e]
    exact cuts_dim (sOf_le a) ha.le ha.lt (.inl rfl) (name_nd _) (.inl rfl) cuts_nil
  · intro x hx; rw [List.mem_singleton.1 hx]; rfl
  · show anb (Nd.mk (dimT (sOf a) a.natAbs (110 :: 45 :: Lib.decDigits b.natAbs)) [] :: []) = _
    rw [dim_tail _ _ _ _ rfl rfl]
    rw [show lower (110 :: 45 :: Lib.decDigits b.natAbs) = 110 :: 45 :: Lib.decDigits b.natAbs by
      show lowB 110 :: lowB 45 :: lower (Lib.decDigits b.natAbs) = _
      rw [lower_dec]; rfl]
    rw [Anb.anbTail_n, if_neg (by simp), if_neg (by simp [dec_ne])]
    rw [if_pos ⟨rfl, rfl, List.all_eq_true.2 (dec_dig b.natAbs)⟩]
    rw [show val (sOf a) a.natAbs = a from val_eq a]
    have := int_dec 2 b.natAbs (by omega) hb.le (fun h => absurd rfl h)
    rw [show (45 :: Lib.decDigits b.natAbs) = mark 2 ++ Lib.decDigits b.natAbs from rfl, this, if_pos rfl]
    congr 2; omega
/-- |b|'s digits, alone at the end. -/
theorem cuts_abs (hb : I32 b) (hb2 : -2147483648 < b) : Cuts (Lib.decDigits b.natAbs) [numT 0 b.natAbs] := by
  have := cuts_num (s := 0) (by omega) hb.le (fun _ => by have := hb.2; omega) (t := []) (.inl rfl) cuts_nil
  rw [List.append_nil] at this
  exact this
/-- .. with b's sign ahead. -/
theorem cuts_ms (hb : I32 b) : Cuts (sg b :: Lib.decDigits b.natAbs) [numT (ms b) b.natAbs] := by
  have := cuts_num (ms_le b) hb.le hb.ms (t := []) (.inl rfl) cuts_nil
  rw [List.append_nil, ms_mark] at this
  exact this
theorem first_dec (u : Nat) : white (first (Lib.decDigits u)) = false := by
  obtain ⟨c, D, h, hc⟩ := dec_cons u
  have h2 : 48 ≤ c.toNat ∧ c.toNat ≤ 57 := by simpa [isDig] using hc
  rw [h]
  show white (c.toNat : Int) = false
  simp [white]; omega
theorem first_sg (b : Int) (t : List UInt8) : white (first (sg b :: t)) = false := by
  show white ((sg b).toNat : Int) = false
  rcases sg_or b with h | h <;> rw [h] <;> decide
theorem plain_sg (b : Int) {t : List UInt8} (h : Plain t) : Plain (sg b :: t) := plain_cons (by rcases sg_or b with h | h <;> rw [h] <;> decide) h
theorem plain_sp {t : List UInt8} (h : Plain t) : Plain (32 :: t) := plain_cons (by decide) h
theorem plain_n {t : List UInt8} (h : Plain t) : Plain (110 :: t) := plain_cons (by decide) h
theorem k0 (ha : I32 a) (hb : I32 b) (hb2 : -2147483648 < b) : Anb.parse (nodesOf (Lib.itoa a ++ (110 :: 32 :: sg b :: 32 :: Lib.decDigits b.natAbs))) = some (a, b) := by
  refine back (l := [dimT (sOf a) a.natAbs [110], blankT, signT (sg b), blankT, numT 0 b.natAbs]) (plain_app (plain_itoa a) (plain_n (plain_sp (plain_sg b (plain_sp (plain_dec _)))))) ?_ (by intro x hx; simp at hx; (repeat' (rcases hx with rfl | hx)); all_goals (try subst hx); all_goals rfl) ?_
  · rw [itoa_mark a]; show Cuts (mark (sOf a) ++ Lib.decDigits a.natAbs ++ _) _
    exact cuts_dim (sOf_le a) ha.le ha.lt (.inl rfl) (w := []) name_n (.inr (.inl rfl)) (cuts_blank (first_sg b _) (cuts_sign (sg_or b) (cuts_blank (first_dec _) (cuts_abs hb hb2))))
  · show anb (Nd.mk (dimT (sOf a) a.natAbs [110]) [] :: [Nd.mk blankT [], Nd.mk (signT (sg b)) [], Nd.mk blankT [], Nd.mk (numT 0 b.natAbs) []]) = _
    rw [dim_tail _ _ _ _ rfl rfl, show lower [110] = [110] from rfl, Anb.anbTail_n, if_pos rfl]
    rw [show val (sOf a) a.natAbs = a from val_eq a]
    unfold sg
    by_cases h : b < 0
    · rw [if_pos h]
      show some (a, -(val 0 b.natAbs)) = _
      unfold val; rw [if_neg (by decide)]; congr 2; omega
    · rw [if_neg h]
      show some (a, val 0 b.natAbs) = _
      unfold val; rw [if_neg (by decide)]; congr 2; omega
theorem k1 (ha : I32 a) (hb : I32 b) : Anb.parse (nodesOf (Lib.itoa a ++ (78 :: 32 :: sg b :: Lib.decDigits b.natAbs))) = some (a, b) := by
  refine back (l := [dimT (sOf a) a.natAbs [78], blankT, numT (ms b) b.natAbs]) (plain_app (plain_itoa a) (plain_cons (by decide) (plain_sp (plain_sg b (plain_dec _))))) ?_ (by intro x hx; simp at hx; (repeat' (rcases hx with rfl | hx)); all_goals (try subst hx); all_goals rfl) ?_
  · rw [itoa_mark a]; show Cuts (mark (sOf a) ++ Lib.decDigits a.natAbs ++ _) _
    exact cuts_dim (sOf_le a) ha.le ha.lt (.inr rfl) (w := []) name_N (.inr (.inl rfl)) (cuts_blank (first_sg b _) (cuts_ms hb))
  · show anb (Nd.mk (dimT (sOf a) a.natAbs [78]) [] :: [Nd.mk blankT [], Nd.mk (numT (ms b) b.natAbs) []]) = _
    rw [dim_tail _ _ _ _ rfl rfl, show lower [78] = [110] from rfl, Anb.anbTail_n, if_pos rfl]
    rw [show val (sOf a) a.natAbs = a from val_eq a]
    have hs : (numT (ms b) b.natAbs).sign = true := by unfold numT ms; split <;> rfl
    have hn : (numT (ms b) b.natAbs).num = b := ms_val
    unfold anbN
    rw [if_neg (by simp)]
    rw [show trim [Nd.mk blankT [], Nd.mk (numT (ms b) b.natAbs) []] = [Nd.mk (numT (ms b) b.natAbs) []] from rfl]
    unfold numTok
    dsimp only
    rw [if_pos ⟨rfl, rfl, hs⟩]
    dsimp only
    rw [show (Nd.mk (numT (ms b) b.natAbs) []).tok.num = b from hn]
theorem k2p (ha : I32 a) (hb : I32 b) (h0 : 0 < b) : Anb.parse (nodesOf (Lib.itoa a ++ (110 :: 43 :: 32 :: Lib.decDigits b.natAbs))) = some (a, b) := by
  refine back (l := [dimT (sOf a) a.natAbs [110], signT 43, blankT, numT 0 b.natAbs]) (plain_app (plain_itoa a) (plain_n (plain_cons (by decide) (plain_sp (plain_dec _))))) ?_ (by intro x hx; simp at hx; (repeat' (rcases hx with rfl | hx)); all_goals (try subst hx); all_goals rfl) ?_
  · rw [itoa_mark a]; show Cuts (mark (sOf a) ++ Lib.decDigits a.natAbs ++ _) _
    exact cuts_dim (sOf_le a) ha.le ha.lt (.inl rfl) (w := []) name_n (.inr (.inr rfl)) (cuts_sign (.inl rfl) (cuts_blank (first_dec _) (cuts_abs hb (by omega))))
  · show anb (Nd.mk (dimT (sOf a) a.natAbs [110]) [] :: [Nd.mk (signT 43) [], Nd.mk blankT [], Nd.mk (numT 0 b.natAbs) []]) = _
    rw [dim_tail _ _ _ _ rfl rfl, show lower [110] = [110] from rfl, Anb.anbTail_n, if_pos rfl]
    rw [show val (sOf a) a.natAbs = a from val_eq a]
    show some (a, val 0 b.natAbs) = _
    unfold val; rw [if_neg (by decide)]; congr 2; omega
theorem k2m (ha : I32 a) (hb : I32 b) (hb2 : -2147483648 < b) (h0 : b < 0) : Anb.parse (nodesOf (Lib.itoa a ++ (110 :: 45 :: 32 :: Lib.decDigits b.natAbs))) = some (a, b) := by
  refine back (l := [dimT (sOf a) a.natAbs [110, 45], blankT, numT 0 b.natAbs]) (plain_app (plain_itoa a) (plain_n (plain_cons (by decide) (plain_sp (plain_dec _))))) ?_ (by intro x hx; simp at hx; (repeat' (rcases hx with rfl | hx)); all_goals (try subst hx); all_goals rfl) ?_
  · rw [itoa_mark a]; show Cuts (mark (sOf a) ++ Lib.decDigits a.natAbs ++ _) _
    exact cuts_dim (sOf_le a) ha.le ha.lt (.inl rfl) (w := [45]) name_nm (.inr (.inl rfl)) (cuts_blank (first_dec _) (cuts_abs hb hb2))
  · show anb (Nd.mk (dimT (sOf a) a.natAbs [110, 45]) [] :: [Nd.mk blankT [], Nd.mk (numT 0 b.natAbs) []]) = _
    rw [dim_tail _ _ _ _ rfl rfl, show lower [110, 45] = [110, 45] from rfl, Anb.anbTail_n, if_neg (by simp), if_pos rfl]
    rw [show val (sOf a) a.natAbs = a from val_eq a]
    show some (a, -(val 0 b.natAbs)) = _
    unfold val; rw [if_neg (by decide)]; congr 2; omega
theorem head_num (s u : Nat) (rest : List Nd) (hr : rest ≠ []) : anbHead (Nd.mk (numT s u) []) rest = none := by
  unfold anbHead
  rw [if_neg (fun e => hr e.1), if_neg (fun e => hr e.1), if_neg (fun e => hr e.1), if_neg (fun e => absurd (show (10 : Int) = 12 from e.1) (by decide)), if_neg (fun e => absurd (show (10 : Int) = 9 from e.1) (by decide)), if_neg (show ¬ (Nd.mk (numT s u) []).tok.kind = 1 from fun e => absurd (show (10 : Int) = 1 from e) (by decide))]
theorem k3p (ha : I32 a) (hb : I32 b) (h0 : 0 < b) : Anb.parse (nodesOf (Lib.itoa a ++ (32 :: 110 :: 43 :: Lib.decDigits b.natAbs))) = none := by
  have hsg : sg b = 43 := by unfold sg; rw [if_neg (by omega)]
  have hms : ms b = 1 := by unfold ms; rw [if_neg (by omega)]
  refine back (l := [numT (sOf a) a.natAbs, blankT, wordT [110], numT 1 b.natAbs]) (plain_app (plain_itoa a) (plain_sp (plain_n (plain_cons (by decide) (plain_dec _))))) ?_ (by intro x hx; simp at hx; (repeat' (rcases hx with rfl | hx)); all_goals (try subst hx); all_goals rfl) ?_
  · rw [itoa_mark a]; show Cuts (mark (sOf a) ++ Lib.decDigits a.natAbs ++ _) _
    have hm := cuts_ms hb
    rw [hsg, hms] at hm
    exact cuts_num (sOf_le a) ha.le ha.lt (.inr rfl) (cuts_blank (by show white 110 = false; decide) (cuts_word (w := []) name_n (.inr (.inr rfl)) hm))
  · exact head_num (sOf a) a.natAbs [Nd.mk blankT [], Nd.mk (wordT [110]) [], Nd.mk (numT 1 b.natAbs) []] (by simp)
theorem k3m (ha : I32 a) : Anb.parse (nodesOf (Lib.itoa a ++ (32 :: 110 :: 45 :: Lib.decDigits b.natAbs))) = none := by
  refine back (l := [numT (sOf a) a.natAbs, blankT, wordT (110 :: 45 :: Lib.decDigits b.natAbs)]) (plain_app (plain_itoa a) (plain_sp (plain_n (plain_cons (by decide) (plain_dec _))))) ?_ (by intro x hx; simp at hx; (repeat' (rcases hx with rfl | hx)); all_goals (try subst hx); all_goals rfl) ?_
  · rw [itoa_mark a]; show Cuts (mark (sOf a) ++ Lib.decDigits a.natAbs ++ _) _
    have hm := cuts_word (name_nd b.natAbs) (t := []) (.inl rfl) cuts_nil
    rw [List.append_nil] at hm
    exact cuts_num (sOf_le a) ha.le ha.lt (.inr rfl) (cuts_blank (by show white 110 = false; decide) hm)
  · exact head_num (sOf a) a.natAbs [Nd.mk blankT [], Nd.mk (wordT (110 :: 45 :: Lib.decDigits b.natAbs)) []] (by simp)
theorem k4 (ha : I32 a) (hb : I32 b) (hb2 : -2147483648 < b) : Anb.parse (nodesOf (Lib.itoa a ++ (110 :: 32 :: Lib.decDigits b.natAbs))) = none := by
  refine back (l := [dimT (sOf a) a.natAbs [110], blankT, numT 0 b.natAbs]) (plain_app (plain_itoa a) (plain_n (plain_sp (plain_dec _)))) ?_ (by intro x hx; simp at hx; (repeat' (rcases hx with rfl | hx)); all_goals (try subst hx); all_goals rfl) ?_
  · rw [itoa_mark a]; show Cuts (mark (sOf a) ++ Lib.decDigits a.natAbs ++ _) _
    exact cuts_dim (sOf_le a) ha.le ha.lt (.inl rfl) (w := []) name_n (.inr (.inl rfl)) (cuts_blank (first_dec _) (cuts_abs hb hb2))
  · show anb (Nd.mk (dimT (sOf a) a.natAbs [110]) [] :: [Nd.mk blankT [], Nd.mk (numT 0 b.natAbs) []]) = _
    rw [dim_tail _ _ _ _ rfl rfl, show lower [110] = [110] from rfl, Anb.anbTail_n, if_pos rfl]
    rfl
theorem k5 (ha : I32 a) (hb : I32 b) : Anb.parse (nodesOf (Lib.itoa a ++ (110 :: 32 :: sg b :: 32 :: sg b :: Lib.decDigits b.natAbs))) = none := by
  refine back (l := [dimT (sOf a) a.natAbs [110], blankT, signT (sg b), blankT, numT (ms b) b.natAbs]) (plain_app (plain_itoa a) (plain_n (plain_sp (plain_sg b (plain_sp (plain_sg b (plain_dec _))))))) ?_ (by intro x hx; simp at hx; (repeat' (rcases hx with rfl | hx)); all_goals (try subst hx); all_goals rfl) ?_
  · rw [itoa_mark a]; show Cuts (mark (sOf a) ++ Lib.decDigits a.natAbs ++ _) _
    exact cuts_dim (sOf_le a) ha.le ha.lt (.inl rfl) (w := []) name_n (.inr (.inl rfl)) (cuts_blank (first_sg b _) (cuts_sign (sg_or b) (cuts_blank (first_sg b _) (cuts_ms hb))))
  · show anb (Nd.mk (dimT (sOf a) a.natAbs [110]) [] :: [Nd.mk blankT [], Nd.mk (signT (sg b)) [], Nd.mk blankT [], Nd.mk (numT (ms b) b.natAbs) []]) = _
    rw [dim_tail _ _ _ _ rfl rfl, show lower [110] = [110] from rfl, Anb.anbTail_n, if_pos rfl]
    unfold sg ms
    by_cases h : b < 0
    · rw [if_pos h, if_pos h]; rfl
    · rw [if_neg h, if_neg h]; rfl
theorem k6p (ha : I32 a) (hb : I32 b) (h0 : 0 < b) : Anb.parse (nodesOf (Lib.itoa a ++ (110 :: 43 :: (Lib.decDigits b.natAbs ++ [32, 49])))) = none := by
  refine back (l := [dimT (sOf a) a.natAbs [110], numT 1 b.natAbs, blankT, numT 0 1]) (plain_app (plain_itoa a) (plain_n (plain_cons (by decide) (plain_app (plain_dec _) (plain_sp (plain_cons (by decide) plain_nil)))))) ?_ (by intro x hx; simp at hx; (repeat' (rcases hx with rfl | hx)); all_goals (try subst hx); all_goals rfl) ?_
  · rw [itoa_mark a]; show Cuts (mark (sOf a) ++ Lib.decDigits a.natAbs ++ _) _
    have h1 : Cuts [49] [numT 0 1] := by
      have := cuts_abs (b := 1) ⟨by omega, by omega⟩ (by omega)
      rwa [show Lib.decDigits (Int.natAbs 1) = [49] from Lib.decDigits_one (by decide)] at this
    have hm := cuts_num (s := 1) (by omega) hb.le (fun _ => by have := hb.2; omega) (t := [32, 49]) (.inr rfl) (cuts_blank (by decide) h1)
    exact cuts_dim (sOf_le a) ha.le ha.lt (.inl rfl) (w := []) name_n (.inr (.inr rfl)) hm
  · show anb (Nd.mk (dimT (sOf a) a.natAbs [110]) [] :: [Nd.mk (numT 1 b.natAbs) [], Nd.mk blankT [], Nd.mk (numT 0 1) []]) = _
    rw [dim_tail _ _ _ _ rfl rfl, show lower [110] = [110] from rfl, Anb.anbTail_n, if_pos rfl]
    rfl
theorem k6m (ha : I32 a) : Anb.parse (nodesOf (Lib.itoa a ++ (110 :: 45 :: (Lib.decDigits b.natAbs ++ [32, 49])))) = none := by
  refine back (l := [dimT (sOf a) a.natAbs (110 :: 45 :: Lib.decDigits b.natAbs), blankT, numT 0 1]) (plain_app (plain_itoa a) (plain_n (plain_cons (by decide) (plain_app (plain_dec _) (plain_sp (plain_cons (by decide) plain_nil)))))) ?_ (by intro x hx; simp at hx; (repeat' (rcases hx with rfl | hx)); all_goals (try subst hx); all_goals rfl) ?_
  · rw [itoa_mark a]; show Cuts (mark (sOf a) ++ Lib.decDigits a.natAbs ++ _) _
    have h1 : Cuts [49] [numT 0 1] := by
      have := cuts_abs (b := 1) ⟨by omega, by omega⟩ (by omega)
      rwa [show Lib.decDigits (Int.natAbs 1) = [49] from Lib.decDigits_one (by decide)] at this
    exact cuts_dim (sOf_le a) ha.le ha.lt (.inl rfl) (name_nd b.natAbs) (.inr (.inl rfl)) (cuts_blank (by decide) h1)
  · show anb (Nd.mk (dimT (sOf a) a.natAbs (110 :: 45 :: Lib.decDigits b.natAbs)) [] :: [Nd.mk blankT [], Nd.mk (numT 0 1) []]) = _
    rw [dim_tail _ _ _ _ rfl rfl]
    rw [show lower (110 :: 45 :: Lib.decDigits b.natAbs) = 110 :: 45 :: Lib.decDigits b.natAbs by
      show lowB 110 :: lowB 45 :: lower (Lib.decDigits b.natAbs) = _
      rw [lower_dec]; rfl]
    rw [Anb.anbTail_n, if_neg (by simp), if_neg (by simp [dec_ne]), if_neg (by simp)]
end Ref
end Go.Proofs.YtihnffmnofinmaaDoor
