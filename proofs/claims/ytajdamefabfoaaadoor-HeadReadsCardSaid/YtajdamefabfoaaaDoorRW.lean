/- Words, over rows of cells as the program has them: definitions and laws, no condition. -/
import Derived.Test.YtajdamefabfoaaaDoorQW
namespace Go.Ev
open Go
def rowS (r : List V) : Bytes := (r.getD 0 .undef).toStr
def rowB (r : List V) : Bool := (r.getD 0 .undef).toBool
def rowsS (r : List (List V)) : List Bytes := r.map rowS
def rowsB (r : List (List V)) : List Bool := r.map rowB
theorem rowsS_getD (r : List (List V)) (i : Nat) : (rowsS r).getD i [] = rowS (r.getD i []) := by
  unfold rowsS; simp only [List.getD_eq_getElem?_getD, List.getElem?_map]; cases r[i]? <;> rfl
theorem rowsB_getD (r : List (List V)) (i : Nat) : (rowsB r).getD i false = rowB (r.getD i []) := by
  unfold rowsB; simp only [List.getD_eq_getElem?_getD, List.getElem?_map]; cases r[i]? <;> rfl
theorem rowsS_length (r : List (List V)) : (rowsS r).length = r.length := List.length_map ..
theorem rowsB_length (r : List (List V)) : (rowsB r).length = r.length := List.length_map ..
theorem rowsS_enc (l : List Bytes) : rowsS (l.map rStr.enc) = l := by
  unfold rowsS; rw [List.map_map]; exact List.map_id' l
theorem rowsB_set (r : List (List V)) (i : Nat) (b : Bool) : rowsB (r.set i [.bool b]) = (rowsB r).set i b := by
  unfold rowsB; rw [List.map_set]; rfl
theorem rowsS_set (r : List (List V)) (i : Nat) (b : Bytes) : rowsS (r.set i [.str b]) = (rowsS r).set i b := by
  unfold rowsS; rw [List.map_set]; rfl
theorem drop_get {r : List (List V)} {i : Nat} (h : i < r.length) : (rowsS r).drop i = rowS (r.getD i []) :: (rowsS r).drop (i + 1) := by
  rw [← rowsS_getD]; exact getD_at (by rw [rowsS_length]; exact h)
theorem drop_byte {s : Bytes} {k : Nat} (h : k < s.length) : s.drop k = s.getD k 0 :: s.drop (k + 1) := by
  rw [List.drop_eq_getElem_cons h, List.getD_eq_getElem?_getD, List.getElem?_eq_getElem h]; rfl
namespace N
def spl (s : Bytes) : Nat → Int → Int → List (List V) → Int × List (List V)
  | 0, _, from', rows => (from', rows)
  | f + 1, i, from', rows => cond (((s.getD i.toNat 0).toNat : Int) == 46) (spl s f (i + 1) (i + 1) (rows ++ [[.str ((s.take i.toNat).drop from'.toNat)]])) (spl s f (i + 1) from' rows)
def gen : Nat → Bytes → Int → List (List V) → Bytes × Int × List (List V)
  | 0, s, i, rows => (s, i, rows)
  | f + 1, s, i, rows => cond (ilt (dot s) 0) (s, i, rows) (gen f (s.drop (dot s + 1).toNat) (i + 1) (rows.set i.toNat [.str (s.take (dot s).toNat)]))
def goOnI (p k : List Bytes) (i j b fr : Int) : Nat → Int := fun f => (goOn p k f i j b fr).getD (-1)
def refRowV (w : Bytes) (k may : List (List V)) : Nat → Int → List (List V) → List (List V)
  | 0, _, nxt => nxt
  | f + 1, j, nxt => refRowV w k may f (j + 1) (cond (w == [35]) (nxt.set j.toNat [.bool (cond (rowB (may.getD j.toNat [])) true (cond (ilt 0 j) (rowB (nxt.getD (j - 1).toNat [])) false))])
      (cond (ilt 0 j) (nxt.set j.toNat [.bool (cond (rowB (may.getD (j - 1).toNat [])) (cond (w == [42]) true (w == rowS (k.getD (j - 1).toNat []))) false)]) nxt))
def refRowsV (k : List (List V)) : List Bytes → List (List V) → List (List V)
  | [], may => may
  | w :: p, may => refRowsV k p (refRowV w k may (k.length + 1) 0 (List.replicate (k.length + 1) [.bool false]))
end N
theorem refRowV_eq (w : Bytes) (k may : List (List V)) : ∀ (f j : Nat) (nxt : List (List V)), rowsB (N.refRowV w k may f j nxt) = N.refRow w (rowsS k) (rowsB may) f j (rowsB nxt)
  | 0, j, nxt => rfl
  | f + 1, j, nxt => by
    unfold N.refRowV N.refRow
    have hj : ((j : Int) + 1) = ((j + 1 : Nat) : Int) := rfl
    rw [hj, refRowV_eq w k may f (j + 1)]
    congr 1
    have h0 : ilt 0 (j : Int) = Nat.blt 0 j := by
      rw [ilt_eq]
      cases j with
      | zero => rfl
      | succ j => rw [decide_eq_true (by omega)]; rfl
    have h1 : ((j : Int) - 1).toNat = j - 1 := by omega
    unfold N.refVal
    rw [h0, h1, Int.toNat_natCast, rowsB_getD, rowsB_getD, rowsB_getD, rowsB_getD, rowsS_getD]
    cases hw : (w == [35]) with
    | true => simp only [cond_true, rowsB_set]
    | false =>
      simp only [cond_false]
      cases hb : Nat.blt 0 j with
      | true => simp only [cond_true, rowsB_set]
      | false =>
        simp only [cond_false]
        refine List.ext_getElem? fun i => ?_
        rw [List.getElem?_set]
        by_cases e : j = i
        · subst e
          rw [if_pos rfl]
          split
          · rename_i hl
            rw [← rowsB_getD, List.getD_eq_getElem?_getD, List.getElem?_eq_getElem hl]; rfl
          · rename_i hl
            rw [List.getElem?_eq_none (by omega)]
        · rw [if_neg e]
theorem refRowsV_eq (k : List (List V)) : ∀ (p : List Bytes) (may : List (List V)), rowsB (N.refRowsV k p may) = N.refRows (rowsS k) p (rowsB may)
  | [], may => rfl
  | w :: p, may => by
    unfold N.refRowsV N.refRows
    rw [refRowsV_eq k p]
    congr 1
    have := refRowV_eq w k may (k.length + 1) 0 (List.replicate (k.length + 1) [.bool false])
    rw [show ((0 : Nat) : Int) = 0 from rfl] at this
    rw [this, rowsS_length]
    congr 1
    unfold rowsB; rw [List.map_replicate]; rfl
theorem refRowV_length (w : Bytes) (k may : List (List V)) : ∀ (f : Nat) (j : Int) (nxt : List (List V)), (N.refRowV w k may f j nxt).length = nxt.length
  | 0, j, nxt => rfl
  | f + 1, j, nxt => by
    unfold N.refRowV
    rw [refRowV_length w k may f]
    cases w == [35] <;> cases ilt 0 j <;> simp only [cond_true, cond_false, List.length_set]
theorem refRowsV_length (k : List (List V)) : ∀ (p : List Bytes) (may : List (List V)), may.length = k.length + 1 → (N.refRowsV k p may).length = k.length + 1
  | [], may, h => h
  | w :: p, may, h => by
    unfold N.refRowsV
    exact refRowsV_length k p _ (by rw [refRowV_length, List.length_replicate])
theorem splitDot_ne : ∀ s, N.splitDot s ≠ []
  | [] => by simp [N.splitDot]
  | c :: r => by
    unfold N.splitDot
    cases c == 46 with
    | true => simp
    | false =>
      simp only [cond_false]
      split <;> simp
/-- The first part longer by 'u'. -/
def addTo (u : Bytes) : List Bytes → List Bytes
  | [] => [] | w :: ws => (u ++ w) :: ws
theorem byte_eq (c : UInt8) : (((c.toNat : Int) == 46)) = (c == 46) := by
  rw [Bool.eq_iff_iff, beq_iff_eq, beq_iff_eq]
  constructor
  · intro h
    have : c.toNat = (46 : UInt8).toNat := by show c.toNat = 46; omega
    exact UInt8.toNat_inj.1 this
  · intro h; subst h; rfl
theorem spl_ok (s : Bytes) : ∀ (f : Nat) (i fr : Int) (rows : List (List V)), 0 ≤ fr → fr ≤ i → i + f = s.length →
    0 ≤ (N.spl s f i fr rows).1 ∧ (N.spl s f i fr rows).1 ≤ s.length ∧ (N.spl s f i fr rows).2 ++ [[.str (s.drop (N.spl s f i fr rows).1.toNat)]] = rows ++ (addTo ((s.take i.toNat).drop fr.toNat) (N.splitDot (s.drop i.toNat))).map rStr.enc
  | 0, i, fr, rows, h0, h1, h2 => by
    have hi : i.toNat = s.length := by omega
    refine ⟨h0, ?_, ?_⟩
    · show fr ≤ _; omega
    · show rows ++ [[.str (s.drop fr.toNat)]] = _
      rw [hi, List.take_length, List.drop_length]
      show _ = rows ++ [[V.str (s.drop fr.toNat ++ [])]]
      rw [List.append_nil]
  | f + 1, i, fr, rows, h0, h1, h2 => by
    have hlt : i.toNat < s.length := by omega
    have e1 : (i + 1).toNat = i.toNat + 1 := by omega
    unfold N.spl
    rw [drop_byte hlt]
    unfold N.splitDot
    rw [byte_eq]
    cases hc : s.getD i.toNat 0 == 46 with
    | true =>
      obtain ⟨g1, g2, g3⟩ := spl_ok s f (i + 1) (i + 1) (rows ++ [[.str ((s.take i.toNat).drop fr.toNat)]]) (by omega) (Int.le_refl _) (by omega)
      simp only [cond_true]
      refine ⟨g1, g2, g3.trans ?_⟩
      rw [e1]
      have : (s.take (i.toNat + 1)).drop (i.toNat + 1) = [] := by rw [List.drop_take]; simp
      rw [this]
      show _ = rows ++ [V.str ((s.take i.toNat).drop fr.toNat ++ [])] :: (N.splitDot (s.drop (i.toNat + 1))).map rStr.enc
      rw [List.append_nil, List.append_assoc]
      congr 1
      cases h : N.splitDot (s.drop (i.toNat + 1)) with
      | nil => exact absurd h (splitDot_ne _)
      | cons w ws => rfl
    | false =>
      obtain ⟨g1, g2, g3⟩ := spl_ok s f (i + 1) fr rows h0 (by omega) (by omega)
      simp only [cond_false]
      refine ⟨g1, g2, g3.trans ?_⟩
      rw [e1]
      congr 2
      cases h : N.splitDot (s.drop (i.toNat + 1)) with
      | nil => exact absurd h (splitDot_ne _)
      | cons w ws =>
        show ((s.take (i.toNat + 1)).drop fr.toNat ++ w) :: ws = ((s.take i.toNat).drop fr.toNat ++ s.getD i.toNat 0 :: w) :: ws
        have : s.take (i.toNat + 1) = s.take i.toNat ++ [s.getD i.toNat 0] := by
          rw [List.take_add_one, List.getD_eq_getElem?_getD, List.getElem?_eq_getElem hlt]; rfl
        rw [this, List.drop_append_of_le_length (by rw [List.length_take]; omega), List.append_assoc]; rfl
theorem spl_len (s : Bytes) : ∀ (f : Nat) (i fr : Int) (rows : List (List V)), (N.spl s f i fr rows).2.length ≤ rows.length + f
  | 0, i, fr, rows => Nat.le_refl _
  | f + 1, i, fr, rows => by
    unfold N.spl
    cases (((s.getD i.toNat 0).toNat : Int) == 46) with
    | true =>
      have := spl_len s f (i + 1) (i + 1) (rows ++ [[.str ((s.take i.toNat).drop fr.toNat)]])
      simp only [List.length_append, List.length_cons, List.length_nil] at this
      simp only [cond_true]; omega
    | false =>
      have := spl_len s f (i + 1) fr rows
      simp only [cond_false]; omega
theorem splitDot_dot : ∀ s, (N.dot s = -1 ∧ N.splitDot s = [s] ∧ N.dots s = 0) ∨ (0 ≤ N.dot s ∧ N.dot s < s.length ∧ N.splitDot s = s.take (N.dot s).toNat :: N.splitDot (s.drop (N.dot s + 1).toNat) ∧ N.dots s = N.dots (s.drop (N.dot s + 1).toNat) + 1)
  | [] => .inl ⟨rfl, rfl, rfl⟩
  | c :: r => by
    have hd : N.dots (c :: r) = N.dots r + (if c == 46 then 1 else 0) := by
      unfold N.dots; rw [List.count_cons]; split <;> simp
    have hs : N.splitDot (c :: r) = cond (c == 46) ([] :: N.splitDot r) (match N.splitDot r with | [] => [[c]] | w :: ws => (c :: w) :: ws) := rfl
    have ht : N.dot (c :: r) = cond (c == 46) 0 (cond (N.dot r == -1) (-1) (N.dot r + 1)) := rfl
    rw [hs, ht]
    cases hc : c == 46 with
    | true =>
      rw [hc, if_pos rfl] at hd
      simp only [cond_true]
      refine .inr ⟨by decide, by simp only [List.length_cons]; omega, ?_, ?_⟩
      · rfl
      · rw [hd]; rfl
    | false =>
      rw [hc] at hd
      simp only [cond_false]
      rcases splitDot_dot r with ⟨h1, h2, h3⟩ | ⟨h1, h2, h3, h4⟩
      · rw [h1, h2]
        exact .inl ⟨rfl, rfl, by rw [hd, h3]; rfl⟩
      · have hne : (N.dot r == -1) = false := by rw [beq_eq_false_iff_ne]; omega
        rw [hne, cond_false]
        have e1 : (N.dot r + 1 + 1).toNat = (N.dot r + 1).toNat + 1 := by omega
        have e2 : (N.dot r + 1).toNat = (N.dot r).toNat + 1 := by omega
        refine .inr ⟨by omega, by simp only [List.length_cons]; omega, ?_, ?_⟩
        · rw [h3, e1, List.drop_succ_cons, e2, List.take_succ_cons]
        · rw [hd, h4, e1, List.drop_succ_cons]; simp
theorem gen_ok : ∀ (f : Nat) (s : Bytes) (i : Int) (rows : List (List V)), 0 ≤ i → (f : Int) = N.dots s → (rows.length : Int) = i + f + 1 →
    0 ≤ (N.gen f s i rows).2.1 ∧ (N.gen f s i rows).2.1 < rows.length ∧ (N.gen f s i rows).2.2.length = rows.length ∧
    ((N.gen f s i rows).2.2.set (N.gen f s i rows).2.1.toNat [.str (N.gen f s i rows).1]).take ((N.gen f s i rows).2.1 + 1).toNat = rows.take i.toNat ++ (N.splitDot s).map rStr.enc
  | f, s, i, rows, h0, hf, hl => by
    have stop : N.splitDot s = [s] → (rows.set i.toNat [.str s]).take (i + 1).toNat = rows.take i.toNat ++ (N.splitDot s).map rStr.enc := fun e => by
      have hi : i.toNat < rows.length := by omega
      rw [e, show (i + 1).toNat = i.toNat + 1 by omega, List.take_add_one, List.getElem?_set_self hi, List.take_set_of_le (Nat.le_refl _)]; rfl
    rcases splitDot_dot s with ⟨h1, h2, h3⟩ | ⟨h1, h2, h3, h4⟩
    · have : f = 0 := by omega
      subst this
      exact ⟨h0, by show i < _; omega, rfl, stop h2⟩
    · cases f with
      | zero =>
        have : 0 ≤ N.dots (s.drop (N.dot s + 1).toNat) := Int.natCast_nonneg _
        omega
      | succ f =>
        have hn : ilt (N.dot s) 0 = false := by rw [ilt_eq, decide_eq_false_iff_not]; omega
        unfold N.gen
        rw [hn, cond_false]
        obtain ⟨g1, g2, g3, g4⟩ := gen_ok f (s.drop (N.dot s + 1).toNat) (i + 1) (rows.set i.toNat [.str (s.take (N.dot s).toNat)]) (by omega) (by omega) (by rw [List.length_set]; omega)
        rw [List.length_set] at g2 g3
        refine ⟨g1, g2, g3, g4.trans ?_⟩
        have hi : i.toNat < rows.length := by omega
        rw [h3, show (i + 1).toNat = i.toNat + 1 by omega, List.take_add_one, List.getElem?_set_self hi, List.take_set_of_le (Nat.le_refl _), List.append_assoc]; rfl
end Go.Ev
