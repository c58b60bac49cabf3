/- The two readers of heads agree: lemmas on the plain functions. -/
import Derived.Test.YtajdamefabfoaaaDoorPR
namespace Go.Ev
open Go

/-- The one reader stands where the other does, in the bytes `s`. -/
def Rl (s : Bytes) (i : InS) (q : RIn) : Prop := q.s = s ∧ 0 ≤ q.at' ∧ q.at' ≤ s.length ∧ i.err = q.code ∧ i.s = cond (i.err == 0) (s.drop q.at'.toNat) []
theorem rl_new (s : Bytes) : Rl s ⟨s, 0⟩ ⟨s, 0, 0⟩ := ⟨rfl, Int.le_refl _, Int.natCast_nonneg _, rfl, rfl⟩
theorem rl_fail {s : Bytes} {i : InS} {q : RIn} (h : Rl s i q) (c : Int) : Rl s (N.inFail i c) (N.rFail q c) := by
  obtain ⟨h0, h1, h2, h3, h4⟩ := h
  unfold N.inFail N.rFail
  rw [h3]
  cases e : q.code == 0 with
  | false => exact ⟨h0, h1, h2, h3, h4⟩
  | true =>
    have e' : q.code = 0 := by simpa using e
    by_cases hc : c = 0
    · subst hc
      exact ⟨h0, h1, h2, h3.trans e', h4⟩
    · have e1 : (c != 0) = true := by simpa using hc
      have e2 : (c == 0) = false := by simpa using hc
      rw [e1]
      refine ⟨h0, h1, h2, rfl, ?_⟩
      show [] = cond (c == 0) _ []
      rw [e2]; rfl
theorem rl_raw {s : Bytes} {i : InS} {q : RIn} (h : Rl s i q) (n : Int) : (N.inRaw i n).1 = (N.rRaw q n).1 ∧ Rl s (N.inRaw i n).2 (N.rRaw q n).2 := by
  have hf := rl_fail h 3
  have h' := h
  obtain ⟨h0, h1, h2, h3, h4⟩ := h
  unfold N.inRaw N.rRaw
  rw [h3]
  cases e : q.code == 0 with
  | false =>
    rw [bne, e]
    exact ⟨rfl, h'⟩
  | true =>
    rw [bne, e]
    have hs : i.s = s.drop q.at'.toNat := by rw [h4, h3, e]; rfl
    have hl : (i.s.length : Int) = q.s.length - q.at' := by rw [hs, List.length_drop, h0]; omega
    rw [hl]
    cases e2 : ile n 0 with
    | true => exact ⟨rfl, h'⟩
    | false =>
      cases e3 : ilt (q.s.length - q.at') n with
      | true => exact ⟨rfl, hf⟩
      | false =>
        have e2 := ile_nof e2
        have e3 := ilt_nof e3
        rw [h0] at e3
        refine ⟨?_, h0, ?_, ?_, rfl, ?_⟩
        · show i.s.take n.toNat = (q.s.drop q.at'.toNat).take n.toNat
          rw [hs, h0]
        · show 0 ≤ q.at' + n
          omega
        · show q.at' + n ≤ s.length
          omega
        · show i.s.drop n.toNat = cond (q.code == 0) (s.drop (q.at' + n).toNat) []
          rw [e, hs, List.drop_drop, show (q.at' + n).toNat = q.at'.toNat + n.toNat by omega]; rfl
theorem rl_num {s : Bytes} {i : InS} {q : RIn} (h : Rl s i q) (n : Int) : (N.inNum i n).1 = (N.rNum q n).1 ∧ Rl s (N.inNum i n).2 (N.rNum q n).2 :=
  ⟨congrArg (fun x => N.be x 0) (rl_raw h (cond (ilt 8 n) 8 n)).1, (rl_raw h (cond (ilt 8 n) 8 n)).2⟩
theorem rl_textOf {s : Bytes} {i : InS} {q : RIn} (h : Rl s i q) (n m : Int) : Rl s (cond (ilt n m) (N.inFail i 5) i) (cond (ilt n m) (N.rFail q 5) q) := by
  cases ilt n m with
  | true => exact rl_fail h 5
  | false => exact h
theorem rl_text {s : Bytes} {i : InS} {q : RIn} (h : Rl s i q) (n : Int) : (N.inText i n).1 = (N.rText q n).1 ∧ Rl s (N.inText i n).2 (N.rText q n).2 := by
  unfold N.inText N.rText
  rw [(rl_num h 2).1]
  exact rl_raw (rl_textOf (rl_num h 2).2 _ _) _
theorem rl_oneOf {s : Bytes} {i : InS} {q : RIn} (h : Rl s i q) (key : Bytes) (kind : Int) : (N.oneOf key kind i).1 = (N.rOneOf key kind q).1 ∧ Rl s (N.oneOf key kind i).2 (N.rOneOf key kind q).2 := by
  unfold N.oneOf N.rOneOf
  rw [(rl_num h 8).1, (rl_num h 1).1, (rl_text h 64).1]
  cases kind == 0 with
  | true => exact ⟨rfl, (rl_num h 8).2⟩
  | false =>
    cases kind == 1 with
    | true => exact ⟨rfl, (rl_text h 64).2⟩
    | false =>
      cases kind == 2 with
      | true => exact ⟨rfl, (rl_num h 1).2⟩
      | false => exact ⟨rfl, rl_fail h 8⟩
theorem rl_one {s : Bytes} {i : InS} {q : RIn} (h : Rl s i q) : (N.one i).1 = (N.rOne q).1 ∧ Rl s (N.one i).2 (N.rOne q).2 := by
  unfold N.one N.rOne
  rw [(rl_text h 16).1, (rl_num (rl_text h 16).2 1).1]
  exact rl_oneOf (rl_num (rl_text h 16).2 1).2 _ _
theorem rl_bad {s : Bytes} {i : InS} {q : RIn} (h : Rl s i q) (p : HPair) (acc : List HPair) : Rl s (N.bad p acc i) (N.rBad p acc q) := by
  unfold N.bad N.rBad
  rw [h.2.2.2.1]
  cases q.code == 0 with
  | true => exact rl_fail h _
  | false => exact h
/-! ### A reader that has failed stays as it is -/
theorem inFail_err {i : InS} (h : i.err ≠ 0) (c : Int) : N.inFail i c = i := by
  unfold N.inFail
  rw [show (i.err == 0) = false by simpa using h]; rfl
theorem inRaw_err {i : InS} (h : i.err ≠ 0) (n : Int) : N.inRaw i n = ([], i) := by
  unfold N.inRaw
  rw [show (i.err != 0) = true by simpa using h]; rfl
theorem inNum_err {i : InS} (h : i.err ≠ 0) (n : Int) : (N.inNum i n).2 = i := by unfold N.inNum; rw [inRaw_err h]
theorem inText_err {i : InS} (h : i.err ≠ 0) (n : Int) : (N.inText i n).2 = i := by
  unfold N.inText
  rw [inNum_err h, inFail_err h]
  cases ilt n (IntKind.wrap .i64 (N.inNum i 2).1) <;> exact congrArg Prod.snd (inRaw_err h _)
theorem one_err {i : InS} (h : i.err ≠ 0) : (N.one i).2 = i := by
  unfold N.one
  rw [inText_err h, inNum_err h]
  unfold N.oneOf
  rw [inNum_err h, inNum_err h, inText_err h, inFail_err h]
  cases IntKind.wrap .u8 (N.inNum i 1).1 == 0 <;> cases IntKind.wrap .u8 (N.inNum i 1).1 == 1 <;> cases IntKind.wrap .u8 (N.inNum i 1).1 == 2 <;> rfl
theorem bad_err {i : InS} (h : i.err ≠ 0) (p : HPair) (acc : List HPair) : N.bad p acc i = i := by
  unfold N.bad
  rw [show (i.err == 0) = false by simpa using h]; rfl
theorem rReadFrom_err {q : RIn} (h : q.code ≠ 0) (acc : List HPair) : ∀ k, N.rReadFrom k q acc = (acc, q)
  | 0 => rfl
  | k + 1 => by
    unfold N.rReadFrom
    rw [show (q.code == 0) = false by simpa using h]; rfl
theorem rl_from {s : Bytes} : ∀ (k : Nat) {i : InS} {q : RIn} (acc : List HPair), Rl s i q → (i.err = 0 ∨ acc = []) →
    (N.readFrom k i acc).1 = cond ((N.rReadFrom k q acc).2.code != 0) [] (N.rReadFrom k q acc).1 ∧ Rl s (N.readFrom k i acc).2 (N.rReadFrom k q acc).2
  | 0, i, q, acc, h, h1 => by
    refine ⟨?_, h⟩
    show acc = cond (q.code != 0) [] acc
    rw [← h.2.2.2.1]
    rcases h1 with h1 | h1
    · rw [h1]; rfl
    · rw [h1]; cases i.err != 0 <;> rfl
  | k + 1, i, q, acc, h, h1 => by
    unfold N.readFrom N.rReadFrom
    have ho := rl_one h
    have hb := rl_bad ho.2 (N.one i).1 acc
    by_cases hz : q.code = 0
    · rw [show (q.code == 0) = true by simpa using hz, ← ho.1, cond_true]
      by_cases hy : (N.bad (N.one i).1 acc (N.one i).2).err = 0
      · rw [show ((N.bad (N.one i).1 acc (N.one i).2).err != 0) = false by simpa using hy, cond_false]
        exact rl_from k _ hb (.inl hy)
      · rw [show ((N.bad (N.one i).1 acc (N.one i).2).err != 0) = true by simpa using hy, cond_true]
        have hy' : (N.rBad (N.one i).1 acc (N.rOne q).2).code ≠ 0 := by rw [← hb.2.2.2.1]; exact hy
        rw [rReadFrom_err hy']
        refine ⟨?_, hb⟩
        show [] = cond ((N.rBad (N.one i).1 acc (N.rOne q).2).code != 0) [] _
        rw [show ((N.rBad (N.one i).1 acc (N.rOne q).2).code != 0) = true by simpa using hy']; rfl
    · have hi : i.err ≠ 0 := by rw [h.2.2.2.1]; exact hz
      rw [one_err hi, bad_err hi, show (i.err != 0) = true by simpa using hi, show (q.code == 0) = false by simpa using hz]
      refine ⟨?_, h⟩
      show [] = cond (q.code != 0) [] acc
      rw [show (q.code != 0) = true by simpa using hz]; rfl
theorem rl_read {s : Bytes} {i : InS} {q : RIn} (h : Rl s i q) : (N.headRead i).1 = (N.rHead q).1 ∧ Rl s (N.headRead i).2 (N.rHead q).2 := by
  have e : (N.headRead i).1 = cond ((N.rRead q).2.code != 0) [] (N.rRead q).1 ∧ Rl s (N.headRead i).2 (N.rRead q).2 := by
    unfold N.headRead N.rRead
    rw [(rl_num h 1).1]
    refine rl_from _ [] ?_ (.inr rfl)
    cases ilt 8 (IntKind.wrap .i64 (N.rNum q 1).1) with
    | true => exact rl_fail (rl_num h 1).2 6
    | false => exact (rl_num h 1).2
  obtain ⟨e1, e2⟩ := e
  unfold N.rHead
  cases hc : (N.rRead q).2.code != 0 with
  | true => rw [hc] at e1; exact ⟨e1, e2⟩
  | false => rw [hc] at e1; exact ⟨e1, e2⟩
theorem readFrom_len : ∀ (k : Nat) (i : InS) (acc : List HPair), (N.readFrom k i acc).1.length ≤ acc.length + k
  | 0, _, acc => Nat.le_refl _
  | k + 1, i, acc => by
    unfold N.readFrom
    cases (N.bad (N.one i).1 acc (N.one i).2).err != 0 with
    | true => exact Nat.zero_le _
    | false =>
      have := readFrom_len k (N.bad (N.one i).1 acc (N.one i).2) (acc ++ [(N.one i).1])
      rw [List.length_append] at this
      simp only [List.length_cons, List.length_nil] at this
      show (N.readFrom k _ _).1.length ≤ _
      omega
theorem rl_left {s : Bytes} {i : InS} {q : RIn} (h : Rl s i q) : N.inLeft i = N.rLeft q := by
  obtain ⟨h0, h1, h2, h3, h4⟩ := h
  unfold N.inLeft N.rLeft
  rw [h4, h3]
  cases e : q.code == 0 with
  | true => rw [bne, e]; simp only [cond_true, Bool.not_true, cond_false, List.length_drop]; rw [h0]; omega
  | false => rw [bne, e]; rfl
/-! ### What keeps a reader within its bytes -/
def ofR (q : RIn) : InS := ⟨cond (q.code == 0) (q.s.drop q.at'.toNat) [], q.code⟩
theorem good_rl {q : RIn} (h : N.goodR q = true) : Rl q.s (ofR q) q ∧ q.s.length ≤ LIM := by
  obtain ⟨h1, h⟩ := bcond h
  obtain ⟨h2, h3⟩ := bcond h
  exact ⟨⟨rfl, ile_of h1, ile_of h2, rfl, rfl⟩, Nat.le_of_ble_eq_true h3⟩
theorem rl_good {s : Bytes} {i : InS} {q : RIn} (h : Rl s i q) (hs : s.length ≤ LIM) : N.goodR q = true := by
  obtain ⟨h0, h1, h2, _, _⟩ := h
  unfold N.goodR
  rw [h0, ile_t h1, ile_t h2, Nat.ble_eq_true_of_le hs]; rfl
theorem good_fail {q : RIn} (h : N.goodR q = true) (c : Int) : N.goodR (N.rFail q c) = true := rl_good (rl_fail (good_rl h).1 c) (good_rl h).2
theorem good_raw {q : RIn} (h : N.goodR q = true) (n : Int) : N.goodR (N.rRaw q n).2 = true := rl_good (rl_raw (good_rl h).1 n).2 (good_rl h).2
theorem good_num {q : RIn} (h : N.goodR q = true) (n : Int) : N.goodR (N.rNum q n).2 = true := rl_good (rl_num (good_rl h).1 n).2 (good_rl h).2
theorem good_text {q : RIn} (h : N.goodR q = true) (n : Int) : N.goodR (N.rText q n).2 = true := rl_good (rl_text (good_rl h).1 n).2 (good_rl h).2
theorem good_one {q : RIn} (h : N.goodR q = true) : N.goodR (N.rOne q).2 = true := rl_good (rl_one (good_rl h).1).2 (good_rl h).2
theorem good_bad {q : RIn} (h : N.goodR q = true) (p : HPair) (acc : List HPair) : N.goodR (N.rBad p acc q) = true := rl_good (rl_bad (good_rl h).1 p acc) (good_rl h).2
end Go.Ev
