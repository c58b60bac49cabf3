/- Words joined again, patterns of stars: plain lemmas, no condition. -/
import Derived.Test.YtajdamefabfoaaaDoorRW
namespace Go.Ev
open Go
namespace N
def joinTail (sep : Bytes) : List Bytes → Bytes
  | [] => [] | w :: r => sep ++ (w ++ joinTail sep r)
def joinS (sep : Bytes) : List Bytes → Bytes
  | [] => [] | w :: r => w ++ joinTail sep r
def rep (l : Bytes) : Nat → Bytes
  | 0 => [] | c + 1 => l ++ rep l c
end N
theorem joinTail_length (sep : Bytes) (m : Nat) : ∀ l : List Bytes, (∀ w ∈ l, w.length ≤ m) → (N.joinTail sep l).length ≤ l.length * (m + sep.length)
  | [], _ => Nat.zero_le _
  | w :: r, h => by
    have h1 := h w List.mem_cons_self
    have h2 := joinTail_length sep m r fun v hv => h v (List.mem_cons_of_mem _ hv)
    simp only [N.joinTail, List.length_append, List.length_cons, Nat.add_mul, Nat.one_mul]
    rw [Nat.mul_add] at h2 ⊢
    omega
theorem joinS_length (sep : Bytes) (m : Nat) : ∀ l : List Bytes, (∀ w ∈ l, w.length ≤ m) → (N.joinS sep l).length ≤ l.length * (m + sep.length)
  | [], _ => Nat.zero_le _
  | w :: r, h => by
    have h1 := h w List.mem_cons_self
    have h2 := joinTail_length sep m r fun v hv => h v (List.mem_cons_of_mem _ hv)
    simp only [N.joinS, List.length_append, List.length_cons, Nat.add_mul, Nat.one_mul]
    rw [Nat.mul_add] at h2 ⊢
    omega
/-- No word has a point in it. -/
def Free (l : List Bytes) : Prop := ∀ w ∈ l, ∀ c ∈ w, c ≠ 46
theorem splitDot_free : ∀ s, Free (N.splitDot s)
  | [] => fun w hw c hc => by
    have hw : w ∈ [[]] := hw
    rw [List.mem_singleton] at hw; subst hw; cases hc
  | c :: r => by
    have ih := splitDot_free r
    intro w hw x hx
    unfold N.splitDot at hw
    cases hc : c == 46 with
    | true =>
      rw [hc, cond_true] at hw
      rcases List.mem_cons.1 hw with rfl | hw
      · cases hx
      · exact ih w hw x hx
    | false =>
      rw [hc, cond_false] at hw
      cases hs : N.splitDot r with
      | nil => exact absurd hs (splitDot_ne _)
      | cons v vs =>
        rw [hs] at hw ih
        rcases List.mem_cons.1 hw with rfl | hw
        · rcases List.mem_cons.1 hx with rfl | hx
          · simpa using hc
          · exact ih v List.mem_cons_self x hx
        · exact ih w (List.mem_cons_of_mem _ hw) x hx
theorem splitDot_word : ∀ (w t : Bytes), (∀ c ∈ w, c ≠ 46) → N.splitDot (w ++ 46 :: t) = w :: N.splitDot t
  | [], t, _ => rfl
  | c :: w, t, h => by
    have hc : (c == 46) = false := by simpa using h c List.mem_cons_self
    have ih := splitDot_word w t fun x hx => h x (List.mem_cons_of_mem _ hx)
    show cond (c == 46) ([] :: N.splitDot (w ++ 46 :: t)) (match N.splitDot (w ++ 46 :: t) with | [] => [[c]] | v :: vs => (c :: v) :: vs) = _
    rw [hc, cond_false, ih]
theorem splitDot_last : ∀ (w : Bytes), (∀ c ∈ w, c ≠ 46) → N.splitDot w = [w]
  | [], _ => rfl
  | c :: w, h => by
    have hc : (c == 46) = false := by simpa using h c List.mem_cons_self
    have ih := splitDot_last w fun x hx => h x (List.mem_cons_of_mem _ hx)
    show cond (c == 46) ([] :: N.splitDot w) (match N.splitDot w with | [] => [[c]] | v :: vs => (c :: v) :: vs) = _
    rw [hc, cond_false, ih]
theorem splitDot_join : ∀ (l : List Bytes), l ≠ [] → Free l → N.splitDot (N.joinS [46] l) = l
  | [], h, _ => absurd rfl h
  | [w], _, h => by
    show N.splitDot (w ++ []) = _
    rw [List.append_nil]; exact splitDot_last w (h w List.mem_cons_self)
  | w :: v :: r, _, h => by
    show N.splitDot (w ++ 46 :: (v ++ N.joinTail [46] r)) = _
    rw [splitDot_word w _ (h w List.mem_cons_self)]
    have := splitDot_join (v :: r) (by simp) fun x hx => h x (List.mem_cons_of_mem _ hx)
    rw [show N.joinS [46] (v :: r) = v ++ N.joinTail [46] r from rfl] at this
    rw [this]
theorem join_splitDot : ∀ s, N.joinS [46] (N.splitDot s) = s
  | [] => rfl
  | c :: r => by
    have ih := join_splitDot r
    show N.joinS [46] (cond (c == 46) ([] :: N.splitDot r) (match N.splitDot r with | [] => [[c]] | w :: ws => (c :: w) :: ws)) = _
    cases hs : N.splitDot r with
    | nil => exact absurd hs (splitDot_ne _)
    | cons w ws =>
      rw [hs] at ih
      cases hc : c == 46 with
      | true =>
        have hc : c = 46 := by simpa using hc
        subst hc
        show 46 :: (w ++ N.joinTail [46] ws) = _
        rw [show w ++ N.joinTail [46] ws = r from ih]
      | false =>
        show c :: (w ++ N.joinTail [46] ws) = _
        rw [show w ++ N.joinTail [46] ws = r from ih]
theorem words_free (s : Bytes) : Free (N.words s) := by
  unfold N.words
  cases s.isEmpty with
  | true => exact fun w hw => by cases hw
  | false => exact splitDot_free s
theorem words_join {l : List Bytes} (hl : l ≠ []) (h : Free l) (hne : N.joinS [46] l ≠ []) : N.words (N.joinS [46] l) = l := by
  unfold N.words
  cases e : N.joinS [46] l with
  | nil => exact absurd e hne
  | cons c r => rw [← e]; rw [show (N.joinS [46] l).isEmpty = false by rw [e]; rfl]; exact splitDot_join l hl h
theorem join_words (s : Bytes) : N.joinS [46] (N.words s) = s := by
  unfold N.words
  cases s with
  | nil => rfl
  | cons c r => exact join_splitDot (c :: r)
theorem words_inj {s t : Bytes} (h : N.words s = N.words t) : s = t := by rw [← join_words s, ← join_words t, h]

/-! ### Keys as patterns -/
/-- A key's words. -/
def KeyOk (l : List Bytes) : Prop := ∀ w ∈ l, w ≠ hash ∧ w ≠ star
theorem refKeyL_key : ∀ l, N.refKeyL false l = 0 → KeyOk l
  | [], _ => fun w hw => by cases hw
  | w :: r, h => by
    unfold N.refKeyL at h
    cases hb : cond ((w.length : Int) == 0) true (!N.plain w) with
    | true => rw [hb] at h; cases h
    | false =>
      rw [hb] at h
      have ih := refKeyL_key r h
      intro v hv
      rcases List.mem_cons.1 hv with rfl | hv
      · refine ⟨fun e => ?_, fun e => ?_⟩ <;> subst e <;> cases hb
      · exact ih v hv
theorem refKey_key {s : Bytes} (h : (N.refKey s false != 0) = false) : KeyOk (N.words s) := by
  unfold N.refKey at h
  cases e : ilt 64 s.length with
  | true => rw [e] at h; cases h
  | false => rw [e, cond_false] at h; exact refKeyL_key _ (by simpa using h)
theorem M_key : ∀ {k o : List Bytes}, KeyOk k → (M k o ↔ k = o)
  | [], o, _ => by rw [M_nil]; exact ⟨fun h => h.symm, fun h => h.symm⟩
  | w :: k, o, h => by
    obtain ⟨h1, h2⟩ := h w List.mem_cons_self
    rw [M_one h1]
    constructor
    · rintro ⟨x, k', rfl, h3, h4⟩
      rw [(M_key fun v hv => h v (List.mem_cons_of_mem _ hv)).1 h4, h3.resolve_left h2]
    · intro e
      subst e
      exact ⟨w, k, rfl, .inr rfl, (M_key fun v hv => h v (List.mem_cons_of_mem _ hv)).2 rfl⟩
theorem M_all (k : List Bytes) : M [hash] k := M_hash_drop.2 ⟨k.length, Nat.le_refl _, by rw [List.drop_length]; exact .nil⟩
theorem M_wide {w : Bytes} {u v k : List Bytes} (h : M (u ++ w :: v) k) : M (u ++ hash :: v) k := by
  obtain ⟨n, h1, h2, h3⟩ := M_append.1 h
  refine M_append.2 ⟨n, h1, h2, ?_⟩
  by_cases hw : w = hash
  · rw [← hw]; exact h3
  · obtain ⟨x, k', e, _, h5⟩ := (M_one hw).1 h3
    rw [e]; exact .eat (.skip h5)
theorem set_split {l : List Bytes} {i : Nat} (h : i < l.length) (w : Bytes) : l = l.take i ++ l.getD i [] :: l.drop (i + 1) ∧ l.set i w = l.take i ++ w :: l.drop (i + 1) := by
  refine ⟨?_, List.set_eq_take_append_cons_drop .. |>.trans (by rw [if_pos h])⟩
  rw [← getD_at h, List.take_append_drop]
theorem M_stars : ∀ (n : Nat) (k : List Bytes), M (List.replicate n star) k ↔ k.length = n
  | 0, k => by rw [show List.replicate 0 star = ([] : List Bytes) from rfl, M_nil, List.length_eq_zero_iff]
  | n + 1, k => by
    rw [List.replicate_succ, M_one (by decide)]
    constructor
    · rintro ⟨x, k', rfl, _, h⟩
      rw [List.length_cons, (M_stars n k').1 h]
    · intro h
      cases k with
      | nil => simp at h
      | cons x k' => exact ⟨x, k', rfl, .inl rfl, (M_stars n k').2 (by simpa using h)⟩
theorem M_stars_hash (n : Nat) (k : List Bytes) : M (List.replicate n star ++ [hash]) k ↔ n ≤ k.length := by
  rw [M_append]
  constructor
  · rintro ⟨m, h1, h2, _⟩
    have := (M_stars n _).1 h2
    rw [List.length_take] at this; omega
  · intro h
    exact ⟨n, h, (M_stars n _).2 (by rw [List.length_take]; omega), M_all _⟩
theorem rep_stars : ∀ n : Nat, N.rep [46, 42] n = N.joinTail [46] (List.replicate n star)
  | 0 => rfl
  | n + 1 => by
    show [46, 42] ++ N.rep [46, 42] n = [46] ++ ([42] ++ N.joinTail [46] (List.replicate n star))
    rw [rep_stars n]; rfl
theorem rep_drop {n : Nat} (h : 1 ≤ n) : (N.rep [46, 42] n).drop 1 = N.joinS [46] (List.replicate n star) := by
  cases n with
  | zero => omega
  | succ n => rw [rep_stars]; rfl
theorem joinTail_append (sep : Bytes) : ∀ (l m : List Bytes), N.joinTail sep (l ++ m) = N.joinTail sep l ++ N.joinTail sep m
  | [], m => rfl
  | w :: l, m => by
    show sep ++ (w ++ N.joinTail sep (l ++ m)) = sep ++ (w ++ N.joinTail sep l) ++ N.joinTail sep m
    rw [joinTail_append sep l m]; simp
theorem stars_free (n : Nat) : Free (List.replicate n star) := fun w hw c hc => by
  have := (List.mem_replicate.1 hw).2
  subst this
  have := List.mem_singleton.1 hc
  subst this; decide
theorem rep_length (l : Bytes) : ∀ n, (N.rep l n).length = n * l.length
  | 0 => by simp [N.rep]
  | n + 1 => by simp only [N.rep, List.length_append, rep_length l n, Nat.add_mul, Nat.one_mul]; omega
end Go.Ev
