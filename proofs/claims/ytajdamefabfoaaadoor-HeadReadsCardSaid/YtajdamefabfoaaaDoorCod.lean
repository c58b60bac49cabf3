/- Answers over Lean's own types: a function's answer, said of numbers, texts, lists and structs: definitions and lemmas, no condition. -/
import Derived.Test.YtajdamefabfoaaaDoorSo18
namespace Go.Ev
open Go Go.RowKit

/-! ### Values as they come in: numbers in their kind, lengths below Go's bound -/
mutual
def wfV : V → Bool
  | .int k n => (Lit.int k n).wf
  | .str s => Nat.ble s.length 9223372036854775807
  | .slc sh rows => cond (Nat.ble rows.length 9223372036854775807) (cond (fitsRows sh rows) (wfRs rows) false) false
  | .bool _ => true
  | .nils _ => true
  | _ => false
def wfL : List V → Bool
  | [] => true
  | v :: r => cond (wfV v) (wfL r) false
def wfRs : List (List V) → Bool
  | [] => true
  | r :: rs => cond (wfL r) (wfRs rs) false
end
theorem wfL_append : ∀ (a b : List V), wfL (a ++ b) = cond (wfL a) (wfL b) false
  | [], b => by simp [wfL]
  | v :: r, b => by
    simp only [List.cons_append, wfL, wfL_append r b]
    cases wfV v <;> cases wfL r <;> cases wfL b <;> rfl
theorem wfL_get : ∀ (l : List V), wfL l = true → ∀ i, i < l.length → wfV (l.getD i .undef) = true
  | [], _, i, hi => by cases hi
  | v :: r, h, i, hi => by
    simp only [wfL] at h
    cases e : wfV v with
    | false => rw [e] at h; cases h
    | true =>
      rw [e] at h
      cases i with
      | zero => exact e
      | succ i => simpa using wfL_get r h i (by simpa using hi)
theorem wfL_of : ∀ (l : List V), (∀ i, i < l.length → wfV (l.getD i .undef) = true) → wfL l = true
  | [], _ => rfl
  | v :: r, h => by
    simp only [wfL]
    rw [show wfV v = true by simpa using h 0 (by simp)]
    exact wfL_of r fun i hi => by simpa using h (i + 1) (by simpa using hi)
theorem wfRs_map {α : Type} (dec : List V → α) (enc : α → List V) (sh : List Sh) (h : ∀ r, fitsL sh r = true → wfL r = true → wfL (enc (dec r)) = true) : ∀ rows, fitsRows sh rows = true → wfRs rows = true → wfRs ((rows.map dec).map enc) = true
  | [], _, _ => rfl
  | r :: rs, hf, hr => by
    simp only [wfRs] at hr
    simp only [fitsRows] at hf
    cases e : wfL r with
    | false => rw [e] at hr; cases hr
    | true =>
      cases e2 : fitsL sh r with
      | false => rw [e2] at hf; cases hf
      | true =>
        rw [e] at hr
        rw [e2] at hf
        simp only [List.map_cons, wfRs, h r e2 e, cond_true]
        exact wfRs_map dec enc sh h rs hf hr

/-- A row of cells that stands for an 'α'. -/
structure RCod (α : Type) where
  sh : List Sh
  enc : α → List V
  dec : List V → α
  rf : Sh.beqL sh sh = true
  fit : ∀ a, fitsL sh (enc a) = true
  wf : ∀ row, fitsL sh row = true → wfL row = true → wfL (enc (dec row)) = true
  de : ∀ a, dec (enc a) = a
  law : ∀ (w : World) (I : Nat → Nat → Prop) (row : List V) (val : Nat → Value), fitsL sh row = true → (∀ j, j < sh.length → Dat w I (row.getD j .undef) (val j)) → ∀ j, j < sh.length → Dat w I ((enc (dec row)).getD j .undef) (val j)

theorem fitsL_len {sh : List Sh} {row : List V} (h : fitsL sh row = true) : row.length = sh.length := (fitsL_spec sh row h).1
theorem fits_int {k : IntKind} {v : V} (h : fits (.int k) v = true) : ∃ n, v = .int k n := by
  cases v <;> first | (cases h; done) | (simp only [fits, decide_eq_true_eq] at h; subst h; exact ⟨_, rfl⟩)
theorem fits_bool {v : V} (h : fits .bool v = true) : ∃ n, v = .bool n := by cases v <;> first | (cases h; done) | exact ⟨_, rfl⟩
theorem fits_str {v : V} (h : fits .str v = true) : ∃ n, v = .str n := by cases v <;> first | (cases h; done) | exact ⟨_, rfl⟩
theorem fits_slc {c : List Sh} {v : V} (h : fits (.slc c) v = true) : (∃ r, v = .slc c r) ∨ v = .nils c := by
  cases v <;> first | (cases h; done) | (have := Sh.beqL_eq _ _ h; subst this; first | exact .inl ⟨_, rfl⟩ | exact .inr rfl)
theorem fitsL_one {s : Sh} {row : List V} (h : fitsL [s] row = true) : ∃ v, row = [v] ∧ fits s v = true := by
  match row, h with
  | [], h => cases h
  | [v], h =>
    refine ⟨v, rfl, ?_⟩
    simp only [fitsL] at h
    cases e : fits s v with
    | true => rfl
    | false => rw [e] at h; cases h
  | v :: u :: r, h =>
    simp only [fitsL] at h
    cases e : fits s v with
    | true => rw [e] at h; cases h
    | false => rw [e] at h; cases h
theorem fitsL_append : ∀ (s t : List Sh) (x y : List V), fitsL s x = true → fitsL t y = true → fitsL (s ++ t) (x ++ y) = true
  | [], t, x, y, h, k => by cases x with | nil => exact k | cons _ _ => cases h
  | a :: s, t, x, y, h, k => by
    cases x with
    | nil => cases h
    | cons v x =>
      simp only [fitsL] at h
      simp only [List.cons_append, fitsL]
      cases e : fits a v with
      | false => rw [e] at h; cases h
      | true => rw [e] at h; exact fitsL_append s t x y h k
theorem fitsL_split : ∀ (s t : List Sh) (z : List V), fitsL (s ++ t) z = true → fitsL s (z.take s.length) = true ∧ fitsL t (z.drop s.length) = true
  | [], t, z, h => ⟨rfl, by simpa using h⟩
  | a :: s, t, z, h => by
    cases z with
    | nil => cases h
    | cons v z =>
      simp only [List.cons_append, fitsL] at h
      simp only [List.length_cons, List.take_succ_cons, List.drop_succ_cons, fitsL]
      cases e : fits a v with
      | false => rw [e] at h; cases h
      | true => rw [e] at h; exact fitsL_split s t z h
theorem Sh.beqL_append : ∀ (a b c d : List Sh), Sh.beqL a b = true → Sh.beqL c d = true → Sh.beqL (a ++ c) (b ++ d) = true
  | [], b, c, d, h, k => by cases b with | nil => exact k | cons _ _ => cases h
  | x :: a, b, c, d, h, k => by
    cases b with
    | nil => cases h
    | cons y b =>
      simp only [Sh.beqL] at h
      simp only [List.cons_append, Sh.beqL]
      cases e : Sh.beq x y with
      | false => rw [e] at h; cases h
      | true => rw [e] at h; exact Sh.beqL_append a b c d h k

def rInt (k : IntKind) : RCod Int where
  sh := [.int k]; enc n := [.int k n]; dec r := (r.getD 0 .undef).toInt
  rf := by simp [Sh.beqL, Sh.beq]
  fit _ := by simp [fitsL, fits]
  de _ := rfl
  wf row h hw := by
    obtain ⟨v, rfl, hf⟩ := fitsL_one h
    obtain ⟨n, rfl⟩ := fits_int hf
    exact hw
  law w I row val h hd j hj := by
    obtain ⟨v, rfl, hf⟩ := fitsL_one h
    obtain ⟨n, rfl⟩ := fits_int hf
    have : j = 0 := by simp at hj; exact hj
    subst this
    exact hd 0 (by simp)
def rBool : RCod Bool where
  sh := [.bool]; enc n := [.bool n]; dec r := (r.getD 0 .undef).toBool
  rf := rfl
  fit _ := rfl
  de _ := rfl
  wf row h hw := by
    obtain ⟨v, rfl, hf⟩ := fitsL_one h
    obtain ⟨n, rfl⟩ := fits_bool hf
    exact hw
  law w I row val h hd j hj := by
    obtain ⟨v, rfl, hf⟩ := fitsL_one h
    obtain ⟨n, rfl⟩ := fits_bool hf
    have : j = 0 := by simp at hj; exact hj
    subst this
    exact hd 0 (by simp)
def rStr : RCod (List UInt8) where
  sh := [.str]; enc n := [.str n]; dec r := (r.getD 0 .undef).toStr
  rf := rfl
  fit _ := rfl
  de _ := rfl
  wf row h hw := by
    obtain ⟨v, rfl, hf⟩ := fitsL_one h
    obtain ⟨n, rfl⟩ := fits_str hf
    exact hw
  law w I row val h hd j hj := by
    obtain ⟨v, rfl, hf⟩ := fitsL_one h
    obtain ⟨n, rfl⟩ := fits_str hf
    have : j = 0 := by simp at hj; exact hj
    subst this
    exact hd 0 (by simp)
/-- Rows of a kind, none of them opened. -/
theorem rows_dat {α : Type} (c : RCod α) {w : World} {I : Nat → Nat → Prop} {rows : List (List V)} {x : Value} (h : Dat w I (.slc c.sh rows) x) : Dat w I (.slc c.sh ((rows.map c.dec).map c.enc)) x := by
  cases h with
  | slc _ _ a cap val hcap hfit ha hd =>
    have hlen : ((rows.map c.dec).map c.enc).length = rows.length := by simp
    have hget : ∀ i, i < rows.length → ((rows.map c.dec).map c.enc).getD i [] = c.enc (c.dec (rows.getD i [])) := fun i hi => by
      simp [List.getD_eq_getElem?_getD, hi]
    rw [← hlen]
    refine .slc _ _ a cap val (by rw [hlen]; exact hcap) (fitsRows_of _ _ fun i hi => ?_) (fun hr => ?_) (fun i j hi hj => ?_)
    · rw [hlen] at hi; rw [hget i hi]; exact c.fit _
    · obtain ⟨b, o, h1, h2⟩ := ha (by intro e; subst e; exact hr rfl)
      exact ⟨b, o, h1, fun i j hi hj => h2 i j (by rwa [hlen] at hi) hj⟩
    · rw [hlen] at hi
      unfold rowAt
      rw [hget i hi]
      exact c.law w I _ (val i) (fitsRows_spec _ _ hfit i hi) (fun j hj => hd i j hi hj) j hj
def rSl {α : Type} (c : RCod α) : RCod (List α) where
  sh := [.slc c.sh]; enc l := [.slc c.sh (l.map c.enc)]; dec r := (r.getD 0 .undef).toRows.map c.dec
  rf := by simp [Sh.beqL, Sh.beq, c.rf]
  fit _ := by simp [fitsL, fits, c.rf]
  de l := by simp [V.toRows, Function.comp_def, c.de]
  wf row h hw := by
    obtain ⟨v, rfl, hf⟩ := fitsL_one h
    rcases fits_slc hf with ⟨r, rfl⟩ | rfl
    · simp only [wfL, wfV] at hw ⊢
      cases e1 : Nat.ble r.length 9223372036854775807 with
      | false => simp only [e1, cond_false] at hw; cases hw
      | true =>
        cases e3 : fitsRows c.sh r with
        | false => simp only [e1, e3, cond_true, cond_false] at hw; cases hw
        | true =>
          cases e2 : wfRs r with
          | false => simp only [e1, e2, e3, cond_true, cond_false] at hw; cases hw
          | true =>
            have g1 : ((r.map c.dec).map c.enc).length = r.length := by simp
            have g2 : fitsRows c.sh ((r.map c.dec).map c.enc) = true := fitsRows_of _ _ fun i hi => by
              rw [g1] at hi
              rw [show ((r.map c.dec).map c.enc).getD i [] = c.enc (c.dec (r.getD i [])) by simp [List.getD_eq_getElem?_getD, hi]]
              exact c.fit _
            show (cond (cond (Nat.ble ((r.map c.dec).map c.enc).length 9223372036854775807) (cond (fitsRows c.sh ((r.map c.dec).map c.enc)) (wfRs ((r.map c.dec).map c.enc)) false) false) true false) = true
            rw [g1, e1, g2, wfRs_map c.dec c.enc c.sh c.wf r e3 e2]; rfl
    · rfl
  law w I row val h hd j hj := by
    obtain ⟨v, rfl, hf⟩ := fitsL_one h
    have : j = 0 := by simp at hj; exact hj
    subst this
    have h0 := hd 0 (by simp)
    rcases fits_slc hf with ⟨r, rfl⟩ | rfl
    · exact rows_dat c h0
    · exact rows_dat c (rows := []) h0.nrm1
def RCod.and {α β : Type} (c : RCod α) (d : RCod β) : RCod (α × β) where
  sh := c.sh ++ d.sh; enc p := c.enc p.1 ++ d.enc p.2; dec r := (c.dec (r.take c.sh.length), d.dec (r.drop c.sh.length))
  rf := Sh.beqL_append _ _ _ _ c.rf d.rf
  fit p := fitsL_append _ _ _ _ (c.fit _) (d.fit _)
  de p := by
    have l1 : (c.enc p.1).length = c.sh.length := fitsL_len (c.fit _)
    show (c.dec ((c.enc p.1 ++ d.enc p.2).take c.sh.length), d.dec ((c.enc p.1 ++ d.enc p.2).drop c.sh.length)) = p
    rw [← l1, List.take_left, List.drop_left, c.de, d.de]
  wf row h hw := by
    obtain ⟨h1, h2⟩ := fitsL_split _ _ _ h
    have e : row.take c.sh.length ++ row.drop c.sh.length = row := List.take_append_drop _ _
    rw [← e, wfL_append] at hw
    obtain ⟨w1, w2⟩ : wfL (row.take c.sh.length) = true ∧ wfL (row.drop c.sh.length) = true := by
      cases e1 : wfL (row.take c.sh.length) with
      | false => rw [e1] at hw; cases hw
      | true => rw [e1] at hw; exact ⟨rfl, hw⟩
    rw [wfL_append, c.wf _ h1 w1, d.wf _ h2 w2]; rfl
  law w I row val h hd j hj := by
    obtain ⟨h1, h2⟩ := fitsL_split _ _ _ h
    have l1 : (c.enc (c.dec (row.take c.sh.length))).length = c.sh.length := fitsL_len (c.fit _)
    have hl := fitsL_len h
    simp only [List.length_append] at hj hl
    by_cases hjc : j < c.sh.length
    · have := c.law w I _ val h1 (fun i hi => by
        have := hd i (by simp; omega)
        rwa [show (row.take c.sh.length).getD i .undef = row.getD i .undef by simp [List.getD_eq_getElem?_getD, List.getElem?_take, hi]]) j hjc
      rwa [show (c.enc (c.dec (row.take c.sh.length)) ++ d.enc (d.dec (row.drop c.sh.length))).getD j .undef = (c.enc (c.dec (row.take c.sh.length))).getD j .undef by
        simp [List.getD_eq_getElem?_getD, List.getElem?_append_left (show j < (c.enc (c.dec (row.take c.sh.length))).length by omega)]]
    · have := d.law w I _ (fun i => val (c.sh.length + i)) h2 (fun i hi => by
        have := hd (c.sh.length + i) (by simp; omega)
        rwa [show (row.drop c.sh.length).getD i .undef = row.getD (c.sh.length + i) .undef by simp [List.getD_eq_getElem?_getD]]) (j - c.sh.length) (by omega)
      rw [show c.sh.length + (j - c.sh.length) = j by omega] at this
      rwa [show (c.enc (c.dec (row.take c.sh.length)) ++ d.enc (d.dec (row.drop c.sh.length))).getD j .undef = (d.enc (d.dec (row.drop c.sh.length))).getD (j - c.sh.length) .undef by
        simp [List.getD_eq_getElem?_getD, List.getElem?_append_right (show (c.enc (c.dec (row.take c.sh.length))).length ≤ j by omega), l1]]
def RCod.iso {α β : Type} (c : RCod α) (f : α → β) (g : β → α) (h : ∀ a, g (f a) = a) (h2 : ∀ b, f (g b) = b) : RCod β where
  sh := c.sh; enc b := c.enc (g b); dec r := f (c.dec r)
  rf := c.rf
  fit b := c.fit _
  de b := by rw [c.de, h2]
  wf row hf hw := by
    show wfL (c.enc (g (f (c.dec row)))) = true
    rw [h]; exact c.wf row hf hw
  law w I row val hf hd := by
    show ∀ j, j < c.sh.length → Dat w I ((c.enc (g (f (c.dec row)))).getD j .undef) (val j)
    rw [h]
    exact c.law w I row val hf hd

/-! ### Arguments -/
structure VCod (α : Type) where
  ok : V → Bool
  enc : α → V
  dec : V → α
  ed : ∀ a, ok (enc a) = true ∧ dec (enc a) = a
  law : ∀ (w : World) (I : Nat → Nat → Prop) (ρ : Nat → Option Real) (v : V) (x : Value), ok v = true → Rv w I ρ v x → Rv w I ρ (enc (dec v)) x
theorem fitsL_dat : ∀ (sh : List Sh) (row : List V), fitsL sh row = true → ∀ j, j < sh.length → datV (row.getD j .undef) = true := fun sh row h j hj => by
  have := (fitsL_spec sh row h).2 j hj
  generalize sh.getD j .oth = s at this
  generalize row.getD j .undef = v at this
  cases s <;> cases v <;> first | rfl | cases this
/-- A struct. -/
def vAgg {α : Type} (c : RCod α) : VCod α where
  ok := fun | .agg cs => fitsL c.sh cs | _ => false
  enc a := .agg (c.enc a)
  dec := fun | .agg cs => c.dec cs | _ => c.dec []
  ed a := ⟨c.fit a, c.de a⟩
  law w I ρ v x h hx := by
    cases v with
    | agg cs =>
      obtain ⟨xs, rfl, l, hh⟩ := hx.agg_inv
      have hl := fitsL_len h
      have hl' : (c.enc (c.dec cs)).length = c.sh.length := fitsL_len (c.fit _)
      refine .agg _ xs (by simp only; omega) fun i hi => ?_
      simp only at hi ⊢
      exact .dat (c.law w I cs (fun j => xs.getD j Go.undef) h (fun j hj => datV_ok (hh j (by omega)) (fitsL_dat _ _ h j hj)) i (by omega))
    | _ => cases h
/-- A value of one cell. -/
def vOne {α : Type} (c : RCod α) (h1 : c.sh.length = 1) : VCod α where
  ok v := fitsL c.sh [v]
  enc a := (c.enc a).headD .undef
  dec v := c.dec [v]
  ed a := by
    have l1 : (c.enc a).length = 1 := (fitsL_len (c.fit _)).trans h1
    have e : [(c.enc a).headD .undef] = c.enc a := by
      match hc : c.enc a, l1 with
      | [v], _ => rfl
      | [], h => rw [hc] at l1; cases l1
      | _ :: _ :: _, h => rw [hc] at l1; simp at l1
    rw [e]; exact ⟨c.fit a, c.de a⟩
  law w I ρ v x h hx := by
    have hd : Dat w I v x := datV_ok hx (by simpa using fitsL_dat _ _ h 0 (by omega))
    have := c.law w I [v] (fun _ => x) h (fun j hj => by
      have h0 : j = 0 := by omega
      subst h0
      exact hd) 0 (by omega)
    have e : (c.enc (c.dec [v])).headD .undef = (c.enc (c.dec [v])).getD 0 .undef := by cases c.enc (c.dec [v]) <;> rfl
    rw [e]; exact .dat this
def vInt (k : IntKind) : VCod Int := vOne (rInt k) rfl
def vBool : VCod Bool := vOne rBool rfl
def vStr : VCod (List UInt8) := vOne rStr rfl
def vSl {α : Type} (c : RCod α) : VCod (List α) := vOne (rSl c) rfl
/-- The place of lent box 'n'. -/
def vPtr (n : Nat) : VCod Unit where
  ok := fun | .ptr m 0 0 0 => Nat.beq n m | _ => false
  enc _ := .ptr n 0 0 0
  dec _ := ()
  ed _ := ⟨Nat.beq_refl n, rfl⟩
  law w I ρ v x h hx := by
    split at h
    · have := Nat.eq_of_beq_eq_true h; subst this; exact hx
    · cases h
structure ACod (α : Type) where
  ok : List V → Bool
  enc : α → List V
  dec : List V → α
  ed : ∀ a, ok (enc a) = true ∧ dec (enc a) = a
  law : ∀ (w : World) (I : Nat → Nat → Prop) (ρ : Nat → Option Real) (vs : List V) (xs : List Value), ok vs = true → AllRv w I ρ vs xs → AllRv w I ρ (enc (dec vs)) xs
def aNil : ACod Unit where
  ok := fun | [] => true | _ => false
  enc _ := []
  dec _ := ()
  ed _ := ⟨rfl, rfl⟩
  law w I ρ vs xs h hx := by cases vs with | nil => exact hx | cons _ _ => cases h
def aOne {α : Type} (c : VCod α) : ACod α where
  ok := fun | [v] => c.ok v | _ => false
  enc a := [c.enc a]
  dec vs := c.dec (vs.headD .undef)
  ed a := c.ed a
  law w I ρ vs xs h hx := by
    match vs, h with
    | [v], h =>
      obtain ⟨x, rfl, hx1⟩ := hx.one
      refine ⟨rfl, fun i hi => ?_⟩
      have : i = 0 := by simp at hi; exact hi
      subst this
      exact c.law w I ρ v x h hx1
    | [], h => cases h
    | _ :: _ :: _, h => cases h
def aCons {α β : Type} (c : VCod α) (r : ACod β) : ACod (α × β) where
  ok := fun | v :: vs => cond (c.ok v) (r.ok vs) false | [] => false
  enc p := c.enc p.1 :: r.enc p.2
  dec vs := (c.dec (vs.headD .undef), r.dec vs.tail)
  ed p := by
    obtain ⟨h1, h2⟩ := c.ed p.1
    obtain ⟨h3, h4⟩ := r.ed p.2
    refine ⟨?_, ?_⟩
    · show cond (c.ok (c.enc p.1)) (r.ok (r.enc p.2)) false = true
      rw [h1, h3]; rfl
    · show (c.dec (c.enc p.1), r.dec (r.enc p.2)) = p
      rw [h2, h4]
  law w I ρ vs xs h hx := by
    cases vs with
    | nil => cases h
    | cons v vs =>
      obtain ⟨h1, h2⟩ : c.ok v = true ∧ r.ok vs = true := by
        simp only at h
        cases e : c.ok v with
        | true => rw [e] at h; exact ⟨rfl, h⟩
        | false => rw [e] at h; cases h
      obtain ⟨x, xs', rfl, hx1, hx2⟩ := hx.uncons
      have g1 := c.law w I ρ v x h1 hx1
      have g2 := r.law w I ρ vs xs' h2 hx2
      refine ⟨by simp [g2.1], fun i hi => ?_⟩
      cases i with
      | zero => exact g1
      | succ i => exact g2.2 i (by simpa using hi)
/-! ### Boxes that are lent -/
structure BCod (α : Type) where
  ok : List (List V) → Bool
  enc : α → List (List V)
  dec : List (List V) → α
  len : ∀ bx, ok bx = true → (enc (dec bx)).length = bx.length
  law : ∀ bx, ok bx = true → ∀ (j : Nat) (cs cs' : List V), bx[j]? = some cs → (enc (dec bx))[j]? = some cs' → cs'.length = cs.length ∧
    ∀ (w : World) (J : Nat → Nat → Prop) (ρ : Nat → Option Real) (k : Nat) (y : Value), k < cs.length → Rv w J ρ (cs.getD k .undef) y → ∀ val : Nat → Value, val k = y →
      (∀ i, i < cs.length → Rv w J ρ (cs.getD i .undef) (val i)) → Rv w J ρ (cs'.getD k .undef) y
def bNil : BCod Unit where
  ok := fun | [] => true | _ => false
  enc _ := []
  dec _ := ()
  len bx h := by cases bx with | nil => rfl | cons _ _ => cases h
  law bx h j cs cs' hj := by cases bx with | nil => cases hj | cons _ _ => cases h
theorem rcod_box {α : Type} (c : RCod α) {cs : List V} (h : fitsL c.sh cs = true) : (c.enc (c.dec cs)).length = cs.length ∧
    ∀ (w : World) (J : Nat → Nat → Prop) (ρ : Nat → Option Real) (k : Nat) (y : Value), k < cs.length → Rv w J ρ (cs.getD k .undef) y → ∀ val : Nat → Value, val k = y →
      (∀ i, i < cs.length → Rv w J ρ (cs.getD i .undef) (val i)) → Rv w J ρ ((c.enc (c.dec cs)).getD k .undef) y := by
  have hl := fitsL_len h
  have hl' : (c.enc (c.dec cs)).length = c.sh.length := fitsL_len (c.fit _)
  refine ⟨by omega, fun w J ρ k y hk hy val hv hall => ?_⟩
  have := c.law w J cs val h (fun j hj => datV_ok (hall j (by omega)) (fitsL_dat _ _ h j hj)) k (by omega)
  rw [hv] at this
  exact .dat this
def bOne {α : Type} (c : RCod α) : BCod α where
  ok := fun | [cs] => fitsL c.sh cs | _ => false
  enc a := [c.enc a]
  dec bx := c.dec (bx.headD [])
  len bx h := by
    match bx, h with
    | [cs], h => rfl
    | [], h => cases h
    | _ :: _ :: _, h => cases h
  law bx h j cs cs' hj hj' := by
    match bx, h with
    | [c₀], h =>
      have : j = 0 := by
        have := (List.getElem?_eq_some_iff.1 hj).1
        simp at this; exact this
      subst this
      cases hj; cases hj'
      exact rcod_box c h
    | [], h => cases h
    | _ :: _ :: _, h => cases h
def bCons {α β : Type} (c : RCod α) (r : BCod β) : BCod (α × β) where
  ok := fun | cs :: bx => cond (fitsL c.sh cs) (r.ok bx) false | [] => false
  enc p := c.enc p.1 :: r.enc p.2
  dec bx := (c.dec (bx.headD []), r.dec bx.tail)
  len bx h := by
    cases bx with
    | nil => cases h
    | cons cs bx =>
      simp only at h
      cases e : fitsL c.sh cs with
      | false => rw [e] at h; cases h
      | true => rw [e] at h; simp [r.len bx h]
  law bx h j cs cs' hj hj' := by
    cases bx with
    | nil => cases h
    | cons c₀ bx =>
      simp only at h
      cases e : fitsL c.sh c₀ with
      | false => rw [e] at h; cases h
      | true =>
        rw [e] at h
        cases j with
        | zero => cases hj; cases hj'; exact rcod_box c e
        | succ j => exact r.law bx h j cs cs' (by simpa using hj) (by simpa using hj')

/-! ### Answers -/
structure Out where
  v : V
  nb : List Box := []
/-- A function's answer over Lean's own types: 'p' where it answers. -/
def den {α β γ : Type} (A : ACod α) (B : BCod β) (O : γ → Out) (p : α → β → Bool) (f : α → β → γ × β) : Den where
  pre vs bx := cond (A.ok vs) (cond (B.ok bx) (p (A.dec vs) (B.dec bx)) false) false
  res vs bx := { v := (O (f (A.dec vs) (B.dec bx)).1).v, bx := B.enc (f (A.dec vs) (B.dec bx)).2, nb := (O (f (A.dec vs) (B.dec bx)).1).nb }
def oV {α : Type} (c : VCod α) (a : α) : Out := { v := c.enc a }
def oTup {α : Type} (c : ACod α) (a : α) : Out := { v := .tup (c.enc a) }
def oNew {α : Type} (c : RCod α) (a : α) : Out := { v := .ptr NEW 0 0 0, nb := [.var (c.enc a)] }
def oOwn {α : Type} (c : RCod α) (l : List α) : Out := { v := .own NEW 0, nb := [.sl c.sh (l.map c.enc) 0] }

theorem FnOk.at {P : Program} {f : FuncId} {args : List V} {bx : List (List V)} {r : DRes} (h : FnOk P f { pre := fun a b => @decide (a = args ∧ b = bx) (Classical.propDecidable _), res := fun _ _ => r }) {A' : List V} {B' : List (List V)}
    (hB : bx.length = B'.length) (hlen : ∀ (j : Nat) (cs cs' : List V), B'[j]? = some cs → bx[j]? = some cs' → cs'.length = cs.length ∧
      ∀ (w : World) (J : Nat → Nat → Prop) (ρ : Nat → Option Real) (k : Nat) (y : Value), k < cs.length → Rv w J ρ (cs.getD k .undef) y → ∀ val : Nat → Value, val k = y →
      (∀ i, i < cs.length → Rv w J ρ (cs.getD i .undef) (val i)) → Rv w J ρ (cs'.getD k .undef) y)
    (hA : ∀ (w : World) (I : Nat → Nat → Prop) (ρ : Nat → Option Real) (xs : List Value), AllRv w I ρ A' xs → AllRv w I ρ args xs) :
    FnOk P f { pre := fun a b => @decide (a = A' ∧ b = B') (Classical.propDecidable _), res := fun _ _ => r } := by
  intro a b hpre w J locs xs hl hJ hx hc hdis hgl
  have hpre' : a = A' ∧ b = B' := by simpa using hpre
  obtain ⟨rfl, rfl⟩ := hpre'
  have get : ∀ (j : Nat) (cs' : List V), bx[j]? = some cs' → ∃ cs, b[j]? = some cs := fun j cs' hj => by
    have := (List.getElem?_eq_some_iff.1 hj).1
    exact ⟨b[j]'(by omega), by simp⟩
  have hloc : locReal locs bx = locReal locs b := by
    funext j
    unfold locReal
    cases hlj : locs[j]? with
    | none => rfl
    | some p =>
      cases hbj : bx[j]? with
      | none =>
        have : b[j]? = none := by rw [List.getElem?_eq_none_iff] at hbj ⊢; omega
        rw [this]
      | some cs' =>
        obtain ⟨cs, hcs⟩ := get j cs' hbj
        rw [hcs]
        simp only [Option.some.injEq, Real.mk.injEq, true_and, and_true]
        exact (hlen j cs cs' hcs hbj).1
  have hhas : ∀ r o, LocHas locs bx r o ↔ LocHas locs b r o := fun r o => by
    constructor
    · rintro ⟨j, p, cs', h1, h2, h3, h4, h5⟩
      obtain ⟨cs, hcs⟩ := get j cs' h2
      exact ⟨j, p, cs, h1, hcs, h3, h4, by rw [← (hlen j cs cs' hcs h2).1]; exact h5⟩
    · rintro ⟨j, p, cs, h1, h2, h3, h4, h5⟩
      have hj := (List.getElem?_eq_some_iff.1 h2).1
      have h2' : bx[j]? = some (bx[j]'(by omega)) := by simp
      exact ⟨j, p, _, h1, h2', h3, h4, by rw [(hlen j cs _ h2 h2').1]; exact h5⟩
  have main := h args bx (by simp) w J locs xs (by omega) hJ (hloc ▸ hA w J _ xs hx) (fun j p cs' h1 h2 k hk => by
      obtain ⟨cs, hcs⟩ := get j cs' h2
      obtain ⟨e1, e2⟩ := hlen j cs cs' hcs h2
      obtain ⟨⟨y, g1, g2⟩, g3, g4⟩ := hc j p cs h1 hcs k (by omega)
      have ex : ∀ i, ∃ z, i < cs.length → w.cell? ⟨p.1, p.2 + i, none⟩ = some z ∧ Rv w J noRho (cs.getD i .undef) z := fun i => by
        by_cases hi : i < cs.length
        · obtain ⟨⟨z, q1, q2⟩, _⟩ := hc j p cs h1 hcs i hi; exact ⟨z, fun _ => ⟨q1, q2⟩⟩
        · exact ⟨Go.undef, fun h => absurd h hi⟩
      have hv := fun i => Classical.choose_spec (ex i)
      refine ⟨⟨y, g1, e2 w J noRho k y (by omega) g2 (fun i => Classical.choose (ex i)) ?_ (fun i hi => (hv i hi).2)⟩, g3, g4⟩
      exact (Option.some.inj (g1.symm.trans (hv k (by omega)).1)).symm)
    (fun j j' p p' cs cs' r o h1 h2 h3 h4 h5 h6 h7 h8 h9 h10 => by
      obtain ⟨c, hc1⟩ := get j cs h3
      obtain ⟨c', hc2⟩ := get j' cs' h4
      exact hdis j j' p p' c c' r o h1 h2 hc1 hc2 h5 h6 (by rw [← (hlen j c cs hc1 h3).1]; exact h7) h8 h9 (by rw [← (hlen j' c' cs' hc2 h4).1]; exact h10)) hgl
  have conv : ∀ v w', (∃ J', RetOk w w' J locs bx r v J') → ∃ J', RetOk w w' J locs b r v J' := fun v w' ⟨J', hR⟩ =>
    ⟨J', ⟨hR.keeps.mono fun r o _ h => (hhas r o).1 h, hR.mono, hR.lt, hR.old, hR.len.trans hB, fun j cs cs' p h1 h2 h3 => by
      have hj := (List.getElem?_eq_some_iff.1 h1).1
      have h2' : bx[j]? = some (bx[j]'(by omega)) := by simp
      have e := hR.bx j _ cs' p h2' h2 h3
      exact ⟨e.1.trans (hlen j cs _ h1 h2').1, e.2⟩, hR.val⟩⟩
  rcases main with ⟨h1, h2⟩ | ⟨v, w', h1, h2⟩
  · exact .inl ⟨h1, h2.mono fun e w' ⟨v, hv, hr⟩ => ⟨v, hv, conv v w' hr⟩⟩
  · exact .inr ⟨v, w', h1, conv v w' h2⟩

/-- A function's answer over Lean's own types, one by one. -/
theorem den_of {P : Program} {f : FuncId} {α β γ : Type} {A : ACod α} {B : BCod β} {O : γ → Out} {p : α → β → Bool} {g : α → β → γ × β}
    (h : ∀ a b, p a b = true → FnOk P f { pre := fun x y => @decide (x = A.enc a ∧ y = B.enc b) (Classical.propDecidable _), res := fun _ _ => { v := (O (g a b).1).v, bx := B.enc (g a b).2, nb := (O (g a b).1).nb } }) : FnOk P f (den A B O p g) := by
  intro args bx hpre
  obtain ⟨h1, hpre⟩ : A.ok args = true ∧ cond (B.ok bx) (p (A.dec args) (B.dec bx)) false = true := by
    simp only [den] at hpre
    cases e : A.ok args with
    | true => rw [e] at hpre; exact ⟨rfl, hpre⟩
    | false => rw [e] at hpre; cases hpre
  obtain ⟨h2, h3⟩ : B.ok bx = true ∧ p (A.dec args) (B.dec bx) = true := by
    cases e : B.ok bx with
    | true => rw [e] at hpre; exact ⟨rfl, hpre⟩
    | false => rw [e] at hpre; cases hpre
  exact ((h _ _ h3).at (A' := args) (B' := bx) (B.len bx h2) (B.law bx h2) (fun w I ρ xs hx => A.law w I ρ args xs h1 hx)) args bx (by simp)

/-- A function's answer over Lean's own types, by what the evaluator makes of its body. -/
theorem den_ok {E : Env} (hG : ∀ f D, E.G f = some D → FnOk E.P f D) {f : FuncId} {fn : Func} {c : Code} (hf : E.P.funcs[f]? = some fn) (hb : fn.body = some c)
    (hl : ∀ q ∈ loopsOf c, LoopOk E fn.ntmps q.1 q.2) (hnm : (fn.name == "runtime.NumGoroutine") = false) {α β γ : Type} {A : ACod α} {B : BCod β} {O : γ → Out} {p : α → β → Bool} {g : α → β → γ × β}
    (h : ∀ a b, p a b = true → evFn E f (A.enc a) (B.enc b) some = some { v := (O (g a b).1).v, bx := B.enc (g a b).2, nb := (O (g a b).1).nb }) : FnOk E.P f (den A B O p g) := by
  intro args bx hpre
  obtain ⟨h1, hpre⟩ : A.ok args = true ∧ cond (B.ok bx) (p (A.dec args) (B.dec bx)) false = true := by
    simp only [den] at hpre
    cases e : A.ok args with
    | true => rw [e] at hpre; exact ⟨rfl, hpre⟩
    | false => rw [e] at hpre; cases hpre
  obtain ⟨h2, h3⟩ : B.ok bx = true ∧ p (A.dec args) (B.dec bx) = true := by
    cases e : B.ok bx with
    | true => rw [e] at hpre; exact ⟨rfl, hpre⟩
    | false => rw [e] at hpre; cases hpre
  have hE := evFn_sound hG hf hb hl hnm (D := { pre := fun a b => @decide (a = A.enc (A.dec args) ∧ b = B.enc (B.dec bx)) (Classical.propDecidable _), res := fun _ _ => (den A B O p g).res args bx }) (fun a b hab => by
    have hab : a = A.enc (A.dec args) ∧ b = B.enc (B.dec bx) := by simpa using hab
    obtain ⟨rfl, rfl⟩ := hab
    exact h _ _ h3)
  exact (hE.at (A' := args) (B' := bx) (B.len bx h2) (B.law bx h2) (fun w I ρ xs hx => A.law w I ρ args xs h1 hx)) args bx (by simp)
end Go.Ev
