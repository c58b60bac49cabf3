/- The relation between the evaluator's state and the model's memory, and what keeps it: definitions and lemmas, no condition. -/
import Derived.Test.YtajdamefabfoaaaDoorEv
namespace Go.Ev
open Go Go.RowKit

/-! ### Memory that is kept but for some cells -/
def ObjOk (X : Nat → Prop) : Option Obj → Option Obj → Prop
  | some (.cells c e f), o' => ∃ c', o' = some (.cells c' e f) ∧ c'.size = c.size ∧ ∀ i, ¬ X i → c'[i]? = c[i]?
  | o, o' => o' = o
structure Keeps (X : Nat → Nat → Prop) (w w' : World) : Prop where
  os : w'.os = w.os
  tape : w'.tape = w.tape
  output : w'.output = w.output
  size : w.heap.size ≤ w'.heap.size
  obj : ∀ b, b < w.heap.size → ObjOk (X b) w.heap[b]? w'.heap[b]?

theorem ObjOk.refl (X : Nat → Prop) (o : Option Obj) : ObjOk X o o := by
  unfold ObjOk; split
  · exact ⟨_, rfl, rfl, fun _ _ => rfl⟩
  · rfl
theorem ObjOk.same {X : Nat → Prop} {o o' : Option Obj} (h : o' = o) : ObjOk X o o' := by subst h; exact ObjOk.refl X _
theorem ObjOk.mono {X Y : Nat → Prop} (h : ∀ i, X i → Y i) {o o' : Option Obj} (k : ObjOk X o o') : ObjOk Y o o' := by
  unfold ObjOk at *; split
  · obtain ⟨c', h1, h2, h3⟩ := k; exact ⟨c', h1, h2, fun i hi => h3 i fun hx => hi (h i hx)⟩
  · rename_i hn
    split at k
    · rename_i o'' c e f; exact absurd rfl (hn c e f)
    · exact k
theorem ObjOk.trans {X : Nat → Prop} {a b c : Option Obj} (h : ObjOk X a b) (k : ObjOk X b c) : ObjOk X a c := by
  unfold ObjOk at h
  split at h
  · obtain ⟨c', rfl, h2, h3⟩ := h
    obtain ⟨c'', k1, k2, k3⟩ := k
    exact ⟨c'', k1, k2.trans h2, fun i hi => (k3 i hi).trans (h3 i hi)⟩
  · subst h; exact k

theorem Keeps.refl (X : Nat → Nat → Prop) (w : World) : Keeps X w w := ⟨rfl, rfl, rfl, Nat.le_refl _, fun _ _ => ObjOk.refl _ _⟩
theorem Keeps.mono {X Y : Nat → Nat → Prop} {w w' : World} (h : ∀ b o, b < w.heap.size → X b o → Y b o) (k : Keeps X w w') : Keeps Y w w' :=
  ⟨k.os, k.tape, k.output, k.size, fun b hb => (k.obj b hb).mono fun i hi => h b i hb hi⟩
theorem Keeps.trans {X Y : Nat → Nat → Prop} {a b c : World} (h : Keeps X a b) (k : Keeps Y b c) (hy : ∀ r o, r < a.heap.size → Y r o → X r o) : Keeps X a c :=
  ⟨k.os.trans h.os, k.tape.trans h.tape, k.output.trans h.output, Nat.le_trans h.size k.size, fun r hr =>
    (h.obj r hr).trans ((k.obj r (Nat.lt_of_lt_of_le hr h.size)).mono fun i hi => hy r i hr hi)⟩
theorem Keeps.trans' {X : Nat → Nat → Prop} {a b c : World} (h : Keeps X a b) (k : Keeps X b c) : Keeps X a c := h.trans k fun _ _ _ h => h
theorem Keeps.alloc (X : Nat → Nat → Prop) (w : World) (o : Obj) : Keeps X w (w.alloc o) :=
  ⟨rfl, rfl, rfl, by simp, fun b hb => ObjOk.same (Below.heap_alloc w o b hb)⟩
theorem Keeps.drawn (X : Nat → Nat → Prop) (w : World) (n : Nat) : Keeps X w { w with drawn := n } := ⟨rfl, rfl, rfl, Nat.le_refl _, fun _ _ => ObjOk.refl _ _⟩
theorem Keeps.setCell {X : Nat → Nat → Prop} (w : World) (b o : Nat) (v : Value) (h : X b o) : Keeps X w (w.setCell ⟨b, o, none⟩ v) := by
  refine ⟨rfl, rfl, rfl, by simp, fun r hr => ?_⟩
  simp only [World.setCell, Array.getElem?_modify]
  by_cases hbr : b = r
  · subst hbr
    rw [if_pos rfl]
    cases hq : w.heap[b]? with
    | none => exact rfl
    | some q =>
      cases q with
      | cells c e f =>
        refine ⟨c.setIfInBounds o v, by simp, by simp, fun i hi => ?_⟩
        rw [Array.getElem?_setIfInBounds]
        split
        · subst_vars; exact absurd h hi
        · rfl
      | _ => exact rfl
  · rw [if_neg hbr]; exact ObjOk.refl _ _

theorem cell_eq (w : World) (b o : Nat) : w.cell? ⟨b, o, none⟩ = match w.heap[b]? with | some (.cells c _ _) => c[o]? | _ => none := by
  unfold World.cell?; cases w.heap[b]? with
  | none => rfl
  | some q => cases q <;> rfl
theorem lt_of_cell {w : World} {b o : Nat} {x : Value} (h : w.cell? ⟨b, o, none⟩ = some x) : b < w.heap.size := by
  rw [cell_eq] at h
  rcases Nat.lt_or_ge b w.heap.size with h' | h'
  · exact h'
  · rw [Array.getElem?_eq_none h'] at h; cases h
theorem Keeps.cell {X : Nat → Nat → Prop} {w w' : World} (k : Keeps X w w') {b o : Nat} (hx : ¬ X b o) (hb : b < w.heap.size) :
    w'.cell? ⟨b, o, none⟩ = w.cell? ⟨b, o, none⟩ := by
  rw [cell_eq, cell_eq]
  have h := k.obj b hb
  unfold ObjOk at h
  split at h
  · rename_i h0
    obtain ⟨c', h1, _, h3⟩ := h
    rw [h0, h1]; exact h3 o hx
  · rw [h]
theorem Keeps.alive {X : Nat → Nat → Prop} {w w' : World} (k : Keeps X w w') {b o : Nat} {x : Value} (h : w.cell? ⟨b, o, none⟩ = some x) :
    ∃ y, w'.cell? ⟨b, o, none⟩ = some y := by
  have hb := lt_of_cell h
  rw [cell_eq] at h
  have hk := k.obj b hb
  unfold ObjOk at hk
  split at hk
  · rename_i c e f h0
    obtain ⟨c', h1, h2, _⟩ := hk
    rw [cell_eq, h1]
    rw [h0] at h
    have : o < c.size := by
      rcases Nat.lt_or_ge o c.size with h' | h'
      · exact h'
      · simp only [Array.getElem?_eq_none h'] at h; cases h
    exact ⟨c'[o]'(by omega), by simp [h2, this]⟩
  · rw [cell_eq, hk]; exact ⟨x, h⟩
theorem frozen_eq (w : World) (b o : Nat) : w.frozen? ⟨b, o, none⟩ = match w.heap[b]? with | some (.cells _ _ (lo, hi)) => lo ≤ o && o < hi | _ => false := by
  unfold World.frozen?; rfl
theorem Keeps.frozen {X : Nat → Nat → Prop} {w w' : World} (k : Keeps X w w') {b o : Nat} (hb : b < w.heap.size) :
    w'.frozen? ⟨b, o, none⟩ = w.frozen? ⟨b, o, none⟩ := by
  rw [frozen_eq, frozen_eq]
  have h := k.obj b hb
  unfold ObjOk at h
  split at h
  · rename_i h0
    obtain ⟨c', h1, _, _⟩ := h
    rw [h0, h1]
  · rw [h]
theorem Keeps.shape {X : Nat → Nat → Prop} {w w' : World} (k : Keeps X w w') (b : Nat) (cur : Array Value) (e : TypeId) (f : Nat × Nat) (h : w.heap[b]? = some (.cells cur e f)) :
    ∃ cur', w'.heap[b]? = some (.cells cur' e f) ∧ cur'.size = cur.size := by
  have hb : b < w.heap.size := by
    rcases Nat.lt_or_ge b w.heap.size with h' | h'
    · exact h'
    · rw [Array.getElem?_eq_none h'] at h; cases h
  have := k.obj b hb
  rw [h] at this
  obtain ⟨c', h1, h2, _⟩ := this
  exact ⟨c', h1, h2⟩
theorem Keeps.below {w w' : World} (k : Keeps (fun _ _ => False) w w') : Below w.heap.size w w' := by
  refine ⟨k.os, k.tape, k.output, k.size, fun b hb => ?_⟩
  have h := k.obj b hb
  unfold ObjOk at h
  split at h
  · rename_i c e f h0
    obtain ⟨c', h1, h2, h3⟩ := h
    rw [h0, h1]
    congr 2
    exact Array.ext_getElem? fun i => h3 i id
  · exact h

/-! ### Data -/
def rowAt (rows : List (List V)) (i j : Nat) : V := (rows.getD i []).getD j .undef
inductive Dat (w : World) (I : Nat → Nat → Prop) : V → Value → Prop where
  | bool (b : Bool) : Dat w I (.bool b) (.bool b)
  | int (k : IntKind) (n : Int) : Dat w I (.int k n) (.int k n)
  | str (s : List UInt8) : Dat w I (.str s) (.string ⟨s.toArray⟩)
  | nils (sh : List Sh) : Dat w I (.nils sh) (.slice none 0 0)
  | slc (sh : List Sh) (rows : List (List V)) (a : Option Addr) (cap : Nat) (val : Nat → Nat → Value)
      (hcap : rows.length ≤ cap) (hfit : fitsRows sh rows = true)
      (ha : rows ≠ [] → ∃ b o, a = some ⟨b, o, none⟩ ∧ ∀ i j, i < rows.length → j < sh.length →
        w.cell? ⟨b, o + (i * sh.length + j), none⟩ = some (val i j) ∧ I b (o + (i * sh.length + j)))
      (hd : ∀ i j, i < rows.length → j < sh.length → Dat w I (rowAt rows i j) (val i j)) : Dat w I (.slc sh rows) (.slice a rows.length cap)

theorem Dat.keep {w w' : World} {I I' : Nat → Nat → Prop} (hw : ∀ b o, I b o → w'.cell? ⟨b, o, none⟩ = w.cell? ⟨b, o, none⟩) (hi : ∀ b o, I b o → I' b o)
    {v : V} {x : Value} (h : Dat w I v x) : Dat w' I' v x := by
  induction h with
  | bool b => exact .bool b
  | int k n => exact .int k n
  | str s => exact .str s
  | nils sh => exact .nils sh
  | slc sh rows a cap val hcap hfit ha _ ih =>
    refine .slc sh rows a cap val hcap hfit (fun hr => ?_) ih
    obtain ⟨b, o, h1, h2⟩ := ha hr
    exact ⟨b, o, h1, fun i j hi' hj => ⟨(hw _ _ (h2 i j hi' hj).2).trans (h2 i j hi' hj).1, hi _ _ (h2 i j hi' hj).2⟩⟩

/-! ### Boxes -/
structure Real where
  base : Option (Nat × Nat)
  sz : Nat
  n : Nat
  cap : Nat
  gen : Nat
def Real.has (br : Real) (b o : Nat) : Prop := ∃ o₀, br.base = some (b, o₀) ∧ o₀ ≤ o ∧ o < o₀ + br.cap * br.sz
def Real.slice (br : Real) : Value := .slice (br.base.map fun p => ⟨p.1, p.2, none⟩) br.n br.cap

/-- Index-wise. -/
def All2 (p : V → Value → Prop) (vs : List V) (xs : List Value) : Prop := vs.length = xs.length ∧ ∀ i, i < vs.length → p (vs.getD i .undef) (xs.getD i undef)

inductive Rv (w : World) (I : Nat → Nat → Prop) (ρ : Nat → Option Real) : V → Value → Prop where
  | dat {v : V} {x : Value} (h : Dat w I v x) : Rv w I ρ v x
  | undef (x : Value) : Rv w I ρ .undef x
  | emp (sh : List Sh) (q : Option Addr) : Rv w I ρ (.emp sh) (.slice q 0 0)
  | nilp : Rv w I ρ .nilp (.pointer none)
  | ptr (d r o g : Nat) (br : Real) (x : Value) (hd : ρ d = some br) (hg : g ≤ br.gen)
      (h : g = br.gen → r < br.n ∧ ∃ b o₀, br.base = some (b, o₀) ∧ x = .pointer (some ⟨b, o₀ + (r * br.sz + o), none⟩)) (hp : ∃ a, x = .pointer (some a)) : Rv w I ρ (.ptr d r o g) x
  | cref (cells : List V) (b o : Nat) (val : Nat → Value) (hc : ∀ j, j < cells.length → w.cell? ⟨b, o + j, none⟩ = some (val j) ∧ I b (o + j))
      (hd : ∀ j, j < cells.length → Dat w I (cells.getD j .undef) (val j)) : Rv w I ρ (.cref cells) (.pointer (some ⟨b, o, none⟩))
  | own (d g : Nat) (br : Real) (x : Value) (hd : ρ d = some br) (hg : g ≤ br.gen) (h : g = br.gen → x = br.slice) (hp : ∃ q n c, x = .slice q n c) : Rv w I ρ (.own d g) x
  | fn (f : FuncId) (first caps : List V) (xs ys : List Value) (l1 : first.length = xs.length) (h1 : ∀ i, i < first.length → Rv w I ρ (first.getD i .undef) (xs.getD i Go.undef))
      (l2 : caps.length = ys.length) (h2 : ∀ i, i < caps.length → Rv w I ρ (caps.getD i .undef) (ys.getD i Go.undef)) : Rv w I ρ (.fn f first caps) (.func (.func f) xs.toArray ys.toArray)
  | nilf : Rv w I ρ .nilf .nilFunc
  | nili : Rv w I ρ .nili .nilIface
  | agg (cells : List V) (xs : List Value) (l : cells.length = xs.length) (h : ∀ i, i < cells.length → Rv w I ρ (cells.getD i .undef) (xs.getD i Go.undef)) :
      Rv w I ρ (.agg cells) (.agg xs.toArray)
  | tup (vs : List V) (xs : List Value) (l : vs.length = xs.length) (h : ∀ i, i < vs.length → Rv w I ρ (vs.getD i .undef) (xs.getD i Go.undef)) :
      Rv w I ρ (.tup vs) (.tuple xs.toArray)

/-- How a box may go on: as it is, or older. -/
def Evo (ρ ρ' : Nat → Option Real) : Prop := ∀ d br, ρ d = some br → ∃ br', ρ' d = some br' ∧ (br' = br ∨ br.gen < br'.gen)
theorem Evo.refl (ρ : Nat → Option Real) : Evo ρ ρ := fun _ br h => ⟨br, h, .inl rfl⟩
theorem Evo.trans {a b c : Nat → Option Real} (h : Evo a b) (k : Evo b c) : Evo a c := fun d br hd => by
  obtain ⟨br1, h1, h2⟩ := h d br hd
  obtain ⟨br2, k1, k2⟩ := k d br1 h1
  refine ⟨br2, k1, ?_⟩
  rcases h2 with rfl | h2 <;> rcases k2 with rfl | k2
  · exact .inl rfl
  · exact .inr k2
  · exact .inr h2
  · exact .inr (Nat.lt_trans h2 k2)

theorem Rv.keep {w w' : World} {I I' : Nat → Nat → Prop} {ρ ρ' : Nat → Option Real} (hw : ∀ b o, I b o → w'.cell? ⟨b, o, none⟩ = w.cell? ⟨b, o, none⟩)
    (hi : ∀ b o, I b o → I' b o) (he : Evo ρ ρ') {v : V} {x : Value} (h : Rv w I ρ v x) : Rv w' I' ρ' v x := by
  induction h with
  | dat h => exact .dat (h.keep hw hi)
  | undef x => exact .undef x
  | emp sh q => exact .emp sh q
  | nilp => exact .nilp
  | ptr d r o g br x hd hg h hp =>
    obtain ⟨br', h1, h2⟩ := he d br hd
    refine .ptr d r o g br' x h1 ?_ (fun hgg => ?_) hp
    · rcases h2 with rfl | h2 <;> omega
    · rcases h2 with rfl | h2
      · exact h hgg
      · omega
  | cref cells b o val hc hd =>
    exact .cref cells b o val (fun j hj => ⟨(hw _ _ (hc j hj).2).trans (hc j hj).1, hi _ _ (hc j hj).2⟩) fun j hj => (hd j hj).keep hw hi
  | own d g br x hd hg h hp =>
    obtain ⟨br', h1, h2⟩ := he d br hd
    refine .own d g br' x h1 ?_ (fun hgg => ?_) hp
    · rcases h2 with rfl | h2 <;> omega
    · rcases h2 with rfl | h2
      · exact h hgg
      · omega
  | fn f first caps xs ys l1 _ l2 _ ih1 ih2 => exact .fn f first caps xs ys l1 ih1 l2 ih2
  | nilf => exact .nilf
  | nili => exact .nili
  | agg cells xs l _ ih => exact .agg cells xs l ih
  | tup vs xs l _ ih => exact .tup vs xs l ih

/-- A value of one cell. -/
def Flat1 (x : Value) : Prop := (∀ cs, x ≠ .agg cs) ∧ ∀ vs, x ≠ .tuple vs

def BoxR (w : World) (I : Nat → Nat → Prop) (ρ : Nat → Option Real) : Box → Real → Prop
  | .var cells, br => br.sz = cells.length ∧ br.n = 1 ∧ br.cap = 1 ∧ br.gen = 0 ∧ ∃ b o, br.base = some (b, o) ∧
      ∀ j, j < cells.length → ∃ x, w.cell? ⟨b, o + j, none⟩ = some x ∧ Rv w I ρ (cells.getD j .undef) x
  | .sl sh rows gen, br => br.sz = sh.length ∧ br.n = rows.length ∧ br.gen = gen ∧ rows.length ≤ br.cap ∧ fitsRows sh rows = true ∧ (br.base = none → br.cap = 0) ∧
      (∀ b o, br.base = some (b, o) → ∀ i j, i < rows.length → j < sh.length → ∃ x, w.cell? ⟨b, o + (i * sh.length + j), none⟩ = some x ∧ Dat w I (rowAt rows i j) x) ∧
      ∀ b o, br.base = some (b, o) → o = 0 ∧ br.cap ≤ maxLen ∧ ∃ cur e, w.heap[b]? = some (.cells cur e (0, 0)) ∧ cur.size = br.cap * br.sz
  | .dead, _ => True

def Live (S : St) (d : Nat) : Prop := ∃ box, lk? S.tab d = some box ∧ box ≠ .dead

/-- The memory at a call's beginning, and the places that were lent to it; boxes that lie still; the slices' cells. -/
structure Base extends World where
  lent : Nat → Option Real
  small : ∀ d br, lent d = some br → d < BOX
  hid : Nat → Option Real
  ev : Nat → Option Real
  sl : Nat → Nat → Prop

structure Rel (m : Nat) (w₀ : Base) (I₀ O₀ : Nat → Nat → Prop) (ρ : Nat → Option Real) (I : Nat → Nat → Prop) (S : St) (a : Act) (w : World) : Prop where
  fr : ∀ t v, lk? S.fr t = some v → Rv w I ρ v (a.tmps.getD t undef)
  dfr : a.defers = []
  size : a.tmps.size = m
  tab : ∀ d box, lk? S.tab d = some box → ∃ br, ρ d = some br ∧ BoxR w I ρ box br
  dom : ∀ d br, ρ d = some br → ∃ box, lk? S.tab d = some box
  apart : ∀ d d' br br' b o, Live S d → Live S d' → ρ d = some br → ρ d' = some br' → br.has b o → br'.has b o → d = d'
  notI : ∀ d br b o, Live S d → ρ d = some br → br.has b o → ¬ I b o
  org : ∀ d br b o, Live S d → ρ d = some br → br.has b o → w₀.heap.size ≤ b ∨ O₀ b o
  slorg : ∀ d sh rows gen br b o, lk? S.tab d = some (.sl sh rows gen) → ρ d = some br → br.has b o → w₀.heap.size ≤ b ∨ w₀.sl b o
  alive : ∀ d br b o, Live S d → ρ d = some br → br.has b o → (∃ x, w.cell? ⟨b, o, none⟩ = some x) ∧ w.frozen? ⟨b, o, none⟩ = false
  ilt : ∀ b o, I b o → b < w.heap.size
  imono : ∀ b o, I₀ b o → I b o
  iold : ∀ b o, I b o → b < w₀.heap.size → I₀ b o ∨ w₀.sl b o
  keeps : Keeps O₀ w₀.toWorld w
  lent : ∀ d br, w₀.lent d = some br → ρ d = some br ∧ ∃ cells, lk? S.tab d = some (.var cells)
  hid : ∀ d br, w₀.hid d = some br → ρ d = some br ∧ lk? S.tab d = some .dead
  evo : Evo w₀.ev ρ

/-! ### Tables of the library's that are listed with what they hold -/
def tabName : String := ""
def tabNamed (s : String) : List Value := bif s == tabName then (List.range 20).map fun k => .int .u64 (10 ^ k) else []
def GLv (P : Program) (b o : Nat) : Option Value := match P.globals[b]? with | some g => (tabNamed g.name)[o]? | none => none
/-- The listed tables' cells are shared, and hold what they hold. -/
def Held (P : Program) (J : Nat → Nat → Prop) (w : World) : Prop := ∀ b o x, GLv P b o = some x → J b o ∧ w.cell? ⟨b, o, none⟩ = some x
def Good (P : Program) (w₀ : World) (I₀ O₀ : Nat → Nat → Prop) : Prop := ∀ b o x, GLv P b o = some x → (I₀ b o ∧ ¬ O₀ b o) ∧ w₀.cell? ⟨b, o, none⟩ = some x
theorem Rel.held {P : Program} {m : Nat} {w₀ : Base} {I₀ O₀ : Nat → Nat → Prop} {ρ : Nat → Option Real} {I : Nat → Nat → Prop} {S : St} {a : Act} {w : World}
    (h : Rel m w₀ I₀ O₀ ρ I S a w) (hg : Good P w₀.toWorld I₀ O₀) : Held P I w := fun b o x hx => by
  obtain ⟨⟨h1, h2⟩, h3⟩ := hg b o x hx
  exact ⟨h.imono b o h1, (h.keeps.cell h2 (lt_of_cell h3)).trans h3⟩

/-! ### A step -/
theorem BoxR.keep {w w' : World} {I I' : Nat → Nat → Prop} {ρ ρ' : Nat → Option Real} {box : Box} {br : Real}
    (hw : ∀ b o, I b o → w'.cell? ⟨b, o, none⟩ = w.cell? ⟨b, o, none⟩) (hi : ∀ b o, I b o → I' b o) (he : Evo ρ ρ')
    (ho : ∀ b o, br.has b o → w'.cell? ⟨b, o, none⟩ = w.cell? ⟨b, o, none⟩)
    (hs : ∀ (b : Nat) (cur : Array Value) (e : TypeId) (f : Nat × Nat), w.heap[b]? = some (.cells cur e f) → ∃ cur' : Array Value, w'.heap[b]? = some (.cells cur' e f) ∧ cur'.size = cur.size) (h : BoxR w I ρ box br) : BoxR w' I' ρ' box br := by
  cases box with
  | var cells =>
    obtain ⟨h1, h2, h3, h4, b, o, h5, h6⟩ := h
    refine ⟨h1, h2, h3, h4, b, o, h5, fun j hj => ?_⟩
    obtain ⟨x, hx, hr⟩ := h6 j hj
    exact ⟨x, (ho b (o + j) ⟨o, h5, by omega, by rw [h3, h1]; omega⟩).trans hx, hr.keep hw hi he⟩
  | sl sh rows gen =>
    obtain ⟨h1, h2, h3, h4, h5, h6, h7, h8⟩ := h
    refine ⟨h1, h2, h3, h4, h5, h6, fun b o hb i j hi' hj => ?_, fun b o hb => by
      obtain ⟨e1, e2, cur, e, e3, e4⟩ := h8 b o hb
      obtain ⟨cur', e5, e6⟩ := hs b cur e _ e3
      exact ⟨e1, e2, cur', e, e5, e6.trans e4⟩⟩
    obtain ⟨x, hx, hr⟩ := h7 b o hb i j hi' hj
    refine ⟨x, (ho b _ ⟨o, hb, by omega, ?_⟩).trans hx, hr.keep hw hi⟩
    have : (i + 1) * sh.length ≤ br.cap * sh.length := Nat.mul_le_mul_right _ (by omega)
    rw [h1]
    rw [Nat.add_mul] at this
    omega
  | dead => trivial

theorem Rel.step {m : Nat} {w₀ : Base} {I₀ O₀ : Nat → Nat → Prop} {ρ : Nat → Option Real} {I : Nat → Nat → Prop} {S : St} {a : Act} {w : World}
    (h : Rel m w₀ I₀ O₀ ρ I S a w) {w' : World} {I' : Nat → Nat → Prop} {ρ' : Nat → Option Real} {S' : St} {X : Nat → Nat → Prop} (T : Nat → Prop)
    (k : Keeps X w w')
    (hX : ∀ b o, b < w.heap.size → X b o → ∃ d br, T d ∧ Live S d ∧ ρ d = some br ∧ br.has b o)
    (hI : ∀ b o, I b o → I' b o)
    (hI' : ∀ b o, I' b o → I b o ∨ (w.heap.size ≤ b ∧ b < w'.heap.size ∧ ∀ d br, Live S' d → ρ' d = some br → ¬ br.has b o) ∨
      (∃ d br sh rows gen, lk? S.tab d = some (.sl sh rows gen) ∧ ¬ Live S' d ∧ ρ d = some br ∧ br.has b o))
    (he : Evo ρ ρ') (hfr : S'.fr = S.fr)
    (hout : ∀ d, ¬ T d → ρ' d = ρ d ∧ ∀ box, lk? S'.tab d = some box → lk? S.tab d = some box)
    (hdom : ∀ d br, ρ' d = some br → ∃ box, lk? S'.tab d = some box)
    (hin : ∀ d box, T d → lk? S'.tab d = some box → ∃ br, ρ' d = some br ∧ BoxR w' I' ρ' box br)
    (hhas : ∀ d br b o, T d → Live S' d → ρ' d = some br → br.has b o → (∃ br', Live S d ∧ ρ d = some br' ∧ br'.has b o) ∨ w.heap.size ≤ b)
    (hsl : ∀ d sh rows gen br b o, T d → lk? S'.tab d = some (.sl sh rows gen) → ρ' d = some br → br.has b o →
      (∃ sh' rows' gen' br', lk? S.tab d = some (.sl sh' rows' gen') ∧ ρ d = some br' ∧ br'.has b o) ∨ w.heap.size ≤ b)
    (hal : ∀ d br b o, T d → Live S' d → ρ' d = some br → br.has b o → w.heap.size ≤ b → (∃ x, w'.cell? ⟨b, o, none⟩ = some x) ∧ w'.frozen? ⟨b, o, none⟩ = false)
    (hnew : ∀ d d' br br' b o, T d → T d' → Live S' d → Live S' d' → ρ' d = some br → ρ' d' = some br' → br.has b o → br'.has b o → w.heap.size ≤ b → d = d')
    (hvar : ∀ d cells, lk? S.tab d = some (.var cells) → (∃ cells', lk? S'.tab d = some (.var cells')) ∧ ρ' d = ρ d)
    (hdd : ∀ d, T d → lk? S.tab d ≠ some .dead) :
    Rel m w₀ I₀ O₀ ρ' I' S' a w' := by
  have hIw : ∀ b o, I b o → w'.cell? ⟨b, o, none⟩ = w.cell? ⟨b, o, none⟩ := fun b o hi => k.cell (fun hx => by
    obtain ⟨d, br, _, hl, hd, hh⟩ := hX b o (h.ilt b o hi) hx
    exact h.notI d br b o hl hd hh hi) (h.ilt b o hi)
  have lo : ∀ d br b o, Live S d → ρ d = some br → br.has b o → b < w.heap.size := fun d br b o hl hd hh => by
    obtain ⟨⟨x, hx⟩, _⟩ := h.alive d br b o hl hd hh
    exact lt_of_cell hx
  have liveOut : ∀ d, ¬ T d → Live S' d → Live S d := fun d hd ⟨box, hb, hn⟩ => ⟨box, (hout d hd).2 box hb, hn⟩
  -- a live box of the new state has a cell: it had it, or the cell is new
  have had : ∀ d br b o, Live S' d → ρ' d = some br → br.has b o → (∃ br', Live S d ∧ ρ d = some br' ∧ br'.has b o) ∨ (T d ∧ w.heap.size ≤ b) := by
    intro d br b o hl hd hh
    by_cases ht : T d
    · rcases hhas d br b o ht hl hd hh with h1 | h1
      · exact .inl h1
      · exact .inr ⟨ht, h1⟩
    · exact .inl ⟨br, liveOut d ht hl, by rw [← (hout d ht).1]; exact hd, hh⟩
  refine ⟨?_, h.dfr, h.size, ?_, hdom, ?_, ?_, ?_, ?_, ?_, ?_, ?_, ?_, ?_, fun d br hl => by
    obtain ⟨h1, cells, h2⟩ := h.lent d br hl
    obtain ⟨h3, h4⟩ := hvar d cells h2
    exact ⟨h4.trans h1, h3⟩, fun d br hl => by
    obtain ⟨h1, h2⟩ := h.hid d br hl
    have ht : ¬ T d := fun ht => hdd d ht h2
    obtain ⟨e, hbx⟩ := hout d ht
    obtain ⟨bx, hb⟩ := hdom d br (e.trans h1)
    have := hbx bx hb
    rw [h2] at this; cases this
    exact ⟨e.trans h1, hb⟩, h.evo.trans he⟩
  · intro t v hv
    rw [hfr] at hv
    exact (h.fr t v hv).keep hIw hI he
  · intro d box hb
    by_cases ht : T d
    · exact hin d box ht hb
    · obtain ⟨e, hbx⟩ := hout d ht
      obtain ⟨br, hd, hr⟩ := h.tab d box (hbx box hb)
      refine ⟨br, e.trans hd, ?_⟩
      cases box with
      | dead => trivial
      | var cells => 
        refine hr.keep hIw hI he (fun b o hh => ?_) k.shape
        have hl : Live S d := ⟨_, hbx _ hb, by simp⟩
        refine k.cell (fun hx => ?_) (lo d br b o hl hd hh)
        obtain ⟨d', br', ht', hl', hd', hh'⟩ := hX b o (lo d br b o hl hd hh) hx
        exact ht (h.apart d d' br br' b o hl hl' hd hd' hh hh' ▸ ht')
      | sl sh rows gen => 
        refine hr.keep hIw hI he (fun b o hh => ?_) k.shape
        have hl : Live S d := ⟨_, hbx _ hb, by simp⟩
        refine k.cell (fun hx => ?_) (lo d br b o hl hd hh)
        obtain ⟨d', br', ht', hl', hd', hh'⟩ := hX b o (lo d br b o hl hd hh) hx
        exact ht (h.apart d d' br br' b o hl hl' hd hd' hh hh' ▸ ht')
  · intro d d' br br' b o hl hl' hd hd' hh hh'
    rcases had d br b o hl hd hh with ⟨b1, l1, r1, h1⟩ | ⟨t1, n1⟩
    · rcases had d' br' b o hl' hd' hh' with ⟨b2, l2, r2, h2⟩ | ⟨t2, n2⟩
      · exact h.apart d d' b1 b2 b o l1 l2 r1 r2 h1 h2
      · have := lo d b1 b o l1 r1 h1; omega
    · rcases had d' br' b o hl' hd' hh' with ⟨b2, l2, r2, h2⟩ | ⟨t2, n2⟩
      · have := lo d' b2 b o l2 r2 h2; omega
      · exact hnew d d' br br' b o t1 t2 hl hl' hd hd' hh hh' n1
  · intro d br b o hl hd hh hi
    rcases hI' b o hi with h1 | ⟨h1, _, h2⟩ | ⟨d', br', sh, rows, gen, h1, h2, h3, h4⟩
    · rcases had d br b o hl hd hh with ⟨b1, l1, r1, g1⟩ | ⟨_, n1⟩
      · exact h.notI d b1 b o l1 r1 g1 h1
      · have := h.ilt b o h1; omega
    · exact h2 d br hl hd hh
    · have hl' : Live S d' := ⟨_, h1, by simp⟩
      rcases had d br b o hl hd hh with ⟨b1, l1, r1, g1⟩ | ⟨_, n1⟩
      · exact h2 (h.apart d d' b1 br' b o l1 hl' r1 h3 g1 h4 ▸ hl)
      · have := lo d' br' b o hl' h3 h4; omega
  · intro d br b o hl hd hh
    rcases had d br b o hl hd hh with ⟨b1, l1, r1, g1⟩ | ⟨_, n1⟩
    · exact h.org d b1 b o l1 r1 g1
    · exact .inl (Nat.le_trans h.keeps.size n1)
  · intro d sh rows gen br b o hb hd hh
    by_cases ht : T d
    · rcases hsl d sh rows gen br b o ht hb hd hh with ⟨sh', rows', gen', br', h1, h2, h3⟩ | h1
      · exact h.slorg d sh' rows' gen' br' b o h1 h2 h3
      · exact .inl (Nat.le_trans h.keeps.size h1)
    · obtain ⟨e, hbx⟩ := hout d ht
      exact h.slorg d sh rows gen br b o (hbx _ hb) (e ▸ hd) hh
  · intro d br b o hl hd hh
    rcases had d br b o hl hd hh with ⟨b1, l1, r1, g1⟩ | ⟨t1, n1⟩
    · obtain ⟨⟨x, hx⟩, hf⟩ := h.alive d b1 b o l1 r1 g1
      exact ⟨k.alive hx, (k.frozen (lt_of_cell hx)).trans hf⟩
    · exact hal d br b o t1 hl hd hh n1
  · intro b o hi
    rcases hI' b o hi with h1 | ⟨_, h1, _⟩ | ⟨d', br', sh, rows, gen, h1, h2, h3, h4⟩
    · exact Nat.lt_of_lt_of_le (h.ilt b o h1) k.size
    · exact h1
    · exact Nat.lt_of_lt_of_le (lo d' br' b o ⟨_, h1, by simp⟩ h3 h4) k.size
  · exact fun b o hi => hI b o (h.imono b o hi)
  · intro b o hi hb
    rcases hI' b o hi with h1 | ⟨h1, _, _⟩ | ⟨d', br', sh, rows, gen, h1, h2, h3, h4⟩
    · exact h.iold b o h1 hb
    · have := h.keeps.size; omega
    · rcases h.slorg d' sh rows gen br' b o h1 h3 h4 with h5 | h5
      · omega
      · exact .inr h5
  · refine h.keeps.trans k fun b o hb hx => ?_
    obtain ⟨d, br, _, hl, hd, hh⟩ := hX b o (Nat.lt_of_lt_of_le hb h.keeps.size) hx
    rcases h.org d br b o hl hd hh with h1 | h1
    · omega
    · exact h1

/-- Nothing but new memory and draws. -/
theorem Rel.grow {m : Nat} {w₀ : Base} {I₀ O₀ : Nat → Nat → Prop} {ρ : Nat → Option Real} {I : Nat → Nat → Prop} {S : St} {a : Act} {w : World}
    (h : Rel m w₀ I₀ O₀ ρ I S a w) {w' : World} (k : Keeps (fun _ _ => False) w w') : Rel m w₀ I₀ O₀ ρ I S a w' :=
  h.step (fun _ => False) k (fun _ _ _ h => h.elim) (fun _ _ h => h) (fun _ _ h => .inl h) (Evo.refl _) rfl (fun _ _ => ⟨rfl, fun _ h => h⟩) h.dom
    (fun _ _ h => h.elim) (fun _ _ _ _ h => h.elim) (fun _ _ _ _ _ _ _ h => h.elim) (fun _ _ _ _ h => h.elim) (fun _ _ _ _ _ _ h => h.elim) (fun d cells h => ⟨⟨cells, h⟩, rfl⟩) (fun _ h => h.elim)

theorem Rel.put {m : Nat} {w₀ : Base} {I₀ O₀ : Nat → Nat → Prop} {ρ : Nat → Option Real} {I : Nat → Nat → Prop} {S : St} {a : Act} {w : World}
    (h : Rel m w₀ I₀ O₀ ρ I S a w) {v : V} {x : Value} (hv : Rv w I ρ v x) (d : Option Nat) (hd : ∀ t, d = some t → t < m) : Rel m w₀ I₀ O₀ ρ I (S.put d v) (a.put d x) w := by
  cases d with
  | none => exact h
  | some t =>
    have ht := hd t rfl
    refine ⟨fun t' v' hv' => ?_, h.dfr, by simp [Act.put, h.size], h.tab, h.dom, h.apart, h.notI, h.org, h.slorg, h.alive, h.ilt, h.imono, h.iold, h.keeps, h.lent, h.hid, h.evo⟩
    simp only [St.put, St.set, lk?] at hv'
    simp only [Act.put]
    by_cases e : t' = t
    · subst e
      simp at hv'
      subst hv'
      rw [Array.getD_eq_getD_getElem?, Array.getElem?_setIfInBounds]
      simp [h.size, ht]
      exact hv
    · have e' : Nat.beq t' t = false := by rw [Bool.eq_false_iff]; exact fun hh => e (Nat.eq_of_beq_eq_true hh)
      rw [e'] at hv'
      have := h.fr t' v' hv'
      rw [Array.getD_eq_getD_getElem?, Array.getElem?_setIfInBounds, if_neg (by omega), ← Array.getD_eq_getD_getElem?]
      exact this
end Go.Ev
