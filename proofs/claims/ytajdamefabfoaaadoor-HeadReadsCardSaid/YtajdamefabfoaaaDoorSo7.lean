/- make and append: lemmas, no condition. -/
import Derived.Test.YtajdamefabfoaaaDoorSo6
namespace Go.Ev
open Go Go.RowKit

section
variable {P : Program} {m : Nat} {S : St} {dst : Option Tmp} {ty : TypeId} {pos : String} {after : Array Edge} {guard : Option (Nat × Bool)}

theorem putBox_spec {id : Nat} {b : Box} {K : St → Option R} {q : R} (h : putBox S id b K = some q) : lk? S.tab id = none ∧ K { S with tab := S.tab ++ [(id, b)] } = some q := by
  unfold putBox at h
  split at h
  · rename_i hn; exact ⟨hn, h⟩
  · cases h

theorem upd_get {ρ : Nat → Option Real} {id : Nat} {br : Real} : upd ρ id br id = some br := by simp [upd]
theorem replicate_row (n : Nat) (r : List V) (i j : Nat) (hi : i < n) : rowAt (List.replicate n r) i j = r.getD j .undef := by
  simp [rowAt, List.getD_eq_getElem?_getD, hi]

theorem ok_make {E : Env} {t e : TypeId} {d : Tmp} {lo co : Operand} {k k' : IntKind} {l c : Int} {K : V → St → Option R} {q : R} (hu : E.P.underlying t = some (.slice e)) (hl : S.eval E.P ty lo = .int k l) (hc : S.eval E.P ty co = .int k' c)
    (h1 : cond (zeroOk E.P e) (cond (Nat.blt 0 (shOf E.P FUEL e).length) (cond (Nat.beq (shOf E.P FUEL e).length (E.P.cellsOf e)) (rowZero (shOf E.P FUEL e) (zeroOf E.P FUEL e)) false) false) false = true)
    (h2 : 0 ≤ l ∧ l = c ∧ c * E.P.bytesOf e ≤ 140737488355328 ∧ c ≤ 140737488355328)
    (h : putBox S (BOX + d) (.sl (shOf E.P FUEL e) (List.replicate l.toNat ((shOf E.P FUEL e).map zero1)) 0) (fun S => K (.own (BOX + d) 0) S) = some q) :
    ∃ v S', K v S' = some q ∧ OpOk E.P m S ⟨some d, .makeSlice t lo co, ty, pos, after, guard⟩ v S' := by
  obtain ⟨hn, h⟩ := putBox_spec h
  refine ⟨_, _, h, rfl, fun w₀ I₀ O₀ ρ I a w hr hgd next Q hnx => ?_⟩
  cases hz : zeroOk E.P e with
  | false => rw [hz] at h1; cases h1
  | true =>
  cases hb1 : Nat.blt 0 (shOf E.P FUEL e).length with
  | false => rw [hz, hb1] at h1; cases h1
  | true =>
  cases hb2 : Nat.beq (shOf E.P FUEL e).length (E.P.cellsOf e) with
  | false => rw [hz, hb1, hb2] at h1; cases h1
  | true =>
  rw [hz, hb1, hb2] at h1
  have h1 : rowZero (shOf E.P FUEL e) (zeroOf E.P FUEL e) = true := h1
  have hb1 := blt_spec hb1
  have hb2 := Nat.eq_of_beq_eq_true hb2
  obtain ⟨i, z, hi, hzv, hzs, hzr⟩ := zeroOk_spec' hz
  have hsz : E.P.cellsOf e = i.size := by simp [Program.cellsOf, hi]
  have hby : E.P.bytesOf e = i.bytes := by simp [Program.bytesOf, hi]
  obtain ⟨r1, r2, r3⟩ := rowZero_ok _ _ h1
  generalize shOf E.P FUEL e = sh at *
  obtain ⟨g0, rfl, g2, g3⟩ := h2
  have e1 := eval_ok hr E.P ty lo
  have e2 := eval_ok hr E.P ty co
  rw [hl] at e1; rw [hc] at e2
  have hrun := run_make (P := E.P) w t e i z hu hi hzv k k' l l g0 (Int.le_refl _) (by rw [Int.mul_comm]; rw [hby] at g2; omega) (by omega)
  obtain ⟨n, rfl⟩ := Int.eq_ofNat_of_zero_le g0
  simp only [Int.toNat_natCast] at *
  have hms : (madeCells z.cells (n * i.size)).size = n * sh.length := by rw [size_madeCells, hb2, hsz]
  have hcell : ∀ r j, r < n → j < sh.length → (madeCells z.cells (n * i.size))[r * sh.length + j]? = some (z.cells.toList.getD j Go.undef) := fun r j hr' hj => by
    have hlt : r * sh.length + j < n * sh.length := by
      have : (r + 1) * sh.length ≤ n * sh.length := Nat.mul_le_mul_right _ hr'
      rw [Nat.add_mul] at this; omega
    have hzsz : z.cells.size = sh.length := by omega
    unfold madeCells
    rw [Array.getElem?_map, Array.getElem?_range, if_pos (by rw [← hsz, ← hb2]; exact hlt), Option.map_some]
    congr 1
    show z.cells[(r * sh.length + j) % z.cells.size]! = _
    rw [hzsz, Nat.mul_comm, Nat.mul_add_mod, Nat.mod_eq_of_lt hj]
    rw [getElem!_pos z.cells j (by omega)]
    simp [List.getD_eq_getElem?_getD, show j < z.cells.size by omega]
  let br : Real := { base := some (w.heap.size, 0), sz := sh.length, n := n, cap := n, gen := 0 }
  have hfin := hr.newBox hn (Keeps.alloc _ w (.cells (madeCells z.cells (n * i.size)) e)) (box := .sl sh (List.replicate n (sh.map zero1)) 0) (br := br) ?_ ?_
  · refine wp_value ?_ (hnx (.slice (some ⟨w.heap.size, 0, none⟩) n n) _ _ _ hfin.1 (.own _ 0 br _ upd_get (Nat.le_refl _) (fun _ => by simp [Real.slice, br]) ⟨_, _, _, rfl⟩))
    simp only [execOp, Sem.run_bind, e1.int_inv, e2.int_inv, hrun]; rfl
  · refine ⟨rfl, by simp [br], rfl, by simp [br], fitsRows_of _ _ fun r hr' => ?_, (fun hh => by cases hh), fun b o hb r j hr' hj => ?_, fun b o hb => ?_⟩
    · rw [List.length_replicate] at hr'
      simpa [List.getD_eq_getElem?_getD, hr'] using r2
    · cases hb
      rw [List.length_replicate] at hr'
      refine ⟨_, by rw [Nat.zero_add, World.cell?_alloc_new, hcell r j hr' hj], ?_⟩
      rw [replicate_row n _ r j hr']
      have hj' : j < (zeroOf E.P FUEL e).length := by omega
      exact (r3 j hj w I ρ _ ((hzr w I ρ).2 j hj')).keep (fun b o hi => World.cell?_alloc_lt _ _ _ (hr.ilt b o hi)) (fun _ _ h => h)
    · cases hb
      exact ⟨rfl, by simp only [br, maxLen]; omega, _, e, heap_alloc_new w _, by rw [hms]⟩
  · rintro b o ⟨o₀, hb, g4, g5⟩
    cases hb
    simp only [br, Nat.zero_add] at g5
    exact ⟨Nat.le_refl _, ⟨_, alloc_cell _ _ _ o (by rw [hms]; exact g5)⟩, alloc_frozen _ _ _ _⟩

/-! ### append -/
/-- The cells of a slice's elements. -/
structure Elems (w : World) (I : Nat → Nat → Prop) (sh : List Sh) (rows : List (List V)) (x : Value) (al : Option Addr) (cap : Nat) (val : Nat → Nat → Value) : Prop where
  eq : x = .slice al rows.length cap
  le : rows.length ≤ cap
  fit : fitsRows sh rows = true
  cell : ∀ i j, i < rows.length → j < sh.length → ∃ b o, al = some ⟨b, o, none⟩ ∧ w.cell? ⟨b, o + (i * sh.length + j), none⟩ = some (val i j)
  dat : ∀ i j, i < rows.length → j < sh.length → Dat w I (rowAt rows i j) (val i j)

theorem own_elems {d g : Nat} {sh : List Sh} {rows : List (List V)} (ht : lk? S.tab d = some (.sl sh rows g)) {w₀ : Base} {I₀ O₀ : Nat → Nat → Prop} {ρ : Nat → Option Real} {I : Nat → Nat → Prop} {a : Act} {w : World}
    (hr : Rel m w₀ I₀ O₀ ρ I S a w) {x : Value} (hx : Rv w I ρ (.own d g) x) : ∃ br val, ρ d = some br ∧ BoxR w I ρ (.sl sh rows g) br ∧ Elems w I sh rows x (br.base.map fun p => ⟨p.1, p.2, none⟩) br.cap val := by
  obtain ⟨br, hd, hb, he⟩ := own_real ht hr hx
  have he' : x = .slice (br.base.map fun p => ⟨p.1, p.2, none⟩) rows.length br.cap := by rw [he]; simp [Real.slice, hb.2.1]
  have hb' := hb
  obtain ⟨e1, e2, e3, e4, e5, e6, e7, e8⟩ := hb
  have hget : ∀ i j, ∃ y, i < rows.length → j < sh.length → (∃ b o, (br.base.map fun p => (⟨p.1, p.2, none⟩ : Addr)) = some ⟨b, o, none⟩ ∧ w.cell? ⟨b, o + (i * sh.length + j), none⟩ = some y) ∧ Dat w I (rowAt rows i j) y := by
    intro i j
    by_cases hi : i < rows.length ∧ j < sh.length
    · obtain hbs | ⟨p, hbs⟩ : br.base = none ∨ ∃ p, br.base = some p := by cases br.base <;> simp
      · have := e6 hbs; omega
      · obtain ⟨y, hy1, hy2⟩ := e7 p.1 p.2 hbs i j hi.1 hi.2
        exact ⟨y, fun _ _ => ⟨⟨p.1, p.2, by rw [hbs]; rfl, hy1⟩, hy2⟩⟩
    · exact ⟨Go.undef, fun h3 h4 => absurd ⟨h3, h4⟩ hi⟩
  have hval := fun i j => Classical.choose_spec (hget i j)
  exact ⟨br, fun i j => Classical.choose (hget i j), hd, hb', he', e4, e5, fun i j hi hj => (hval i j hi hj).1, fun i j hi hj => (hval i j hi hj).2⟩

theorem rowsOf_elems {x : V} {K : List Sh → List (List V) → Option R} {q : R} (h : rowsOf S x K = some q) :
    ∃ sh rows, K sh rows = some q ∧ ∀ w₀ I₀ O₀ ρ I a w, Rel m w₀ I₀ O₀ ρ I S a w → ∀ x', Rv w I ρ x x' → ∃ al cap val, Elems w I sh rows x' al cap val := by
  cases x with
  | slc sh rows =>
    refine ⟨sh, rows, h, fun w₀ I₀ O₀ ρ I a w hr x' hx => ?_⟩
    have := datV_ok hx rfl
    cases this with
    | slc _ _ al cap val hcap hfit ha hd =>
      refine ⟨al, cap, val, rfl, hcap, hfit, fun i j hi hj => ?_, hd⟩
      obtain ⟨b, o, h1, h2⟩ := ha (fun e => by subst e; cases hi)
      exact ⟨b, o, h1, (h2 i j hi hj).1⟩
  | nils sh =>
    refine ⟨sh, [], h, fun w₀ I₀ O₀ ρ I a w hr x' hx => ?_⟩
    have := datV_ok hx rfl
    cases this
    exact ⟨_, 0, fun _ _ => Go.undef, rfl, Nat.le_refl _, rfl, (fun i j hi => by cases hi), (fun i j hi => by cases hi)⟩
  | own d g =>
    obtain ⟨sh, rows, ht, h⟩ := withOwn_spec h
    refine ⟨sh, rows, h, fun w₀ I₀ O₀ ρ I a w hr x' hx => ?_⟩
    obtain ⟨br, val, _, _, he⟩ := own_elems ht hr hx
    exact ⟨_, _, val, he⟩
  | _ => cases h

/-- All cells, one behind the other. -/
def flatVals (n sz : Nat) (val : Nat → Nat → Value) : List Value := (List.range (n * sz)).map fun k => val (k / sz) (k % sz)
theorem flatVals_length (n sz : Nat) (val : Nat → Nat → Value) : (flatVals n sz val).length = n * sz := by simp [flatVals]
theorem flatVals_get (n sz : Nat) (val : Nat → Nat → Value) (i j : Nat) (hi : i < n) (hj : j < sz) : (flatVals n sz val)[i * sz + j]? = some (val i j) := by
  have hlt : i * sz + j < n * sz := by
    have : (i + 1) * sz ≤ n * sz := Nat.mul_le_mul_right _ hi
    rw [Nat.add_mul] at this; omega
  have hd : (i * sz + j) / sz = i := by rw [Nat.mul_comm, Nat.mul_add_div (by omega), Nat.div_eq_of_lt hj]; omega
  have hm : (i * sz + j) % sz = j := by rw [Nat.mul_comm, Nat.mul_add_mod, Nat.mod_eq_of_lt hj]
  simp only [flatVals, List.getElem?_map, List.getElem?_range hlt, Option.map_some, hd, hm]
theorem div_mod_lt {k n sz : Nat} (h : k < n * sz) : k / sz < n ∧ k % sz < sz ∧ k / sz * sz + k % sz = k := by
  have hsz : 0 < sz := by
    rcases Nat.eq_zero_or_pos sz with h0 | h0
    · subst h0; simp at h
    · exact h0
  exact ⟨Nat.div_lt_of_lt_mul (by rwa [Nat.mul_comm] at h), Nat.mod_lt _ hsz, by rw [Nat.mul_comm]; exact Nat.div_add_mod k sz⟩

theorem firstCells_of {w : World} {len sz : Nat} {al : Option Addr} {val : Nat → Nat → Value}
    (h : ∀ i j, i < len → j < sz → ∃ b o, al = some ⟨b, o, none⟩ ∧ w.cell? ⟨b, o + (i * sz + j), none⟩ = some (val i j)) (n : Nat) :
    (Builtin.firstCells sz len (.slice al len n)).run P w = .ok (flatVals len sz val).toArray w := by
  cases al with
  | none =>
    have : len * sz = 0 := by
      rcases Nat.eq_zero_or_pos (len * sz) with h0 | h0
      · exact h0
      · have ⟨h1, h2, _⟩ := div_mod_lt h0
        obtain ⟨b, o, h3, _⟩ := h _ _ h1 h2
        cases h3
    simp [Builtin.firstCells, flatVals, this]
  | some q =>
    simp only [Builtin.firstCells]
    have := run_loadCells_list (P := P) w q (flatVals len sz val) (fun j v hv => by
      have hj : j < len * sz := by
        have := (List.getElem?_eq_some_iff.1 hv).1; rwa [flatVals_length] at this
      have ⟨h1, h2, h3⟩ := div_mod_lt hj
      obtain ⟨b, o, h4, h5⟩ := h _ _ h1 h2
      cases h4
      rw [add_off]
      have h6 := flatVals_get len sz val _ _ h1 h2
      rw [h3] at h5 h6
      rw [h6] at hv; cases hv
      exact h5)
    rwa [flatVals_length] at this

theorem fits_flat {sh : List Sh} {rows : List (List V)} (hf : fitsRows sh rows = true) {i j : Nat} (hi : i < rows.length) (hj : j < sh.length) {w : World} {I : Nat → Nat → Prop} {x : Value} (h : Dat w I (rowAt rows i j) x) : Flat1 x := by
  have hs := (fitsL_spec _ _ (fitsRows_spec sh rows hf i hi)).2 j hj
  unfold rowAt at h
  generalize (rows.getD i []).getD j V.undef = v at hs h
  cases h <;> exact ⟨by simp, by simp⟩

theorem append_room {t u e : TypeId} {i : TypeInfo} (ht : P.underlying t = some (.slice e)) {e' : TypeId} (hu : P.underlying u = some (.slice e')) (hi : P.info? e = some i)
    {w : World} {b q : Option Addr} {sLen sCap n c : Nat} {news : List Value} (hnews : (Builtin.firstCells i.size n (.slice q n c)).run P w = .ok news.toArray w)
    (h : sLen + n ≤ sCap) (ty : TypeId) : (Builtin.append_ #[t, u] ty #[.slice b sLen sCap, .slice q n c]).run P w =
    match b with | none => .ok (.slice none (sLen + n) sCap) w | some a => ((storeCells (a.add (sLen * i.size)) news).run P w).andThen fun _ w' => .ok (.slice (some a) (sLen + n) sCap) w' := by
  cases b <;> simp [Builtin.append_, run_underlying' ht, run_underlying' hu, sizeOf, typeInfo, hi, Builtin.lenOf, h, hnews]
theorem append_grow {t u e : TypeId} {i : TypeInfo} {z : Value} (ht : P.underlying t = some (.slice e)) {e' : TypeId} (hu : P.underlying u = some (.slice e')) (hi : P.info? e = some i) (hz : i.zero = some z)
  {w : World} {b q : Option Addr} {sLen sCap n c : Nat} {olds news : List Value}
  (hold : ∀ w', (∀ a, w'.cell? a = w.cell? a) → (Builtin.firstCells i.size sLen (.slice b sLen sCap)).run P w' = .ok olds.toArray w')
  (hnews : ∀ w', (∀ a, w'.cell? a = w.cell? a) → (Builtin.firstCells i.size n (.slice q n c)).run P w' = .ok news.toArray w')
    (h : sCap < sLen + n) (h63 : sLen + n ≤ 9223372036854775807) (hfit : Builtin.nextslicecap (sLen + n) sCap * i.bytes ≤ 281474976710656) (ty : TypeId) :
    (Builtin.append_ #[t, u] ty #[.slice b sLen sCap, .slice q n c]).run P w =
      .ok (.slice (some ⟨w.heap.size, 0, none⟩) (sLen + n) (grownCap w (sLen + n) sCap e))
        (w.drew.alloc (.cells (olds.toArray ++ news.toArray ++ Builtin.zeroCells z.cells (grownCap w (sLen + n) sCap e - (sLen + n))) e)) := by
  have hn : ¬ (sLen + n ≤ sCap) := by omega
  have h63' : ¬ (9223372036854775807 < ((sLen : Int) + (n : Int))) := by omega
  have h48' : ¬ (281474976710656 < Builtin.nextslicecap (sLen + n) sCap * i.bytes) := by omega
  have h1 := hnews w.drew (fun _ => rfl)
  have h2 := hold w.drew (fun _ => rfl)
  simp [Builtin.append_, run_underlying' ht, run_underlying' hu, sizeOf, typeInfo, zeroValue, hi, hz, Builtin.lenOf, hn, h63', h48', Question.forced, h1, h2, newRow, grownCap]
  congr 2
  apply Array.ext'
  simp

theorem run_call2 {b : Builtin} {c : Call} {x y : Operand} {t u : TypeId} (hc : c.callee = .builtin b) (ha : c.args.toList = [x, y]) (hty : c.argTypes.toList = [t, u]) (a : Act) (w : World) :
    (execOp a.eval ⟨dst, .call c, ty, pos, after, guard⟩).run P w = (builtin b #[t, u] ty (c.args.map fun | .const _ => true | _ => false) #[a.eval x, a.eval y]).run P w := by
  rw [run_builtin2 hc ha]
  have : c.argTypes = #[t, u] := by apply Array.ext'; simpa using hty
  rw [this]
  rfl

theorem rowAt_append (a b : List (List V)) (i j : Nat) : rowAt (a ++ b) i j = if i < a.length then rowAt a i j else rowAt b (i - a.length) j := by
  unfold rowAt
  simp only [List.getD_eq_getElem?_getD, List.getElem?_append]
  split <;> rfl
theorem fitsRows_append {sh : List Sh} {a b : List (List V)} (h1 : fitsRows sh a = true) (h2 : fitsRows sh b = true) : fitsRows sh (a ++ b) = true :=
  fitsRows_of _ _ fun i hi => by
    simp only [List.getD_eq_getElem?_getD, List.getElem?_append]
    split
    · rename_i h
      have := fitsRows_spec sh a h1 i h
      rwa [List.getD_eq_getElem?_getD] at this
    · rename_i h
      have := fitsRows_spec sh b h2 (i - a.length) (by simp at hi; omega)
      rwa [List.getD_eq_getElem?_getD] at this

/-- What a grown slice's cells are. -/
theorem grown_cell {w : World} {I : Nat → Nat → Prop} {sh : List Sh} {rows new : List (List V)} {x y : Value} {al ql : Option Addr} {cap c : Nat} {val vaq : Nat → Nat → Value}
    (hx : Elems w I sh rows x al cap val) (hy : Elems w I sh new y ql c vaq) (rest : Array Value) {i j : Nat} (hi : i < rows.length + new.length) (hj : j < sh.length) :
    ∃ v, ((flatVals rows.length sh.length val).toArray ++ (flatVals new.length sh.length vaq).toArray ++ rest)[i * sh.length + j]? = some v ∧ Dat w I (rowAt (rows ++ new) i j) v := by
  have hlt : i * sh.length + j < (rows.length + new.length) * sh.length := by
    have : (i + 1) * sh.length ≤ (rows.length + new.length) * sh.length := Nat.mul_le_mul_right _ hi
    rw [Nat.add_mul] at this; omega
  rw [Nat.add_mul] at hlt
  rw [rowAt_append, Array.getElem?_append_left (by simp [flatVals_length]; omega)]
  by_cases h : i < rows.length
  · have h2 : i * sh.length + j < rows.length * sh.length := by
      have : (i + 1) * sh.length ≤ rows.length * sh.length := Nat.mul_le_mul_right _ h
      rw [Nat.add_mul] at this; omega
    rw [if_pos h, Array.getElem?_append_left (by simp [flatVals_length]; omega)]
    exact ⟨val i j, by simpa using flatVals_get _ _ val i j h hj, hx.dat i j h hj⟩
  · have h2 : rows.length * sh.length ≤ i * sh.length := Nat.mul_le_mul_right _ (by omega)
    rw [if_neg h, Array.getElem?_append_right (by simp [flatVals_length]; omega)]
    refine ⟨vaq (i - rows.length) j, ?_, hy.dat _ j (by omega) hj⟩
    have := flatVals_get new.length sh.length vaq (i - rows.length) j (by omega) hj
    simp only [List.size_toArray, flatVals_length, List.getElem?_toArray]
    rw [show i * sh.length + j - rows.length * sh.length = (i - rows.length) * sh.length + j by rw [Nat.sub_mul]; omega]
    exact this

theorem ok_append {E : Env} {c : Call} {x y : Operand} {t u : TypeId} (hc : c.callee = .builtin .append) (ha : c.args.toList = [x, y]) (hty : c.argTypes.toList = [t, u]) {K : V → St → Option R} {q : R}
    (h₀ : appendOp E dst t u (S.eval E.P t x) (S.eval E.P u y) S K = some q) : ∃ v S', K v S' = some q ∧ OpOk E.P m S ⟨dst, .call c, ty, pos, after, guard⟩ v S' := by
  unfold appendOp at h₀
  split at h₀
  · rename_i e e' d hu hu'
    obtain ⟨hz, h₁⟩ := cond_none h₀
    obtain ⟨sh', new, h₂, hel⟩ := rowsOf_elems (m := m) h₁
    obtain ⟨hsh', h₃⟩ := cond_none h₂
    obtain ⟨hl1', h₄⟩ := cond_none h₃
    clear h₀ h₁ h₂ h₃
    have hsh := Sh.beqL_eq _ _ hsh'
    subst hsh
    have hl1 := Nat.le_of_ble_eq_true hl1'
    have hz' : zeroOk E.P e = true ∧ 0 < E.P.bytesOf e ∧ (shOf E.P FUEL e).length = E.P.cellsOf e := by
      cases h1 : zeroOk E.P e with
      | false => rw [h1] at hz; cases hz
      | true =>
        cases h2 : Nat.blt 0 (E.P.bytesOf e) with
        | false => rw [h1, h2] at hz; cases hz
        | true => rw [h1, h2] at hz; exact ⟨rfl, blt_spec h2, (blt_beq hz).2⟩
    clear hz hsh' hl1'
    obtain ⟨z1, z2, z3⟩ := hz'
    obtain ⟨i, z, hi, hzv, hzs, _⟩ := zeroOk_spec' z1
    have hsz : E.P.cellsOf e = i.size := by simp [Program.cellsOf, hi]
    have hby : E.P.bytesOf e = i.bytes := by simp [Program.bytesOf, hi]
    generalize shOf E.P FUEL e = sh at *
    have hshs : sh.length = i.size := by omega
    rw [hby] at z2 h₄
    -- the new array
    have grow : ∀ {I : Nat → Nat → Prop} {w : World} {a : Act} {rows : List (List V)} {al ql : Option Addr} {cap cq : Nat} {val vaq : Nat → Nat → Value},
        Elems w I sh rows (a.eval x) al cap val → Elems w I sh new (a.eval y) ql cq vaq → (rows.length + new.length) * i.bytes ≤ 140737488355328 → cap < rows.length + new.length →
        ∃ (C : Array Value) (cap' : Nat), (execOp a.eval ⟨some d, .call c, ty, pos, after, guard⟩).run E.P w = .ok (.value (.slice (some ⟨w.heap.size, 0, none⟩) (rows.length + new.length) cap')) (w.drew.alloc (.cells C e)) ∧
          rows.length + new.length ≤ cap' ∧ cap' ≤ maxLen ∧ C.size = cap' * sh.length ∧
          ∀ r j, r < rows.length + new.length → j < sh.length → ∃ v, C[r * sh.length + j]? = some v ∧ Dat w I (rowAt (rows ++ new) r j) v := by
      intro I w a rows al ql cap cq val vaq hx hy hb hcap
      have hlen : rows.length + new.length ≤ 140737488355328 := by
        have : (rows.length + new.length) * 1 ≤ (rows.length + new.length) * i.bytes := Nat.mul_le_mul_left _ z2
        omega
      have key : ∀ {I₁ : Nat → Nat → Prop} {rr : List (List V)} {xx : Value} {aa : Option Addr} {cc : Nat} {vv : Nat → Nat → Value} (n : Nat), Elems w I₁ sh rr xx aa cc vv → ∀ w', (∀ a, w'.cell? a = w.cell? a) →
          (Builtin.firstCells i.size rr.length (.slice aa rr.length n)).run E.P w' = .ok (flatVals rr.length sh.length vv).toArray w' := fun n he w' hw' => by
        rw [← hshs]
        exact firstCells_of (fun i j hi hj => by
          obtain ⟨b, o, h1, h2⟩ := he.cell i j hi hj
          exact ⟨b, o, h1, (hw' _).trans h2⟩) n
      have hrun := append_grow (P := E.P) hu hu' hi hzv (b := al) (q := ql) (sLen := rows.length) (sCap := cap) (n := new.length) (c := cq) (olds := flatVals rows.length sh.length val) (news := flatVals new.length sh.length vaq)
        (key cap hx) (key cq hy) hcap (by omega) (growslice_fits hcap hb) ty
      refine ⟨(flatVals rows.length sh.length val).toArray ++ (flatVals new.length sh.length vaq).toArray ++ Builtin.zeroCells z.cells (grownCap w (rows.length + new.length) cap e - (rows.length + new.length)), grownCap w (rows.length + new.length) cap e, ?_, grownCap_ge w _ _ _, grownCap_le_maxLen w _ _ _ (by simp only [maxLen]; omega), ?_, fun r j hr hj => grown_cell hx hy _ hr hj⟩
      · rw [run_call2 hc ha hty, hx.eq, hy.eq]
        simp only [builtin, Sem.run_bind, hrun]; rfl
      · have := grownCap_ge w (rows.length + new.length) cap e
        simp only [Array.size_append, List.size_toArray, flatVals_length, size_zeroCells, hzs, hshs, ← Nat.add_mul]
        congr 1; omega
    have newBr : ∀ {m : Nat} {w₀ : Base} {I₀ O₀ : Nat → Nat → Prop} {ρ : Nat → Option Real} {I : Nat → Nat → Prop} {S : St} {a : Act} {w : World}, Rel m w₀ I₀ O₀ ρ I S a w → ∀ (rows : List (List V)) (C : Array Value) (cap' g : Nat) (ρ' : Nat → Option Real),
        fitsRows sh rows = true → rows.length ≤ cap' → cap' ≤ maxLen → C.size = cap' * sh.length → (∀ r j, r < rows.length → j < sh.length → ∃ v, C[r * sh.length + j]? = some v ∧ Dat w I (rowAt rows r j) v) →
        BoxR (w.drew.alloc (.cells C e)) I ρ' (.sl sh rows g) { base := some (w.heap.size, 0), sz := sh.length, n := rows.length, cap := cap', gen := g } ∧
        ∀ b o, Real.has { base := some (w.heap.size, 0), sz := sh.length, n := rows.length, cap := cap', gen := g } b o → w.heap.size ≤ b ∧ (∃ x, (w.drew.alloc (.cells C e)).cell? ⟨b, o, none⟩ = some x) ∧ (w.drew.alloc (.cells C e)).frozen? ⟨b, o, none⟩ = false := by
      intro m w₀ I₀ O₀ ρ I S a w hr rows C cap' g ρ' hf h1 h2 h3 h4
      refine ⟨⟨rfl, rfl, rfl, h1, hf, (fun hh => by cases hh), fun b o hb r j hr' hj => ?_, fun b o hb => ?_⟩, ?_⟩
      · cases hb
        obtain ⟨v, hv1, hv2⟩ := h4 r j hr' hj
        refine ⟨v, ?_, hv2.keep (fun b o hi => (World.cell?_alloc_lt w.drew _ _ (hr.ilt b o hi)).trans (World.cell?_drew _ _)) (fun _ _ h => h)⟩
        rw [Nat.zero_add]
        exact (World.cell?_alloc_new w.drew C e _).trans hv1
      · cases hb
        exact ⟨rfl, h2, C, e, heap_alloc_new w.drew _, h3⟩
      · rintro b o ⟨o₀, hb, g4, g5⟩
        cases hb
        simp only [Nat.zero_add] at g5
        exact ⟨Nat.le_refl _, ⟨_, alloc_cell w.drew _ _ o (by rw [h3]; exact g5)⟩, alloc_frozen w.drew _ _ _⟩
    have hkd : ∀ (w : World) (C : Array Value), Keeps (fun _ _ => False) w (w.drew.alloc (.cells C e)) := fun w C => (Keeps.drawn _ w _).trans' (Keeps.alloc _ w.drew _)
    split at h₄
    · -- nil
      rename_i sh₂ hx
      obtain ⟨hs2, h₅⟩ := cond_none h₄
      obtain ⟨hb, h₆⟩ := cond_none h₅
      obtain ⟨hn, h₇⟩ := putBox_spec h₆
      have hb : new.length * i.bytes ≤ 140737488355328 := by simpa using hb
      refine ⟨_, _, h₇, rfl, fun w₀ I₀ O₀ ρ I a w hr hgd next Q hnx => ?_⟩
      have h1 := eval_ok hr E.P t x
      rw [hx] at h1
      obtain ⟨ql, cq, vaq, hy⟩ := hel w₀ I₀ O₀ ρ I a w hr _ (eval_ok hr E.P u y)
      have hal : a.eval x = .slice none 0 0 := by
        generalize a.eval x = xv at h1
        cases datV_ok h1 rfl; rfl
      have hex : Elems w I sh [] (a.eval x) none 0 (fun _ _ => Go.undef) := ⟨hal, Nat.le_refl _, rfl, (fun i j hi => by cases hi), (fun i j hi => by cases hi)⟩
      by_cases hm : new = []
      · subst hm
        let br : Real := { base := none, sz := sh.length, n := 0, cap := 0, gen := 0 }
        have hfin := hr.newBox hn (Keeps.refl _ w) (box := .sl sh [] 0) (br := br) ⟨rfl, rfl, rfl, Nat.le_refl _, rfl, fun _ => rfl, (fun b o hb => by cases hb), (fun b o hb => by cases hb)⟩ (fun b o hh => by
          obtain ⟨_, hb, _⟩ := hh; cases hb)
        have hrun := append_room (P := E.P) hu hu' hi (w := w) (b := none) (q := ql) (sLen := 0) (sCap := 0) (n := 0) (c := cq) (news := flatVals 0 sh.length vaq) (hnews := by
          rw [← hshs]; exact firstCells_of (fun i j hi => absurd hi (Nat.not_lt_zero i)) cq) (h := Nat.le_refl _) (ty := ty)
        refine wp_value (x := .slice none 0 0) (w' := w) ?_ (hnx _ _ _ _ hfin.1 (.own _ 0 br _ upd_get (Nat.le_refl _) (fun _ => rfl) ⟨_, _, _, rfl⟩))
        rw [run_call2 hc ha hty, hal, hy.eq]
        simp only [List.length_nil]
        simp only [builtin, Sem.run_bind, hrun]; rfl
      · have hpos : 0 < new.length := List.length_pos_iff.2 hm
        obtain ⟨C, cap', g1, g2, g3, g4, g5⟩ := grow hex hy (by simpa using hb) (by simpa using hpos)
        simp only [List.nil_append, List.length_nil, Nat.zero_add] at g1 g2 g5
        have hbr := newBr hr new C cap' 0 (upd ρ (BOX + d) { base := some (w.heap.size, 0), sz := sh.length, n := new.length, cap := cap', gen := 0 }) hy.fit g2 g3 g4 g5
        have hfin := hr.newBox hn (hkd w C) hbr.1 hbr.2
        exact wp_value g1 (hnx _ _ _ _ hfin.1 (.own _ 0 _ _ upd_get (Nat.le_refl _) (fun _ => by simp [Real.slice]) ⟨_, _, _, rfl⟩))
    · -- empty, without room
      rename_i sh₂ hx
      obtain ⟨hs2, h₅⟩ := cond_none h₄
      have inv : ∀ {ρ : Nat → Option Real} {I : Nat → Nat → Prop} {w : World} {x' : Value}, Rv w I ρ (.emp sh₂) x' → ∃ al, x' = .slice al 0 0 := fun h => by
        cases h with
        | dat h => cases h
        | emp _ q => exact ⟨_, rfl⟩
      rcases cond_some h₅ with ⟨hm, h₆⟩ | ⟨hm, h₆⟩
      · have hm : new = [] := List.eq_nil_of_length_eq_zero (Nat.eq_of_beq_eq_true hm)
        subst hm
        refine ⟨_, _, h₆, .pure fun w₀ I₀ O₀ ρ I a w hr => ?_⟩
        have h1 := eval_ok hr E.P t x
        rw [hx] at h1
        obtain ⟨al, hal⟩ := inv h1
        obtain ⟨ql, cq, vaq, hy⟩ := hel w₀ I₀ O₀ ρ I a w hr _ (eval_ok hr E.P u y)
        have hrun := append_room (P := E.P) hu hu' hi (w := w) (b := al) (q := ql) (sLen := 0) (sCap := 0) (n := 0) (c := cq) (news := flatVals 0 sh.length vaq) (hnews := by
          rw [← hshs]; exact firstCells_of (fun i j hi => absurd hi (Nat.not_lt_zero i)) cq) (h := Nat.le_refl _) (ty := ty)
        refine ⟨.slice al 0 0, ?_, .dat (.slc sh [] al 0 (fun _ _ => Go.undef) (Nat.le_refl _) rfl (fun h => absurd rfl h) (fun i j hi => by cases hi))⟩
        have hfl : flatVals 0 sh.length vaq = [] := by simp [flatVals]
        rw [hfl] at hrun
        rw [run_call2 hc ha hty, hal, hy.eq]
        simp only [List.length_nil]
        simp only [builtin, Sem.run_bind, hrun]
        cases al <;> rfl
      · have hm : new ≠ [] := fun e => by subst e; cases hm
        obtain ⟨hb, h₇⟩ := cond_none h₆
        obtain ⟨hn, h₈⟩ := putBox_spec h₇
        have hb : new.length * i.bytes ≤ 140737488355328 := by simpa using hb
        refine ⟨_, _, h₈, rfl, fun w₀ I₀ O₀ ρ I a w hr hgd next Q hnx => ?_⟩
        have h1 := eval_ok hr E.P t x
        rw [hx] at h1
        obtain ⟨al, hal⟩ := inv h1
        obtain ⟨ql, cq, vaq, hy⟩ := hel w₀ I₀ O₀ ρ I a w hr _ (eval_ok hr E.P u y)
        have hex : Elems w I sh [] (a.eval x) al 0 (fun _ _ => Go.undef) := ⟨hal, Nat.le_refl _, rfl, (fun i j hi => by cases hi), (fun i j hi => by cases hi)⟩
        have hpos : 0 < new.length := List.length_pos_iff.2 hm
        obtain ⟨C, cap', g1, g2, g3, g4, g5⟩ := grow hex hy (by simpa using hb) (by simpa using hpos)
        simp only [List.nil_append, List.length_nil, Nat.zero_add] at g1 g2 g5
        have hbr := newBr hr new C cap' 0 (upd ρ (BOX + d) { base := some (w.heap.size, 0), sz := sh.length, n := new.length, cap := cap', gen := 0 }) hy.fit g2 g3 g4 g5
        have hfin := hr.newBox hn (hkd w C) hbr.1 hbr.2
        exact wp_value g1 (hnx _ _ _ _ hfin.1 (.own _ 0 _ _ upd_get (Nat.le_refl _) (fun _ => by simp [Real.slice]) ⟨_, _, _, rfl⟩))
    · -- owned
      rename_i b g hx
      obtain ⟨sh₂, rows, htb, h₅⟩ := withOwn_spec h₄
      obtain ⟨hs2, h₆⟩ := cond_none h₅
      obtain ⟨hb, h₇⟩ := cond_none h₆
      have hs2 := Sh.beqL_eq _ _ hs2
      subst hs2
      have hb : (rows.length + new.length) * i.bytes ≤ 140737488355328 := by simpa using hb
      refine ⟨_, _, h₇, rfl, fun w₀ I₀ O₀ ρ I a w hr hgd next Q hnx => ?_⟩
      have h1 := eval_ok hr E.P t x
      rw [hx] at h1
      obtain ⟨ql, cq, vaq, hy⟩ := hel w₀ I₀ O₀ ρ I a w hr _ (eval_ok hr E.P u y)
      obtain ⟨br, val, hd, hbx, hex⟩ := own_elems htb hr h1
      by_cases hroom : rows.length + new.length ≤ br.cap
      · have hnf : (Builtin.firstCells i.size new.length (.slice ql new.length cq)).run E.P w = .ok (flatVals new.length sh.length vaq).toArray w := by
          rw [← hshs]; exact firstCells_of hy.cell cq
        have hrun := append_room (P := E.P) hu hu' hi (w := w) (b := br.base.map fun p => ⟨p.1, p.2, none⟩) (sLen := rows.length) (sCap := br.cap) (news := flatVals new.length sh.length vaq) hnf hroom ty
        obtain ⟨e1, e2, e3, e4, e5, e6, e7, e8⟩ := hbx
        have hfr := fitsRows_append hex.fit hy.fit
        let br' : Real := { base := br.base, sz := sh.length, n := (rows ++ new).length, cap := br.cap, gen := g + 1 }
        have hhas : ∀ b o, br'.has b o → br.has b o := fun b o ⟨o₀, h1, h2, h3⟩ => ⟨o₀, h1, h2, by rw [e1]; exact h3⟩
        obtain hbs | ⟨p, hbs⟩ : br.base = none ∨ ∃ p, br.base = some p := by cases br.base <;> simp
        · have hc0 := e6 hbs
          have hr0 : rows = [] := List.eq_nil_of_length_eq_zero (by omega)
          have hn0 : new = [] := List.eq_nil_of_length_eq_zero (by omega)
          subst hr0 hn0
          have hfin := hr.setBox htb (by simp) hd (Keeps.refl (fun _ _ => False) w) (fun _ _ _ h => h.elim) (br' := br') (box' := .sl sh ([] ++ []) (g + 1)) (.inr (by simp [br']; omega))
            ⟨rfl, rfl, rfl, by simp, rfl, fun _ => hc0, (fun b o hb => by simp [br', hbs] at hb), (fun b o hb => by simp [br', hbs] at hb)⟩ (fun b o hh => .inl (hhas b o hh)) (by intro _ _ _ _; exact ⟨_, _, _, rfl⟩) (by intro _ e; cases e)
          refine wp_value (x := .slice none 0 br.cap) (w' := w) ?_ (hnx _ _ _ _ hfin.1 (.own _ (g + 1) br' _ upd_get (Nat.le_refl _) (fun _ => by simp [Real.slice, br', hbs]) ⟨_, _, _, rfl⟩))
          rw [run_call2 hc ha hty, hex.eq, hy.eq]
          simp only [hbs, Option.map_none, List.length_nil] at hrun
          simp only [builtin, Sem.run_bind, hbs, Option.map_none, List.length_nil, hrun]; rfl
        · obtain ⟨blk, off⟩ := p
          obtain ⟨rfl, hcm, cur, ee, hcur, hcs⟩ := e8 blk off hbs
          have hlive : Live S b := ⟨_, htb, by simp⟩
          have hin : ∀ k, k < br.cap * sh.length → br.has blk k := fun k hk => ⟨0, hbs, Nat.zero_le _, by rw [e1]; omega⟩
          have hmul : rows.length * sh.length + new.length * sh.length ≤ br.cap * sh.length := by rw [← Nat.add_mul]; exact Nat.mul_le_mul_right _ hroom
          have hnl : (flatVals new.length sh.length vaq).length = new.length * sh.length := flatVals_length _ _ _
          obtain ⟨w', s1, s2, s3, s4⟩ := storeCells_ok (P := E.P) blk (rows.length * sh.length) (flatVals new.length sh.length vaq) 0 w (fun j hj => by
            rw [hnl] at hj
            exact hr.alive b br blk _ hlive hd (hin _ (by omega))) (fun v hv => by
              obtain ⟨k, hk, rfl⟩ := List.getElem_of_mem hv
              rw [hnl] at hk
              have ⟨d1, d2, d3⟩ := div_mod_lt hk
              have hg := flatVals_get new.length sh.length vaq _ _ d1 d2
              rw [d3, List.getElem?_eq_getElem (by rw [hnl]; exact hk)] at hg
              rw [Option.some.inj hg]
              exact fits_flat hy.fit d1 d2 (hy.dat _ _ d1 d2))
          simp only [Nat.add_zero, hnl] at s2 s4
          have inX : ∀ b' o', (b' = blk ∧ rows.length * sh.length ≤ o' ∧ o' < rows.length * sh.length + new.length * sh.length) → br.has b' o' := by
            rintro b' o' ⟨rfl, h1, h2⟩; exact hin o' (by omega)
          have hIw : ∀ b' o', I b' o' → w'.cell? ⟨b', o', none⟩ = w.cell? ⟨b', o', none⟩ := fun b' o' hI => s2.cell (fun hX => hr.notI b br b' o' hlive hd (inX b' o' hX) hI) (hr.ilt b' o' hI)
          have hfin := hr.setBox htb (by simp) hd s2 (fun b' o' _ hX => inX b' o' hX) (br' := br') (box' := .sl sh (rows ++ new) (g + 1)) (.inr (by simp [br']; omega))
            ⟨rfl, rfl, rfl, by simpa [br'] using hroom, hfr, fun hb => by simp [br', hbs] at hb, fun b' o' hb r j hr' hj => ?_, fun b' o' hb => ?_⟩ (fun b o hh => .inl (hhas b o hh)) (by intro _ _ _ _; exact ⟨_, _, _, rfl⟩) (by intro _ e; cases e)
          · refine wp_value (x := .slice (some ⟨blk, 0, none⟩) (rows.length + new.length) br.cap) (w' := w') ?_ (hnx _ _ _ _ hfin.1 (.own _ (g + 1) br' _ upd_get (Nat.le_refl _) (fun _ => by simp [Real.slice, br', hbs]) ⟨_, _, _, rfl⟩))
            rw [run_call2 hc ha hty, hex.eq, hy.eq]
            simp only [hbs, Option.map_some, add_off, Nat.zero_add, ← hshs, s1, Result.andThen_ok] at hrun
            simp only [builtin, Sem.run_bind, hbs, Option.map_some, hrun]; rfl
          · simp only [br', hbs] at hb; cases hb
            simp only [List.length_append] at hr'
            rw [Nat.zero_add, rowAt_append]
            by_cases hlt : r < rows.length
            · rw [if_pos hlt]
              obtain ⟨y₁, hy1, hy2⟩ := e7 blk 0 hbs r j hlt hj
              rw [Nat.zero_add] at hy1
              have : (r + 1) * sh.length ≤ rows.length * sh.length := Nat.mul_le_mul_right _ hlt
              rw [Nat.add_mul] at this
              exact ⟨y₁, (s2.cell (by rintro ⟨_, h1, _⟩; omega) (lt_of_cell hy1)).trans hy1, hy2.keep hIw (fun _ _ h => h)⟩
            · rw [if_neg hlt]
              have hk : (r - rows.length) * sh.length + j < new.length * sh.length := by
                have : (r - rows.length + 1) * sh.length ≤ new.length * sh.length := Nat.mul_le_mul_right _ (by omega)
                rw [Nat.add_mul] at this; omega
              have h5 := s4 _ hk
              have hg := flatVals_get new.length sh.length vaq (r - rows.length) j (by omega) hj
              have hle : rows.length * sh.length ≤ r * sh.length := Nat.mul_le_mul_right _ (by omega)
              rw [List.getD_eq_getElem?_getD, hg, Option.getD_some, show rows.length * sh.length + ((r - rows.length) * sh.length + j) = r * sh.length + j by rw [Nat.sub_mul]; omega] at h5
              exact ⟨_, h5, (hy.dat _ j (by omega) hj).keep hIw (fun _ _ h => h)⟩
          · simp only [br', hbs] at hb; cases hb
            obtain ⟨cur', c5, c6⟩ := s2.shape _ _ _ _ hcur
            exact ⟨rfl, hcm, cur', ee, c5, by rw [c6, hcs, e1]⟩
      · obtain ⟨C, cap', g1, g2, g3, g4, g5⟩ := grow hex hy hb (by omega)
        have hfr := fitsRows_append hex.fit hy.fit
        have hbr := newBr hr (rows ++ new) C cap' (g + 1) (upd ρ b { base := some (w.heap.size, 0), sz := sh.length, n := (rows ++ new).length, cap := cap', gen := g + 1 }) hfr (by simpa using g2) g3 g4 (by simpa using g5)
        have hfin := hr.setBox htb (by simp) hd (hkd w C) (fun _ _ _ h => h.elim) (.inr (by have := hbx.2.2.1; simp; omega)) hbr.1 (fun b o hh => .inr (hbr.2 b o hh)) (by intro _ _ _ _; exact ⟨_, _, _, rfl⟩) (by intro _ e; cases e)
        exact wp_value g1 (hnx _ _ _ _ hfin.1 (.own _ (g + 1) _ _ upd_get (Nat.le_refl _) (fun _ => by simp [Real.slice]) ⟨_, _, _, rfl⟩))
    · cases h₄
  · cases h₀
end
end Go.Ev
