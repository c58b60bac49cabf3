/- Structs, literals, made and grown slices: lemmas, no condition. -/
import Derived.Test.YtajdamefabfoaaaDoorSo5
namespace Go.Ev
open Go Go.RowKit

section
variable {P : Program} {m : Nat} {S : St} {dst : Option Tmp} {ty : TypeId} {pos : String} {after : Array Edge} {guard : Option (Nat × Bool)}

/-- Cells laid over others. -/
theorem foldset : ∀ (new : List Value) (k off : Nat) (cells : Array Value), off + k + new.length ≤ cells.size →
    ((new.zipIdx k).foldl (fun cs p => cs.setIfInBounds (off + p.2) p.1) cells).size = cells.size ∧
    ∀ i, ((new.zipIdx k).foldl (fun cs p => cs.setIfInBounds (off + p.2) p.1) cells).getD i Go.undef = if off + k ≤ i ∧ i < off + k + new.length then new.getD (i - (off + k)) Go.undef else cells.getD i Go.undef
  | [], k, off, cells, _ => ⟨rfl, fun i => by rw [if_neg (by simp only [List.length_nil]; omega)]; rfl⟩
  | v :: vs, k, off, cells, h => by
    simp only [List.zipIdx_cons, List.foldl_cons]
    have h' : off + (k + 1) + vs.length ≤ (cells.setIfInBounds (off + k) v).size := by simp at h ⊢; omega
    obtain ⟨h1, h2⟩ := foldset vs (k + 1) off (cells.setIfInBounds (off + k) v) h'
    refine ⟨by rw [h1]; simp, fun i => ?_⟩
    rw [h2 i]
    simp only [List.length_cons] at h ⊢
    by_cases hi : i = off + k
    · subst hi
      rw [if_neg (by omega), if_pos (by omega)]
      simp only [Nat.sub_self, List.getD_cons_zero, Array.getD_eq_getD_getElem?]
      rw [Array.getElem?_setIfInBounds_self_of_lt (by omega)]; rfl
    · have hs : (cells.setIfInBounds (off + k) v).getD i Go.undef = cells.getD i Go.undef := by
        simp only [Array.getD_eq_getD_getElem?]
        rw [Array.getElem?_setIfInBounds_ne (fun e => hi e.symm)]
      by_cases hin : off + (k + 1) ≤ i ∧ i < off + (k + 1) + vs.length
      · rw [if_pos hin, if_pos (by omega)]
        rw [show i - (off + k) = (i - (off + (k + 1))) + 1 by omega, List.getD_cons_succ]
      · rw [if_neg hin, if_neg (by omega), hs]

theorem fill_step (place : Nat → Option (Nat × Nat)) (cells : Array Value) (i : Nat) (v : Value) (rest : List (Nat × Value)) (off size : Nat) (hp : place i = some (off, size)) (hs : v.cells.size = size)
    (hl : off + size ≤ cells.size) : ∃ cells' : Array Value, Instr.fill place cells ((i, v) :: rest) = Instr.fill place cells' rest ∧ cells'.size = cells.size ∧
      ∀ j, cells'.getD j Go.undef = if off ≤ j ∧ j < off + size then v.cells.toList.getD (j - off) Go.undef else cells.getD j Go.undef := by
  refine ⟨v.cells.zipIdx.foldl (fun cs (c, j) => cs.setIfInBounds (off + j) c) cells, ?_, ?_⟩
  · simp only [Instr.fill, hp]
    rw [if_neg (by simp [hs]; omega)]
  · have := foldset v.cells.toList 0 off cells (by simp; omega)
    rw [← Array.foldl_toList, Array.toList_zipIdx]
    refine ⟨this.1, fun j => ?_⟩
    have := this.2 j
    simp only [Nat.add_zero, Array.length_toList, hs] at this
    exact this

theorem all_info {fs : List Field} (h : (fs.all fun f => (P.info? f.type).isSome) = true) (w : World) : (fs.mapM fun f => do pure (f.offset, ← sizeOf f.type) : Sem (List (Nat × Nat))).run P w = .ok (fs.map fun f => (f.offset, P.cellsOf f.type)) w := by
  induction fs with
  | nil => simp
  | cons f fs ih =>
    simp only [List.all_cons, Bool.and_eq_true] at h
    obtain ⟨i, hi⟩ := Option.isSome_iff_exists.1 h.1
    have hs : (sizeOf f.type).run P w = .ok (P.cellsOf f.type) w := by simp [sizeOf, run_typeInfo' hi, Program.cellsOf, hi]
    rw [List.mapM_cons]
    simp only [Sem.run_bind, hs, Result.andThen_ok, Sem.run_pure]
    have := ih h.2
    rw [this]; rfl

theorem run_mapM_array {α β : Type} (f : α → Sem β) (xs : Array α) (l : List β) (w : World) (h : (xs.toList.mapM f).run P w = .ok l w) : (xs.mapM f).run P w = .ok l.toArray w := by
  rw [← Array.toList_mapM] at h
  simp only [Sem.run_map] at h
  cases hr : (xs.mapM f).run P w with
  | ok a w' =>
    rw [hr] at h
    simp only [Result.andThen_ok, Result.ok.injEq] at h
    obtain ⟨rfl, rfl⟩ := h
    rfl
  | halt a w' => rw [hr] at h; cases h

theorem buildCells_ok {t : TypeId} {fs : Array Field} (hu : P.underlying t = some (.struct fs)) : ∀ (ps : List (Nat × Operand)) (cs cs' : List V),
    buildCells P t (ps.map fun (i, x) => (i, S.eval P 0 x)) cs = some cs' → ∀ w₀ I₀ O₀ ρ I a w, Rel m w₀ I₀ O₀ ρ I S a w → ∀ cells : Array Value, AllRv w I ρ cs cells.toList →
      ∃ cells', Instr.fill ((fs.map fun f => (f.offset, P.cellsOf f.type))[·]?) cells (ps.map fun (i, x) => (i, a.eval x)) = some cells' ∧ AllRv w I ρ cs' cells'.toList
  | [], cs, cs', h, w₀, I₀, O₀, ρ, I, a, w, hr, cells, hc => by
    simp only [List.map_nil, buildCells, Option.some.injEq] at h
    subst h
    exact ⟨cells, rfl, hc⟩
  | (i, x) :: ps, cs, cs', h, w₀, I₀, O₀, ρ, I, a, w, hr, cells, hc => by
    simp only [List.map_cons, buildCells] at h
    split at h
    · rename_i o ft hf
      cases hb : cond (Nat.blt 0 (S.eval P 0 x).cells.length) (Nat.beq (S.eval P 0 x).cells.length (P.cellsOf ft)) false with
      | false => rw [hb] at h; cases h
      | true =>
        rw [hb, cond_true] at h
        cases hb2 : Nat.ble (o + (S.eval P 0 x).cells.length) cs.length with
        | false => rw [hb2] at h; cases h
        | true =>
          rw [hb2, cond_true] at h
          have hb := blt_beq hb
          have hb2 := Nat.le_of_ble_eq_true hb2
          obtain ⟨fs', f, h1, h2, rfl, rfl⟩ := fieldOff_spec hf
          rw [hu] at h1; cases h1
          have hv := (eval_ok hr P 0 x).cells_ok hb.1
          have hsz : (a.eval x).cells.size = P.cellsOf f.type := by have := hv.1; simp at this; omega
          have hcs : cells.size = cs.length := by have := hc.1; simp at this; omega
          obtain ⟨cells₁, g1, g2, g3⟩ := fill_step (fun i => (fs.map fun f => (f.offset, P.cellsOf f.type))[i]?) cells i (a.eval x) (ps.map fun (i, x) => (i, a.eval x)) f.offset (P.cellsOf f.type)
            (by simp [h2]) hsz (by omega)
          have hc₁ : AllRv w I ρ (splice cs f.offset (S.eval P 0 x).cells) cells₁.toList := by
            refine ⟨by rw [splice_length _ _ _ hb2]; simp; omega, fun j hj => ?_⟩
            rw [splice_length _ _ _ hb2] at hj
            have e : cells₁.toList.getD j Go.undef = cells₁.getD j Go.undef := by simp [List.getD_eq_getElem?_getD, Array.getD_eq_getD_getElem?]
            have e' : cells.toList.getD j Go.undef = cells.getD j Go.undef := by simp [List.getD_eq_getElem?_getD, Array.getD_eq_getD_getElem?]
            rw [e, g3 j, splice_getD _ _ _ hb2, hb.2]
            by_cases hin : f.offset ≤ j ∧ j < f.offset + P.cellsOf f.type
            · rw [if_pos hin, if_pos hin]; exact hv.2 _ (by omega)
            · rw [if_neg hin, if_neg hin, ← e']; exact hc.2 j hj
          obtain ⟨cells', k1, k2⟩ := buildCells_ok hu ps _ _ h w₀ I₀ O₀ ρ I a w hr cells₁ hc₁
          exact ⟨cells', by rw [List.map_cons]; exact g1.trans k1, k2⟩
    · cases h

theorem ok_build {t : TypeId} {fs : Array Field} {ps : Array (Nat × Operand)} {cs : List V} (hu : P.underlying t = some (.struct fs)) (hz : zeroOk P t = true)
    (hi : (fs.toList.all fun f => (P.info? f.type).isSome) = true) (h : buildCells P t (ps.toList.map fun (i, x) => (i, S.eval P 0 x)) (zeroOf P FUEL t) = some cs) :
    OpPure P m S ⟨dst, .build t ps, ty, pos, after, guard⟩ (.agg cs) :=
  fun w₀ I₀ O₀ ρ I a w hr => by
    obtain ⟨z, hz1, hz2⟩ := zeroOk_spec hz
    obtain ⟨cells', h1, h2⟩ := buildCells_ok hu ps.toList _ _ h w₀ I₀ O₀ ρ I a w hr z.cells (hz2 w I ρ)
    refine ⟨.agg cells', fun w' => ?_, ?_⟩
    · have hm := run_mapM_array (P := P) _ fs _ w' (all_info hi w')
      have e : (fs.toList.map fun f => (f.offset, P.cellsOf f.type)).toArray = fs.map fun f => (f.offset, P.cellsOf f.type) := by apply Array.ext'; simp
      have e2 : (ps.map fun (i, x) => (i, a.eval x)).toList = ps.toList.map fun (i, x) => (i, a.eval x) := by simp
      simp only [execOp, Instr.build, Sem.run_bind, hz1, Result.andThen_ok, run_underlying' hu, hm, e, e2, h1]
      rfl
    · have := Rv.agg cs cells'.toList h2.1 h2.2
      simpa using this

/-! ### Slice literals -/
theorem inOrder_spec {α : Type} : ∀ (n : Nat) (l : List (Nat × α)), inOrder n l = true → ∀ i, i < l.length → (l[i]?).map (·.1) = some (n + i)
  | _, [], _, _, hi => by cases hi
  | n, (k, x) :: r, h, i, hi => by
    simp only [inOrder] at h
    cases hb : Nat.beq k n with
    | false => rw [hb] at h; cases h
    | true =>
      rw [hb] at h
      have hk := Nat.eq_of_beq_eq_true hb
      cases i with
      | zero => simp [hk]
      | succ i =>
        have := inOrder_spec (n + 1) r h i (by simpa using hi)
        simp only [List.getElem?_cons_succ, this]
        congr 1; omega

/-- A row filled in order. -/
theorem fill_rows (size : Nat) : ∀ (vs : List Value) (k : Nat) (cells : Array Value), (∀ v ∈ vs, v.cells.size = size) → (k + vs.length) * size ≤ cells.size →
    ∃ cells' : Array Value, Instr.fill (fun i => some (i * size, size)) cells ((vs.zipIdx k).map fun p => (p.2, p.1)) = some cells' ∧ cells'.size = cells.size ∧
      (∀ j, j < k * size → cells'.getD j Go.undef = cells.getD j Go.undef) ∧
      ∀ i j, i < vs.length → j < size → cells'.getD ((k + i) * size + j) Go.undef = (vs.getD i Go.undef).cells.toList.getD j Go.undef
  | [], k, cells, _, _ => ⟨cells, rfl, rfl, fun _ _ => rfl, fun i j hi => by cases hi⟩
  | v :: vs, k, cells, hv, hl => by
    have h1 : (k + 1) * size ≤ (k + (v :: vs).length) * size := Nat.mul_le_mul_right _ (by simp)
    have h2 : (k + 1) * size = k * size + size := by rw [Nat.add_mul]; omega
    obtain ⟨c₁, g1, g2, g3⟩ := fill_step (fun i => some (i * size, size)) cells k v ((vs.zipIdx (k + 1)).map fun p => (p.2, p.1)) (k * size) size rfl (hv v (by simp)) (by omega)
    obtain ⟨c', e1, e2, e3, e4⟩ := fill_rows size vs (k + 1) c₁ (fun u hu => hv u (by simp [hu])) (by
      rw [g2]; refine Nat.le_trans (Nat.mul_le_mul_right _ ?_) hl; simp; omega)
    refine ⟨c', by simp only [List.zipIdx_cons, List.map_cons]; exact g1.trans e1, e2.trans g2, fun j hj => ?_, fun i j hi hj => ?_⟩
    · rw [e3 j (by omega), g3 j, if_neg (by omega)]
    · cases i with
      | zero =>
        rw [Nat.add_zero, e3 _ (by omega), g3, if_pos (by omega)]
        simp [show k * size + j - k * size = j by omega]
      | succ i =>
        have := e4 i j (by simpa using hi) hj
        rw [show k + 1 + i = k + (i + 1) by omega] at this
        rw [this]; simp

theorem ok_buildSlice {E : Env} {t e : TypeId} {n : Nat} {ps : Array (Nat × Operand)} {K : V → St → Option R} {q : R} (hu : E.P.underlying t = some (.slice e))
    (hc : cond (Nat.ble (n * E.P.cellsOf e) 1000) (cond (inOrder 0 ps.toList) (cond (Nat.beq ps.toList.length n) (zeroOk E.P e) false) false) false = true)
    (h : dataVs (ps.toList.map fun (_, x) => S.eval E.P 0 x) S (fun vs S =>
        cond (fitsRows (shOf E.P FUEL e) (vs.map V.cells)) (cond (cond (Nat.blt 0 (shOf E.P FUEL e).length) (Nat.beq (shOf E.P FUEL e).length (E.P.cellsOf e)) false) (K (.slc (shOf E.P FUEL e) (vs.map V.cells)) S) none) none) = some q) :
    ∃ v S', K v S' = some q ∧ OpOk E.P m S ⟨dst, .buildSlice t n ps, ty, pos, after, guard⟩ v S' := by
  have hc' : n * E.P.cellsOf e ≤ 1000 ∧ inOrder 0 ps.toList = true ∧ ps.toList.length = n ∧ zeroOk E.P e = true := by
    cases h1 : Nat.ble (n * E.P.cellsOf e) 1000 with
    | false => rw [h1] at hc; cases hc
    | true =>
      cases h2 : inOrder 0 ps.toList with
      | false => rw [h1, h2] at hc; cases hc
      | true =>
        cases h3 : Nat.beq ps.toList.length n with
        | false => rw [h1, h2, h3] at hc; cases hc
        | true => rw [h1, h2, h3] at hc; exact ⟨Nat.le_of_ble_eq_true h1, rfl, Nat.eq_of_beq_eq_true h3, hc⟩
  obtain ⟨c1, c2, c3, c4⟩ := hc'
  obtain ⟨vs, S', h1, h2, h3, hdl, h4⟩ := dataVs_ok (m := m) _ S h
  obtain ⟨hf, h1⟩ := cond_none h1
  obtain ⟨hsh, h1⟩ := cond_none h1
  have hsh := blt_beq hsh
  generalize shOf E.P FUEL e = sh at *
  refine ⟨_, S', h1, h3, fun w₀ I₀ O₀ ρ I a w hr hgd next Q hn => ?_⟩
  have hvl : vs.length = n := by rw [h2]; simp [c3]
  obtain ⟨I', i1, r1, d1⟩ := h4 w₀ I₀ O₀ ρ I a w hr
  let xs := ps.toList.map fun p => a.eval p.2
  have hxs : AllRv w I ρ (ps.toList.map fun (_, x) => S.eval E.P 0 x) xs := ⟨by simp [xs], fun i hi => by
    have hi' : i < ps.toList.length := by simpa using hi
    simp only [xs, List.getD_eq_getElem?_getD, List.getElem?_map, List.getElem?_eq_getElem hi', Option.map_some, Option.getD_some]
    exact eval_ok hr E.P 0 _⟩
  have hd := d1 xs hxs
  have hxl : xs.length = n := by simp [xs, c3]
  have hrowl : ∀ i, i < n → (vs.getD i .undef).cells.length = sh.length := fun i hi => by
    have := (fitsL_spec _ _ (fitsRows_spec sh _ hf i (by simp [hvl, hi]))).1
    simpa [List.getD_eq_getElem?_getD, hvl, hi] using this
  have hcell : ∀ v ∈ xs, v.cells.size = sh.length := fun v hv => by
    obtain ⟨i, hi, rfl⟩ := List.getElem_of_mem hv
    have hdi := (hd.2 i (by omega)).1.1
    rw [hrowl i (by omega), List.getD_eq_getElem?_getD (l := xs), List.getElem?_eq_getElem hi, Option.getD_some] at hdi
    simpa using hdi.symm
  obtain ⟨z, hz1, hz2⟩ := zeroOk_spec c4
  have hparts : (ps.map fun (i, x) => (i, a.eval x)).toList = (xs.zipIdx 0).map fun p => (p.2, p.1) := by
    apply List.ext_getElem?
    intro i
    simp only [Array.toList_map, List.getElem?_map, List.getElem?_zipIdx, xs]
    cases hg : ps.toList[i]? with
    | none => simp
    | some p =>
      have hi : i < ps.toList.length := (List.getElem?_eq_some_iff.1 hg).1
      have := inOrder_spec 0 ps.toList c2 i hi
      rw [hg] at this
      simp at this
      obtain ⟨p1, p2⟩ := p
      simp at this ⊢; exact this
  have hsize : sh.length = E.P.cellsOf e := hsh.2
  let z0 : Array Value := if n * E.P.cellsOf e = 0 then #[] else z.cells
  let cells0 : Array Value := (Array.range (n * E.P.cellsOf e)).map (z0[· % z0.size]!)
  obtain ⟨cells', g1, g2, _, g4⟩ := fill_rows sh.length xs 0 cells0 hcell (by simp [cells0, hxl, hsize])
  have hrun : (Instr.buildSlice t n (ps.map fun (i, x) => (i, a.eval x))).run E.P w = .ok (.slice (some ⟨w.heap.size, 0, none⟩) n n) (w.alloc (.cells cells' e)) := by
    have hz : E.P.cellsOf e ≠ 0 := by omega
    rw [hsize] at g1
    simp only [Instr.buildSlice, Sem.run_bind, run_underlying' hu, Result.andThen_ok, run_sizeOf' hz]
    rw [if_neg (by omega)]
    by_cases hn0 : n * E.P.cellsOf e = 0
    · have hz0 : z0 = #[] := if_pos hn0
      simp only [hn0, if_true, Sem.run_pure, Sem.run_bind, Result.andThen_ok]
      simp only [cells0, hn0, hz0] at g1
      rw [hparts]
      simp only [g1]
      simp [newRow]
    · have hz0 : z0 = z.cells := if_neg hn0
      simp only [hn0, if_false, Sem.run_pure, Sem.run_bind, Result.andThen_ok, hz1]
      simp only [cells0, hz0] at g1
      rw [hparts]
      simp only [g1]
      simp [newRow]
  have hk : Keeps (fun _ _ => False) w (w.alloc (.cells cells' e)) := Keeps.alloc _ _ _
  have hcs : cells'.size = n * sh.length := by rw [g2]; simp [cells0, hsize]
  let I'' : Nat → Nat → Prop := fun b o => I' b o ∨ (b = w.heap.size ∧ o < n * sh.length)
  have r2 : Rel m w₀ I₀ O₀ ρ I'' S' a (w.alloc (.cells cells' e)) := r1.growI hk (fun _ _ h => .inl h) fun b o hi => by
    rcases hi with hi | ⟨rfl, _⟩
    · exact .inl hi
    · exact .inr ⟨Nat.le_refl _, by simp⟩
  refine wp_value (x := .slice (some ⟨w.heap.size, 0, none⟩) n n) (w' := w.alloc (.cells cells' e)) ?_ (hn _ _ ρ I'' r2 (.dat ?_))
  · simp only [execOp, Sem.run_bind, hrun]; rfl
  · have hrl : (vs.map V.cells).length = n := by simp [hvl]
    have := Dat.slc (w := w.alloc (.cells cells' e)) (I := I'') sh (vs.map V.cells) (some ⟨w.heap.size, 0, none⟩) n (fun i j => cells'.getD (i * sh.length + j) Go.undef) (by rw [hrl]; exact Nat.le_refl _) hf
      (fun _ => ⟨w.heap.size, 0, rfl, fun i j hi hj => by
        rw [hrl] at hi
        have hlt : i * sh.length + j < n * sh.length := by
          have : (i + 1) * sh.length ≤ n * sh.length := Nat.mul_le_mul_right _ hi
          rw [Nat.add_mul] at this; omega
        refine ⟨?_, .inr ⟨rfl, by omega⟩⟩
        rw [Nat.zero_add, alloc_cell _ _ _ _ (by omega)]
        simp [Array.getD_eq_getD_getElem?, show i * sh.length + j < cells'.size by omega]⟩) (fun i j hi hj => by
        rw [hrl] at hi
        have e1 := g4 i j (by omega) hj
        rw [Nat.zero_add] at e1
        rw [e1]
        have hdi := (hd.2 i (by omega)).1.2 j (by rw [hrowl i hi]; exact hj)
        have e2 : rowAt (vs.map V.cells) i j = (vs.getD i .undef).cells.getD j .undef := by
          unfold rowAt
          simp [List.getD_eq_getElem?_getD, hvl, hi]
        rw [e2]
        exact hdi.keep (fun b o hi => World.cell?_alloc_lt _ _ _ (r1.ilt b o hi)) (fun _ _ h => .inl h))
    rwa [hrl] at this

/-! ### make -/
theorem rowZero_ok : ∀ (sh : List Sh) (vs : List V), rowZero sh vs = true → vs.length = sh.length ∧ (fitsL sh (sh.map zero1) = true) ∧
    ∀ j, j < sh.length → ∀ w I ρ x, Rv w I ρ (vs.getD j .undef) x → Dat w I ((sh.map zero1).getD j .undef) x
  | [], [], _ => ⟨rfl, rfl, fun j hj => by cases hj⟩
  | s :: ss, v :: vs, h => by
    have key : ∀ (_ : fits s (zero1 s) = true) (_ : ∀ w I ρ x, Rv w I ρ v x → Dat w I (zero1 s) x) (_ : rowZero ss vs = true),
        (v :: vs).length = (s :: ss).length ∧ (fitsL (s :: ss) ((s :: ss).map zero1) = true) ∧ ∀ j, j < (s :: ss).length → ∀ w I ρ x, Rv w I ρ ((v :: vs).getD j .undef) x → Dat w I (((s :: ss).map zero1).getD j .undef) x := by
      intro h1 h2 h3
      obtain ⟨g1, g2, g3⟩ := rowZero_ok ss vs h3
      refine ⟨by simp [g1], by simp [fitsL, h1, g2], fun j hj w I ρ x hx => ?_⟩
      cases j with
      | zero => exact h2 w I ρ x hx
      | succ j => exact g3 j (by simpa using hj) w I ρ x hx
    cases s with
    | bool =>
      cases v with
      | bool b =>
        simp only [rowZero] at h
        cases b with
        | true => cases h
        | false => exact key rfl (fun w I ρ x hx => datV_ok hx rfl) h
      | _ => cases h
    | int k =>
      cases v with
      | int k' n =>
        simp only [rowZero] at h
        by_cases hk : k = k'
        · subst hk
          by_cases hn : n = 0
          · subst hn
            simp at h
            exact key (by simp [fits, zero1]) (fun w I ρ x hx => datV_ok hx rfl) h
          · simp [hn] at h
        · simp [hk] at h
      | _ => cases h
    | str =>
      cases v with
      | str l =>
        simp only [rowZero] at h
        cases l with
        | nil => exact key rfl (fun w I ρ x hx => datV_ok hx rfl) h
        | cons _ _ => cases h
      | _ => cases h
    | slc c =>
      cases v with
      | nils c' =>
        simp only [rowZero] at h
        cases hb : Sh.beqL c c' with
        | false => rw [hb] at h; cases h
        | true =>
          rw [hb] at h
          have := Sh.beqL_eq _ _ hb
          subst this
          exact key hb (fun w I ρ x hx => datV_ok hx rfl) h
      | _ => cases h
    | oth => cases v <;> cases h
  | [], _ :: _, h => by cases h
  | s :: _, [], h => by cases s <;> cases h
end
end Go.Ev
