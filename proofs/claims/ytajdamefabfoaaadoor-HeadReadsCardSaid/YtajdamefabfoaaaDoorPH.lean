/- Heads: the plain functions and their codecs: definitions, no condition. -/
import Derived.Test.YtajdamefabfoaaaDoorRW
namespace Go.Ev
open Go

structure HPair where
  key : Bytes
  kind : Int
  num : Int
  text : Bytes
/-- A codec, its row spelt out. -/
def _root_.Go.Ev.RCod.spelt {α : Type} (c : RCod α) (sh : List Sh) (enc : α → List V) (dec : List V → α) (hs : c.sh = sh) (he : ∀ a, c.enc a = enc a) (hd : ∀ r, c.dec r = dec r) : RCod α where
  sh := sh; enc := enc; dec := dec
  rf := by rw [← hs]; exact c.rf
  fit a := by rw [← hs, ← he]; exact c.fit a
  wf row h hw := by rw [← hd, ← he]; exact c.wf row (by rw [hs]; exact h) hw
  de a := by rw [← hd, ← he]; exact c.de a
  law w I row val h hr j hj := by rw [← hd, ← he]; exact c.law w I row val (by rw [hs]; exact h) (fun k hk => hr k (by rw [← hs]; exact hk)) j (by rw [hs]; exact hj)
theorem getD_take_one {r : List V} : (r.take 1).getD 0 .undef = r.getD 0 .undef := by cases r <;> rfl
theorem getD_drop_one {r : List V} (i : Nat) : (r.drop 1).getD i .undef = r.getD (i + 1) .undef := by cases r <;> rfl
def rowP (r : List V) : HPair := ⟨(r.getD 0 .undef).toStr, (r.getD 1 .undef).toInt, (r.getD 2 .undef).toInt, (r.getD 3 .undef).toStr⟩
def cPair : RCod HPair := ((rStr.and ((rInt .u8).and ((rInt .i64).and rStr))).iso (fun p => (⟨p.1, p.2.1, p.2.2.1, p.2.2.2⟩ : HPair)) (fun o => (o.key, o.kind, o.num, o.text)) (fun _ => rfl) fun _ => rfl).spelt
  [.str, .int .u8, .int .i64, .str] (fun p => [.str p.key, .int .u8 p.kind, .int .i64 p.num, .str p.text]) rowP rfl (fun _ => rfl) fun r => by
    show (⟨((r.take 1).getD 0 .undef).toStr, (((r.drop 1).take 1).getD 0 .undef).toInt, ((((r.drop 1).drop 1).take 1).getD 0 .undef).toInt, (((r.drop 1).drop 1).drop 1 |>.getD 0 .undef).toStr⟩ : HPair) = rowP r
    simp only [getD_take_one, getD_drop_one]; rfl
def rowsP (r : List (List V)) : List HPair := r.map rowP
def pair0 : HPair := ⟨[], 0, 0, []⟩
theorem rowsP_getD (r : List (List V)) (i : Nat) : (rowsP r).getD i pair0 = rowP (r.getD i []) := by
  unfold rowsP; simp only [List.getD_eq_getElem?_getD, List.getElem?_map]; cases r[i]? <;> rfl
theorem rowsP_length (r : List (List V)) : (rowsP r).length = r.length := List.length_map ..
theorem rowsP_enc (l : List HPair) : rowsP (l.map cPair.enc) = l := by
  unfold rowsP; rw [List.map_map]; exact List.map_id' l
theorem getD_drop {α : Type} {l : List α} {i : Nat} (d : α) (h : i < l.length) : l.drop i = l.getD i d :: l.drop (i + 1) := by
  rw [List.drop_eq_getElem_cons h, List.getD_eq_getElem?_getD, List.getElem?_eq_getElem h]; rfl
theorem drop_pair {r : List (List V)} {i : Nat} (h : i < r.length) : (rowsP r).drop i = rowP (r.getD i []) :: (rowsP r).drop (i + 1) := by
  rw [← rowsP_getD]; exact getD_drop pair0 (by rw [rowsP_length]; exact h)
theorem pairs_enc : ∀ l : List HPair, (l.map (fun p => [V.str p.key, V.int .u8 p.kind, V.int .i64 p.num, V.str p.text])).map (fun r => ({ key := V.toStr (List.getD r 0 .undef), kind := V.toInt (List.getD r 1 .undef), num := V.toInt (List.getD r 2 .undef), text := V.toStr (List.getD r 3 .undef) } : HPair)) = l := fun l => rowsP_enc l
theorem pairs_at (l : List HPair) (i : Nat) : rowP ((l.map (fun p => [V.str p.key, V.int .u8 p.kind, V.int .i64 p.num, V.str p.text])).getD i []) = l.getD i pair0 := by
  rw [← rowsP_getD]; exact congrArg (fun x => x.getD i pair0) (rowsP_enc l)
theorem pairs_get : (∀ (l : List HPair) (i : Nat), V.toStr (List.getD (List.getD (l.map (fun p => [V.str p.key, V.int .u8 p.kind, V.int .i64 p.num, V.str p.text])) i []) 0 .undef) = (l.getD i pair0).key) ∧
    (∀ (l : List HPair) (i : Nat), V.toInt (List.getD (List.getD (l.map (fun p => [V.str p.key, V.int .u8 p.kind, V.int .i64 p.num, V.str p.text])) i []) 1 .undef) = (l.getD i pair0).kind) ∧
    (∀ (l : List HPair) (i : Nat), V.toInt (List.getD (List.getD (l.map (fun p => [V.str p.key, V.int .u8 p.kind, V.int .i64 p.num, V.str p.text])) i []) 2 .undef) = (l.getD i pair0).num) ∧
    (∀ (l : List HPair) (i : Nat), V.toStr (List.getD (List.getD (l.map (fun p => [V.str p.key, V.int .u8 p.kind, V.int .i64 p.num, V.str p.text])) i []) 3 .undef) = (l.getD i pair0).text) :=
  ⟨fun l i => congrArg HPair.key (pairs_at l i), fun l i => congrArg HPair.kind (pairs_at l i), fun l i => congrArg HPair.num (pairs_at l i), fun l i => congrArg HPair.text (pairs_at l i)⟩
/-- A function that is handed on, one variable's place in it. -/
def vFn (f : FuncId) (n : Nat) : VCod Unit where
  ok := fun | .fn g [] [.ptr m 0 0 0] => cond (Nat.beq f g) (Nat.beq n m) false | _ => false
  enc _ := .fn f [] [.ptr n 0 0 0]
  dec _ := ()
  ed _ := ⟨by show cond (Nat.beq f f) (Nat.beq n n) false = true; rw [Nat.beq_refl, Nat.beq_refl]; rfl, rfl⟩
  law w I ρ v x h hx := by
    split at h
    · obtain ⟨h1, h2⟩ := bcond h
      have := Nat.eq_of_beq_eq_true h1; subst this
      have := Nat.eq_of_beq_eq_true h2; subst this
      exact hx
    · cases h
namespace N
def eqP (p q : HPair) : Bool := p.key == q.key && (p.kind == q.kind && (p.num == q.num && (p.text == q.text && true)))
def samePs : List HPair → List HPair → Bool
  | [], [] => true | p :: a, q :: b => cond (eqP p q) (samePs a b) false | _, _ => false
def lightP (p : HPair) : Bool := cond (ilt 40 p.key.length) false (!ilt 100 p.text.length)
def light (h : List HPair) : Bool := cond (ilt 12 h.length) false (h.all lightP)
/-- The first place of a key. -/
def findIx (key : Bytes) : List HPair → Int → Int
  | [], _ => -1 | p :: r, i => cond (p.key == key) i (findIx key r (i + 1))
def find (h : List HPair) (key : Bytes) : HPair × Bool := cond (ilt (findIx key h 0) 0) (pair0, false) (h.getD (findIx key h 0).toNat pair0, true)
def pairE (p : HPair) (ahead : List HPair) : Int :=
  cond (name p.key != 0) (name p.key) (cond (ilt 2 p.kind) 8 (cond (cond (p.kind == 1) (ilt 64 p.text.length) false) 5 (cond (cond (cond (p.kind == 2) (p.num != 0) false) (p.num != 1) false) 7
    (cond (cond (cond (p.kind == 1) (p.num != 0) false) true (cond (p.kind != 1) (!(p.text == [])) false)) 4 (cond (find ahead p.key).2 9 0)))))
def checkFrom (h : List HPair) : Nat → Int → Int
  | 0, _ => 0 | f + 1, i => cond (pairE (h.getD i.toNat pair0) (h.take i.toNat) != 0) (pairE (h.getD i.toNat pair0) (h.take i.toNat)) (checkFrom h f (i + 1))
def headCheck (h : List HPair) : Int := cond (ilt 8 h.length) 6 (checkFrom h h.length 0)
/-- A text's bytes. -/
def textB (s : Bytes) : Bytes := numB s.length 2 ++ s
def pairB (p : HPair) : Bytes := textB p.key ++ numB (IntKind.wrap .u64 p.kind) 1 ++ cond (p.kind == 0) (numB (IntKind.wrap .u64 p.num) 8) (cond (p.kind == 1) (textB p.text) (cond (p.kind == 2) (numB (IntKind.wrap .u64 p.num) 1) []))
def pairsB : List HPair → Bytes
  | [] => [] | p :: r => pairB p ++ pairsB r
def fitP (p : HPair) : Bool := cond (Nat.ble p.key.length 64) (Nat.ble p.text.length 64) false
def headBytes (h : List HPair) : Bytes := numB h.length 1 ++ pairsB h
end N
def smallP (h : List HPair) : Bool := Nat.ble h.length LIM
def dSameP : Den := den (aCons (vSl cPair) (aOne (vSl cPair))) bNil (oV vBool) (fun a _ => smallP a.1) fun a _ => (N.samePs a.1 a.2, ())
def dLight : Den := den (aOne (vSl cPair)) bNil (oV vBool) (fun _ _ => true) fun h _ => (N.light h, ())
def dFindFn : Den := den (aCons (vAgg cPair) (aOne (vPtr 0))) (bOne rStr) (oV vBool) (fun _ _ => true) fun a key => (a.1.key == key, key)
def dIndexFn (f : FuncId) : Den := den (aCons (vSl cPair) (aOne (vFn f 0))) (bOne rStr) (oV (vInt .i64)) (fun a _ => smallP a.1) fun a key => (N.findIx key a.1 0, key)
def dFind : Den := den (aCons (vSl cPair) (aOne vStr)) bNil (oTup (aCons (vAgg cPair) (aOne vBool))) (fun a _ => smallP a.1) fun a _ => (N.find a.1 a.2, ())
def dPairE : Den := den (aCons (vAgg cPair) (aOne (vSl cPair))) bNil (oV (vInt .i64)) (fun a _ => smallP a.2) fun a _ => (N.pairE a.1 a.2, ())
def dHeadCheck : Den := den (aOne (vSl cPair)) bNil (oV (vInt .i64)) (fun _ _ => true) fun h _ => (N.headCheck h, ())
def dHeadBytes : Den := den (aOne (vSl cPair)) bNil (oTup (aCons vStr (aOne (vInt .i64)))) (fun _ _ => true) fun h _ => (cond (N.headCheck h != 0) ([], N.headCheck h) (N.headBytes h, 0), ())
theorem findIx_lt (key : Bytes) : ∀ (h : List HPair) (i : Int), 0 ≤ i → N.findIx key h i = -1 ∨ (i ≤ N.findIx key h i ∧ N.findIx key h i < i + h.length)
  | [], i, _ => .inl rfl
  | p :: r, i, h0 => by
    unfold N.findIx
    cases p.key == key with
    | true => exact .inr ⟨Int.le_refl _, by simp only [List.length_cons, cond_true]; omega⟩
    | false =>
      rcases findIx_lt key r (i + 1) (by omega) with h | ⟨h1, h2⟩
      · exact .inl h
      · exact .inr ⟨by simp only [cond_false]; omega, by simp only [List.length_cons, cond_false]; omega⟩
end Go.Ev
