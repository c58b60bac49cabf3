/- make and append: lemmas,no condition. -/
import Derived.Test.YtojpdhfnmodinaaGreatDoorGa
import Derived.Lib.AppendZeros
import Derived.OrdersHeld
import Derived.LoopN
import Derived.Scope
namespace Go.Ev
open Go Go.RowKit
section
variable {P:Program} {m:Nat} {S:St} {dst:Option Tmp} {ty:TypeId} {pos:String} {after:Array Edge} {guard:Option (Nat × Bool)}
theorem putBox_spec {id:Nat} {b:Box} {K:St→Option R} {q:R} (h:putBox S id b K=some q):lk? S.tab id=none∧K { S with tab:=S.tab++[(id,b)] }=some q:=by
 unfold putBox at h
 split at h
 ·rename_i hn; exact ⟨hn,h⟩
 ·cases h
theorem upd_get {ρ:Nat→Option Real} {id:Nat} {br:Real}:upd ρ id br id=some br:=by simp [upd]
theorem replicate_row (n:Nat) (r:List V) (i j:Nat) (hi:i<n):rowAt (List.replicate n r) i j=r.getD j .undef:=by
 simp [rowAt,List.getD_eq_getElem?_getD,hi]
theorem ok_make {E:Env} {t e:TypeId} {d:Tmp} {i:Nat} {lo co:Operand} {k k' : IntKind} {l c:Int} {K:V→St→Option R} {q:R} (hu:E.P.underlying t=some (.slice e)) (hl:S.eval E.P ty lo = .int k l) (hc:S.eval E.P ty co = .int k' c)
  (h1:cond (zeroOk E.P e) (cond (Nat.blt 0 (shOf E.P FUEL e).length) (cond (Nat.beq (shOf E.P FUEL e).length (E.P.cellsOf e)) (rowZero (shOf E.P FUEL e) (zeroOf E.P FUEL e)) false) false) false=true)
  (h2:0≤l∧l=c∧c*E.P.bytesOf e≤140737488355328∧c≤140737488355328)
  (h:putBox S i (.sl (shOf E.P FUEL e) (List.replicate l.toNat ((shOf E.P FUEL e).map zero1)) 0) (fun S=>K (.own i 0) S)=some q) :
  ∃ v S',K v S' = some q∧OpOk E.P m S ⟨some d,.makeSlice t lo co,ty,pos,after,guard⟩ v S':=by
 obtain ⟨hn,h⟩:=putBox_spec h
 refine ⟨_,_,h,rfl,fun w₀ I₀ O₀ ρ I a w hr hgd next Q hnx=>?_⟩
 cases hz:zeroOk E.P e with
 | false=>rw [hz] at h1; cases h1
 | true =>
 cases hb1:Nat.blt 0 (shOf E.P FUEL e).length with
 | false=>rw [hz,hb1] at h1; cases h1
 | true =>
 cases hb2:Nat.beq (shOf E.P FUEL e).length (E.P.cellsOf e) with
 | false=>rw [hz,hb1,hb2] at h1; cases h1
 | true =>
 rw [hz,hb1,hb2] at h1
 have h1:rowZero (shOf E.P FUEL e) (zeroOf E.P FUEL e)=true:=h1
 have hb1:=blt_spec hb1
 have hb2:=Nat.eq_of_beq_eq_true hb2
 obtain ⟨i,z,hi,hzv,hzs,hzr⟩:=zeroOk_spec' hz
 have hsz:E.P.cellsOf e=i.size:=by simp [Program.cellsOf,hi]
 have hby:E.P.bytesOf e=i.bytes:=by simp [Program.bytesOf,hi]
 obtain ⟨r1,r2,r3⟩:=rowZero_ok _ _ h1
 generalize shOf E.P FUEL e=sh at *
 obtain ⟨g0,rfl,g2,g3⟩:=h2
 have e1:=eval_ok hr E.P ty lo
 have e2:=eval_ok hr E.P ty co
 rw [hl] at e1; rw [hc] at e2
 have hrun:=run_make (P:=E.P) w t e i z hu hi hzv k k' l l g0 (Int.le_refl _) (by rw [Int.mul_comm]; rw [hby] at g2; omega) (by omega)
 obtain ⟨n,rfl⟩:=Int.eq_ofNat_of_zero_le g0
 simp only [Int.toNat_natCast] at *
 have hms:(madeCells z.cells (n*i.size)).size=n*sh.length:=by rw [size_madeCells,hb2,hsz]
 have hcell:∀ r j,r<n→j<sh.length→(madeCells z.cells (n*i.size))[r*sh.length+j]? = some (z.cells.toList.getD j Go.undef):=fun r j hr' hj=>by
  have hlt:r*sh.length+j<n*sh.length:=by
   have:(r+1)*sh.length≤n*sh.length:=Nat.mul_le_mul_right _ hr'
   rw [Nat.add_mul] at this; omega
  have hzsz:z.cells.size=sh.length:=by omega
  unfold madeCells
  rw [Array.getElem?_map,Array.getElem?_range,if_pos (by rw [← hsz,← hb2]; exact hlt),Option.map_some]
  congr 1
  show z.cells[(r*sh.length+j) % z.cells.size]! = _
  rw [hzsz,Nat.mul_comm,Nat.mul_add_mod,Nat.mod_eq_of_lt hj]
  rw [getElem!_pos z.cells j (by omega)]
  simp [List.getD_eq_getElem?_getD,show j<z.cells.size by omega]
 let br:Real:={ base:=some (w.heap.size,0),sz:=sh.length,n:=n,cap:=n,gen:=0 }
 have hfin:=hr.newBox hn (Keeps.alloc _ w (.cells (madeCells z.cells (n*i.size)) e)) (box:=.sl sh (List.replicate n (sh.map zero1)) 0) (br:=br) ?_ ?_
 ·refine wp_value ?_ (hnx (.slice (some ⟨w.heap.size,0,none⟩) n n) _ _ _ hfin.1 (.own _ 0 br _ upd_get (Nat.le_refl _) (fun _=>by simp [Real.slice,br]) ⟨_,_,_,rfl⟩))
  simp only [execOp,Sem.run_bind,e1.int_inv,e2.int_inv,hrun]; rfl
 ·refine ⟨rfl,by simp [br],rfl,by simp [br],fitsRows_of _ _ fun r hr'=>?_,(fun hh=>by cases hh),fun b o hb r j hr' hj=>?_,fun b o hb=>?_⟩
  ·rw [List.length_replicate] at hr'
   simpa [List.getD_eq_getElem?_getD,hr'] using r2
  ·cases hb
   rw [List.length_replicate] at hr'
   refine ⟨_,by rw [Nat.zero_add,World.cell?_alloc_new,hcell r j hr' hj],?_⟩
   rw [replicate_row n _ r j hr']
   have hj' : j<(zeroOf E.P FUEL e).length:=by omega
   exact (r3 j hj w I ρ _ ((hzr w I ρ).2 j hj')).keep (fun b o hi=>World.cell?_alloc_lt _ _ _ (hr.ilt b o hi)) (fun _ _ h=>h)
  ·cases hb
   exact ⟨rfl,by simp only [br,maxLen]; omega,_,e,heap_alloc_new w _,by rw [hms]⟩
 ·rintro b o ⟨o₀,hb,g4,g5⟩
  cases hb
  simp only [br,Nat.zero_add] at g5
  exact ⟨Nat.le_refl _,⟨_,alloc_cell _ _ _ o (by rw [hms]; exact g5)⟩,alloc_frozen _ _ _ _⟩
structure Elems (w:World) (I:Nat→Nat→Prop) (sh:List Sh) (rows:List (List V)) (x:Value) (al:Option Addr) (cap:Nat) (val:Nat→Nat→Value):Prop where
 eq:x = .slice al rows.length cap
 le:rows.length≤cap
 fit:fitsRows sh rows=true
 cell:∀ i j,i<rows.length→j<sh.length→∃ b o,al=some ⟨b,o,none⟩∧w.cell? ⟨b,o+(i*sh.length+j),none⟩=some (val i j)
 dat:∀ i j,i<rows.length→j<sh.length→Dat w I (rowAt rows i j) (val i j)
theorem own_elems {d g:Nat} {sh:List Sh} {rows:List (List V)} (ht:lk? S.tab d=some (.sl sh rows g)) {w₀:Base} {I₀ O₀:Nat→Nat→Prop} {ρ:Nat→Option Real} {I:Nat→Nat→Prop} {a:Act} {w:World}
  (hr:Rel m w₀ I₀ O₀ ρ I S a w) {x:Value} (hx:Rv w I ρ (.own d g) x):∃ br val,ρ d=some br∧BoxR w I ρ (.sl sh rows g) br∧Elems w I sh rows x (br.base.map fun p=>⟨p.1,p.2,none⟩) br.cap val:=by
 obtain ⟨br,hd,hb,he⟩:=own_real ht hr hx
 have he' : x = .slice (br.base.map fun p=>⟨p.1,p.2,none⟩) rows.length br.cap:=by rw [he]; simp [Real.slice,hb.2.1]
 have hb':=hb
 obtain ⟨e1,e2,e3,e4,e5,e6,e7,e8⟩:=hb
 have hget:∀ i j,∃ y,i<rows.length→j<sh.length→(∃ b o,(br.base.map fun p=>(⟨p.1,p.2,none⟩:Addr))=some ⟨b,o,none⟩∧w.cell? ⟨b,o+(i*sh.length+j),none⟩=some y)∧Dat w I (rowAt rows i j) y:=by
  intro i j
  by_cases hi:i<rows.length∧j<sh.length
  ·obtain hbs | ⟨p,hbs⟩:br.base=none∨∃ p,br.base=some p:=by cases br.base<;>simp
   ·have:=e6 hbs; omega
   ·obtain ⟨y,hy1,hy2⟩:=e7 p.1 p.2 hbs i j hi.1 hi.2
    exact ⟨y,fun _ _=>⟨⟨p.1,p.2,by rw [hbs]; rfl,hy1⟩,hy2⟩⟩
  ·exact ⟨Go.undef,fun h3 h4=>absurd ⟨h3,h4⟩ hi⟩
 have hval:=fun i j=>Classical.choose_spec (hget i j)
 exact ⟨br,fun i j=>Classical.choose (hget i j),hd,hb',he',e4,e5,fun i j hi hj=>(hval i j hi hj).1,fun i j hi hj=>(hval i j hi hj).2⟩
theorem rowsOf_elems {x:V} {K:List Sh→List (List V)→Option R} {q:R} (h:rowsOf S x K=some q) :
  ∃ sh rows,K sh rows=some q∧∀ w₀ I₀ O₀ ρ I a w,Rel m w₀ I₀ O₀ ρ I S a w→∀ x',Rv w I ρ x x'→∃ al cap val,Elems w I sh rows x' al cap val:=by
 cases x with
 | slc sh rows =>
  refine ⟨sh,rows,h,fun w₀ I₀ O₀ ρ I a w hr x' hx=>?_⟩
  have:=datV_ok hx rfl
  cases this with
  | slc _ _ al cap val hcap _ hfit ha hd =>
   refine ⟨al,cap,val,rfl,hcap,hfit,fun i j hi hj=>?_,hd⟩
   obtain ⟨b,o,h1,h2⟩:=ha (fun e=>by subst e; cases hi)
   exact ⟨b,o,h1,(h2 i j hi hj).1⟩
 | nils sh =>
  refine ⟨sh,[],h,fun w₀ I₀ O₀ ρ I a w hr x' hx=>?_⟩
  have:=datV_ok hx rfl
  cases this
  exact ⟨_,0,fun _ _=>Go.undef,rfl,Nat.le_refl _,rfl,(fun i j hi=>by cases hi),(fun i j hi=>by cases hi)⟩
 | emp sh =>
  refine ⟨sh,[],h,fun w₀ I₀ O₀ ρ I a w hr x' hx=>?_⟩
  cases hx.emp_dat with
  | slc _ _ al cap val hcap _ hfit ha hd=>exact ⟨al,cap,fun _ _=>Go.undef,rfl,hcap,rfl,(fun i j hi=>by cases hi),(fun i j hi=>by cases hi)⟩
 | nn sh =>
  refine ⟨sh,[],h,fun w₀ I₀ O₀ ρ I a w hr x' hx=>?_⟩
  cases hx.nn_dat with
  | slc _ _ al cap val hcap _ hfit ha hd=>exact ⟨al,cap,fun _ _=>Go.undef,rfl,hcap,rfl,(fun i j hi=>by cases hi),(fun i j hi=>by cases hi)⟩
 | own d g =>
  obtain ⟨sh,rows,ht,h⟩:=withOwn_spec h
  refine ⟨sh,rows,h,fun w₀ I₀ O₀ ρ I a w hr x' hx=>?_⟩
  obtain ⟨br,val,_,_,he⟩:=own_elems ht hr hx
  exact ⟨_,_,val,he⟩
 | _=>cases h
def flatVals (n sz:Nat) (val:Nat→Nat→Value):List Value:=(List.range (n*sz)).map fun k=>val (k / sz) (k % sz)
theorem flatVals_length (n sz:Nat) (val:Nat→Nat→Value):(flatVals n sz val).length=n*sz:=by simp [flatVals]
theorem flatVals_get (n sz:Nat) (val:Nat→Nat→Value) (i j:Nat) (hi:i<n) (hj:j<sz):(flatVals n sz val)[i*sz+j]? = some (val i j):=by
 have hlt:i*sz+j<n*sz:=by
  have:(i+1)*sz≤n*sz:=Nat.mul_le_mul_right _ hi
  rw [Nat.add_mul] at this; omega
 have hd:(i*sz+j) / sz=i:=by rw [Nat.mul_comm,Nat.mul_add_div (by omega),Nat.div_eq_of_lt hj]; omega
 have hm:(i*sz+j) % sz=j:=by rw [Nat.mul_comm,Nat.mul_add_mod,Nat.mod_eq_of_lt hj]
 simp only [flatVals,List.getElem?_map,List.getElem?_range hlt,Option.map_some,hd,hm]
theorem div_mod_lt {k n sz:Nat} (h:k<n*sz):k / sz<n∧k % sz<sz∧k / sz*sz+k % sz=k:=by
 have hsz:0<sz:=by
  rcases Nat.eq_zero_or_pos sz with h0 | h0
  ·subst h0; simp at h
  ·exact h0
 exact ⟨Nat.div_lt_of_lt_mul (by rwa [Nat.mul_comm] at h),Nat.mod_lt _ hsz,by rw [Nat.mul_comm]; exact Nat.div_add_mod k sz⟩
theorem firstCells_of {w:World} {len sz:Nat} {al:Option Addr} {val:Nat→Nat→Value}
  (h:∀ i j,i<len→j<sz→∃ b o,al=some ⟨b,o,none⟩∧w.cell? ⟨b,o+(i*sz+j),none⟩=some (val i j)) (n:Nat) :
  (Builtin.firstCells sz len (.slice al len n)).run P w = .ok (flatVals len sz val).toArray w:=by
 cases al with
 | none =>
  have:len*sz=0:=by
   rcases Nat.eq_zero_or_pos (len*sz) with h0 | h0
   ·exact h0
   ·have ⟨h1,h2,_⟩:=div_mod_lt h0
    obtain ⟨b,o,h3,_⟩:=h _ _ h1 h2
    cases h3
  simp [Builtin.firstCells,flatVals,this]
 | some q =>
  simp only [Builtin.firstCells]
  have:=run_loadCells_list (P:=P) w q (flatVals len sz val) (fun j v hv=>by
   have hj:j<len*sz:=by
    have:=(List.getElem?_eq_some_iff.1 hv).1; rwa [flatVals_length] at this
   have ⟨h1,h2,h3⟩:=div_mod_lt hj
   obtain ⟨b,o,h4,h5⟩:=h _ _ h1 h2
   cases h4
   rw [add_off]
   have h6:=flatVals_get len sz val _ _ h1 h2
   rw [h3] at h5 h6
   rw [h6] at hv; cases hv
   exact h5)
  rwa [flatVals_length] at this
theorem fits_flat {sh:List Sh} {rows:List (List V)} (hf:fitsRows sh rows=true) {i j:Nat} (hi:i<rows.length) (hj:j<sh.length) {w:World} {I:Nat→Nat→Prop} {x:Value} (h:Dat w I (rowAt rows i j) x):Flat1 x:=by
 have hs:=(fitsL_spec _ _ (fitsRows_spec sh rows hf i hi)).2 j hj
 unfold rowAt at h
 generalize (rows.getD i []).getD j V.undef=v at hs h
 cases h<;>exact ⟨by simp,by simp⟩
theorem append_room {t u e:TypeId} {i:TypeInfo} (ht:P.underlying t=some (.slice e)) {e' : TypeId} (hu:P.underlying u=some (.slice e')) (hi:P.info? e=some i)
  {w:World} {b q:Option Addr} {sLen sCap n c:Nat} {news:List Value} (hnews:(Builtin.firstCells i.size n (.slice q n c)).run P w = .ok news.toArray w)
  (h:sLen+n≤sCap) (ty:TypeId):(Builtin.append_ #[t,u] ty #[.slice b sLen sCap,.slice q n c]).run P w =
  match b with | none=>.ok (.slice none (sLen+n) sCap) w | some a=>((storeCells (a.add (sLen*i.size)) news).run P w).andThen fun _ w'=>.ok (.slice (some a) (sLen+n) sCap) w':=by
 cases b<;>simp [Builtin.append_,run_underlying' ht,run_underlying' hu,sizeOf,typeInfo,hi,Builtin.lenOf,h,hnews]
theorem append_grow {t u e:TypeId} {i:TypeInfo} {z:Value} (ht:P.underlying t=some (.slice e)) {e' : TypeId} (hu:P.underlying u=some (.slice e')) (hi:P.info? e=some i) (hz:i.zero=some z)
 {w:World} {b q:Option Addr} {sLen sCap n c:Nat} {olds news:List Value}
 (hold:∀ w',(∀ a,w'.cell? a=w.cell? a)→(Builtin.firstCells i.size sLen (.slice b sLen sCap)).run P w' = .ok olds.toArray w')
 (hnews:∀ w',(∀ a,w'.cell? a=w.cell? a)→(Builtin.firstCells i.size n (.slice q n c)).run P w' = .ok news.toArray w')
  (h:sCap<sLen+n) (h63:sLen+n≤9223372036854775807) (hfit:Builtin.nextslicecap (sLen+n) sCap*i.bytes≤281474976710656) (ty:TypeId) :
  (Builtin.append_ #[t,u] ty #[.slice b sLen sCap,.slice q n c]).run P w =
   .ok (.slice (some ⟨w.heap.size,0,none⟩) (sLen+n) (grownCap w (sLen+n) sCap e))
    (w.drew.alloc (.cells (olds.toArray++news.toArray++Builtin.zeroCells z.cells (grownCap w (sLen+n) sCap e-(sLen+n))) e)):=by
 have hn:¬ (sLen+n≤sCap):=by omega
 have h63' : ¬ (9223372036854775807<((sLen:Int)+(n:Int))):=by omega
 have h48' : ¬ (281474976710656<Builtin.nextslicecap (sLen+n) sCap*i.bytes):=by omega
 have h1:=hnews w.drew (fun _=>rfl)
 have h2:=hold w.drew (fun _=>rfl)
 simp [Builtin.append_,run_underlying' ht,run_underlying' hu,sizeOf,typeInfo,zeroValue,hi,hz,Builtin.lenOf,hn,h63',h48',Question.forced,h1,h2,newRow,grownCap]
 congr 2
 apply Array.ext'
 simp
theorem run_call2 {b:Builtin} {c:Call} {x y:Operand} {t u:TypeId} (hc:c.callee = .builtin b) (ha:c.args.toList=[x,y]) (hty:c.argTypes.toList=[t,u]) (a:Act) (w:World) :
  (execOp a.eval ⟨dst,.call c,ty,pos,after,guard⟩).run P w=(builtin b #[t,u] ty (c.args.map fun | .const _=>true | _=>false) #[a.eval x,a.eval y]).run P w:=by
 rw [run_builtin2 hc ha]
 have:c.argTypes = #[t,u]:=by apply Array.ext'; simpa using hty
 first | (rw [this]; done) | (rw [this]; rfl)
theorem rowAt_append (a b:List (List V)) (i j:Nat):rowAt (a++b) i j=if i<a.length then rowAt a i j else rowAt b (i-a.length) j:=by
 unfold rowAt
 simp only [List.getD_eq_getElem?_getD,List.getElem?_append]
 split<;>rfl
theorem fitsRows_append {sh:List Sh} {a b:List (List V)} (h1:fitsRows sh a=true) (h2:fitsRows sh b=true):fitsRows sh (a++b)=true :=
 fitsRows_of _ _ fun i hi=>by
  simp only [List.getD_eq_getElem?_getD,List.getElem?_append]
  split
  ·rename_i h
   have:=fitsRows_spec sh a h1 i h
   rwa [List.getD_eq_getElem?_getD] at this
  ·rename_i h
   have:=fitsRows_spec sh b h2 (i-a.length) (by simp at hi; omega)
   rwa [List.getD_eq_getElem?_getD] at this
theorem grown_cell {w:World} {I:Nat→Nat→Prop} {sh:List Sh} {rows new:List (List V)} {x y:Value} {al ql:Option Addr} {cap c:Nat} {val vaq:Nat→Nat→Value}
  (hx:Elems w I sh rows x al cap val) (hy:Elems w I sh new y ql c vaq) (rest:Array Value) {i j:Nat} (hi:i<rows.length+new.length) (hj:j<sh.length) :
  ∃ v,((flatVals rows.length sh.length val).toArray++(flatVals new.length sh.length vaq).toArray++rest)[i*sh.length+j]? = some v∧Dat w I (rowAt (rows++new) i j) v:=by
 have hlt:i*sh.length+j<(rows.length+new.length)*sh.length:=by
  have:(i+1)*sh.length≤(rows.length+new.length)*sh.length:=Nat.mul_le_mul_right _ hi
  rw [Nat.add_mul] at this; omega
 rw [Nat.add_mul] at hlt
 rw [rowAt_append,Array.getElem?_append_left (by simp [flatVals_length]; omega)]
 by_cases h:i<rows.length
 ·have h2:i*sh.length+j<rows.length*sh.length:=by
   have:(i+1)*sh.length≤rows.length*sh.length:=Nat.mul_le_mul_right _ h
   rw [Nat.add_mul] at this; omega
  rw [if_pos h,Array.getElem?_append_left (by simp [flatVals_length]; omega)]
  exact ⟨val i j,by simpa using flatVals_get _ _ val i j h hj,hx.dat i j h hj⟩
 ·have h2:rows.length*sh.length≤i*sh.length:=Nat.mul_le_mul_right _ (by omega)
  rw [if_neg h,Array.getElem?_append_right (by simp [flatVals_length]; omega)]
  refine ⟨vaq (i-rows.length) j,?_,hy.dat _ j (by omega) hj⟩
  have:=flatVals_get new.length sh.length vaq (i-rows.length) j (by omega) hj
  simp only [List.size_toArray,flatVals_length,List.getElem?_toArray]
  rw [show i*sh.length+j-rows.length*sh.length=(i-rows.length)*sh.length+j by rw [Nat.sub_mul]; omega]
  exact this
theorem ok_append {E:Env} {c:Call} {x y:Operand} {t u:TypeId} (hc:c.callee = .builtin .append) (ha:c.args.toList=[x,y]) (hty:c.argTypes.toList=[t,u]) {K:V→St→Option R} {q:R}
  (h₀:appendOp E dst t u (S.eval E.P t x) (S.eval E.P u y) S K=some q):∃ v S',K v S' = some q∧OpOk E.P m S ⟨dst,.call c,ty,pos,after,guard⟩ v S':=by
 unfold appendOp at h₀
 split at h₀
 ·rename_i e e' d hu hu'
  obtain ⟨hz,h₁⟩:=cond_none h₀
  obtain ⟨sh',new,h₂,hel⟩:=rowsOf_elems (m:=m) h₁
  obtain ⟨hsh',h₃⟩:=cond_none h₂
  obtain ⟨hl1',h₄⟩:=cond_none h₃
  clear h₀ h₁ h₂ h₃
  have hsh:=Sh.beqL_eq _ _ hsh'
  subst hsh
  have hl1:=Nat.le_of_ble_eq_true hl1'
  have hz' : zeroOk E.P e=true∧0<E.P.bytesOf e∧(shOf E.P FUEL e).length=E.P.cellsOf e:=by
   cases h1:zeroOk E.P e with
   | false=>rw [h1] at hz; cases hz
   | true =>
    cases h2:Nat.blt 0 (E.P.bytesOf e) with
    | false=>rw [h1,h2] at hz; cases hz
    | true=>rw [h1,h2] at hz; exact ⟨rfl,blt_spec h2,(blt_beq hz).2⟩
  clear hz hsh' hl1'
  obtain ⟨z1,z2,z3⟩:=hz'
  obtain ⟨i,z,hi,hzv,hzs,_⟩:=zeroOk_spec' z1
  have hsz:E.P.cellsOf e=i.size:=by simp [Program.cellsOf,hi]
  have hby:E.P.bytesOf e=i.bytes:=by simp [Program.bytesOf,hi]
  generalize shOf E.P FUEL e=sh at *
  have hshs:sh.length=i.size:=by omega
  rw [hby] at z2 h₄
  -- the new array
  have grow:∀ {I:Nat→Nat→Prop} {w:World} {a:Act} {rows:List (List V)} {al ql:Option Addr} {cap cq:Nat} {val vaq:Nat→Nat→Value},
    Elems w I sh rows (a.eval x) al cap val→Elems w I sh new (a.eval y) ql cq vaq→(rows.length+new.length)*i.bytes≤140737488355328→cap<rows.length+new.length →
    ∃ (C:Array Value) (cap' : Nat),(execOp a.eval ⟨some d,.call c,ty,pos,after,guard⟩).run E.P w = .ok (.value (.slice (some ⟨w.heap.size,0,none⟩) (rows.length+new.length) cap')) (w.drew.alloc (.cells C e)) ∧
     rows.length+new.length≤cap'∧cap'≤maxLen∧C.size=cap' * sh.length ∧
     ∀ r j,r<rows.length+new.length→j<sh.length→∃ v,C[r*sh.length+j]? = some v∧Dat w I (rowAt (rows++new) r j) v:=by
   intro I w a rows al ql cap cq val vaq hx hy hb hcap
   have hlen:rows.length+new.length≤140737488355328:=by
    have:(rows.length+new.length)*1≤(rows.length+new.length)*i.bytes:=Nat.mul_le_mul_left _ z2
    omega
   have key:∀ {I₁:Nat→Nat→Prop} {rr:List (List V)} {xx:Value} {aa:Option Addr} {cc:Nat} {vv:Nat→Nat→Value} (n:Nat),Elems w I₁ sh rr xx aa cc vv→∀ w',(∀ a,w'.cell? a=w.cell? a) →
     (Builtin.firstCells i.size rr.length (.slice aa rr.length n)).run E.P w' = .ok (flatVals rr.length sh.length vv).toArray w':=fun n he w' hw'=>by
    rw [← hshs]
    exact firstCells_of (fun i j hi hj=>by
     obtain ⟨b,o,h1,h2⟩:=he.cell i j hi hj
     exact ⟨b,o,h1,(hw' _).trans h2⟩) n
   have hrun:=append_grow (P:=E.P) hu hu' hi hzv (b:=al) (q:=ql) (sLen:=rows.length) (sCap:=cap) (n:=new.length) (c:=cq) (olds:=flatVals rows.length sh.length val) (news:=flatVals new.length sh.length vaq)
    (key cap hx) (key cq hy) hcap (by omega) (growslice_fits hcap hb) ty
   refine ⟨(flatVals rows.length sh.length val).toArray++(flatVals new.length sh.length vaq).toArray++Builtin.zeroCells z.cells (grownCap w (rows.length+new.length) cap e-(rows.length+new.length)),grownCap w (rows.length+new.length) cap e,?_,grownCap_ge w _ _ _,grownCap_le_maxLen w _ _ _ (by simp only [maxLen]; omega),?_,fun r j hr hj=>grown_cell hx hy _ hr hj⟩
   ·rw [run_call2 hc ha hty,hx.eq,hy.eq]
    simp only [builtin,Sem.run_bind,hrun]; rfl
   ·have:=grownCap_ge w (rows.length+new.length) cap e
    simp only [Array.size_append,List.size_toArray,flatVals_length,size_zeroCells,hzs,hshs,← Nat.add_mul]
    congr 1; omega
  have newBr:∀ {m:Nat} {w₀:Base} {I₀ O₀:Nat→Nat→Prop} {ρ:Nat→Option Real} {I:Nat→Nat→Prop} {S:St} {a:Act} {w:World},Rel m w₀ I₀ O₀ ρ I S a w→∀ (rows:List (List V)) (C:Array Value) (cap' g:Nat) (ρ' : Nat→Option Real),
    fitsRows sh rows=true→rows.length≤cap'→cap'≤maxLen→C.size=cap' * sh.length→(∀ r j,r<rows.length→j<sh.length→∃ v,C[r*sh.length+j]? = some v∧Dat w I (rowAt rows r j) v) →
    BoxR (w.drew.alloc (.cells C e)) I ρ' (.sl sh rows g) { base:=some (w.heap.size,0),sz:=sh.length,n:=rows.length,cap:=cap',gen:=g } ∧
    ∀ b o,Real.has { base:=some (w.heap.size,0),sz:=sh.length,n:=rows.length,cap:=cap',gen:=g } b o→w.heap.size≤b∧(∃ x,(w.drew.alloc (.cells C e)).cell? ⟨b,o,none⟩=some x)∧(w.drew.alloc (.cells C e)).frozen? ⟨b,o,none⟩=false:=by
   intro m w₀ I₀ O₀ ρ I S a w hr rows C cap' g ρ' hf h1 h2 h3 h4
   refine ⟨⟨rfl,rfl,rfl,h1,hf,(fun hh=>by cases hh),fun b o hb r j hr' hj=>?_,fun b o hb=>?_⟩,?_⟩
   ·cases hb
    obtain ⟨v,hv1,hv2⟩:=h4 r j hr' hj
    refine ⟨v,?_,hv2.keep (fun b o hi=>(World.cell?_alloc_lt w.drew _ _ (hr.ilt b o hi)).trans (World.cell?_drew _ _)) (fun _ _ h=>h)⟩
    rw [Nat.zero_add]
    exact (World.cell?_alloc_new w.drew C e _).trans hv1
   ·cases hb
    exact ⟨rfl,h2,C,e,heap_alloc_new w.drew _,h3⟩
   ·rintro b o ⟨o₀,hb,g4,g5⟩
    cases hb
    simp only [Nat.zero_add] at g5
    exact ⟨Nat.le_refl _,⟨_,alloc_cell w.drew _ _ o (by rw [h3]; exact g5)⟩,alloc_frozen w.drew _ _ _⟩
  have hkd:∀ (w:World) (C:Array Value),Keeps (fun _ _=>False) w (w.drew.alloc (.cells C e)):=fun w C=>(Keeps.drawn _ w _).trans' (Keeps.alloc _ w.drew _)
  split at h₄
  · -- nil
   rename_i sh₂ hx
   obtain ⟨hs2,h₅⟩:=cond_none h₄
   obtain ⟨hb,h₆⟩:=cond_none h₅
   obtain ⟨hn,h₇⟩:=putBox_spec h₆
   have hb:new.length*i.bytes≤140737488355328:=by simpa using hb
   refine ⟨_,_,h₇,rfl,fun w₀ I₀ O₀ ρ I a w hr hgd next Q hnx=>?_⟩
   have h1:=eval_ok hr E.P t x
   rw [hx] at h1
   obtain ⟨ql,cq,vaq,hy⟩:=hel w₀ I₀ O₀ ρ I a w hr _ (eval_ok hr E.P u y)
   have hal:a.eval x = .slice none 0 0:=by
    generalize a.eval x=xv at h1
    cases datV_ok h1 rfl; rfl
   have hex:Elems w I sh [] (a.eval x) none 0 (fun _ _=>Go.undef):=⟨hal,Nat.le_refl _,rfl,(fun i j hi=>by cases hi),(fun i j hi=>by cases hi)⟩
   by_cases hm:new=[]
   ·subst hm
    let br:Real:={ base:=none,sz:=sh.length,n:=0,cap:=0,gen:=0 }
    have hfin:=hr.newBox hn (Keeps.refl _ w) (box:=.sl sh [] 0) (br:=br) ⟨rfl,rfl,rfl,Nat.le_refl _,rfl,fun _=>rfl,(fun b o hb=>by cases hb),(fun b o hb=>by cases hb)⟩ (fun b o hh=>by
     obtain ⟨_,hb,_⟩:=hh; cases hb)
    have hrun:=append_room (P:=E.P) hu hu' hi (w:=w) (b:=none) (q:=ql) (sLen:=0) (sCap:=0) (n:=0) (c:=cq) (news:=flatVals 0 sh.length vaq) (hnews:=by
     rw [← hshs]; exact firstCells_of (fun i j hi=>absurd hi (Nat.not_lt_zero i)) cq) (h:=Nat.le_refl _) (ty:=ty)
    refine wp_value (x:=.slice none 0 0) (w':=w) ?_ (hnx _ _ _ _ hfin.1 (.own _ 0 br _ upd_get (Nat.le_refl _) (fun _=>rfl) ⟨_,_,_,rfl⟩))
    rw [run_call2 hc ha hty,hal,hy.eq]
    simp only [List.length_nil]
    simp only [builtin,Sem.run_bind,hrun]; rfl
   ·have hpos:0<new.length:=List.length_pos_iff.2 hm
    obtain ⟨C,cap',g1,g2,g3,g4,g5⟩:=grow hex hy (by simpa using hb) (by simpa using hpos)
    simp only [List.nil_append,List.length_nil,Nat.zero_add] at g1 g2 g5
    have hbr:=newBr hr new C cap' 0 (upd ρ (E.bo+d) { base:=some (w.heap.size,0),sz:=sh.length,n:=new.length,cap:=cap',gen:=0 }) hy.fit g2 g3 g4 g5
    have hfin:=hr.newBox hn (hkd w C) hbr.1 hbr.2
    exact wp_value g1 (hnx _ _ _ _ hfin.1 (.own _ 0 _ _ upd_get (Nat.le_refl _) (fun _=>by simp [Real.slice]) ⟨_,_,_,rfl⟩))
  · -- empty,without room
   rename_i sh₂ hx
   obtain ⟨hs2,h₅⟩:=cond_none h₄
   have inv:∀ {ρ:Nat→Option Real} {I:Nat→Nat→Prop} {w:World} {x' : Value},Rv w I ρ (.emp sh₂) x'→∃ al,x' = .slice al 0 0:=fun h=>by
    cases h with
    | dat h=>cases h
    | emp _ q=>exact ⟨_,rfl⟩
   rcases cond_some h₅ with ⟨hm,h₆⟩ | ⟨hm,h₆⟩
   ·have hm:new=[]:=List.eq_nil_of_length_eq_zero (Nat.eq_of_beq_eq_true hm)
    subst hm
    refine ⟨_,_,h₆,.pure fun w₀ I₀ O₀ ρ I a w hr=>?_⟩
    have h1:=eval_ok hr E.P t x
    rw [hx] at h1
    obtain ⟨al,hal⟩:=inv h1
    obtain ⟨ql,cq,vaq,hy⟩:=hel w₀ I₀ O₀ ρ I a w hr _ (eval_ok hr E.P u y)
    have hrun:=append_room (P:=E.P) hu hu' hi (w:=w) (b:=al) (q:=ql) (sLen:=0) (sCap:=0) (n:=0) (c:=cq) (news:=flatVals 0 sh.length vaq) (hnews:=by
     rw [← hshs]; exact firstCells_of (fun i j hi=>absurd hi (Nat.not_lt_zero i)) cq) (h:=Nat.le_refl _) (ty:=ty)
    refine ⟨.slice al 0 0,?_,.dat (.slc sh [] al 0 (fun _ _=>Go.undef) (Nat.le_refl _) (fun _=>rfl) rfl (fun h=>absurd rfl h) (fun i j hi=>by cases hi))⟩
    have hfl:flatVals 0 sh.length vaq=[]:=by simp [flatVals]
    rw [hfl] at hrun
    rw [run_call2 hc ha hty,hal,hy.eq]
    simp only [List.length_nil]
    simp only [builtin,Sem.run_bind,hrun]
    cases al<;>rfl
   ·have hm:new ≠ []:=fun e=>by subst e; cases hm
    obtain ⟨hb,h₇⟩:=cond_none h₆
    obtain ⟨hn,h₈⟩:=putBox_spec h₇
    have hb:new.length*i.bytes≤140737488355328:=by simpa using hb
    refine ⟨_,_,h₈,rfl,fun w₀ I₀ O₀ ρ I a w hr hgd next Q hnx=>?_⟩
    have h1:=eval_ok hr E.P t x
    rw [hx] at h1
    obtain ⟨al,hal⟩:=inv h1
    obtain ⟨ql,cq,vaq,hy⟩:=hel w₀ I₀ O₀ ρ I a w hr _ (eval_ok hr E.P u y)
    have hex:Elems w I sh [] (a.eval x) al 0 (fun _ _=>Go.undef):=⟨hal,Nat.le_refl _,rfl,(fun i j hi=>by cases hi),(fun i j hi=>by cases hi)⟩
    have hpos:0<new.length:=List.length_pos_iff.2 hm
    obtain ⟨C,cap',g1,g2,g3,g4,g5⟩:=grow hex hy (by simpa using hb) (by simpa using hpos)
    simp only [List.nil_append,List.length_nil,Nat.zero_add] at g1 g2 g5
    have hbr:=newBr hr new C cap' 0 (upd ρ (E.bo+d) { base:=some (w.heap.size,0),sz:=sh.length,n:=new.length,cap:=cap',gen:=0 }) hy.fit g2 g3 g4 g5
    have hfin:=hr.newBox hn (hkd w C) hbr.1 hbr.2
    exact wp_value g1 (hnx _ _ _ _ hfin.1 (.own _ 0 _ _ upd_get (Nat.le_refl _) (fun _=>by simp [Real.slice]) ⟨_,_,_,rfl⟩))
  · -- owned
   rename_i b g hx
   obtain ⟨sh₂,rows,htb,h₅⟩:=withOwn_spec h₄
   obtain ⟨hs2,h₆⟩:=cond_none h₅
   obtain ⟨hb,h₇⟩:=cond_none h₆
   have hs2:=Sh.beqL_eq _ _ hs2
   subst hs2
   have hb:(rows.length+new.length)*i.bytes≤140737488355328:=by simpa using hb
   refine ⟨_,_,h₇,rfl,fun w₀ I₀ O₀ ρ I a w hr hgd next Q hnx=>?_⟩
   have h1:=eval_ok hr E.P t x
   rw [hx] at h1
   obtain ⟨ql,cq,vaq,hy⟩:=hel w₀ I₀ O₀ ρ I a w hr _ (eval_ok hr E.P u y)
   obtain ⟨br,val,hd,hbx,hex⟩:=own_elems htb hr h1
   by_cases hroom:rows.length+new.length≤br.cap
   ·have hnf:(Builtin.firstCells i.size new.length (.slice ql new.length cq)).run E.P w = .ok (flatVals new.length sh.length vaq).toArray w:=by
     rw [← hshs]; exact firstCells_of hy.cell cq
    have hrun:=append_room (P:=E.P) hu hu' hi (w:=w) (b:=br.base.map fun p=>⟨p.1,p.2,none⟩) (sLen:=rows.length) (sCap:=br.cap) (news:=flatVals new.length sh.length vaq) hnf hroom ty
    obtain ⟨e1,e2,e3,e4,e5,e6,e7,e8⟩:=hbx
    have hfr:=fitsRows_append hex.fit hy.fit
    let br' : Real:={ base:=br.base,sz:=sh.length,n:=(rows++new).length,cap:=br.cap,gen:=g+1 }
    have hhas:∀ b o,br'.has b o→br.has b o:=fun b o ⟨o₀,h1,h2,h3⟩=>⟨o₀,h1,h2,by rw [e1]; exact h3⟩
    obtain hbs | ⟨p,hbs⟩:br.base=none∨∃ p,br.base=some p:=by cases br.base<;>simp
    ·have hc0:=e6 hbs
     have hr0:rows=[]:=List.eq_nil_of_length_eq_zero (by omega)
     have hn0:new=[]:=List.eq_nil_of_length_eq_zero (by omega)
     subst hr0 hn0
     have hfin:=hr.setBox htb (by simp) hd (Keeps.refl (fun _ _=>False) w) (fun _ _ _ h=>h.elim) (br':=br') (box':=.sl sh ([]++[]) (g+1)) (.inr (by simp [br']; omega))
      ⟨rfl,rfl,rfl,by simp,rfl,fun _=>hc0,(fun b o hb=>by simp [br',hbs] at hb),(fun b o hb=>by simp [br',hbs] at hb)⟩ (fun b o hh=>.inl (hhas b o hh)) (by intro _ _ _ _; exact ⟨_,_,_,rfl⟩) (by intro _ e; cases e)
     refine wp_value (x:=.slice none 0 br.cap) (w':=w) ?_ (hnx _ _ _ _ hfin.1 (.own _ (g+1) br' _ upd_get (Nat.le_refl _) (fun _=>by simp [Real.slice,br',hbs]) ⟨_,_,_,rfl⟩))
     rw [run_call2 hc ha hty,hex.eq,hy.eq]
     simp only [hbs,Option.map_none,List.length_nil] at hrun
     simp only [builtin,Sem.run_bind,hbs,Option.map_none,List.length_nil,hrun]; rfl
    ·obtain ⟨blk,off⟩:=p
     obtain ⟨rfl,hcm,cur,ee,hcur,hcs⟩:=e8 blk off hbs
     have hlive:Live S b:=⟨_,htb,by simp⟩
     have hin:∀ k,k<br.cap*sh.length→br.has blk k:=fun k hk=>⟨0,hbs,Nat.zero_le _,by rw [e1]; omega⟩
     have hmul:rows.length*sh.length+new.length*sh.length≤br.cap*sh.length:=by rw [← Nat.add_mul]; exact Nat.mul_le_mul_right _ hroom
     have hnl:(flatVals new.length sh.length vaq).length=new.length*sh.length:=flatVals_length _ _ _
     obtain ⟨w',s1,s2,s3,s4⟩:=storeCells_ok (P:=E.P) blk (rows.length*sh.length) (flatVals new.length sh.length vaq) 0 w (fun j hj=>by
      rw [hnl] at hj
      exact hr.alive b br blk _ hlive hd (hin _ (by omega))) (fun v hv=>by
       obtain ⟨k,hk,rfl⟩:=List.getElem_of_mem hv
       rw [hnl] at hk
       have ⟨d1,d2,d3⟩:=div_mod_lt hk
       have hg:=flatVals_get new.length sh.length vaq _ _ d1 d2
       rw [d3,List.getElem?_eq_getElem (by rw [hnl]; exact hk)] at hg
       rw [Option.some.inj hg]
       exact fits_flat hy.fit d1 d2 (hy.dat _ _ d1 d2))
     simp only [Nat.add_zero,hnl] at s2 s4
     have inX:∀ b' o',(b' = blk∧rows.length*sh.length≤o'∧o' < rows.length*sh.length+new.length*sh.length)→br.has b' o':=by
      rintro b' o' ⟨rfl,h1,h2⟩; exact hin o' (by omega)
     have hIw:∀ b' o',I b' o'→w'.cell? ⟨b',o',none⟩=w.cell? ⟨b',o',none⟩:=fun b' o' hI=>s2.cell (fun hX=>hr.notI b br b' o' hlive hd (inX b' o' hX) hI) (hr.ilt b' o' hI)
     have hfin:=hr.setBox htb (by simp) hd s2 (fun b' o' _ hX=>inX b' o' hX) (br':=br') (box':=.sl sh (rows++new) (g+1)) (.inr (by simp [br']; omega))
      ⟨rfl,rfl,rfl,by simpa [br'] using hroom,hfr,fun hb=>by simp [br',hbs] at hb,fun b' o' hb r j hr' hj=>?_,fun b' o' hb=>?_⟩ (fun b o hh=>.inl (hhas b o hh)) (by intro _ _ _ _; exact ⟨_,_,_,rfl⟩) (by intro _ e; cases e)
     ·refine wp_value (x:=.slice (some ⟨blk,0,none⟩) (rows.length+new.length) br.cap) (w':=w') ?_ (hnx _ _ _ _ hfin.1 (.own _ (g+1) br' _ upd_get (Nat.le_refl _) (fun _=>by simp [Real.slice,br',hbs]) ⟨_,_,_,rfl⟩))
      rw [run_call2 hc ha hty,hex.eq,hy.eq]
      simp only [hbs,Option.map_some,add_off,Nat.zero_add,← hshs,s1,Result.andThen_ok] at hrun
      simp only [builtin,Sem.run_bind,hbs,Option.map_some,hrun]; rfl
     ·simp only [br',hbs] at hb; cases hb
      simp only [List.length_append] at hr'
      rw [Nat.zero_add,rowAt_append]
      by_cases hlt:r<rows.length
      ·rw [if_pos hlt]
       obtain ⟨y₁,hy1,hy2⟩:=e7 blk 0 hbs r j hlt hj
       rw [Nat.zero_add] at hy1
       have:(r+1)*sh.length≤rows.length*sh.length:=Nat.mul_le_mul_right _ hlt
       rw [Nat.add_mul] at this
       exact ⟨y₁,(s2.cell (by rintro ⟨_,h1,_⟩; omega) (lt_of_cell hy1)).trans hy1,hy2.keep hIw (fun _ _ h=>h)⟩
      ·rw [if_neg hlt]
       have hk:(r-rows.length)*sh.length+j<new.length*sh.length:=by
        have:(r-rows.length+1)*sh.length≤new.length*sh.length:=Nat.mul_le_mul_right _ (by omega)
        rw [Nat.add_mul] at this; omega
       have h5:=s4 _ hk
       have hg:=flatVals_get new.length sh.length vaq (r-rows.length) j (by omega) hj
       have hle:rows.length*sh.length≤r*sh.length:=Nat.mul_le_mul_right _ (by omega)
       rw [List.getD_eq_getElem?_getD,hg,Option.getD_some,show rows.length*sh.length+((r-rows.length)*sh.length+j)=r*sh.length+j by rw [Nat.sub_mul]; omega] at h5
       exact ⟨_,h5,(hy.dat _ j (by omega) hj).keep hIw (fun _ _ h=>h)⟩
     ·simp only [br',hbs] at hb; cases hb
      obtain ⟨cur',c5,c6⟩:=s2.shape _ _ _ _ hcur
      exact ⟨rfl,hcm,cur',ee,c5,by rw [c6,hcs,e1]⟩
   ·obtain ⟨C,cap',g1,g2,g3,g4,g5⟩:=grow hex hy hb (by omega)
    have hfr:=fitsRows_append hex.fit hy.fit
    have hbr:=newBr hr (rows++new) C cap' (g+1) (upd ρ b { base:=some (w.heap.size,0),sz:=sh.length,n:=(rows++new).length,cap:=cap',gen:=g+1 }) hfr (by simpa using g2) g3 g4 (by simpa using g5)
    have hfin:=hr.setBox htb (by simp) hd (hkd w C) (fun _ _ _ h=>h.elim) (.inr (by have:=hbx.2.2.1; simp; omega)) hbr.1 (fun b o hh=>.inr (hbr.2 b o hh)) (by intro _ _ _ _; exact ⟨_,_,_,rfl⟩) (by intro _ e; cases e)
    exact wp_value g1 (hnx _ _ _ _ hfin.1 (.own _ (g+1) _ _ upd_get (Nat.le_refl _) (fun _=>by simp [Real.slice]) ⟨_,_,_,rfl⟩))
  ·cases h₄
 · -- zeros behind nil
  rename_i e k₁ d hu hu'
  split at h₀
  ·rename_i sh k₂ n hx hy
   obtain ⟨hz,h₁⟩:=cond_none h₀
   obtain ⟨hs,h₂⟩:=cond_none h₁
   obtain ⟨hb,h₃⟩:=cond_none h₂
   obtain ⟨hn,h₄⟩:=putBox_spec h₃
   clear h₀ h₁ h₂ h₃
   have hb:0≤n∧n*E.P.bytesOf e≤140737488355328∧n≤140737488355328:=by simpa using hb
   have hz' : zeroOk E.P e=true∧0<E.P.bytesOf e∧0<(shOf E.P FUEL e).length∧(shOf E.P FUEL e).length=E.P.cellsOf e∧rowZero (shOf E.P FUEL e) (zeroOf E.P FUEL e)=true:=by
    cases h1:zeroOk E.P e with
    | false=>rw [h1] at hz; cases hz
    | true =>
     cases h2:Nat.blt 0 (E.P.bytesOf e) with
     | false=>rw [h1,h2] at hz; cases hz
     | true =>
      cases h3:cond (Nat.blt 0 (shOf E.P FUEL e).length) (Nat.beq (shOf E.P FUEL e).length (E.P.cellsOf e)) false with
      | false=>rw [h1,h2,h3] at hz; cases hz
      | true=>rw [h1,h2,h3] at hz; exact ⟨rfl,blt_spec h2,(blt_beq h3).1,(blt_beq h3).2,hz⟩
   obtain ⟨z1,z2,z4,z3,z5⟩:=hz'
   obtain ⟨i,z,hi,hzv,hzs,hzr⟩:=zeroOk_spec' z1
   have hsz:E.P.cellsOf e=i.size:=by simp [Program.cellsOf,hi]
   have hby:E.P.bytesOf e=i.bytes:=by simp [Program.bytesOf,hi]
   obtain ⟨r1,r2,r3⟩:=rowZero_ok _ _ z5
   obtain ⟨g0,g1,g2⟩:=hb
   rw [hby] at g1 z2
   generalize shOf E.P FUEL e=sh' at *
   obtain ⟨n,rfl⟩:=Int.eq_ofNat_of_zero_le g0
   refine ⟨_,_,h₄,rfl,fun w₀ I₀ O₀ ρ I a w hr hgd next Q hnx=>?_⟩
   have h1:=eval_ok hr E.P t x
   rw [hx] at h1
   have h2:=eval_ok hr E.P u y
   rw [hy] at h2
   have hal:a.eval x = .slice none 0 0:=by
    generalize a.eval x=xv at h1
    cases datV_ok h1 rfl; rfl
   have hal2:=h2.int_inv
   simp only [Int.toNat_natCast] at *
   have hby' : n*i.bytes≤140737488355328:=by rw [← Int.natCast_mul] at g1; omega
   rcases Nat.eq_zero_or_pos n with rfl | hpos
   ·let br:Real:={ base:=none,sz:=sh'.length,n:=0,cap:=0,gen:=0 }
    have hfin:=hr.newBox hn (Keeps.refl _ w) (box:=.sl sh' (List.replicate 0 (sh'.map zero1)) 0) (br:=br) ⟨rfl,rfl,rfl,Nat.le_refl _,rfl,fun _=>rfl,(fun b o hb=>by cases hb),(fun b o hb=>by cases hb)⟩ (fun b o hh=>by
     obtain ⟨_,hb,_⟩:=hh; cases hb)
    refine wp_value (x:=.slice none 0 0) (w':=w) ?_ (hnx _ _ _ _ hfin.1 (.own _ 0 br _ upd_get (Nat.le_refl _) (fun _=>rfl) ⟨_,_,_,rfl⟩))
    rw [run_call2 hc ha hty,hal,hal2]
    have hns:¬ i.size=0:=by omega
    simp [builtin,Builtin.append_,run_underlying' hu,run_underlying' hu',run_sizeOf' (P:=E.P) (t:=e) (by omega),typeInfo,hi,asInt,asIntOf,show IntKind.i64.wrap 0=0 from rfl]
   ·have hrun:=Lib.run_append_nil_zeros (P:=E.P) w t u ty e i z k₂ k₁ hu hu' hi hzv n hpos (by omega) (by omega) (by omega)
    let C:=Builtin.zeroCells z.cells n++Builtin.zeroCells z.cells (grownCap w n 0 e-n)
    have hge:=grownCap_ge w n 0 e
    have hC:C.size=grownCap w n 0 e*sh'.length:=by
     simp only [C,Array.size_append,size_zeroCells,hzs,← hsz,← z3,← Nat.add_mul]
     congr 1; omega
    have hle:grownCap w n 0 e≤maxLen:=grownCap_le_maxLen w _ _ _ (by simp only [maxLen]; omega)
    have hcell:∀ r j,r<n→j<sh'.length→C[r*sh'.length+j]? = some (z.cells.toList.getD j Go.undef):=fun r j hr' hj=>by
     have hlt:r*sh'.length+j<n*sh'.length:=by
      have:(r+1)*sh'.length≤n*sh'.length:=Nat.mul_le_mul_right _ hr'
      rw [Nat.add_mul] at this; omega
     have hzsz:z.cells.size=sh'.length:=by omega
     simp only [C]
     rw [Array.getElem?_append_left (by rw [size_zeroCells,hzsz]; exact hlt)]
     unfold Builtin.zeroCells
     rw [Array.getElem?_map,Array.getElem?_range,if_pos (by rw [hzsz]; exact hlt),Option.map_some]
     congr 1
     rw [hzsz,Nat.mul_comm,Nat.mul_add_mod,Nat.mod_eq_of_lt hj]
     rw [getElem!_pos z.cells j (by omega)]
     simp [List.getD_eq_getElem?_getD,show j<z.cells.size by omega]
    let br:Real:={ base:=some (w.heap.size,0),sz:=sh'.length,n:=n,cap:=grownCap w n 0 e,gen:=0 }
    have hfin:=hr.newBox hn ((Keeps.drawn _ w _).trans' (Keeps.alloc _ w.drew (.cells C e))) (box:=.sl sh' (List.replicate n (sh'.map zero1)) 0) (br:=br) ?_ ?_
    ·refine wp_value ?_ (hnx (.slice (some ⟨w.heap.size,0,none⟩) n (grownCap w n 0 e)) _ _ _ hfin.1 (.own _ 0 br _ upd_get (Nat.le_refl _) (fun _=>by simp [Real.slice,br]) ⟨_,_,_,rfl⟩))
     rw [run_call2 hc ha hty,hal,hal2]
     simp only [builtin,Sem.run_bind,hrun]; rfl
    ·refine ⟨rfl,by simp [br],rfl,by simpa [br] using hge,fitsRows_of _ _ fun r hr'=>?_,(fun hh=>by cases hh),fun b o hb r j hr' hj=>?_,fun b o hb=>?_⟩
     ·rw [List.length_replicate] at hr'
      simpa [List.getD_eq_getElem?_getD,hr'] using r2
     ·cases hb
      rw [List.length_replicate] at hr'
      refine ⟨_,by rw [Nat.zero_add]; exact (World.cell?_alloc_new w.drew C e _).trans (hcell r j hr' hj),?_⟩
      rw [replicate_row n _ r j hr']
      have hj' : j<(zeroOf E.P FUEL e).length:=by omega
      exact (r3 j hj w I ρ _ ((hzr w I ρ).2 j hj')).keep (fun b o hi=>(World.cell?_alloc_lt w.drew _ _ (hr.ilt b o hi)).trans (World.cell?_drew _ _)) (fun _ _ h=>h)
     ·cases hb
      exact ⟨rfl,hle,C,e,heap_alloc_new w.drew _,hC⟩
    ·rintro b o ⟨o₀,hb,g4,g5⟩
     cases hb
     simp only [br,Nat.zero_add] at g5
     exact ⟨Nat.le_refl _,⟨_,alloc_cell w.drew _ _ o (by rw [hC]; exact g5)⟩,alloc_frozen w.drew _ _ _⟩
  ·cases h₀
 ·cases h₀
end
end Go.Ev

/- Calls: what a function's answer means,and a call's soundness: definitions and lemmas; the callee's own soundness is a premise there. -/
namespace Go.Ev
open Go Go.RowKit
def noRho:Nat→Option Real:=fun _=>none
def oneRho (br:Real):Nat→Option Real:=fun d=>if d=NEW then some br else none
def locReal (locs:List (Nat × Nat)) (bx:List (List V)):Nat→Option Real:=fun j=>match locs[j]?,bx[j]? with
 | some p,some cs=>some { base:=some p,sz:=cs.length,n:=1,cap:=1,gen:=0 }
 | _,_=>none
def LocHas (locs:List (Nat × Nat)) (bx:List (List V)) (b o:Nat):Prop:=∃ (j:Nat) (p:Nat × Nat) (cs:List V),locs[j]? = some p∧bx[j]? = some cs∧b=p.1∧p.2≤o∧o<p.2+cs.length
structure RetOk (w w' : World) (J:Nat→Nat→Prop) (locs:List (Nat × Nat)) (bx:List (List V)) (r:DRes) (v:Value) (J' : Nat→Nat→Prop):Prop where
 keeps:Keeps (LocHas locs bx) w w'
 mono:∀ b o,J b o→J' b o
 lt:∀ b o,J' b o→b<w'.heap.size
 old:∀ b o,J' b o→b<w.heap.size→J b o
 len:r.bx.length=bx.length
 bx:∀ (j:Nat) (cs cs' : List V) (p:Nat × Nat),bx[j]? = some cs→r.bx[j]? = some cs'→locs[j]? = some p→cs'.length=cs.length∧∀ k,k<cs'.length→∃ y,w'.cell? ⟨p.1,p.2+k,none⟩=some y∧Rv w' J' noRho (cs'.getD k .undef) y
 val:(r.nb=[]∧Rv w' J' noRho r.v v)∨∃ box br,r.nb=[box]∧box ≠ .dead∧BoxR w' J' noRho box br ∧
  (∀ b o,br.has b o→w.heap.size≤b∧(∃ y,w'.cell? ⟨b,o,none⟩=some y)∧w'.frozen? ⟨b,o,none⟩=false∧¬ J' b o)∧Rv w' J' (oneRho br) r.v v
def CallsV (P:Program) (f:FuncId) (xs:Array Value) (w:World) (Q:Value→World→Prop):Prop :=
 ((callFunc f xs).run P w = .ok (.enter f xs) w∧Calls P f xs w fun e w'=>∃ v,e = .returned v∧Q v w') ∨
 ∃ v w',(callFunc f xs).run P w = .ok (.value v) w'∧Q v w'
def FnOk (P:Program) (f:FuncId) (D:Den):Prop:=∀ args bx,D.pre args bx=true→∀ w J locs (xs:List Value),locs.length=bx.length→(∀ b o,J b o→b<w.heap.size) →
 AllRv w J (locReal locs bx) args xs →
 (∀ (j:Nat) (p:Nat × Nat) (cs:List V),locs[j]? = some p→bx[j]? = some cs→∀ k,k<cs.length→(∃ y,w.cell? ⟨p.1,p.2+k,none⟩=some y∧Rv w J noRho (cs.getD k .undef) y)∧w.frozen? ⟨p.1,p.2+k,none⟩=false∧¬ J p.1 (p.2+k)) →
 (∀ (j j' : Nat) (p p' : Nat × Nat) (cs cs' : List V) (b o:Nat),locs[j]? = some p→locs[j']? = some p'→bx[j]? = some cs→bx[j']? = some cs'→b=p.1→p.2≤o→o<p.2+cs.length→b=p'.1→p'.2≤o→o<p'.2+cs'.length→j=j')→Held P J w →
 CallsV P f xs.toArray w fun v w'=>∃ J',RetOk w w' J locs bx (D.res args bx) v J'
def FnOkM (P:Program) (f:FuncId) (D:MDen):Prop:=∀ rest sh rows,D.pre rest sh rows=true→flatSh sh=true→∀ w J (br:Real) (xs:List Value),(∀ b o,J b o→b<w.heap.size) →
 AllRv w J noRho rest xs→BoxR w J noRho (.sl sh rows 0) br →
 (∀ b o,br.has b o→(∃ y,w.cell? ⟨b,o,none⟩=some y)∧w.frozen? ⟨b,o,none⟩=false∧¬ J b o)→Held P J w →
 CallsV P f (br.slice::xs).toArray w fun v w'=>Keeps br.has w w'∧∃ br',BoxR w' (fun _ _=>False) noRho (.sl sh (D.res rest sh rows) 0) br'∧v=br'.slice ∧
  ∀ b o,br'.has b o→(br.has b o∨w.heap.size≤b)∧(∃ y,w'.cell? ⟨b,o,none⟩=some y)∧w'.frozen? ⟨b,o,none⟩=false
def ParG {κ:Type} (A:(κ→Option R)→Prop) (F:κ→Option R):Prop:=∀ K q,F K=some q→∃ p,A p∧∀ K',F K' = p K'
def A1 {α:Type}:((α→Option R)→Option R)→Prop:=fun p=>∃ a,p=fun K=>K a
def A2 {α β:Type}:((α→β→Option R)→Option R)→Prop:=fun p=>∃ a b,p=fun K=>K a b
def A3 {α β γ:Type}:((α→β→γ→Option R)→Option R)→Prop:=fun p=>∃ a b c,p=fun K=>K a b c
abbrev Par1 {α:Type} (F:(α→Option R)→Option R):Prop:=ParG A1 F
abbrev Par2 {α β:Type} (F:(α→β→Option R)→Option R):Prop:=ParG A2 F
abbrev Par3 {α β γ:Type} (F:(α→β→γ→Option R)→Option R):Prop:=ParG A3 F
def act0:Act:={ tmps:=#[],defers:=[] }
def FnOkX (P:Program) (f:FuncId) (F:List V→List (Nat × Box)→(V→List (Nat × Box)→Option R)→Option R):Prop:=(∀ vs T,Par2 (F vs T))∧∀ vs tab K q,F vs tab K=some q →
 ∀ w₀ I₀ O₀ ρ I w,Rel 0 w₀ I₀ O₀ ρ I ⟨[],tab⟩ act0 w→Good P w₀.toWorld I₀ O₀→∀ xs,AllRv w I ρ vs xs →
  CallsV P f xs.toArray w fun x w'=>∃ v tab' ρ' I',K v tab' = some q∧Rel 0 w₀ I₀ O₀ ρ' I' ⟨[],tab'⟩ act0 w'∧Rv w' I' ρ' v x∧Evo ρ ρ'∧(∀ b o,I b o→I' b o)∧∀ b o,I b o→w'.cell? ⟨b,o,none⟩=w.cell? ⟨b,o,none⟩
def GOk (E:Env):Prop:=(∀ f D,E.G f=some D→FnOk E.P f D)∧(∀ f F,E.M f=some F→FnOkM E.P f F)∧∀ f F,E.X f=some F→FnOkX E.P f F
section
variable {P:Program} {m:Nat} {S:St} {dst:Option Tmp} {ty:TypeId} {pos:String} {after:Array Edge} {guard:Option (Nat × Bool)}
def HasOf (S:St) (ρ:Nat→Option Real) (B:List Nat) (b o:Nat):Prop:=∃ d,d∈B∧∃ br sh rows g,lk? S.tab d=some (.sl sh rows g)∧ρ d=some br∧br.has b o
theorem borOf_ok {v:V} {K:V→List Nat→Option R} {q:R} (h:borOf S v K=some q):∃ v' B,K v' B=some q∧datV v' = true ∧
  ∀ w₀ I₀ O₀ ρ I a w,Rel m w₀ I₀ O₀ ρ I S a w→∀ J:Nat→Nat→Prop,(∀ b o,I b o→J b o)→(∀ b o,HasOf S ρ B b o→J b o)→∀ x,Rv w I ρ v x→Dat w J v' x:=by
 have plain:cond (datV v) (vf v fun v=>K v []) none=some q→∃ v' B,K v' B=some q∧datV v' = true ∧
  ∀ w₀ I₀ O₀ ρ I a w,Rel m w₀ I₀ O₀ ρ I S a w→∀ J:Nat→Nat→Prop,(∀ b o,I b o→J b o)→(∀ b o,HasOf S ρ B b o→J b o)→∀ x,Rv w I ρ v x→Dat w J v' x:=fun h=>by
  obtain ⟨h1,h2⟩:=cond_none h
  rw [vf_eq] at h2
  exact ⟨v,[],h2,h1,fun w₀ I₀ O₀ ρ I a w hr J hi _ x hx=>(datV_ok hx h1).keep (fun _ _ _=>rfl) hi⟩
 cases v with
 | own d g =>
  obtain ⟨sh,rows,ht,h⟩:=withOwn_spec h
  refine ⟨_,_,h,rfl,fun w₀ I₀ O₀ ρ I a w hr J hi hB x hx=>?_⟩
  obtain ⟨br,hd,_,hdat⟩:=own_data ht hr hx
  exact hdat J hi fun b o hh=>hB b o ⟨d,by simp,br,sh,rows,g,ht,hd,hh⟩
 | emp sh=>exact ⟨_,_,h,rfl,fun w₀ I₀ O₀ ρ I a w hr J hi hB x hx=>hx.emp_dat.keep (fun _ _ _=>rfl) hi⟩
 | nn sh=>exact ⟨_,_,h,rfl,fun w₀ I₀ O₀ ρ I a w hr J hi hB x hx=>hx.nn_dat.keep (fun _ _ _=>rfl) hi⟩
 | _=>exact plain h
theorem HasOf.left {ρ:Nat→Option Real} {B B' : List Nat} {b o:Nat} (h:HasOf S ρ B b o):HasOf S ρ (B++B') b o:=let ⟨d,hd,r⟩:=h; ⟨d,by simp [hd],r⟩
theorem HasOf.right {ρ:Nat→Option Real} {B B' : List Nat} {b o:Nat} (h:HasOf S ρ B' b o):HasOf S ρ (B++B') b o:=let ⟨d,hd,r⟩:=h; ⟨d,by simp [hd],r⟩
theorem borL_ok:∀ (vs:List V) {K:List V→List Nat→Option R} {q:R},borL S vs K=some q→∃ vs' B,K vs' B=some q∧vs'.length=vs.length∧datL vs' = true ∧
  ∀ w₀ I₀ O₀ ρ I a w,Rel m w₀ I₀ O₀ ρ I S a w→∀ J:Nat→Nat→Prop,(∀ b o,I b o→J b o)→(∀ b o,HasOf S ρ B b o→J b o)→∀ xs,AllRv w I ρ vs xs→AllDat w J vs' xs
 | [],K,q,h=>⟨[],[],h,rfl,rfl,fun w₀ I₀ O₀ ρ I a w hr J hi hB xs hx=>⟨hx.1,fun i hi=>by cases hi⟩⟩
 | v::vs,K,q,h=>by
  obtain ⟨v',B,h1,h2,h3⟩:=borOf_ok (m:=m) h
  obtain ⟨vs',B',g1,g2,g4,g3⟩:=borL_ok vs h1
  refine ⟨_,_,g1,by simp [g2],by simp [datL,h2,g4],fun w₀ I₀ O₀ ρ I a w hr J hi hB xs hx=>?_⟩
  obtain ⟨x,xs',rfl,hx1,hx2⟩:=hx.uncons
  exact .cons (h3 w₀ I₀ O₀ ρ I a w hr J hi (fun b o h=>hB b o h.left) x hx1) (g3 w₀ I₀ O₀ ρ I a w hr J hi (fun b o h=>hB b o h.right) xs' hx2)
theorem crefL_spec:∀ (cs:List V),crefL cs=true→∀ i,i<cs.length→∃ c,cs.getD i .undef = .cref c
 | [],_,i,hi=>by cases hi
 | v::r,h,i,hi=>by
  cases v with
  | cref c=>cases i with
   | zero=>exact ⟨c,rfl⟩
   | succ i=>exact crefL_spec r h i (by simpa using hi)
  | _=>cases h
theorem Rv.cref_to {w:World} {I J:Nat→Nat→Prop} {ρ ρ' : Nat→Option Real} {cs:List V} {x:Value} (h:Rv w I ρ (.cref cs) x) (hi:∀ b o,I b o→J b o):Rv w J ρ' (.cref cs) x:=by
 cases h with
 | dat h=>cases h
 | cref _ b o val hc hd=>exact .cref cs b o val (fun j hj=>⟨(hc j hj).1,hi _ _ (hc j hj).2⟩) fun j hj=>(hd j hj).keep (fun _ _ _=>rfl) hi
theorem borV_ok {v:V} {K:V→List Nat→Option R} {q:R} (h:borV S v K=some q):∃ v' B,K v' B=some q ∧
  ∀ w₀ I₀ O₀ ρ I a w,Rel m w₀ I₀ O₀ ρ I S a w→∀ J:Nat→Nat→Prop,(∀ b o,I b o→J b o)→(∀ b o,HasOf S ρ B b o→J b o)→∀ x,Rv w I ρ v x→∀ ρ',Rv w J ρ' v' x:=by
 have plain:borOf S v K=some q→∃ v' B,K v' B=some q ∧
  ∀ w₀ I₀ O₀ ρ I a w,Rel m w₀ I₀ O₀ ρ I S a w→∀ J:Nat→Nat→Prop,(∀ b o,I b o→J b o)→(∀ b o,HasOf S ρ B b o→J b o)→∀ x,Rv w I ρ v x→∀ ρ',Rv w J ρ' v' x:=fun h=>by
  obtain ⟨v',B,h1,_,h3⟩:=borOf_ok (m:=m) h
  exact ⟨v',B,h1,fun w₀ I₀ O₀ ρ I a w hr J hi hB x hx ρ'=>.dat (h3 w₀ I₀ O₀ ρ I a w hr J hi hB x hx)⟩
 cases v with
 | agg cs =>
  obtain ⟨cs',B,h1,h2,_,h3⟩:=borL_ok (m:=m) cs h
  refine ⟨_,_,h1,fun w₀ I₀ O₀ ρ I a w hr J hi hB x hx ρ'=>?_⟩
  obtain ⟨xs,rfl,l,hh⟩:=hx.agg_inv
  have:=h3 w₀ I₀ O₀ ρ I a w hr J hi hB xs ⟨l,hh⟩
  exact .agg cs' xs this.1 fun i hi=>.dat (this.2 i hi)
 | nilp=>exact ⟨_,_,h,fun w₀ I₀ O₀ ρ I a w hr J hi hB x hx ρ'=>by rw [hx.nilp_inv]; exact .nilp⟩
 | cref cs=>exact ⟨_,_,h,fun w₀ I₀ O₀ ρ I a w hr J hi hB x hx ρ'=>hx.cref_to hi⟩
 | fn f first caps =>
  cases first with
  | cons _ _=>exact plain h
  | nil =>
   simp only [borV] at h
   obtain ⟨hc,h⟩:=cond_none h
   refine ⟨_,[],h,fun w₀ I₀ O₀ ρ I a w hr J hi hB x hx ρ'=>?_⟩
   obtain ⟨xs,ys,rfl,l1,_,l2,r2⟩:=hx.fn_spec
   exact .fn f [] caps xs ys l1 (fun i hi=>by cases hi) l2 fun i hj=>by
    obtain ⟨cs,hcs⟩:=crefL_spec caps hc i hj
    have:=r2 i hj
    rw [hcs] at this ⊢
    exact this.cref_to hi
 | _=>exact plain h
theorem borVL_ok:∀ (vs:List V) {K:List V→List Nat→Option R} {q:R},borVL S vs K=some q→∃ vs' B,K vs' B=some q∧vs'.length=vs.length ∧
  ∀ w₀ I₀ O₀ ρ I a w,Rel m w₀ I₀ O₀ ρ I S a w→∀ J:Nat→Nat→Prop,(∀ b o,I b o→J b o)→(∀ b o,HasOf S ρ B b o→J b o)→∀ xs,AllRv w I ρ vs xs→∀ ρ',AllRv w J ρ' vs' xs
 | [],K,q,h=>⟨[],[],h,rfl,fun w₀ I₀ O₀ ρ I a w hr J hi hB xs hx ρ'=>⟨hx.1,fun i hi=>by cases hi⟩⟩
 | v::vs,K,q,h=>by
  obtain ⟨v',B,h1,h3⟩:=borV_ok (m:=m) h
  obtain ⟨vs',B',g1,g2,g3⟩:=borVL_ok vs h1
  refine ⟨_,_,g1,by simp [g2],fun w₀ I₀ O₀ ρ I a w hr J hi hB xs hx ρ'=>?_⟩
  obtain ⟨x,xs',rfl,hx1,hx2⟩:=hx.uncons
  have e:=g3 w₀ I₀ O₀ ρ I a w hr J hi (fun b o h=>hB b o h.right) xs' hx2 ρ'
  refine ⟨by simp [e.1],fun i hj=>?_⟩
  cases i with
  | zero=>exact h3 w₀ I₀ O₀ ρ I a w hr J hi (fun b o h=>hB b o h.left) x hx1 ρ'
  | succ i=>exact e.2 i (by simpa using hj)
def LocOk (ρL:Nat→Option Real) (n:Nat) (ptrs:List Value):Prop:=∀ (i:Nat) (x:Value),ptrs[i]? = some x→∃ br,ρL (n+i)=some br∧br.gen=0∧0<br.n∧∃ b p,br.base=some (b,p)∧x = .pointer (some ⟨b,p,none⟩)
theorem LocOk.left {ρL:Nat→Option Real} {n:Nat} {p p' : List Value} (h:LocOk ρL n (p++p')):LocOk ρL n p:=fun i x hx=>h i x (by
 rw [List.getElem?_append_left (List.getElem?_eq_some_iff.1 hx).1]; exact hx)
theorem LocOk.right {ρL:Nat→Option Real} {n:Nat} {p p' : List Value} (h:LocOk ρL n (p++p')):LocOk ρL (n+p.length) p':=fun i x hx=>by
 have:=h (p.length+i) x (by rw [List.getElem?_append_right (by omega)]; simpa using hx)
 rwa [← Nat.add_assoc] at this
def PtrsOk (w:World) (I:Nat→Nat→Prop) (ρ:Nat→Option Real) (ls:List Loan) (ptrs:List Value):Prop:=ptrs.length=ls.length∧∀ (i:Nat) (l:Loan) (x:Value),ls[i]? = some l→ptrs[i]? = some x→Rv w I ρ (.ptr l.d l.r l.o l.g) x
theorem PtrsOk.append {w:World} {I:Nat→Nat→Prop} {ρ:Nat→Option Real} {ls ls' : List Loan} {p p' : List Value} (h:PtrsOk w I ρ ls p) (h' : PtrsOk w I ρ ls' p'):PtrsOk w I ρ (ls++ls') (p++p') :=
 ⟨by simp [h.1,h'.1],fun i l x hl hx=>by
  by_cases hi:i<ls.length
  ·rw [List.getElem?_append_left hi] at hl
   rw [List.getElem?_append_left (by rw [h.1]; exact hi)] at hx
   exact h.2 i l x hl hx
  ·rw [List.getElem?_append_right (by omega)] at hl
   rw [List.getElem?_append_right (by rw [h.1]; omega),h.1] at hx
   exact h'.2 _ l x hl hx⟩
theorem loc_ptr {w:World} {J:Nat→Nat→Prop} {ρL:Nat→Option Real} {n:Nat} {x:Value} {rest:List Value} (h:LocOk ρL n (x::rest)):Rv w J ρL (.ptr n 0 0 0) x:=by
 obtain ⟨br,h1,h2,h3,b,p,h4,rfl⟩:=h 0 x rfl
 exact .ptr n 0 0 0 br _ (by simpa using h1) (by omega) (fun _=>⟨h3,b,p,h4,by simp⟩) ⟨_,rfl⟩
theorem lendCaps_ok:∀ (cs:List V) (n:Nat) {K:List V→List Loan→Option R} {q:R},lendCaps S cs n K=some q→∃ cs' ls,K cs' ls=some q∧cs'.length=cs.length ∧
  ∀ (w:World) (I:Nat→Nat→Prop) (ρ:Nat→Option Real) (xs:List Value),AllRv w I ρ cs xs→∃ ptrs,PtrsOk w I ρ ls ptrs∧∀ J:Nat→Nat→Prop,(∀ b o,I b o→J b o)→∀ ρL,LocOk ρL n ptrs→AllRv w J ρL cs' xs
 | [],n,K,q,h=>⟨[],[],h,rfl,fun w I ρ xs hx=>⟨[],⟨rfl,fun i l x hl=>by cases hl⟩,fun J _ ρL _=>⟨hx.1,fun i hi=>by cases hi⟩⟩⟩
 | v::cs,n,K,q,h=>by
  cases v with
  | cref cells =>
   simp only [lendCaps] at h
   obtain ⟨cs',ls,h1,h2,h3⟩:=lendCaps_ok cs n h
   refine ⟨_,_,h1,by simp [h2],fun w I ρ xs hx=>?_⟩
   obtain ⟨x,xs',rfl,hx1,hx2⟩:=hx.uncons
   obtain ⟨ptrs,g1,g2⟩:=h3 w I ρ xs' hx2
   refine ⟨ptrs,g1,fun J hi ρL hL=>?_⟩
   have ht:=g2 J hi ρL hL
   refine ⟨by simp [ht.1],fun i hj=>?_⟩
   cases i with
   | zero=>exact hx1.cref_to hi
   | succ i=>exact ht.2 i (by simpa using hj)
  | ptr d r o g =>
   simp only [lendCaps] at h
   split at h
   ·obtain ⟨cs',ls,h1,h2,h3⟩:=lendCaps_ok cs (n+1) h
    refine ⟨_,_,h1,by simp [h2],fun w I ρ xs hx=>?_⟩
    obtain ⟨x,xs',rfl,hx1,hx2⟩:=hx.uncons
    obtain ⟨ptrs,g1,g2⟩:=h3 w I ρ xs' hx2
    refine ⟨x::ptrs,⟨by simp [g1.1],fun i l y hl hy=>?_⟩,fun J hJ ρL hL=>?_⟩
    ·cases i with
     | zero=>cases hl; cases hy; exact hx1
     | succ i=>exact g1.2 i l y (by simpa using hl) (by simpa using hy)
    ·have ht:=g2 J hJ ρL (by have:=LocOk.right (p:=[x]) (p':=ptrs) hL; simpa using this)
     refine ⟨by simp [ht.1],fun i hi=>?_⟩
     cases i with
     | zero=>exact loc_ptr hL
     | succ i=>exact ht.2 i (by simpa using hi)
   ·cases h
  | _=>cases h
theorem lendV_ok {sz n:Nat} {v:V} {K:V→List Loan→List Nat→Option R} {q:R} (h:lendV S sz v n K=some q):∃ v' ls B,K v' ls B=some q∧(noPtr v=true→ls=[]) ∧
  ∀ w₀ I₀ O₀ ρ I a w,Rel m w₀ I₀ O₀ ρ I S a w→∀ x,Rv w I ρ v x→∃ ptrs,PtrsOk w I ρ ls ptrs∧∀ J:Nat→Nat→Prop,(∀ b o,I b o→J b o)→(∀ b o,HasOf S ρ B b o→J b o)→∀ ρL,LocOk ρL n ptrs→Rv w J ρL v' x:=by
 have plain:borV S v (fun v' B=>K v' [] B)=some q→∃ v' ls B,K v' ls B=some q∧(noPtr v=true→ls=[]) ∧
  ∀ w₀ I₀ O₀ ρ I a w,Rel m w₀ I₀ O₀ ρ I S a w→∀ x,Rv w I ρ v x→∃ ptrs,PtrsOk w I ρ ls ptrs∧∀ J:Nat→Nat→Prop,(∀ b o,I b o→J b o)→(∀ b o,HasOf S ρ B b o→J b o)→∀ ρL,LocOk ρL n ptrs→Rv w J ρL v' x:=fun h=>by
  obtain ⟨v',B,h1,h2⟩:=borV_ok (m:=m) h
  exact ⟨v',[],B,h1,fun _=>rfl,fun w₀ I₀ O₀ ρ I a w hr x hx=>⟨[],⟨rfl,fun i l x hl=>by cases hl⟩,fun J hi hB ρL _=>h2 w₀ I₀ O₀ ρ I a w hr J hi hB x hx ρL⟩⟩
 cases v with
 | ptr d r o g =>
  refine ⟨_,_,_,h,(fun h=>by cases h),fun w₀ I₀ O₀ ρ I a w hr x hx=>⟨[x],⟨rfl,fun i l y hl hy=>?_⟩,fun J hi hB ρL hL=>loc_ptr hL⟩⟩
  cases i with
  | zero=>cases hl; cases hy; exact hx
  | succ i=>cases hl
 | fn f first caps =>
  obtain ⟨cs',ls,h1,h2,h3⟩:=lendCaps_ok caps n h
  obtain ⟨fs',B,g1,g2,g3⟩:=borVL_ok (m:=m) first h1
  refine ⟨_,_,_,g1,(fun h=>by cases h),fun w₀ I₀ O₀ ρ I a w hr x hx=>?_⟩
  obtain ⟨xs,ys,rfl,l1,r1,l2,r2⟩:=hx.fn_spec
  obtain ⟨ptrs,p1,p2⟩:=h3 w I ρ ys ⟨l2,r2⟩
  refine ⟨ptrs,p1,fun J hi hB ρL hL=>?_⟩
  have e1:=g3 w₀ I₀ O₀ ρ I a w hr J hi hB xs ⟨l1,r1⟩ ρL
  have e2:=p2 J hi ρL hL
  exact .fn f fs' cs' xs ys e1.1 e1.2 e2.1 e2.2
 | _=>exact plain h
theorem lendAll_ok {E:Env}:∀ (vs:List V) (ts:List TypeId) (n:Nat) {K:List V→List Loan→List Nat→Option R} {q:R},lendAll E S vs ts n K=some q→∃ vs' ls B,K vs' ls B=some q∧vs'.length=vs.length∧(noPtrL vs=true→ls=[]) ∧
  ∀ w₀ I₀ O₀ ρ I a w,Rel m w₀ I₀ O₀ ρ I S a w→∀ xs,AllRv w I ρ vs xs→∃ ptrs,PtrsOk w I ρ ls ptrs∧∀ J:Nat→Nat→Prop,(∀ b o,I b o→J b o)→(∀ b o,HasOf S ρ B b o→J b o)→∀ ρL,LocOk ρL n ptrs→AllRv w J ρL vs' xs
 | [],ts,n,K,q,h=>⟨[],[],[],h,rfl,fun _=>rfl,fun w₀ I₀ O₀ ρ I a w hr xs hx=>⟨[],⟨rfl,fun i l x hl=>by cases hl⟩,fun J _ _ ρL _=>⟨hx.1,fun i hi=>by cases hi⟩⟩⟩
 | v::vs,ts,n,K,q,h=>by
  obtain ⟨v',ls,B,h1,hn,h2⟩:=lendV_ok (m:=m) h
  obtain ⟨vs',ls',B',g1,g2,gn,g3⟩:=lendAll_ok vs ts.tail (n+ls.length) h1
  refine ⟨_,_,_,g1,by simp [g2],fun hp=>by
   simp only [noPtrL] at hp
   cases e:noPtr v with
   | false=>rw [e] at hp; cases hp
   | true=>rw [e] at hp; rw [hn e,gn hp]; rfl,fun w₀ I₀ O₀ ρ I a w hr xs hx=>?_⟩
  obtain ⟨x,xs',rfl,hx1,hx2⟩:=hx.uncons
  obtain ⟨p,p1,p2⟩:=h2 w₀ I₀ O₀ ρ I a w hr x hx1
  obtain ⟨p',p3,p4⟩:=g3 w₀ I₀ O₀ ρ I a w hr xs' hx2
  refine ⟨p++p',p1.append p3,fun J hi hB ρL hL=>?_⟩
  have e1:=p2 J hi (fun b o h=>hB b o h.left) ρL hL.left
  have e2:=p4 J hi (fun b o h=>hB b o h.right) ρL (by have:=hL.right; rwa [p1.1] at this)
  refine ⟨by simp [e2.1],fun i hi=>?_⟩
  cases i with
  | zero=>exact e1
  | succ i=>exact e2.2 i (by simpa using hi)
theorem loanCells_ok:∀ (ls:List Loan) {K:List (List V)→List Nat→Option R} {q:R},loanCells S ls K=some q→∃ cs B,K cs B=some q∧cs.length=ls.length ∧
  ∀ (i:Nat) (l:Loan) (c:List V),ls[i]? = some l→cs[i]? = some c→c.length=l.sz∧∀ w₀ I₀ O₀ ρ I a w,Rel m w₀ I₀ O₀ ρ I S a w→∀ x,Rv w I ρ (.ptr l.d l.r l.o l.g) x→∃ b p,x = .pointer (some ⟨b,p,none⟩) ∧
   ∀ J:Nat→Nat→Prop,(∀ b o,I b o→J b o)→(∀ b o,HasOf S ρ B b o→J b o)→∀ k,k<c.length→∃ y,w.cell? ⟨b,p+k,none⟩=some y∧Rv w J noRho (c.getD k .undef) y
 | [],K,q,h=>⟨[],[],h,rfl,fun i l c hl=>by cases hl⟩
 | l::ls,K,q,h=>by
  obtain ⟨c₀,h1,h2,h3⟩:=readAt_ok (m:=m) h
  obtain ⟨c,B,g1,g2,g3⟩:=borVL_ok (m:=m) c₀ h1
  obtain ⟨cs,B',k1,k2,k3⟩:=loanCells_ok ls g1
  refine ⟨_,_,k1,by simp [k2],fun i l' c' hl hc=>?_⟩
  cases i with
  | zero =>
   cases hl; cases hc
   refine ⟨by omega,fun w₀ I₀ O₀ ρ I a w hr x hx=>?_⟩
   obtain ⟨b,p,val,e1,e2⟩:=h3 w₀ I₀ O₀ ρ I a w hr x hx
   refine ⟨b,p,e1,fun J hi hB k hk=>⟨val k,(e2 k (by omega)).1,?_⟩⟩
   have:=g3 w₀ I₀ O₀ ρ I a w hr J hi (fun b o h=>hB b o h.left) ((List.range c₀.length).map val) ⟨by simp,fun j hj=>by
    have:=(e2 j (by omega)).2
    simpa [List.getD_eq_getElem?_getD,hj] using this⟩ noRho
   have h5:=this.2 k hk
   rw [g2] at hk
   simpa [List.getD_eq_getElem?_getD,hk] using h5
  | succ i =>
   obtain ⟨e1,e2⟩:=k3 i l' c' (by simpa using hl) (by simpa using hc)
   refine ⟨e1,fun w₀ I₀ O₀ ρ I a w hr x hx=>?_⟩
   obtain ⟨b,p,e3,e4⟩:=e2 w₀ I₀ O₀ ρ I a w hr x hx
   exact ⟨b,p,e3,fun J hi hB=>e4 J hi (fun b o h=>hB b o h.right)⟩
end
end Go.Ev

/- A call's step from the caller's side: lemmas,no condition. -/
namespace Go.Ev
open Go Go.RowKit
section
variable {m:Nat} {w₀:Base} {I₀ O₀:Nat→Nat→Prop} {ρ:Nat→Option Real} {I:Nat→Nat→Prop} {S:St} {a:Act} {w:World}
theorem Rel.addBox (h:Rel m w₀ I₀ O₀ ρ I S a w) {id:Nat} (hn:lk? S.tab id=none) {box:Box} {br:Real} (hb:BoxR w I (upd ρ id br) box br)
  (hnew:∀ b o,br.has b o→w₀.heap.size≤b∧¬ I b o∧(∃ x,w.cell? ⟨b,o,none⟩=some x)∧w.frozen? ⟨b,o,none⟩=false∧∀ d br',Live S d→ρ d=some br'→¬ br'.has b o) :
  Rel m w₀ I₀ O₀ (upd ρ id br) I { S with tab:=S.tab++[(id,box)] } a w∧Evo ρ (upd ρ id br):=by
 have hρ:ρ id=none:=by
  cases e:ρ id with
  | none=>rfl
  | some b=>obtain ⟨x,hx⟩:=h.dom id b e; rw [hn] at hx; cases hx
 have he:Evo ρ (upd ρ id br):=fun d b hd=>by
  have hne:d ≠ id:=fun e=>by subst e; rw [hρ] at hd; cases hd
  exact ⟨b,by unfold upd; rw [if_neg hne]; exact hd,.inl rfl⟩
 have tabs:∀ d bx,lk? (S.tab++[(id,box)]) d=some bx→(d=id∧bx=box)∨(d ≠ id∧lk? S.tab d=some bx):=fun d bx hbx=>by
  rw [lk_append] at hbx
  by_cases e:d=id
  ·subst e; rw [hn] at hbx; simp at hbx; exact .inl ⟨rfl,hbx.symm⟩
  ·refine .inr ⟨e,?_⟩
   split at hbx
   ·rename_i x hx; rw [hx]; exact hbx
   ·rw [if_neg e] at hbx; cases hbx
 have live:∀ d b',Live { S with tab:=S.tab++[(id,box)] } d→upd ρ id br d=some b'→(d=id∧b' = br)∨(d ≠ id∧Live S d∧ρ d=some b'):=fun d b' ⟨bx,hbx,hne⟩ hd=>by
  rcases tabs d bx hbx with ⟨e,_⟩ | ⟨e,ht⟩
  ·subst e; simp [upd] at hd; exact .inl ⟨rfl,hd.symm⟩
  ·unfold upd at hd; rw [if_neg e] at hd; exact .inr ⟨e,⟨bx,ht,hne⟩,hd⟩
 refine ⟨⟨?_,h.dfr,h.size,?_,?_,?_,?_,?_,?_,?_,h.ilt,h.imono,h.iold,h.keeps,fun d b hl=>by
  obtain ⟨h1,cells,h2⟩:=h.lent d b hl
  have hne:d ≠ id:=fun e=>by subst e; rw [hn] at h2; cases h2
  exact ⟨by unfold upd; rw [if_neg hne]; exact h1,cells,by simp only [lk_append,h2]⟩,fun d b hl=>by
  obtain ⟨h1,h2⟩:=h.hid d b hl
  have hne:d ≠ id:=fun e=>by subst e; rw [hn] at h2; cases h2
  exact ⟨by unfold upd; rw [if_neg hne]; exact h1,by simp only [lk_append,h2]⟩,h.evo.trans he⟩,he⟩
 ·exact fun t v hv=>(h.fr t v hv).keep (fun _ _ _=>rfl) (fun _ _ h=>h) he
 ·intro d bx hbx
  rcases tabs d bx hbx with ⟨rfl,rfl⟩ | ⟨e,ht⟩
  ·exact ⟨br,by simp [upd],hb⟩
  ·obtain ⟨b',h1,h2⟩:=h.tab d bx ht
   exact ⟨b',by unfold upd; rw [if_neg e]; exact h1,h2.keep (fun _ _ _=>rfl) (fun _ _ h=>h) he (fun _ _ _=>rfl) fun b cur e f hh=>⟨cur,hh,rfl⟩⟩
 ·intro d b' hd
  simp only [lk_append]
  by_cases e:d=id
  ·subst e; rw [hn]; exact ⟨box,by simp⟩
  ·unfold upd at hd; rw [if_neg e] at hd
   obtain ⟨x,hx⟩:=h.dom d b' hd
   rw [hx]; exact ⟨x,rfl⟩
 ·intro d d' b1 b2 b o hl hl' hd hd' hh hh'
  rcases live d b1 hl hd with ⟨rfl,rfl⟩ | ⟨_,l1,r1⟩
  ·rcases live d' b2 hl' hd' with ⟨rfl,rfl⟩ | ⟨_,l2,r2⟩
   ·rfl
   ·exact absurd hh' ((hnew b o hh).2.2.2.2 d' b2 l2 r2)
  ·rcases live d' b2 hl' hd' with ⟨rfl,rfl⟩ | ⟨_,l2,r2⟩
   ·exact absurd hh ((hnew b o hh').2.2.2.2 d b1 l1 r1)
   ·exact h.apart d d' b1 b2 b o l1 l2 r1 r2 hh hh'
 ·intro d b1 b o hl hd hh
  rcases live d b1 hl hd with ⟨rfl,rfl⟩ | ⟨_,l1,r1⟩
  ·exact (hnew b o hh).2.1
  ·exact h.notI d b1 b o l1 r1 hh
 ·intro d b1 b o hl hd hh
  rcases live d b1 hl hd with ⟨rfl,rfl⟩ | ⟨_,l1,r1⟩
  ·exact .inl (hnew b o hh).1
  ·exact h.org d b1 b o l1 r1 hh
 ·intro d sh rows gen b1 b o hbx hd hh
  rcases tabs d _ hbx with ⟨rfl,_⟩ | ⟨e,ht⟩
  ·simp [upd] at hd; subst hd; exact .inl (hnew b o hh).1
  ·unfold upd at hd; rw [if_neg e] at hd
   exact h.slorg d sh rows gen b1 b o ht hd hh
 ·intro d b1 b o hl hd hh
  rcases live d b1 hl hd with ⟨rfl,rfl⟩ | ⟨_,l1,r1⟩
  ·exact ⟨(hnew b o hh).2.2.1,(hnew b o hh).2.2.2.1⟩
  ·exact h.alive d b1 b o l1 r1 hh
theorem apartL_spec:∀ (ls:List Loan),apartL ls=true→∀ (i j:Nat) (l l' : Loan),ls[i]? = some l→ls[j]? = some l'→l.d=l'.d→i=j
 | [],_,i,j,l,l',hi,_,_=>by cases hi
 | x::ls,h,i,j,l,l',hi,hj,e=>by
  simp only [apartL] at h
  cases hall:ls.all fun m=>!Nat.beq x.d m.d with
  | false=>rw [hall] at h; cases h
  | true =>
   rw [hall] at h
   have hx:∀ (k:Nat) (y:Loan),ls[k]? = some y→x.d ≠ y.d:=fun k y hy e=>by
    have:=List.all_eq_true.1 hall y (List.mem_of_getElem? hy)
    rw [e] at this; simp at this
   cases i with
   | zero =>
    cases hi
    cases j with
    | zero=>rfl
    | succ j=>exact absurd e (hx j l' (by simpa using hj))
   | succ i =>
    cases j with
    | zero=>cases hj; exact absurd e.symm (hx i l (by simpa using hi))
    | succ j=>rw [apartL_spec ls h i j l l' (by simpa using hi) (by simpa using hj) e]
theorem apartB_spec (ls:List Loan):∀ (B:List Nat),apartB ls B=true→∀ d,d∈B→∀ (i:Nat) (l:Loan),ls[i]? = some l→l.d ≠ d
 | [],_,d,hd,_,_,_=>by cases hd
 | b::B,h,d,hd,i,l,hl=>by
  simp only [apartB] at h
  cases hall:ls.all fun l=>!Nat.beq b l.d with
  | false=>rw [hall] at h; cases h
  | true =>
   rw [hall] at h
   rcases List.mem_cons.1 hd with rfl | hd
   ·intro e
    have:=List.all_eq_true.1 hall l (List.mem_of_getElem? hl)
    rw [e] at this; simp at this
   ·exact apartB_spec ls B h d hd i l hl
def IsSl (S:St) (d:Nat):Prop:=∃ sh rows g,lk? S.tab d=some (.sl sh rows g)
theorem killAll_spec:∀ (B:List Nat) (S:St),(killAll B S).fr=S.fr∧(∀ d,d∈B→IsSl S d→lk? (killAll B S).tab d=some .dead) ∧
  (∀ d,¬ (d∈B∧IsSl S d)→lk? (killAll B S).tab d=lk? S.tab d)
 | [],S=>⟨rfl,(fun d hd=>nomatch hd),fun _ _=>rfl⟩
 | b::B,S=>by
  by_cases hb:IsSl S b
  ·obtain ⟨sh,rows,g,ht⟩:=hb
   have hm:killAll (b::B) S=killAll B { S with tab:=up S.tab b .dead }:=by simp only [killAll]; rw [ht]
   rw [hm]
   obtain ⟨h1,h2,h3⟩:=killAll_spec B { S with tab:=up S.tab b .dead }
   have hbd:lk? (up S.tab b .dead) b=some .dead:=by rw [lk_up,if_pos rfl,ht]; rfl
   have hnb:¬ IsSl { S with tab:=up S.tab b .dead } b:=fun ⟨_,_,_,e⟩=>by rw [hbd] at e; cases e
   have same:∀ d,d ≠ b→lk? (up S.tab b .dead) d=lk? S.tab d:=fun d e=>by rw [lk_up,if_neg e]
   refine ⟨h1,fun d hd hs=>?_,fun d hd=>?_⟩
   ·by_cases e:d=b
    ·subst e; rw [h3 d (fun hh=>hnb hh.2)]; exact hbd
    ·refine h2 d ((List.mem_cons.1 hd).resolve_left e) ?_
     obtain ⟨a,b',c,e'⟩:=hs
     exact ⟨a,b',c,(same d e).trans e'⟩
   ·have e:d ≠ b:=fun e=>hd ⟨by rw [e]; exact List.mem_cons_self,by rw [e]; exact ⟨sh,rows,g,ht⟩⟩
    rw [h3 d (fun hh=>hd ⟨List.mem_cons_of_mem _ hh.1,by obtain ⟨a,b',c,e'⟩:=hh.2; exact ⟨a,b',c,(same d e).symm.trans e'⟩⟩)]
    exact same d e
  ·have hm:killAll (b::B) S=killAll B S:=by
    simp only [killAll]
    split
    ·rename_i ht; exact absurd ⟨_,_,_,ht⟩ hb
    ·rfl
   rw [hm]
   obtain ⟨h1,h2,h3⟩:=killAll_spec B S
   refine ⟨h1,fun d hd hs=>?_,fun d hd=>?_⟩
   ·rcases List.mem_cons.1 hd with rfl | hd
    ·exact absurd hs hb
    ·exact h2 d hd hs
   ·exact h3 d fun hh=>hd ⟨List.mem_cons_of_mem _ hh.1,hh.2⟩
theorem backAll_spec:∀ (ls:List Loan) (cs:List (List V)) (S:St) {K:St→Option R} {q:R},backAll ls cs S K=some q→apartL ls=true →
  ∃ S',K S' = some q∧S'.fr=S.fr∧cs.length=ls.length∧(∀ d,(∀ (i:Nat) (l:Loan),ls[i]? = some l→l.d ≠ d)→lk? S'.tab d=lk? S.tab d) ∧
   ∀ (i:Nat) (l:Loan) (c:List V),ls[i]? = some l→cs[i]? = some c→c.length=l.sz∧scalL c=true ∧
    ∃ box box',lk? S.tab l.d=some box∧writeBox box l.r l.o l.g c=some box'∧lk? S'.tab l.d=some box'
 | [],[],S,K,q,h,_=>⟨S,h,rfl,rfl,fun _ _=>rfl,fun i l c hi=>by cases hi⟩
 | [],_::_,S,K,q,h,_=>by cases h
 | _::_,[],S,K,q,h,_=>by cases h
 | x::ls,c::cs,S,K,q,h,ha=>by
  simp only [backAll] at h
  obtain ⟨g1,h⟩:=cond_none h
  obtain ⟨g2,h⟩:=cond_none h
  unfold writeAt at h
  split at h
  ·rename_i box ht
   split at h
   ·rename_i box' hwb
    have ha' : apartL ls=true:=by
     simp only [apartL] at ha
     cases hall:ls.all fun m=>!Nat.beq x.d m.d with
     | false=>rw [hall] at ha; cases ha
     | true=>rw [hall] at ha; exact ha
    obtain ⟨S',h1,h2,h3,h4,h5⟩:=backAll_spec ls cs _ h ha'
    have hx:∀ (k:Nat) (y:Loan),ls[k]? = some y→y.d ≠ x.d:=fun k y hy e=>by
     have:=apartL_spec _ ha (k+1) 0 y x (by simpa using hy) rfl e; omega
    refine ⟨S',h1,h2,by simp [h3],fun d hd=>?_,fun i l c' hi hc=>?_⟩
    ·rw [h4 d fun i l hl=>hd (i+1) l (by simpa using hl),lk_up,if_neg fun e=>hd 0 x rfl e.symm]
    ·cases i with
     | zero =>
      cases hi; cases hc
      refine ⟨Nat.eq_of_beq_eq_true g1,g2,box,box',ht,hwb,?_⟩
      rw [h4 _ fun i l hl=>hx i l hl,lk_up,if_pos rfl,ht]; rfl
     | succ i =>
      obtain ⟨k1,k2,bx,bx',k3,k4,k5⟩:=h5 i l c' (by simpa using hi) (by simpa using hc)
      rw [lk_up,if_neg (hx i l (by simpa using hi))] at k3
      exact ⟨k1,k2,bx,bx',k3,k4,k5⟩
   ·cases h
  ·cases h
theorem writeBox_sl {box:Box} {r o g:Nat} {new:List V} {sh:List Sh} {rows:List (List V)} {gen:Nat} (h:writeBox box r o g new=some (.sl sh rows gen)):∃ sh' rows' gen',box = .sl sh' rows' gen':=by
 cases box with
 | dead=>cases h
 | var cells=>simp only [writeBox] at h; cases hb:Nat.ble (o+new.length) cells.length<;>rw [hb] at h<;>cases h
 | sl sh' rows' gen'=>exact ⟨_,_,_,rfl⟩
theorem Rel.back (h:Rel m w₀ I₀ O₀ ρ I S a w) {ls:List Loan} {cs:List (List V)} {ptrs:List Value} {locs:List (Nat × Nat)} {S₁:St} {w' : World} {I' : Nat→Nat→Prop} {X:Nat→Nat→Prop} (D:Nat→Prop)
  (hp:PtrsOk w I ρ ls ptrs) (hloc:∀ (i:Nat) (x:Value),ptrs[i]? = some x→∃ b p,locs[i]? = some (b,p)∧x = .pointer (some ⟨b,p,none⟩)) (hap:apartL ls=true)
  (k:Keeps X w w') (hX:∀ b o,X b o→∃ (i:Nat) (l:Loan) (p:Nat × Nat),ls[i]? = some l∧locs[i]? = some p∧b=p.1∧p.2≤o∧o<p.2+l.sz)
  (hfr:S₁.fr=S.fr) (hlen:cs.length=ls.length)
  (hD:∀ d,D d→IsSl S d∧lk? S₁.tab d=some .dead∧∀ (i:Nat) (l:Loan),ls[i]? = some l→l.d ≠ d)
  (hrest:∀ d,¬ D d→(∀ (i:Nat) (l:Loan),ls[i]? = some l→l.d ≠ d)→lk? S₁.tab d=lk? S.tab d)
  (hls:∀ (i:Nat) (l:Loan) (c:List V),ls[i]? = some l→cs[i]? = some c→c.length=l.sz∧∃ box box',lk? S.tab l.d=some box∧writeBox box l.r l.o l.g c=some box'∧lk? S₁.tab l.d=some box')
  (hI:∀ b o,I b o→I' b o)
  (hI' : ∀ b o,I' b o→I b o∨(w.heap.size≤b∧b<w'.heap.size)∨∃ d br,D d∧ρ d=some br∧br.has b o)
  (hc:∀ (i:Nat) (p:Nat × Nat) (c:List V),cs[i]? = some c→locs[i]? = some p→∀ j,j<c.length→∃ y,w'.cell? ⟨p.1,p.2+j,none⟩=some y∧Rv w' I' ρ (c.getD j .undef) y) :
  Rel m w₀ I₀ O₀ ρ I' S₁ a w'∧∀ d,Live S₁ d→Live S d:=by
 have lo:∀ d br b o,Live S d→ρ d=some br→br.has b o→b<w.heap.size:=fun d br b o hl hd hh=>by
  obtain ⟨⟨x,hx⟩,_⟩:=h.alive d br b o hl hd hh
  exact lt_of_cell hx
 -- a loan, in full
 have loan:∀ (i:Nat) (l:Loan),ls[i]? = some l→∃ c box box' br b p q x,cs[i]? = some c∧ptrs[i]? = some x∧locs[i]? = some (b,p+(l.r*br.sz+l.o))∧c.length=l.sz∧lk? S.tab l.d=some box∧box ≠ .dead ∧
   writeBox box l.r l.o l.g c=some box'∧lk? S₁.tab l.d=some box'∧ρ l.d=some br∧BoxR w I ρ box br∧br.base=some (b,p)∧l.r<br.n∧q=p+(l.r*br.sz+l.o)∧∀ j,j<l.sz→br.has b (q+j):=by
  intro i l hl
  have hi:=(List.getElem?_eq_some_iff.1 hl).1
  have hcs:cs[i]? = some (cs[i]'(by omega)):=List.getElem?_eq_getElem _
  have hpt:ptrs[i]? = some (ptrs[i]'(by rw [hp.1]; exact hi)):=List.getElem?_eq_getElem _
  obtain ⟨e1,box,box',e2,e3,e4⟩:=hls i l _ hl hcs
  obtain ⟨br₀,hd₀,hbx₀⟩:=h.tab _ _ e2
  obtain ⟨f1,f2,f3⟩:=writeBox_size e3 hbx₀
  obtain ⟨br,b,p,g1,g2,g3,g4,_,g5,g6⟩:=ptr_real h (hp.2 i l _ hl hpt) e2 f2 f3
  obtain ⟨b',p',g7,g8⟩:=hloc i _ hpt
  rw [g5] at g8
  cases g8
  rw [hd₀] at g1; cases g1
  exact ⟨_,box,box',br₀,b,p,_,_,hcs,hpt,g7,e1,e2,f2,e3,e4,hd₀,g2,g3,g4,rfl,fun j hj=>g6 l.o l.sz (by omega) j hj⟩
 have back:∀ d,Live S₁ d→Live S d:=fun d ⟨bx,hbx,hne⟩=>by
  by_cases hd:D d
  ·rw [(hD d hd).2.1] at hbx; cases hbx; exact absurd rfl hne
  ·by_cases hl:∃ (i:Nat) (l:Loan),ls[i]? = some l∧l.d=d
   ·obtain ⟨i,l,hl,rfl⟩:=hl
    obtain ⟨c,box,box',br,b,p,q',x,_,_,_,_,e2,f2,_⟩:=loan i l hl
    exact ⟨box,e2,f2⟩
   ·rw [hrest d hd fun i l hl' e=>hl ⟨i,l,hl',e⟩] at hbx
    exact ⟨bx,hbx,hne⟩
 have inX:∀ b o,X b o→∃ (i:Nat) (l:Loan) (br:Real),ls[i]? = some l∧Live S l.d∧ρ l.d=some br∧br.has b o∧∀ p,locs[i]? = some p→p.2≤o∧o<p.2+l.sz:=by
  intro b o hx
  obtain ⟨i,l,p,h1,h2,h3,h4,h5⟩:=hX b o hx
  obtain ⟨c,box,box',br,b',p',q',x,_,_,e5,e6,e2,f2,e3,e4,hd,hbx,hba,hr,rfl,has⟩:=loan i l h1
  rw [h2] at e5; cases e5
  subst h3
  refine ⟨i,l,br,h1,⟨box,e2,f2⟩,hd,?_,fun p hp'=>by rw [h2] at hp'; cases hp'; exact ⟨h4,h5⟩⟩
  have:=has (o-(p' + (l.r*br.sz+l.o))) (by simp only at h5 h4; omega)
  simp only at h4
  rwa [show p' + (l.r*br.sz+l.o)+(o-(p' + (l.r*br.sz+l.o)))=o by omega] at this
 have hIw:∀ b o,I b o→w'.cell? ⟨b,o,none⟩=w.cell? ⟨b,o,none⟩:=fun b o hi=>k.cell (fun hx=>by
  obtain ⟨i,l,br,_,h2,h3,h4,_⟩:=inX b o hx
  exact h.notI _ br b o h2 h3 h4 hi) (h.ilt b o hi)
 refine ⟨h.step (fun d=>D d∨∃ (i:Nat) (l:Loan),ls[i]? = some l∧l.d=d) k ?_ hI ?_ (Evo.refl _) hfr ?_ ?_ ?_ ?_ ?_ ?_ ?_ (fun d cells hv=>⟨?_,rfl⟩) ?_,back⟩
 ·intro b o _ hx
  obtain ⟨i,l,br,h1,h2,h3,h4,_⟩:=inX b o hx
  exact ⟨l.d,br,.inr ⟨i,l,h1,rfl⟩,h2,h3,h4⟩
 ·intro b o hi
  rcases hI' b o hi with h1 | ⟨h1,h2⟩ | ⟨d,br,h1,h2,h3⟩
  ·exact .inl h1
  ·refine .inr (.inl ⟨h1,h2,fun d br hl hd hh=>?_⟩)
   have:=lo d br b o (back d hl) hd hh; omega
  ·obtain ⟨⟨sh,rows,g,e1⟩,e2,_⟩:=hD d h1
   exact .inr (.inr ⟨d,br,sh,rows,g,e1,fun ⟨bx,e3,e4⟩=>by rw [e2] at e3; cases e3; exact e4 rfl,h2,h3⟩)
 ·intro d hd
  refine ⟨rfl,fun bx hbx=>?_⟩
  rw [← hrest d (fun hh=>hd (.inl hh)) fun i l hl e=>hd (.inr ⟨i,l,hl,e⟩)]; exact hbx
 ·intro d br hd
  by_cases hdd:D d
  ·exact ⟨_,(hD d hdd).2.1⟩
  ·by_cases hl:∃ (i:Nat) (l:Loan),ls[i]? = some l∧l.d=d
   ·obtain ⟨i,l,hl,rfl⟩:=hl
    obtain ⟨c,box,box',br,b,p,q',x,_,_,_,_,_,_,_,e4,_⟩:=loan i l hl
    exact ⟨box',e4⟩
   ·rw [hrest d hdd fun i l hl' e=>hl ⟨i,l,hl',e⟩]
    exact h.dom d br hd
 ·intro d bx hd hbx
  by_cases hdd:D d
  ·obtain ⟨⟨sh,rows,g,e1⟩,e2,_⟩:=hD d hdd
   rw [e2] at hbx; cases hbx
   obtain ⟨br,h1,_⟩:=h.tab d _ e1
   exact ⟨br,h1,trivial⟩
  ·obtain ⟨i,l,hl,rfl⟩:=hd.resolve_left hdd
   obtain ⟨c,box,box',br,b,p,q',x,g1,g2,g3,g4,e2,f2,e3,e4,hd',hbx',hba,hr,rfl,has⟩:=loan i l hl
   rw [e4] at hbx; cases hbx
   refine ⟨br,hd',?_⟩
   refine (BoxR.write e3 hbx' hba hr (fun o' hh hn=>?_) k.shape hIw hI (Evo.refl ρ) fun j hj=>hc i _ c g1 g3 j hj).1
   refine k.cell (fun hx=>?_) (lo l.d br b o' ⟨box,e2,f2⟩ hd' hh)
   obtain ⟨i',l',br',k1,k2,k3,k4,k5⟩:=inX b o' hx
   have e:=h.apart l.d l'.d br br' b o' ⟨box,e2,f2⟩ k2 hd' k3 hh k4
   obtain rfl:=apartL_spec ls hap i i' l l' hl k1 e
   rw [hl] at k1; cases k1
   have:=k5 _ g3
   exact hn ⟨this.1,by have:=this.2; simp only at this; omega⟩
 ·intro d br b o _ hl hd hh
  exact .inl ⟨br,back d hl,hd,hh⟩
 ·intro d sh rows gen br b o hd hbx hdd hh
  by_cases hD' : D d
  ·rw [(hD d hD').2.1] at hbx; cases hbx
  ·obtain ⟨i,l,hl,rfl⟩:=hd.resolve_left hD'
   obtain ⟨c,box,box',br',b',p,q',x,g1,g2,g3,g4,e2,f2,e3,e4,_⟩:=loan i l hl
   rw [e4] at hbx; cases hbx
   obtain ⟨sh',rows',gen',rfl⟩:=writeBox_sl e3
   exact .inl ⟨sh',rows',gen',br,e2,hdd,hh⟩
 ·intro d br b o _ hl hd hh hge
  have:=lo d br b o (back d hl) hd hh; omega
 ·intro d d' br br' b o _ _ hl _ hd _ hh _ hge
  have:=lo d br b o (back d hl) hd hh; omega
 ·by_cases hd:D d
  ·obtain ⟨⟨sh,rows,g,e1⟩,_⟩:=hD d hd
   rw [hv] at e1; cases e1
  ·by_cases hl:∃ (i:Nat) (l:Loan),ls[i]? = some l∧l.d=d
   ·obtain ⟨i,l,hl,rfl⟩:=hl
    obtain ⟨c,box,box',br,b,p,q',x,_,_,_,_,e2,_,e3,e4,_⟩:=loan i l hl
    rw [hv] at e2; cases e2
    simp only [writeBox] at e3
    exact ⟨_,e4.trans (cond_none' e3).2.symm⟩
   ·rw [hrest d hd fun i l hl' e=>hl ⟨i,l,hl',e⟩]
    exact ⟨cells,hv⟩
 ·rintro d (hd | ⟨i,l,hl,rfl⟩) e
  ·obtain ⟨⟨sh,rows,g,e1⟩,_⟩:=hD d hd
   rw [e] at e1; cases e1
  ·obtain ⟨c,box,box',br,b,p,q',x,_,_,_,_,e2,f2,_⟩:=loan i l hl
   rw [e] at e2; cases e2; exact f2 rfl
end
end Go.Ev

/- A call: lemmas; the callee's own soundness is a premise. -/
namespace Go.Ev
open Go Go.RowKit
section
variable {m:Nat} {S:St}
theorem flatV_ok {v:V} {x:Value} {w:World} {I:Nat→Nat→Prop} {ρ:Nat→Option Real} (h:Rv w I ρ v x) (hf:flatV v=true) (w' : World) (I' : Nat→Nat→Prop):Dat w' I' v x:=by
 cases h with
 | dat h=>cases h with
  | bool b=>exact .bool b
  | int k n=>exact .int k n
  | str s=>exact .str s
  | nils=>cases hf
  | fn0=>cases hf
  | slc=>cases hf
 | _=>cases hf
theorem flatL_spec:∀ (vs:List V),flatL vs=true→∀ i,i<vs.length→flatV (vs.getD i .undef)=true
 | [],_,_,h=>by cases h
 | v::vs,h,i,hi=>by
  simp only [flatL] at h
  cases hs:flatV v with
  | false=>rw [hs] at h; cases h
  | true =>
   rw [hs] at h
   cases i with
   | zero=>exact hs
   | succ i=>exact flatL_spec vs h i (by simpa using hi)
theorem flat_noPtrL:∀ (vs:List V),flatL vs=true→noPtrL vs=true
 | [],_=>rfl
 | v::vs,h=>by
  simp only [flatL] at h
  cases hs:flatV v with
  | false=>rw [hs] at h; cases h
  | true =>
   rw [hs] at h
   have e:noPtr v=true:=by cases v<;>first | rfl | cases hs
   simp only [noPtrL,e,cond_true]
   exact flat_noPtrL vs h
theorem flatBx_spec:∀ (bs:List (List V)),flatBx bs=true→∀ (i:Nat) (c:List V),bs[i]? = some c→flatL c=true
 | [],_,_,_,h=>by cases h
 | b::bs,h,i,c,hi=>by
  simp only [flatBx] at h
  cases hs:flatL b with
  | false=>rw [hs] at h; cases h
  | true =>
   rw [hs] at h
   cases i with
   | zero=>cases hi; exact hs
   | succ i=>exact flatBx_spec bs h i c (by simpa using hi)
theorem flatOne_ok {v:V} {x:Value} {w:World} {I:Nat→Nat→Prop} {ρ:Nat→Option Real} (h:Rv w I ρ v x)
  (hf:(∃ cs,v = .agg cs∧flatL cs=true)∨flatV v=true) (w' : World) (I' : Nat→Nat→Prop) (ρ' : Nat→Option Real):Rv w' I' ρ' v x:=by
 rcases hf with ⟨cs,rfl,hf⟩ | hf
 ·obtain ⟨xs,rfl,l,hh⟩:=h.agg_inv
  exact .agg cs xs l fun i hi=>.dat (flatV_ok (hh i hi) (flatL_spec cs hf i hi) w' I')
 ·exact .dat (flatV_ok h hf w' I')
theorem flatT_spec:∀ (vs:List V),flatRes.flatT vs=true→∀ i,i<vs.length→(∃ cs,vs.getD i .undef = .agg cs∧flatL cs=true)∨flatV (vs.getD i .undef)=true
 | [],_,_,h=>by cases h
 | v::vs,h,i,hi=>by
  have:((∃ cs,v = .agg cs∧flatL cs=true)∨flatV v=true)∧flatRes.flatT vs=true:=by
   cases v with
   | agg cs =>
    simp only [flatRes.flatT] at h
    cases hs:flatL cs with
    | false=>rw [hs] at h; cases h
    | true=>rw [hs] at h; exact ⟨.inl ⟨cs,rfl,hs⟩,h⟩
   | _ =>
    simp only [flatRes.flatT] at h
    first
    | (simp only [flatV,cond_true] at h; exact ⟨.inr rfl,h⟩)
    | (simp only [flatV,cond_false] at h; cases h)
  cases i with
  | zero=>exact this.1
  | succ i=>exact flatT_spec vs this.2 i (by simpa using hi)
theorem flatRes_ok {v:V} {x:Value} {w:World} {I:Nat→Nat→Prop} {ρ:Nat→Option Real} (h:Rv w I ρ v x) (hf:flatRes v=true) (w' : World) (I' : Nat→Nat→Prop) (ρ' : Nat→Option Real):Rv w' I' ρ' v x:=by
 cases v with
 | agg cs=>exact flatOne_ok h (.inl ⟨cs,rfl,hf⟩) w' I' ρ'
 | tup vs =>
  obtain ⟨xs,rfl,l,hh⟩:=h.tup_inv
  exact .tup vs xs l fun i hi=>flatOne_ok (hh i hi) (flatT_spec vs hf i hi) w' I' ρ'
 | _=>exact flatOne_ok h (.inr hf) w' I' ρ'
theorem evo_no (ρ:Nat→Option Real):Evo noRho ρ:=fun d br h=>by cases h
theorem rename_ok {id:Nat} {v:V} {x:Value} {w:World} {I:Nat→Nat→Prop} {ρ:Nat→Option Real} {br:Real} (h:Rv w I (oneRho br) v x):Rv w I (upd ρ id br) (rename id v) x:=by
 cases v with
 | ptr d r o g =>
  simp only [rename]
  cases e:Nat.beq d NEW with
  | false=>exact .undef x
  | true =>
   have e:=Nat.eq_of_beq_eq_true e
   subst e
   cases h with
   | dat h=>cases h
   | ptr _ _ _ _ br' _ hd hg hh hp =>
    simp [oneRho] at hd; subst hd
    exact .ptr id r o g br x (by simp [upd]) hg hh hp
 | own d g =>
  simp only [rename]
  cases e:Nat.beq d NEW with
  | false=>exact .undef x
  | true =>
   have e:=Nat.eq_of_beq_eq_true e
   subst e
   cases h with
   | dat h=>cases h
   | own _ _ br' _ hd hg hh hp =>
    simp [oneRho] at hd; subst hd
    exact .own id g br x (by simp [upd]) hg hh hp
 | agg cs =>
  obtain ⟨xs,rfl,l,hh⟩:=h.agg_inv
  have len:∀ cs:List V,(renameL id cs).length=cs.length:=fun cs=>by
   induction cs with
   | nil=>rfl
   | cons v r ih=>simp [renameL,ih]
  have get:∀ (cs:List V) (i:Nat),i<cs.length→(renameL id cs).getD i .undef=rename1 id (cs.getD i .undef):=fun cs=>by
   induction cs with
   | nil=>intro i hi; cases hi
   | cons v r ih =>
    intro i hi
    cases i with
    | zero=>rfl
    | succ i=>simpa [renameL] using ih i (by simpa using hi)
  refine .agg _ xs (by rw [len]; exact l) fun i hi=>?_
  rw [len] at hi
  rw [get cs i hi]
  have hi':=hh i hi
  generalize cs.getD i .undef=v at hi'
  generalize xs.getD i Go.undef=x at hi'
  have dat:∀ v,Rv w I (oneRho br) v x→Rv w I (upd ρ id br) (cond (datV v) v .undef) x:=fun v hv=>by
   cases hd:datV v with
   | false=>exact .undef x
   | true=>exact .dat (datV_ok hv hd)
  cases v with
  | own d g =>
   simp only [rename1]
   cases e:Nat.beq d NEW with
   | false=>exact .undef x
   | true =>
    have e:=Nat.eq_of_beq_eq_true e
    subst e
    cases hi' with
    | dat h=>cases h
    | own _ _ br' _ hd hg hh hp =>
     simp [oneRho] at hd; subst hd
     exact .own id g br x (by simp [upd]) hg hh hp
  | _=>exact dat _ hi'
 | _=>exact .undef x
def locOf:Value→Nat × Nat
 | .pointer (some ⟨b,o,none⟩)=>(b,o)
 | _=>(0,0)
theorem CallsV.mono {P:Program} {f:FuncId} {xs:Array Value} {w:World} {Q Q' : Value→World→Prop} (h:CallsV P f xs w Q) (hq:∀ v w',Q v w'→Q' v w'):CallsV P f xs w Q':=by
 rcases h with ⟨h1,h2⟩ | ⟨v,w',h1,h2⟩
 ·exact .inl ⟨h1,h2.mono fun e w' ⟨v,e1,e2⟩=>⟨v,e1,hq v w' e2⟩⟩
 ·exact .inr ⟨v,w',h1,hq v w' h2⟩
theorem callA_ok {E:Env} {f:FuncId} {D:Den} (hD:FnOk E.P f D) {dst:Option Nat} {vs:List V} {ts:List TypeId} {K:V→St→Option R} {q:R} (h:callA E D f dst vs ts S K=some q) :
  ∃ v S',K v S' = some q∧S'.fr=S.fr∧∀ w₀ I₀ O₀ ρ I a w,Rel m w₀ I₀ O₀ ρ I S a w→Good E.P w₀.toWorld I₀ O₀→∀ xs,AllRv w I ρ vs xs →
   CallsV E.P f xs.toArray w fun x w'=>∃ ρ' I',Rel m w₀ I₀ O₀ ρ' I' S' a w'∧Rv w' I' ρ' v x∧(flatL vs=true→Keeps (fun _ _=>False) w w'):=by
 unfold callA at h
 obtain ⟨vs',ls,B,h,_,hno,hlend⟩:=lendAll_ok (m:=m) vs ts 0 h
 obtain ⟨cs,B',h,hcl,hcells⟩:=loanCells_ok (m:=m) ls h
 obtain ⟨hap,h⟩:=cond_none h
 obtain ⟨hab,h⟩:=cond_none h
 obtain ⟨hpre,h⟩:=cond_none h
 have still:∀ (locs:List (Nat × Nat)) (w w' : World),Keeps (LocHas locs cs) w w'→flatL vs=true→Keeps (fun _ _=>False) w w':=fun locs w w' hk hp=>by
  have hp:=flat_noPtrL vs hp
  have e:cs=[]:=by
   have:=hno hp
   rw [this] at hcl
   exact List.eq_nil_of_length_eq_zero hcl
  subst e
  exact hk.mono fun b o _ ⟨j,p,c,_,h2,_⟩=>by cases h2
 -- the call itself
 have main:∀ w₀ I₀ O₀ ρ I a w,Rel m w₀ I₀ O₀ ρ I S a w→Good E.P w₀.toWorld I₀ O₀→∀ xs,AllRv w I ρ vs xs →
   (∀ (i:Nat) (l:Loan),ls[i]? = some l→∃ box box' c,c.length=l.sz∧lk? S.tab l.d=some box∧writeBox box l.r l.o l.g c=some box') →
   ∃ ptrs locs,PtrsOk w I ρ ls ptrs∧(∀ (i:Nat) (x:Value),ptrs[i]? = some x→∃ b p,locs[i]? = some (b,p)∧x = .pointer (some ⟨b,p,none⟩)) ∧
    CallsV E.P f xs.toArray w fun v w'=>∃ J',RetOk w w' (fun b o=>I b o∨HasOf S ρ (B++B') b o) locs cs (D.res vs' cs) v J':=by
  intro w₀ I₀ O₀ ρ I a w hr hgd xs hxs hbox
  obtain ⟨ptrs,hp,hargs⟩:=hlend w₀ I₀ O₀ ρ I a w hr xs hxs
  let J:Nat→Nat→Prop:=fun b o=>I b o∨HasOf S ρ (B++B') b o
  have lo:∀ d br b o,Live S d→ρ d=some br→br.has b o→b<w.heap.size:=fun d br b o hl hd hh=>by
   obtain ⟨⟨x,hx⟩,_⟩:=hr.alive d br b o hl hd hh
   exact lt_of_cell hx
  have full:∀ (i:Nat) (l:Loan),ls[i]? = some l→∃ x br b p c,ptrs[i]? = some x∧x = .pointer (some ⟨b,p,none⟩)∧cs[i]? = some c∧c.length=l.sz∧Live S l.d∧ρ l.d=some br∧(∀ j,j<l.sz→br.has b (p+j)) ∧
    ∀ j,j<c.length→∃ y,w.cell? ⟨b,p+j,none⟩=some y∧Rv w J noRho (c.getD j .undef) y:=by
   intro i l hl
   have hi:=(List.getElem?_eq_some_iff.1 hl).1
   have hpt:ptrs[i]? = some (ptrs[i]'(by rw [hp.1]; exact hi)):=List.getElem?_eq_getElem _
   have hcs:cs[i]? = some (cs[i]'(by omega)):=List.getElem?_eq_getElem _
   obtain ⟨box,box',c',e1,e2,e3⟩:=hbox i l hl
   obtain ⟨br₀,hd₀,hbx₀⟩:=hr.tab _ _ e2
   obtain ⟨f1,f2,f3⟩:=writeBox_size e3 hbx₀
   obtain ⟨br,b,p,g1,g2,g3,g4,_,g5,g6⟩:=ptr_real hr (hp.2 i l _ hl hpt) e2 f2 f3
   rw [hd₀] at g1; cases g1
   obtain ⟨k1,k2⟩:=hcells i l _ hl hcs
   obtain ⟨b',p',k3,k4⟩:=k2 w₀ I₀ O₀ ρ I a w hr _ (hp.2 i l _ hl hpt)
   rw [g5] at k3; cases k3
   exact ⟨_,br₀,b,_,_,hpt,g5,hcs,k1,⟨box,e2,f2⟩,hd₀,fun j hj=>g6 l.o l.sz (by omega) j hj,
    k4 J (fun _ _ h=>.inl h) fun b o hh=>.inr hh.right⟩
  have inv:∀ (i:Nat) (x:Value),ptrs[i]? = some x→∃ l,ls[i]? = some l:=fun i x hx=>by
   have:=(List.getElem?_eq_some_iff.1 hx).1
   exact ⟨ls[i]'(by rw [← hp.1]; exact this),List.getElem?_eq_getElem _⟩
  have hloc:∀ (i:Nat) (x:Value),ptrs[i]? = some x→∃ b p,(ptrs.map locOf)[i]? = some (b,p)∧x = .pointer (some ⟨b,p,none⟩):=fun i x hx=>by
   obtain ⟨l,hl⟩:=inv i x hx
   obtain ⟨x',br,b,p,c,e1,e2,_⟩:=full i l hl
   rw [hx] at e1; cases e1
   exact ⟨b,p,by simp [hx,e2,locOf],e2⟩
  have loc:∀ (i:Nat) (p:Nat × Nat) (c:List V),(ptrs.map locOf)[i]? = some p→cs[i]? = some c→∃ l br,ls[i]? = some l∧c.length=l.sz∧Live S l.d∧ρ l.d=some br∧(∀ j,j<l.sz→br.has p.1 (p.2+j)) ∧
    ∀ j,j<c.length→∃ y,w.cell? ⟨p.1,p.2+j,none⟩=some y∧Rv w J noRho (c.getD j .undef) y:=fun i p c hpi hci=>by
   have hi:=(List.getElem?_eq_some_iff.1 hci).1
   have hl:ls[i]? = some (ls[i]'(by omega)):=List.getElem?_eq_getElem _
   obtain ⟨x,br,b,p',c',e1,e2,e3,e4,e5,e6,e7,e8⟩:=full i _ hl
   rw [hci] at e3; cases e3
   have:p=(b,p'):=by simpa [e1,e2,locOf] using hpi.symm
   subst this
   exact ⟨_,br,hl,e4,e5,e6,e7,e8⟩
  refine ⟨ptrs,ptrs.map locOf,hp,hloc,?_⟩
  refine hD vs' cs hpre w J (ptrs.map locOf) xs (by simp [hp.1,hcl]) ?_ ?_ ?_ ?_ fun b o x hx=>⟨.inl (hr.held hgd b o x hx).1,(hr.held hgd b o x hx).2⟩
  ·rintro b o (hi | ⟨d,_,br,sh,rows,g,e1,e2,e3⟩)
   ·exact hr.ilt b o hi
   ·exact lo d br b o ⟨_,e1,by simp⟩ e2 e3
  ·refine hargs J (fun _ _ h=>.inl h) (fun b o hh=>.inr hh.left) _ fun i x hx=>?_
   obtain ⟨l,hl⟩:=inv i x hx
   obtain ⟨x',br,b,p,c,e1,e2,e3,_⟩:=full i l hl
   rw [hx] at e1; cases e1
   refine ⟨{ base:=some (b,p),sz:=c.length,n:=1,cap:=1,gen:=0 },?_,rfl,Nat.one_pos,b,p,rfl,e2⟩
   unfold locReal
   rw [Nat.zero_add,e3]
   simp [hx,e2,locOf]
  ·intro i p c hpi hci k hk
   obtain ⟨l,br,e1,e2,e3,e4,e5,e6⟩:=loc i p c hpi hci
   have hh:=e5 k (by omega)
   obtain ⟨y,k1,k2⟩:=e6 k hk
   refine ⟨⟨y,k1,k2⟩,(hr.alive _ br _ _ e3 e4 hh).2,?_⟩
   rintro (hi | ⟨d,hdB,br',sh,rows,g,f1,f2,f3⟩)
   ·exact hr.notI _ br _ _ e3 e4 hh hi
   ·exact apartB_spec ls (B++B') hab d hdB i l e1 (hr.apart _ d br br' _ _ e3 ⟨_,f1,by simp⟩ e4 f2 hh f3)
  ·intro i i' p p' c c' b o hpi hpi' hci hci' hb1 ho1 ho2 hb2 ho3 ho4
   obtain ⟨l,br,e1,e2,e3,e4,e5,_⟩:=loc i p c hpi hci
   obtain ⟨l',br',e1',e2',e3',e4',e5',_⟩:=loc i' p' c' hpi' hci'
   have h1:=e5 (o-p.2) (by omega)
   have h2:=e5' (o-p'.2) (by omega)
   rw [show p.2+(o-p.2)=o by omega,← hb1] at h1
   rw [show p'.2+(o-p'.2)=o by omega,← hb2] at h2
   exact apartL_spec ls hap i i' l l' e1 e1' (hr.apart _ _ br br' b o e3 e3' e4 e4' h1 h2)
 -- what the callee writes is what was lent
 have hXL:∀ (locs:List (Nat × Nat)) b o,LocHas locs cs b o→∃ (i:Nat) (l:Loan) (p:Nat × Nat),ls[i]? = some l∧locs[i]? = some p∧b=p.1∧p.2≤o∧o<p.2+l.sz:=by
  rintro locs b o ⟨i,p,c,e1,e2,e3,e4,e5⟩
  have hi:=(List.getElem?_eq_some_iff.1 e2).1
  have hl:ls[i]? = some (ls[i]'(by omega)):=List.getElem?_eq_getElem _
  have:=(hcells i _ c hl e2).1
  exact ⟨i,_,p,hl,e1,e3,e4,by omega⟩
 rcases cond_some h with ⟨hfl,h⟩ | ⟨_,h⟩
 · -- a flat answer
  have hfb:flatBx (D.res vs' cs).bx=true:=by
   cases e:flatRet E f with
   | false=>rw [e] at hfl; cases hfl
   | true=>rw [e] at hfl; exact hfl
  obtain ⟨hfv,h⟩:=cond_none h
  obtain ⟨S',h,b1,b2,b3,b4⟩:=backAll_spec ls _ S h hap
  refine ⟨_,S',h,b1,fun w₀ I₀ O₀ ρ I a w hr hgd xs hxs=>?_⟩
  obtain ⟨ptrs,locs,hp,hloc,hcall⟩:=main w₀ I₀ O₀ ρ I a w hr hgd xs hxs (fun i l hl=>by
   have hi:=(List.getElem?_eq_some_iff.1 hl).1
   obtain ⟨k1,_,box,box',k2,k3,_⟩:=b4 i l _ hl (List.getElem?_eq_getElem (by omega))
   exact ⟨box,box',_,k1,k2,k3⟩)
  refine hcall.mono fun x w' ⟨J',ret⟩=>⟨ρ,I,?_,?_,still locs w w' ret.keeps⟩
  ·refine (hr.back (fun _=>False) hp hloc hap ret.keeps (hXL locs) b1 b2 (fun _ h=>h.elim) (fun d _ hd=>b3 d hd) (fun i l c hl hc=>by
     obtain ⟨k1,_,k2⟩:=b4 i l c hl hc; exact ⟨k1,k2⟩) (fun _ _ h=>h) (fun _ _ h=>.inl h) ?_).1
   intro i p c hc hpi j hj
   have hi:=(List.getElem?_eq_some_iff.1 hc).1
   obtain ⟨_,e2⟩:=ret.bx i (cs[i]'(by omega)) c p (List.getElem?_eq_getElem _) hc hpi
   obtain ⟨y,f1,f2⟩:=e2 j hj
   exact ⟨y,f1,.dat (flatV_ok f2 (flatL_spec c (flatBx_spec _ hfb i c hc) j hj) w' I)⟩
  ·rcases ret.val with ⟨_,hv⟩ | ⟨_,_,_,_,_,_,hv⟩
   ·exact flatRes_ok hv hfv w' I ρ
   ·exact flatRes_ok hv hfv w' I ρ
 ·obtain ⟨S₂,h,b1,b2,b3,b4⟩:=backAll_spec ls _ _ h hap
  obtain ⟨k1,k2,k3⟩:=killAll_spec (B++B') S
  have hnl:∀ (i:Nat) (l:Loan),ls[i]? = some l→lk? (killAll (B++B') S).tab l.d=lk? S.tab l.d:=fun i l hl =>
   k3 l.d fun hh=>apartB_spec ls (B++B') hab l.d hh.1 i l hl rfl
  have step:∀ w₀ I₀ O₀ ρ I a w,Rel m w₀ I₀ O₀ ρ I S a w→Good E.P w₀.toWorld I₀ O₀→∀ xs,AllRv w I ρ vs xs→CallsV E.P f xs.toArray w fun v w'=>∃ J' locs,
    RetOk w w' (fun b o=>I b o∨HasOf S ρ (B++B') b o) locs cs (D.res vs' cs) v J'∧Rel m w₀ I₀ O₀ ρ J' S₂ a w'∧∀ d,Live S₂ d→Live S d:=by
   intro w₀ I₀ O₀ ρ I a w hr hgd xs hxs
   obtain ⟨ptrs,locs,hp,hloc,hcall⟩:=main w₀ I₀ O₀ ρ I a w hr hgd xs hxs (fun i l hl=>by
    have hi:=(List.getElem?_eq_some_iff.1 hl).1
    obtain ⟨k1,_,box,box',k2,k3,_⟩:=b4 i l _ hl (List.getElem?_eq_getElem (by omega))
    exact ⟨box,box',_,k1,(hnl i l hl) ▸ k2,k3⟩)
   refine hcall.mono fun x w' ⟨J',ret⟩=>⟨J',locs,ret,?_⟩
   refine hr.back (fun d=>d∈B++B'∧IsSl S d) hp hloc hap ret.keeps (hXL locs) (b1.trans k1) b2 (fun d hd=>?_) (fun d hd hd'=>?_) (fun i l c hl hc=>?_) (fun b o hi=>ret.mono b o (.inl hi)) (fun b o hj=>?_) ?_
   ·have hn:=fun i l hl=>apartB_spec ls (B++B') hab d hd.1 i l hl
    exact ⟨hd.2,(b3 d hn).trans (k2 d hd.1 hd.2),hn⟩
   ·rw [b3 d hd',k3 d hd]
   ·obtain ⟨e1,_,box,box',e2,e3,e4⟩:=b4 i l c hl hc
    exact ⟨e1,box,box',(hnl i l hl) ▸ e2,e3,e4⟩
   ·by_cases hb:b<w.heap.size
    ·rcases ret.old b o hj hb with h1 | ⟨d,hd,br,sh,rows,g,e1,e2,e3⟩
     ·exact .inl h1
     ·exact .inr (.inr ⟨d,br,⟨hd,sh,rows,g,e1⟩,e2,e3⟩)
    ·exact .inr (.inl ⟨by omega,ret.lt b o hj⟩)
   ·intro i p c hc hpi j hj
    have hi:=(List.getElem?_eq_some_iff.1 hc).1
    obtain ⟨_,e2⟩:=ret.bx i (cs[i]'(by omega)) c p (List.getElem?_eq_getElem _) hc hpi
    obtain ⟨y,f1,f2⟩:=e2 j hj
    exact ⟨y,f1,f2.keep (fun _ _ _=>rfl) (fun _ _ h=>h) (evo_no ρ)⟩
  split at h
  ·rename_i hnb
   refine ⟨_,S₂,h,b1.trans k1,fun w₀ I₀ O₀ ρ I a w hr hgd xs hxs=>(step w₀ I₀ O₀ ρ I a w hr hgd xs hxs).mono fun x w' ⟨J',locs,ret,hr',_⟩=>⟨ρ,J',hr',?_,still locs w w' ret.keeps⟩⟩
   rcases ret.val with ⟨_,hv⟩ | ⟨_,_,hn,_⟩
   ·exact hv.keep (fun _ _ _=>rfl) (fun _ _ h=>h) (evo_no ρ)
   ·rw [hnb] at hn; cases hn
  ·rename_i box hnb
   split at h
   ·rename_i d
    unfold putBox at h
    split at h
    ·rename_i hid
     refine ⟨_,_,h,b1.trans k1,fun w₀ I₀ O₀ ρ I a w hr hgd xs hxs=>(step w₀ I₀ O₀ ρ I a w hr hgd xs hxs).mono fun x w' ⟨J',locs,ret,hr',hlv⟩=>?_⟩
     rcases ret.val with ⟨hn,_⟩ | ⟨box',br,hn,hnd,hbx,hhas,hv⟩
     ·rw [hnb] at hn; cases hn
     ·rw [hnb] at hn; cases hn
      obtain ⟨f1,f2⟩:=hr'.addBox hid (br:=br) (box:=box) (hbx.keep (fun _ _ _=>rfl) (fun _ _ h=>h) (evo_no _) (fun _ _ _=>rfl) fun b cur e f hh=>⟨cur,hh,rfl⟩) (fun b o hh=>by
       obtain ⟨g1,g2,g3,g4⟩:=hhas b o hh
       refine ⟨Nat.le_trans hr.keeps.size g1,g4,g2,g3,fun d' br' hl hd hh'=>?_⟩
       obtain ⟨⟨y,hy⟩,_⟩:=hr.alive d' br' b o (hlv d' hl) hd hh'
       have:=lt_of_cell hy; omega)
      exact ⟨_,J',f1,rename_ok hv,still locs w w' ret.keeps⟩
    ·cases h
   ·cases h
  ·cases h
theorem Dat.flat {w:World} {I J:Nat→Nat→Prop} {s:Sh} {v:V} {x:Value} (h:Dat w I v x) (hf:fits s v=true) (hs:flatSh [s]=true):Dat w J v x:=by
 cases h with
 | bool b=>exact .bool b
 | int k n=>exact .int k n
 | str s=>exact .str s
 | nils sh=>cases s<;>first | cases hf | cases hs
 | fn0 f=>cases s<;>cases hf
 | slc=>cases s<;>first | cases hf | cases hs
theorem flatSh_at:∀ (sh:List Sh),flatSh sh=true→∀ j,j<sh.length→flatSh [sh.getD j .oth]=true
 | [],_,j,hj=>by cases hj
 | s::r,h,j,hj=>by
  have h2:flatSh [s]=true∧flatSh r=true:=by cases s<;>first | exact ⟨rfl,h⟩ | cases h
  cases j with
  | zero=>exact h2.1
  | succ j=>exact flatSh_at r h2.2 j (by simpa using hj)
theorem BoxR.flat {w:World} {I J:Nat→Nat→Prop} {ρ ρ' : Nat→Option Real} {sh:List Sh} {rows:List (List V)} {g g' : Nat} {br:Real} (hs:flatSh sh=true) (h:BoxR w I ρ (.sl sh rows g) br):BoxR w J ρ' (.sl sh rows g') { br with gen:=g' }:=by
 obtain ⟨e1,e2,e3,e4,e5,e6,e7,e8⟩:=h
 refine ⟨e1,e2,rfl,e4,e5,e6,fun b o hb i j hi hj=>?_,e8⟩
 obtain ⟨x,k1,k2⟩:=e7 b o hb i j hi hj
 have hf:=fitsRows_spec _ _ e5 i hi
 exact ⟨x,k1,k2.flat ((fitsL_spec _ _ hf).2 j hj) (flatSh_at sh hs j hj)⟩
theorem callM_ok {P:Program} {D:MDen} {f:FuncId} (hF:FnOkM P f D) {d g:Nat} {rest:List V} {K:V→St→Option R} {q:R} (h:callM D d g rest S K=some q) :
  ∃ v S',K v S' = some q∧S'.fr=S.fr∧∀ w₀ I₀ O₀ ρ I a w,Rel m w₀ I₀ O₀ ρ I S a w→Good P w₀.toWorld I₀ O₀→∀ xs,AllRv w I ρ (.own d g::rest) xs →
   CallsV P f xs.toArray w fun x w'=>∃ ρ' I',Rel m w₀ I₀ O₀ ρ' I' S' a w'∧Rv w' I' ρ' v x∧(flatL (.own d g::rest)=true→Keeps (fun _ _=>False) w w'):=by
 unfold callM at h
 obtain ⟨sh,rows,ht,h⟩:=withOwn_spec h
 obtain ⟨hc,h⟩:=cond_none h
 obtain ⟨hdl,hfs⟩:datL rest=true∧flatSh sh=true:=by
  cases e:datL rest with
  | true=>rw [e] at hc; exact ⟨rfl,hc⟩
  | false=>rw [e] at hc; cases hc
 obtain ⟨hrows,h⟩:=cond_none h
 ·refine ⟨_,_,h,rfl,fun w₀ I₀ O₀ ρ I a w hr hgd xs hxs=>?_⟩
  obtain ⟨x,xs',rfl,hx1,hx2⟩:=hxs.uncons
  obtain ⟨br,hd,hb,he⟩:=own_real ht hr hx1
  have hg:br.gen=g:=hb.2.2.1
  have hlive:Live S d:=⟨_,ht,by simp⟩
  have hdat:AllRv w I noRho rest xs':=⟨hx2.1,fun i hi=>.dat (datV_ok (hx2.2 i hi) (datL_spec _ hdl i hi))⟩
  have lo:∀ d br b o,Live S d→ρ d=some br→br.has b o→b<w.heap.size:=fun d br b o hl hd hh=>by
   obtain ⟨⟨x,hx⟩,_⟩:=hr.alive d br b o hl hd hh
   exact lt_of_cell hx
  have main:=hF rest sh rows hrows hfs w I { br with gen:=0 } xs' hr.ilt hdat (hb.flat hfs) (fun b o hh=>⟨(hr.alive d br b o hlive hd hh).1,(hr.alive d br b o hlive hd hh).2,hr.notI d br b o hlive hd hh⟩) (hr.held hgd)
  rw [he]
  refine main.mono fun v w' ⟨hk,br',hb',hv,hh'⟩=>?_
  let br₂:Real:={ br' with gen:=g+1 }
  have hup:∀ d',d' ≠ d→lk? (up S.tab d (.sl sh (D.res rest sh rows) (g+1))) d' = lk? S.tab d':=fun d' e=>by rw [lk_up,if_neg e]
  have hds:lk? (up S.tab d (.sl sh (D.res rest sh rows) (g+1))) d=some (.sl sh (D.res rest sh rows) (g+1)):=by rw [lk_up,if_pos rfl,ht]; rfl
  have hρ' : upd ρ d br₂ d=some br₂:=by simp [upd]
  have hρo:∀ d',d' ≠ d→upd ρ d br₂ d' = ρ d':=fun d' e=>by simp [upd,e]
  refine ⟨upd ρ d br₂,I,?_,?_,fun h=>by cases h⟩
  ·refine hr.step (· = d) hk (fun b o _ hX=>⟨d,br,rfl,hlive,hd,hX⟩) (fun _ _ h=>h) (fun _ _ h=>.inl h) (fun d' b' hb''=>?_) rfl (fun d' hn=>⟨hρo d' hn,fun box hbx=>by rwa [hup d' hn] at hbx⟩) (fun d' b' hd'=>?_)
    (fun d' box e hbx=>?_) (fun d' b' b o e hl hd' hh=>?_) (fun d' sh' rows'' gen b' b o e hbx hd' hh=>?_) (fun d' b' b o e hl hd' hh _=>?_) (fun d' d'' _ _ _ _ e e' _ _ _ _ _ _ _=>e.trans e'.symm) (fun d' cells hbx=>?_) (fun d' e=>?_)
   ·by_cases e:d' = d
    ·subst e
     rw [hd] at hb''; cases hb''
     exact ⟨br₂,hρ',.inr (by show br.gen<g+1; omega)⟩
    ·exact ⟨b',by rw [hρo d' e]; exact hb'',.inl rfl⟩
   ·by_cases e:d' = d
    ·subst e; exact ⟨_,hds⟩
    ·rw [hρo d' e] at hd'
     obtain ⟨box,hbx⟩:=hr.dom d' b' hd'
     exact ⟨box,by show lk? (up _ _ _) d' = _; rw [hup d' e]; exact hbx⟩
   ·subst e
    have hbx:lk? (up S.tab d' (.sl sh (D.res rest sh rows) (g+1))) d' = some box:=hbx
    rw [hds] at hbx; cases hbx
    exact ⟨br₂,hρ',hb'.flat hfs⟩
   ·subst e
    rw [hρ'] at hd'; cases hd'
    rcases (hh' b o hh).1 with k | k
    ·exact .inl ⟨br,hlive,hd,k⟩
    ·exact .inr k
   ·subst e
    rw [hρ'] at hd'; cases hd'
    rcases (hh' b o hh).1 with k | k
    ·exact .inl ⟨_,_,_,br,ht,hd,k⟩
    ·exact .inr k
   ·subst e
    rw [hρ'] at hd'; cases hd'
    exact (hh' b o hh).2
   ·have e:d' ≠ d:=fun e=>by subst e; rw [ht] at hbx; cases hbx
    exact ⟨⟨cells,by show lk? (up _ _ _) d' = _; rw [hup d' e]; exact hbx⟩,hρo d' e⟩
   ·subst e; rw [ht]; simp
  ·exact .own d (g+1) br₂ v hρ' (Nat.le_refl _) (fun _=>hv) ⟨_,_,_,hv⟩
theorem callG_ok {E:Env} (hG:GOk E) {f:FuncId} {dst:Option Nat} {vs:List V} {ts:List TypeId} {K:V→St→Option R} {q:R} (h:callG E f dst vs ts S K=some q) :
  ∃ v S',K v S' = some q∧S'.fr=S.fr∧∀ w₀ I₀ O₀ ρ I a w,Rel m w₀ I₀ O₀ ρ I S a w→Good E.P w₀.toWorld I₀ O₀→∀ xs,AllRv w I ρ vs xs →
   CallsV E.P f xs.toArray w fun x w'=>∃ ρ' I',Rel m w₀ I₀ O₀ ρ' I' S' a w'∧Rv w' I' ρ' v x∧(flatL vs=true→Keeps (fun _ _=>False) w w'):=by
 unfold callG at h
 split at h
 ·cases h
 ·rename_i D hD
  exact callA_ok (hG.1 f D hD) h
theorem callN_ok {E:Env} (hG:GOk E) {f:FuncId} {dst:Option Nat} {vs:List V} {ts:List TypeId} {K:V→St→Option R} {q:R} (h:callN E f dst vs ts S K=some q) :
  ∃ v S',K v S' = some q∧S'.fr=S.fr∧∀ w₀ I₀ O₀ ρ I a w,Rel m w₀ I₀ O₀ ρ I S a w→Good E.P w₀.toWorld I₀ O₀→∀ xs,AllRv w I ρ vs xs →
   CallsV E.P f xs.toArray w fun x w'=>∃ ρ' I',Rel m w₀ I₀ O₀ ρ' I' S' a w'∧Rv w' I' ρ' v x∧(flatL vs=true→Keeps (fun _ _=>False) w w'):=by
 unfold callN at h
 split at h
 ·exact callG_ok hG h
 ·rename_i F hF
  split at h
  ·exact callM_ok (hG.2.1 f F hF) h
  ·exact callG_ok hG h
theorem Rel.noFr {w₀:Base} {I₀ O₀ I:Nat→Nat→Prop} {ρ:Nat→Option Real} {a:Act} {w:World} (h:Rel m w₀ I₀ O₀ ρ I S a w):Rel 0 w₀ I₀ O₀ ρ I ⟨[],S.tab⟩ act0 w :=
 ⟨(fun _ _ h=>by cases h),rfl,rfl,h.tab,h.dom,h.apart,h.notI,h.org,h.slorg,h.alive,h.ilt,h.imono,h.iold,h.keeps,h.lent,h.hid,h.evo⟩
theorem callFn_ok {E:Env} (hG:GOk E) {f:FuncId} {dst:Option Nat} {vs:List V} {ts:List TypeId} {K:V→St→Option R} {q:R} (h:callFn E f dst vs ts S K=some q) :
  ∃ v S',K v S' = some q∧S'.fr=S.fr∧∀ w₀ I₀ O₀ ρ I a w,Rel m w₀ I₀ O₀ ρ I S a w→Good E.P w₀.toWorld I₀ O₀→∀ xs,AllRv w I ρ vs xs →
   CallsV E.P f xs.toArray w fun x w'=>∃ ρ' I',Rel m w₀ I₀ O₀ ρ' I' S' a w'∧Rv w' I' ρ' v x∧(flatL vs=true→Keeps (fun _ _=>False) w w'):=by
 unfold callFn at h
 split at h
 ·exact callN_ok hG h
 ·rename_i F hF
  obtain ⟨hfl,h⟩:=none_cond h
  obtain ⟨hp,hs⟩:=hG.2.2 f F hF
  obtain ⟨_,⟨v,tab',rfl⟩,h1⟩:=hp _ _ _ _ h
  rw [h1] at h
  refine ⟨v,_,h,rfl,fun w₀ I₀ O₀ ρ I a w hr hgd xs hxs=>?_⟩
  refine (hs vs S.tab (fun a b=>@ite _ (a=v∧b=tab') (Classical.propDecidable _) (some q) none) q (by rw [h1]; simp) w₀ I₀ O₀ ρ I w hr.noFr hgd xs hxs).mono fun x w' ⟨v₂,tab₂,ρ',I',k0,k1,k2,k3,k4,k5⟩=>?_
  split at k0
  ·rename_i e
   obtain ⟨rfl,rfl⟩:=e
   exact ⟨ρ',I',⟨fun t v hv=>(hr.fr t v hv).keep k5 k4 k3,hr.dfr,hr.size,k1.tab,k1.dom,k1.apart,k1.notI,k1.org,k1.slorg,k1.alive,k1.ilt,k1.imono,k1.iold,k1.keeps,k1.lent,k1.hid,k1.evo⟩,k2,fun e=>by rw [e] at hfl; cases hfl⟩
  ·cases k0
end
end Go.Ev

/- Every operation,and a row of operations in the listed order: lemmas; the callees' soundness is a premise. -/
namespace Go.Ev
open Go Go.RowKit
section
variable {m:Nat} {S:St} {dst:Option Tmp} {ty:TypeId} {pos:String} {after:Array Edge} {guard:Option (Nat × Bool)}
theorem AllRv.append {w:World} {I:Nat→Nat→Prop} {ρ:Nat→Option Real} {vs vs' : List V} {xs xs' : List Value} (h:AllRv w I ρ vs xs) (h' : AllRv w I ρ vs' xs'):AllRv w I ρ (vs++vs') (xs++xs'):=by
 refine ⟨by simp [h.1,h'.1],fun i hi=>?_⟩
 simp only [List.getD_eq_getElem?_getD]
 by_cases hl:i<vs.length
 ·rw [List.getElem?_append_left hl,List.getElem?_append_left (by rw [← h.1]; exact hl),← List.getD_eq_getElem?_getD,← List.getD_eq_getElem?_getD]
  exact h.2 i hl
 ·rw [List.getElem?_append_right (by omega),List.getElem?_append_right (by rw [← h.1]; omega),← h.1,← List.getD_eq_getElem?_getD,← List.getD_eq_getElem?_getD]
  exact h'.2 _ (by rw [List.length_append] at hi; omega)
theorem AllRv.args {w₀:Base} {I₀ O₀:Nat→Nat→Prop} {ρ:Nat→Option Real} {I:Nat→Nat→Prop} {a:Act} {w:World} {P:Program} (hr:Rel m w₀ I₀ O₀ ρ I S a w) :
  ∀ (xs:List Operand) (ts:List TypeId),xs.length=ts.length→AllRv w I ρ (xs.zipWith (fun x t=>S.eval P t x) ts) (xs.map a.eval)
 | [],[],_=>⟨rfl,fun i hi=>by cases hi⟩
 | [],_::_,h=>by cases h
 | _::_,[],h=>by cases h
 | x::xs,t::ts,h=>by
  obtain ⟨h1,h2⟩:=AllRv.args (P:=P) hr xs ts (by simpa using h)
  refine ⟨by simp only [List.zipWith_cons_cons,List.length_cons,List.map_cons,h1],fun i hi=>?_⟩
  cases i with
  | zero=>exact eval_ok hr P t x
  | succ i=>exact h2 i (by simpa using hi)
def OpMild (P:Program) (m:Nat) (S:St) (o:Oper) (v:V) (S' : St) (M:Prop):Prop :=
 S'.fr=S.fr∧∀ w₀ I₀ O₀ ρ I a w,Rel m w₀ I₀ O₀ ρ I S a w→Good P w₀.toWorld I₀ O₀→∀ (next:Act→World→Prop) (Q:Exit→Act→World→Prop),
  (∀ x w' ρ' I',Rel m w₀ I₀ O₀ ρ' I' S' a w'→Rv w' I' ρ' v x→(M→Keeps (fun _ _=>False) w w')→next (a.put o.dst x) w')→o.wp P a w next Q
theorem OpMild.ok {P:Program} {m:Nat} {S S' : St} {o:Oper} {v:V} {M:Prop} (h:OpMild P m S o v S' M):OpOk P m S o v S' :=
 ⟨h.1,fun w₀ I₀ O₀ ρ I a w hr hgd next Q hn=>h.2 w₀ I₀ O₀ ρ I a w hr hgd next Q fun x w' ρ' I' h1 h2 _=>hn x w' ρ' I' h1 h2⟩
theorem ok_callMild {E:Env} (hG:GOk E) {c:Call} {fo:Operand} (hc:c.callee = .value fo) {f:FuncId} {first caps:List V} (hf:S.eval E.P ty fo = .fn f first caps)
  (hl:c.args.toList.length=c.argTypes.toList.length) {ts:List TypeId} {K:V→St→Option R} {q:R}
  (h:callFn E f dst (first++c.args.toList.zipWith (fun x t=>S.eval E.P t x) c.argTypes.toList++caps) ts S K=some q) :
  ∃ v S',K v S' = some q∧OpMild E.P m S ⟨dst,.call c,ty,pos,after,guard⟩ v S' (flatL (first++c.args.toList.zipWith (fun x t=>S.eval E.P t x) c.argTypes.toList++caps)=true):=by
 obtain ⟨v,S',h1,h2,h3⟩:=callFn_ok (m:=m) hG h
 refine ⟨v,S',h1,h2,fun w₀ I₀ O₀ ρ I a w hr hgd next Q hn=>?_⟩
 have hv:=eval_ok hr E.P ty fo
 rw [hf] at hv
 have harg:=AllRv.args (P:=E.P) hr c.args.toList c.argTypes.toList hl
 obtain ⟨xs,ys,hfe,l1,r1,l2,r2⟩:=hv.fn_spec
 have hall:=h3 w₀ I₀ O₀ ρ I a w hr hgd (xs++c.args.toList.map a.eval++ys) ((AllRv.append ⟨l1,r1⟩ harg).append ⟨l2,r2⟩)
 have he:(execOp a.eval ⟨dst,.call c,ty,pos,after,guard⟩).run E.P w=(callFunc f (xs++c.args.toList.map a.eval++ys).toArray).run E.P w:=by
  have e:(xs++c.args.toList.map a.eval++ys).toArray=(xs.toArray++c.args.map a.eval)++ys.toArray:=by
   apply Array.toList_inj.1; simp
  rw [e]
  simp only [execOp,resolve,hc,hfe,Deferred.ofValue,pure_bind,invoke]
 unfold Oper.wp
 rcases hall with ⟨g1,g2⟩ | ⟨v',w',g1,ρ',I',g2,g3,g4⟩
 ·rw [he,g1,Oper.upon_enter]
  refine g2.mono fun e w' ⟨v',e1,ρ',I',g2,g3,g4⟩=>?_
  subst e1
  exact hn v' w' ρ' I' g2 g3 g4
 ·rw [he,g1,Oper.upon_value]
  exact hn v' w' ρ' I' g2 g3 g4
theorem ok_callValue {E:Env} (hG:GOk E) {c:Call} {fo:Operand} (hc:c.callee = .value fo) {f:FuncId} {first caps:List V} (hf:S.eval E.P ty fo = .fn f first caps)
  (hl:c.args.toList.length=c.argTypes.toList.length) {ts:List TypeId} {K:V→St→Option R} {q:R}
  (h:callFn E f dst (first++c.args.toList.zipWith (fun x t=>S.eval E.P t x) c.argTypes.toList++caps) ts S K=some q) :
  ∃ v S',K v S' = some q∧OpOk E.P m S ⟨dst,.call c,ty,pos,after,guard⟩ v S':=by
 obtain ⟨v,S',h1,h2⟩:=ok_callMild (m:=m) hG hc hf hl h
 exact ⟨v,S',h1,h2.ok⟩
theorem cond_and {a b:Bool} (h:cond a b false=true):a=true∧b=true:=by cases a<;>cases b<;>simp_all
theorem evOp_ok {E:Env} (hG:GOk E) {o:Oper} {K:V→St→Option R} {q:R} (h:evOp E S o K=some q) :
  ∃ v S',K v S' = some q∧OpOk E.P m S o v S':=by
 obtain ⟨dst,op,ty,pos,after,guard⟩:=o
 unfold evOp at h
 simp only at h
 split at h
 all_goals rename_i hop; try subst hop
 ·exact ⟨_,_,h,(ok_move _).ok⟩
 ·exact ⟨_,_,h,(ok_assign _).ok⟩
 ·split at h
  ·rename_i t hc
   split at h
   ·rename_i hx hy
    exact ⟨_,_,h,(ok_pick_bool hc hx hy).ok⟩
   ·cases t with
    | true=>exact ⟨_,_,h,(ok_pick hc ⟨fun _=>rfl,fun e=>nomatch e⟩).ok⟩
    | false=>exact ⟨_,_,h,(ok_pick hc ⟨(fun e=>nomatch e),fun _=>rfl⟩).ok⟩
  ·cases h
 ·split at h
  ·exact ok_alloc h
  ·cases h
 ·split at h
  ·rcases cond_some h with ⟨_,h⟩ | ⟨_,h⟩
   ·exact ok_boxC h
   ·exact ok_box h
  ·cases h
 ·split at h
  ·rename_i hu
   obtain ⟨h1,h⟩:=cond_none h
   split at h
   ·rename_i hb
    have h1':=cond_and h1
    exact ⟨_,_,h,(ok_build hu h1'.1 h1'.2 hb).ok⟩
   ·cases h
  ·cases h
 ·split at h
  ·rename_i hu
   obtain ⟨h1,h⟩:=cond_none h
   exact ok_buildSlice hu h1 h
  ·cases h
 ·obtain ⟨h1,h⟩:=cond_none h
  obtain ⟨v,h2,h3⟩:=ok_load (S:=S) (K:=fun v=>K v S) h1 h
  exact ⟨v,_,h2,h3.ok⟩
 ·exact ok_store h
 ·split at h
  ·rename_i hx; exact ⟨_,_,h,(ok_nilCheck hx (.inl ⟨_,_,_,_,rfl⟩)).ok⟩
  ·rename_i hx; exact ⟨_,_,h,(ok_nilCheck hx (.inr (.inr (.inr ⟨_,_,_,_,_,_,_,rfl⟩)))).ok⟩
  ·rename_i hx; exact ⟨_,_,h,(ok_nilCheck hx (.inr (.inl ⟨_,rfl⟩))).ok⟩
  ·rename_i hx; exact ⟨_,_,h,(ok_nilCheck hx (.inr (.inr (.inl ⟨_,_,_,rfl⟩)))).ok⟩
  ·cases h
 ·obtain ⟨v,h2,h3⟩:=ok_binOp h
  exact ⟨v,_,h2,h3.ok⟩
 ·obtain ⟨v,h2,h3⟩:=ok_unOp h
  exact ⟨v,_,h2,h3.ok⟩
 ·obtain ⟨v,h2,h3,_⟩:=ok_convert h
  exact ⟨v,_,h2,h3⟩
 ·exact ⟨_,_,h,(ok_makeFunc).ok⟩
 ·obtain ⟨v,S',h2,h3,_⟩:=ok_slice h
  exact ⟨v,S',h2,h3⟩
 ·split at h
  ·rename_i hf
   obtain ⟨v,h2,h3⟩:=ok_fieldAddr (S:=S) (K:=fun v=>K v S) hf h
   exact ⟨v,_,h2,h3.ok⟩
  ·cases h
 ·split at h
  ·rename_i hf hx
   obtain ⟨h1,h⟩:=cond_none h
   obtain ⟨h2,h⟩:=cond_none h
   obtain ⟨h3,h⟩:=none_cond h
   exact ⟨_,_,h,(ok_field hf hx h1 (Nat.le_of_ble_eq_true h2) (fun e=>by rw [e] at h3; cases h3)).ok⟩
  ·cases h
 ·obtain ⟨v,h2,h3⟩:=ok_indexAddr h
  exact ⟨v,_,h2,h3.ok⟩
 ·unfold ints at h
  split at h
  ·rename_i hi
   split at h
   ·rename_i hu hx
    obtain ⟨h1,h⟩:=cond_none h
    exact ⟨_,_,h,(ok_index_str hu hx hi (of_decide_eq_true h1)).ok⟩
   ·rename_i hu hx
    obtain ⟨h1,h⟩:=cond_none h
    obtain ⟨h2,h⟩:=cond_none h
    obtain ⟨h3,h⟩:=cond_none h
    have h2':=cond_and h2
    have h2'':=cond_and h2'.2
    exact ⟨_,_,h,(ok_index_arr hu hx hi h1 (blt_spec h2'.1) (Nat.eq_of_beq_eq_true h2''.1) h2''.2 (of_decide_eq_true h3)).ok⟩
   ·cases h
  ·cases h
 ·split at h
  ·rename_i hx
   split at h
   ·rename_i hv; exact ⟨_,_,h,(ok_extract hx hv).ok⟩
   ·cases h
  ·cases h
 ·split at h
  ·rename_i hu
   unfold ints at h
   split at h
   ·rename_i hl
    split at h
    ·rename_i hc
     obtain ⟨h1,h⟩:=cond_none h
     obtain ⟨h2,h⟩:=cond_none h
     exact ok_make hu hl hc h1 (of_decide_eq_true h2) h
    ·cases h
   ·cases h
  ·cases h
 ·rename_i c
  split at h
  ·rename_i hc
   split at h
   ·rename_i ha ht
    obtain ⟨v,h2,h3⟩:=ok_len hc ha ht h
    exact ⟨v,_,h2,h3.ok⟩
   ·cases h
  ·rename_i hc
   split at h
   ·rename_i ha ht
    obtain ⟨v,h2,h3⟩:=ok_cap hc ha ht h
    exact ⟨v,_,h2,h3.ok⟩
   ·cases h
  ·rename_i hc
   split at h
   ·rename_i ha
    split at h
    ·rename_i hx hy; exact ⟨_,_,h,(ok_min hc ha hx hy).ok⟩
    ·cases h
   ·cases h
  ·rename_i hc
   split at h
   ·rename_i ha
    split at h
    ·rename_i hx hy; exact ⟨_,_,h,(ok_max hc ha hx hy).ok⟩
    ·cases h
   ·rename_i ha
    split at h
    ·rename_i hx
     obtain ⟨n,h2,h3⟩:=ok_maxN hc ha hx h
     exact ⟨_,_,h2,h3.ok⟩
    ·cases h
   ·cases h
  ·rename_i hc
   split at h
   ·rename_i ha ht; exact ok_append hc ha ht h
   ·cases h
  ·rename_i hc
   split at h
   ·rename_i hf
    obtain ⟨h1,h⟩:=cond_none h
    exact ok_callValue hG hc hf (Nat.eq_of_beq_eq_true h1) h
   ·cases h
  ·cases h
 ·cases h
theorem evOp_pure {E:Env} {o:Oper} (hrd:reader E.P o.op=true) (hok:rdOk E.P S o=true) {K:V→St→Option R} {q:R} (h:evOp E S o K=some q) :
  ∃ v,K v S=some q∧OpRead E.P m S o v:=by
 obtain ⟨dst,op,ty,pos,after,guard⟩:=o
 have mk:(∃ v,K v S=some q∧OpPure E.P m S ⟨dst,op,ty,pos,after,guard⟩ v)→∃ v,K v S=some q∧OpRead E.P m S ⟨dst,op,ty,pos,after,guard⟩ v :=
  fun ⟨v,h1,h2⟩=>⟨v,h1,h2.read⟩
 unfold evOp at h
 simp only at h hrd
 split at h
 all_goals rename_i hop; try subst hop
 all_goals try (cases hrd; done)
 ·exact mk ⟨_,h,ok_move _⟩
 ·exact mk ⟨_,h,ok_assign _⟩
 ·split at h
  ·rename_i t hc
   split at h
   ·rename_i hx hy
    exact mk ⟨_,h,ok_pick_bool hc hx hy⟩
   ·cases t with
    | true=>exact mk ⟨_,h,ok_pick hc ⟨fun _=>rfl,fun e=>nomatch e⟩⟩
    | false=>exact mk ⟨_,h,ok_pick hc ⟨(fun e=>nomatch e),fun _=>rfl⟩⟩
  ·cases h
 ·split at h
  ·rename_i hu
   obtain ⟨h1,h⟩:=cond_none h
   split at h
   ·rename_i hb
    have h1':=cond_and h1
    exact mk ⟨_,h,ok_build hu h1'.1 h1'.2 hb⟩
   ·cases h
  ·cases h
 ·obtain ⟨h1,h⟩:=cond_none h
  obtain ⟨v,h2,h3⟩:=ok_load (S:=S) (K:=fun v=>K v S) h1 h
  exact ⟨v,h2,h3⟩
 ·split at h
  ·rename_i hx; exact mk ⟨_,h,ok_nilCheck hx (.inl ⟨_,_,_,_,rfl⟩)⟩
  ·rename_i hx; exact mk ⟨_,h,ok_nilCheck hx (.inr (.inr (.inr ⟨_,_,_,_,_,_,_,rfl⟩)))⟩
  ·rename_i hx; exact mk ⟨_,h,ok_nilCheck hx (.inr (.inl ⟨_,rfl⟩))⟩
  ·rename_i hx; exact mk ⟨_,h,ok_nilCheck hx (.inr (.inr (.inl ⟨_,_,_,rfl⟩)))⟩
  ·cases h
 ·obtain ⟨v,h2,h3⟩:=ok_binOp h
  exact ⟨v,h2,h3⟩
 ·obtain ⟨v,h2,h3⟩:=ok_unOp h
  exact mk ⟨v,h2,h3⟩
 ·obtain ⟨v,h2,_,h3⟩:=ok_convert h
  exact ⟨v,h2,h3 hrd⟩
 ·exact mk ⟨_,h,ok_makeFunc⟩
 ·obtain ⟨v,S',h2,_,h3⟩:=ok_slice (m:=m) (dst:=dst) (pos:=pos) (after:=after) (guard:=guard) h
  obtain ⟨e,h4⟩:=h3 fun d g e=>by
   unfold rdOk at hok
   simp only [e] at hok
   cases hok
  subst e
  exact ⟨v,h2,h4⟩
 ·split at h
  ·rename_i hf
   obtain ⟨v,h2,h3⟩:=ok_fieldAddr (S:=S) (K:=fun v=>K v S) hf h
   exact mk ⟨v,h2,h3⟩
  ·cases h
 ·split at h
  ·rename_i hf hx
   obtain ⟨h1,h⟩:=cond_none h
   obtain ⟨h2,h⟩:=cond_none h
   obtain ⟨h3,h⟩:=none_cond h
   exact mk ⟨_,h,ok_field hf hx h1 (Nat.le_of_ble_eq_true h2) (fun e=>by rw [e] at h3; cases h3)⟩
  ·cases h
 ·obtain ⟨v,h2,h3⟩:=ok_indexAddr h
  exact mk ⟨v,h2,h3⟩
 ·unfold ints at h
  split at h
  ·rename_i hi
   split at h
   ·rename_i hu hx
    obtain ⟨h1,h⟩:=cond_none h
    exact mk ⟨_,h,ok_index_str hu hx hi (of_decide_eq_true h1)⟩
   ·rename_i hu hx
    obtain ⟨h1,h⟩:=cond_none h
    obtain ⟨h2,h⟩:=cond_none h
    obtain ⟨h3,h⟩:=cond_none h
    have h2':=cond_and h2
    have h2'':=cond_and h2'.2
    exact mk ⟨_,h,ok_index_arr hu hx hi h1 (blt_spec h2'.1) (Nat.eq_of_beq_eq_true h2''.1) h2''.2 (of_decide_eq_true h3)⟩
   ·cases h
  ·cases h
 ·split at h
  ·rename_i hx
   split at h
   ·rename_i hv; exact mk ⟨_,h,ok_extract hx hv⟩
   ·cases h
  ·cases h
 ·rename_i c
  split at h
  ·rename_i hc
   split at h
   ·rename_i ha ht
    obtain ⟨v,h2,h3⟩:=ok_len hc ha ht h
    exact mk ⟨v,h2,h3⟩
   ·cases h
  ·rename_i hc
   split at h
   ·rename_i ha ht
    obtain ⟨v,h2,h3⟩:=ok_cap hc ha ht h
    exact mk ⟨v,h2,h3⟩
   ·cases h
  ·rename_i hc
   split at h
   ·rename_i ha
    split at h
    ·rename_i hx hy; exact mk ⟨_,h,ok_min hc ha hx hy⟩
    ·cases h
   ·cases h
  ·rename_i hc
   split at h
   ·rename_i ha
    split at h
    ·rename_i hx hy; exact mk ⟨_,h,ok_max hc ha hx hy⟩
    ·cases h
   ·rename_i ha
    split at h
    ·rename_i hx
     obtain ⟨n,h2,h3⟩:=ok_maxN hc ha hx h
     exact mk ⟨_,h2,h3⟩
    ·cases h
   ·cases h
  all_goals first
   | (cases h; done)
   | (rename_i hc; simp only [reader,hc] at hrd; cases hrd; done)
 ·cases h
end
end Go.Ev

/- A row of operations in the listed order: lemmas; the callees' soundness is a premise. -/
namespace Go.Ev
open Go Go.RowKit
section
variable {m:Nat}
theorem get_some {S:St} {t:Nat} {v:V} (h:S.get t=v) (hv:v ≠ .undef):lk? S.fr t=some v:=by
 unfold St.get at h
 rw [lk_getD] at h
 cases e:lk? S.fr t with
 | none=>rw [e] at h; exact absurd h.symm hv
 | some u=>rw [e] at h; rw [← h]; rfl
theorem tmps_bool {a:Act} {t:Nat} {b:Bool} (h:a.tmps.getD t Go.undef = .bool b):a.tmps[t]? = some (.bool b):=by
 rw [Array.getD_eq_getD_getElem?] at h
 cases e:a.tmps[t]? with
 | none=>rw [e] at h; cases h
 | some u=>rw [e] at h; rw [← h]; rfl
theorem Rel.reset {S:St} {w₀:Base} {I₀ O₀:Nat→Nat→Prop} {ρ:Nat→Option Real} {I:Nat→Nat→Prop} {a:Act} {w:World} (h:Rel m w₀ I₀ O₀ ρ I S a w) {t:Nat} {v:V} (ht:lk? S.fr t=some v) :
  Rel m w₀ I₀ O₀ ρ I (S.set t v) a w:=by
 refine ⟨fun t' v' hv'=>?_,h.dfr,h.size,h.tab,h.dom,h.apart,h.notI,h.org,h.slorg,h.alive,h.ilt,h.imono,h.iold,h.keeps,h.lent,h.hid,h.evo⟩
 simp only [St.set,lk?] at hv'
 by_cases e:t' = t
 ·subst e
  simp at hv'
  subst hv'
  exact h.fr t' _ ht
 ·have e' : Nat.beq t' t=false:=by rw [Bool.eq_false_iff]; exact fun hh=>e (Nat.eq_of_beq_eq_true hh)
  rw [e'] at hv'
  exact h.fr t' v' hv'
theorem evOps_ok {E:Env} (hG:GOk E) (ops:Array Oper) {K:St→Option R} {q:R} {w₀:Base} {I₀ O₀:Nat→Nat→Prop} {Q:Exit→Act→World→Prop}
  (hgd:Good E.P w₀.toWorld I₀ O₀) (hK:∀ S a w ρ I,Rel m w₀ I₀ O₀ ρ I S a w→K S=some q→Q .normal a w) :
  ∀ (l:List Oper) (k n:Nat),k+n=ops.size→l=ops.toList.drop k→(∀ o∈l,∀ d,o.dst=some d→d<m)→∀ (S:St),evOps E ops l S K=some q →
   ∀ a w ρ I,Rel m w₀ I₀ O₀ ρ I S a w→wpOps E.P ops Q (List.range' k n) a w
 | [],k,n,hkn,hl,_,S,h,a,w,ρ,I,hr=>by
  have:n=0:=by
   have:=congrArg List.length hl
   simp at this; omega
  subst this
  exact hK S a w ρ I hr h
 | o::l,k,0,hkn,hl,_,S,h,a,w,ρ,I,hr=>by
  have:=congrArg List.length hl
  simp at this; omega
 | o::l,k,n+1,hkn,hl,hd,S,h,a,w,ρ,I,hr=>by
  have hk:k<ops.toList.length:=by simp; omega
  rw [List.drop_eq_getElem_cons hk] at hl
  obtain ⟨rfl,hl'⟩:=List.cons.inj hl
  clear hl
  have ho:ops[k]? = some (ops.toList[k]):=by simp
  generalize ops.toList[k]=o at *
  have next:∀ (S' : St),evOps E ops l S' K=some q→∀ a w ρ I,Rel m w₀ I₀ O₀ ρ I S' a w→wpOps E.P ops Q (List.range' (k+1) n) a w:=fun S' h' a w ρ I hr' =>
   evOps_ok hG ops hgd hK l (k+1) n (by omega) hl' (fun o ho=>hd o (List.mem_cons_of_mem _ ho)) S' h' a w ρ I hr'
  have hdst:=hd o List.mem_cons_self
  have run:∀ (S' : St),(evOp E S' o fun v S=>evOps E ops l (S.put o.dst v) K)=some q→∀ w ρ I,Rel m w₀ I₀ O₀ ρ I S' a w →
    o.wp E.P a w (wpOps E.P ops Q (List.range' (k+1) n)) Q:=fun S' h' w ρ I hr'=>by
   obtain ⟨v,S₁,h1,_,h3⟩:=evOp_ok (m:=m) hG h'
   exact h3 w₀ I₀ O₀ ρ I a w hr' hgd _ _ fun x w' ρ' I' g1 g2=>next _ h1 _ _ ρ' I' (g1.put g2 o.dst hdst)
  have skip:∀ (S' : St),evOps E ops l (S'.put o.dst (.tup [])) K=some q→Rel m w₀ I₀ O₀ ρ I S' a w→wpOps E.P ops Q (List.range' (k+1) n) (a.put o.dst Go.undef) w:=fun S' h' hr' =>
   next _ h' _ _ ρ I (hr'.put (.tup [] [] rfl fun i hi=>by cases hi) o.dst hdst)
  rw [List.range'_succ]
  simp only [wpOps,ho]
  unfold evOps at h
  simp only [vf_eq] at h
  split at h
  ·rename_i hg
   rw [if_pos (by simp [Region.wanted,hg])]
   exact .inl (run S h w ρ I hr)
  ·rename_i j want hg
   split at h
   ·rename_i t hs
    have hy:yielded ops a.tmps j=match a.tmps[t]? with | some (.bool b)=>some b | _=>none:=by
     unfold slotOf at hs
     unfold yielded
     split at hs
     ·rename_i oj hoj; rw [hoj]; simp only [Option.bind_some,hs]; cases a.tmps[t]? with | none=>rfl | some u=>cases u<;>rfl
     ·cases hs
    have hw:∀ b,a.tmps[t]? = some (.bool b)→Region.wanted o (yielded ops a.tmps)=(b==want):=fun b hb=>by
     simp only [Region.wanted,hg]
     rw [hy,hb]; cases b<;>cases want<;>rfl
    split at h
    ·rename_i b hb
     have hlk:=get_some hb (by simp)
     have hbt:=tmps_bool (hr.fr t _ hlk).bool_inv
     have hrs:=hr.reset hlk
     cases b with
     | true =>
      simp only [cond_true] at h
      cases want with
      | true=>rw [if_pos (by rw [hw _ hbt]; rfl)]; exact .inl (run _ h w ρ I hrs)
      | false=>rw [if_neg (by rw [hw _ hbt]; simp)]; exact skip _ h hrs
     | false =>
      simp only [cond_false] at h
      cases want with
      | true=>rw [if_neg (by rw [hw _ hbt]; simp)]; exact skip _ h hrs
      | false=>rw [if_pos (by rw [hw _ hbt]; rfl)]; exact .inl (run _ h w ρ I hrs)
    ·rename_i hb
     have hlk:=get_some hb (by simp)
     obtain ⟨xs,hx,hxl,_⟩:=(hr.fr t _ hlk).tup_inv
     have hxs:xs=[]:=by cases xs with | nil=>rfl | cons _ _=>cases hxl
     have hn:yielded ops a.tmps j=none:=by
      rw [hy]
      cases e:a.tmps[t]? with
      | none=>rfl
      | some u =>
       rw [Array.getD_eq_getD_getElem?,e,Option.getD_some,hxs] at hx
       subst hx; rfl
     rw [if_neg (by simp only [Region.wanted,hg,hn]; cases want<;>simp)]
     exact skip S h hr
    ·cases h
   ·cases h
end
end Go.Ev

/- Boxes set aside while an operation runs: the frame rule; no condition. -/
namespace Go.Ev
open Go Go.RowKit
theorem lk_mapT (f:Nat→Box→Box):∀ (l:List (Nat × Box)) (d:Nat),lk? (mapT f l) d=(lk? l d).map (f d)
 | [],d=>rfl
 | (e,b)::r,d=>by
  simp only [mapT,lk?]
  cases h:Nat.beq d e with
  | true=>obtain rfl:=Nat.eq_of_beq_eq_true h; rfl
  | false=>exact lk_mapT f r d
theorem memN_mem (i:Nat):∀ L:List Nat,memN i L=true↔i∈L
 | []=>by simp [memN]
 | j::r=>by
  simp only [memN]
  cases h:Nat.beq j i with
  | true=>simp [Nat.eq_of_beq_eq_true h]
  | false =>
   have:i ≠ j:=fun e=>by subst e; simp at h
   simp [this,memN_mem i r]
theorem memN_not {i:Nat} {L:List Nat} (h:¬ i∈L):memN i L=false:=by
 rw [Bool.eq_false_iff]; exact fun e=>h ((memN_mem i L).1 e)
section
variable {m:Nat} {w₀:Base} {I₀ O₀:Nat→Nat→Prop} {ρ:Nat→Option Real} {I:Nat→Nat→Prop} {S:St} {a:Act} {w:World}
theorem hide_in {S:St} {H:List Nat} {d:Nat} {box:Box} (hd:d∈H) (h:lk? S.tab d=some box):lk? (S.hide H).tab d=some .dead:=by
 simp only [St.hide,lk_mapT,h,Option.map_some,(memN_mem d H).2 hd,cond_true]
theorem hide_out {S:St} {H:List Nat} {d:Nat} (hd:¬ d∈H):lk? (S.hide H).tab d=lk? S.tab d:=by
 simp only [St.hide,lk_mapT,memN_not hd,cond_false]
 cases lk? S.tab d<;>rfl
theorem hide_some {S:St} {H:List Nat} {d:Nat} {box:Box} (h:lk? (S.hide H).tab d=some box) (hn:box ≠ .dead):¬ d∈H∧lk? S.tab d=some box:=by
 by_cases hd:d∈H
 ·simp only [St.hide,lk_mapT,(memN_mem d H).2 hd,cond_true] at h
  cases e:lk? S.tab d with
  | none=>rw [e] at h; cases h
  | some b=>rw [e] at h; simp at h; exact absurd h.symm hn
 ·exact ⟨hd,by rw [← hide_out hd]; exact h⟩
theorem unhide_in {S S' : St} {H:List Nat} {d:Nat} {box b' : Box} (hd:d∈H) (h:lk? S.tab d=some box) (h' : lk? S'.tab d=some b'):lk? (S.unhide H S').tab d=some box:=by
 simp only [St.unhide,lk_mapT,h',Option.map_some,(memN_mem d H).2 hd,cond_true]
 rw [lk_getD,h]; rfl
theorem unhide_out {S S' : St} {H:List Nat} {d:Nat} (hd:¬ d∈H):lk? (S.unhide H S').tab d=lk? S'.tab d:=by
 simp only [St.unhide,lk_mapT,memN_not hd,cond_false]
 cases lk? S'.tab d<;>rfl
def Osub (S:St) (ρ:Nat→Option Real) (H:List Nat) (b o:Nat):Prop:=∃ d br,¬ d∈H∧Live S d∧ρ d=some br∧br.has b o
def Base.sub (w₀:Base) (S:St) (ρ:Nat→Option Real) (H:List Nat) (w:World):Base where
 toWorld:=w
 lent d:=bif memN d H then none else w₀.lent d
 small d br h:=by
  cases e:memN d H with
  | true=>rw [e] at h; cases h
  | false=>rw [e] at h; exact w₀.small d br h
 hid d:=bif memN d H then ρ d else w₀.hid d
 ev:=ρ
 sl b o:=∃ d sh rows g br,¬ d∈H∧lk? S.tab d=some (.sl sh rows g)∧ρ d=some br∧br.has b o
theorem Rel.sub (h:Rel m w₀ I₀ O₀ ρ I S a w) (H:List Nat):Rel m (w₀.sub S ρ H w) I (Osub S ρ H) ρ I (S.hide H) a w:=by
 have live:∀ d,Live (S.hide H) d→¬ d∈H∧Live S d:=fun d ⟨box,hb,hn⟩=>by
  obtain ⟨h1,h2⟩:=hide_some hb hn
  exact ⟨h1,box,h2,hn⟩
 refine ⟨h.fr,h.dfr,h.size,fun d box hb=>?_,fun d br hd=>?_,fun d d' br br' b o hl hl'=>h.apart d d' br br' b o (live d hl).2 (live d' hl').2,fun d br b o hl=>h.notI d br b o (live d hl).2,
  fun d br b o hl hd hh=>.inr ⟨d,br,(live d hl).1,(live d hl).2,hd,hh⟩,fun d sh rows gen br b o hb hd hh=>?_,fun d br b o hl=>h.alive d br b o (live d hl).2,h.ilt,fun _ _ h=>h,fun _ _ h _=>.inl h,Keeps.refl _ _,fun d br hl=>?_,fun d br hl=>?_,Evo.refl _⟩
 ·by_cases hn:box = .dead
  ·subst hn
   by_cases hd:d∈H
   ·cases e:lk? S.tab d with
    | none=>simp only [St.hide,lk_mapT,e] at hb; cases hb
    | some b0=>obtain ⟨br,h1,_⟩:=h.tab d b0 e; exact ⟨br,h1,trivial⟩
   ·rw [hide_out hd] at hb; exact h.tab d _ hb
  ·exact h.tab d box (hide_some hb hn).2
 ·obtain ⟨box,hb⟩:=h.dom d br hd
  simp only [St.hide,lk_mapT,hb]; exact ⟨_,rfl⟩
 ·obtain ⟨h1,h2⟩:=hide_some hb (by simp)
  exact .inr ⟨d,sh,rows,gen,br,h1,h2,hd,hh⟩
 ·simp only [Base.sub] at hl
  by_cases hd:d∈H
  ·rw [(memN_mem d H).2 hd] at hl; cases hl
  ·rw [memN_not hd] at hl
   obtain ⟨h1,cells,h2⟩:=h.lent d br hl
   exact ⟨h1,cells,by rw [hide_out hd]; exact h2⟩
 ·simp only [Base.sub] at hl
  by_cases hd:d∈H
  ·rw [(memN_mem d H).2 hd] at hl
   obtain ⟨box,hb⟩:=h.dom d br hl
   exact ⟨hl,hide_in hd hb⟩
  ·rw [memN_not hd] at hl
   obtain ⟨h1,h2⟩:=h.hid d br hl
   exact ⟨h1,by rw [hide_out hd]; exact h2⟩
theorem Rel.goodSub {P:Program} (h:Rel m w₀ I₀ O₀ ρ I S a w) (hg:Good P w₀.toWorld I₀ O₀) (H:List Nat):Good P (w₀.sub S ρ H w).toWorld I (Osub S ρ H):=fun b o x hx=>by
 obtain ⟨h1,h2⟩:=h.held hg b o x hx
 exact ⟨⟨h1,fun ⟨d,br,_,k2,k3,k4⟩=>h.notI d br b o k2 k3 k4 h1⟩,h2⟩
theorem presB_spec {S:St}:∀ {H:List Nat},presB S H=true→∀ d,d∈H→∃ box,lk? S.tab d=some box
 | [],_,d,hd=>by cases hd
 | e::r,h,d,hd=>by
  unfold presB at h
  cases hs:lk? S.tab e with
  | none=>rw [hs] at h; cases h
  | some b =>
   rw [hs] at h
   rcases List.mem_cons.1 hd with rfl | hd
   ·exact ⟨b,hs⟩
   ·exact presB_spec h d hd
theorem Rel.unsub (h:Rel m w₀ I₀ O₀ ρ I S a w) {H:List Nat} (hH:∀ d,d∈H→∃ box,lk? S.tab d=some box) {ρ' : Nat→Option Real} {I' : Nat→Nat→Prop} {S' : St} {a' : Act} {w' : World}
  (h' : Rel m (w₀.sub S ρ H w) I (Osub S ρ H) ρ' I' S' a' w'):Rel m w₀ I₀ O₀ ρ' I' (S.unhide H S') a' w'∧(∀ d,d∈H→ρ' d=ρ d∧(Live S d↔Live (S.unhide H S') d)):=by
 have hk:Keeps (Osub S ρ H) w w':=h'.keeps
 have hs:w.heap.size≤w'.heap.size:=hk.size
 -- a box that was set aside
 have aside:∀ d,d∈H→∃ box br b',lk? S.tab d=some box∧ρ d=some br∧BoxR w I ρ box br∧ρ' d=some br∧lk? S'.tab d=some b':=fun d hd=>by
  obtain ⟨box,hb⟩:=hH d hd
  obtain ⟨br,h1,h2⟩:=h.tab d box hb
  obtain ⟨h3,h4⟩:=h'.hid d br (by simp only [Base.sub,(memN_mem d H).2 hd,cond_true]; exact h1)
  exact ⟨box,br,.dead,hb,h1,h2,h3,h4⟩
 have inb:∀ d,d∈H→Live (S.unhide H S') d→Live S d∧ρ' d=ρ d:=fun d hd ⟨bx,hb,hn⟩=>by
  obtain ⟨box,br,b',k1,k2,_,k4,k5⟩:=aside d hd
  rw [unhide_in hd k1 k5] at hb; cases hb
  exact ⟨⟨_,k1,hn⟩,k4.trans k2.symm⟩
 have outb:∀ d,¬ d∈H→Live (S.unhide H S') d→Live S' d:=fun d hd ⟨bx,hb,hn⟩=>⟨bx,by rw [← unhide_out (S:=S) hd]; exact hb,hn⟩
 have lo:∀ d br b o,Live S d→ρ d=some br→br.has b o→b<w.heap.size:=fun d br b o hl hd hh=>by
  obtain ⟨⟨x,hx⟩,_⟩:=h.alive d br b o hl hd hh
  exact lt_of_cell hx
 have notO:∀ d br b o,d∈H→Live S d→ρ d=some br→br.has b o→¬ Osub S ρ H b o:=fun d br b o hd hl hr hh ⟨d2,br2,k1,k2,k3,k4⟩=>by
  obtain rfl:=h.apart d d2 br br2 b o hl k2 hr k3 hh k4
  exact k1 hd
 have iold:∀ b o,I' b o→b<w.heap.size→I b o∨∃ d sh rows g br,¬ d∈H∧lk? S.tab d=some (.sl sh rows g)∧ρ d=some br∧br.has b o:=h'.iold
 have org:∀ d br b o,Live S' d→ρ' d=some br→br.has b o→w.heap.size≤b∨Osub S ρ H b o:=h'.org
 have hIw:∀ b o,I b o→w'.cell? ⟨b,o,none⟩=w.cell? ⟨b,o,none⟩:=fun b o hi=>hk.cell (fun ⟨d,br,_,k2,k3,k4⟩=>h.notI d br b o k2 k3 k4 hi) (h.ilt b o hi)
 have evo:Evo ρ ρ':=h'.evo
 refine ⟨⟨h'.fr,h'.dfr,h'.size,fun d bx hb=>?_,fun d br hd=>?_,fun d d' br br' b o hl hl' hd hd' hh hh'=>?_,fun d br b o hl hd hh hi=>?_,fun d br b o hl hd hh=>?_,fun d sh rows gen br b o hb hd hh=>?_,
  fun d br b o hl hd hh=>?_,h'.ilt,fun b o hi=>h'.imono b o (h.imono b o hi),fun b o hi hlt=>?_,?_,fun d br hl=>?_,fun d br hl=>?_,h.evo.trans evo⟩,fun d hd=>?_⟩
 ·by_cases hd:d∈H
  ·obtain ⟨box,br,b',k1,k2,k3,k4,k5⟩:=aside d hd
   rw [unhide_in hd k1 k5] at hb; cases hb
   refine ⟨br,k4,?_⟩
   by_cases hn:bx = .dead
   ·subst hn; trivial
   ·exact k3.keep hIw h'.imono evo (fun b o hh=>hk.cell (notO d br b o hd ⟨_,k1,hn⟩ k2 hh) (lo d br b o ⟨_,k1,hn⟩ k2 hh)) hk.shape
  ·rw [unhide_out hd] at hb; exact h'.tab d bx hb
 ·obtain ⟨bx,hb⟩:=h'.dom d br hd
  simp only [St.unhide,lk_mapT,hb]; exact ⟨_,rfl⟩
 ·have cross:∀ d d' br br',d∈H→¬ d'∈H→Live (S.unhide H S') d→Live (S.unhide H S') d'→ρ' d=some br→ρ' d' = some br'→br.has b o→br'.has b o→False:=fun d d' br br' m1 m2 l1 l2 r1 r2 g1 g2=>by
   obtain ⟨e1,e2⟩:=inb d m1 l1
   rw [e2] at r1
   rcases org d' br' b o (outb d' m2 l2) r2 g2 with k | k
   ·have:=lo d br b o e1 r1 g1; omega
   ·exact notO d br b o m1 e1 r1 g1 k
  by_cases m1:d∈H
  ·by_cases m2:d'∈H
   ·obtain ⟨e1,e2⟩:=inb d m1 hl
    obtain ⟨f1,f2⟩:=inb d' m2 hl'
    rw [e2] at hd; rw [f2] at hd'
    exact h.apart d d' br br' b o e1 f1 hd hd' hh hh'
   ·exact (cross d d' br br' m1 m2 hl hl' hd hd' hh hh').elim
  ·by_cases m2:d'∈H
   ·exact (cross d' d br' br m2 m1 hl' hl hd' hd hh' hh).elim
   ·exact h'.apart d d' br br' b o (outb d m1 hl) (outb d' m2 hl') hd hd' hh hh'
 ·by_cases hm:d∈H
  ·obtain ⟨e1,e2⟩:=inb d hm hl
   rw [e2] at hd
   rcases iold b o hi (lo d br b o e1 hd hh) with k | ⟨d2,sh,rows,g,br2,k1,k2,k3,k4⟩
   ·exact h.notI d br b o e1 hd hh k
   ·exact notO d br b o hm e1 hd hh ⟨d2,br2,k1,⟨_,k2,by simp⟩,k3,k4⟩
  ·exact h'.notI d br b o (outb d hm hl) hd hh hi
 ·by_cases hm:d∈H
  ·obtain ⟨e1,e2⟩:=inb d hm hl
   rw [e2] at hd
   exact h.org d br b o e1 hd hh
  ·rcases org d br b o (outb d hm hl) hd hh with k | ⟨d2,br2,_,k2,k3,k4⟩
   ·exact .inl (Nat.le_trans h.keeps.size k)
   ·exact h.org d2 br2 b o k2 k3 k4
 ·by_cases hm:d∈H
  ·obtain ⟨box,br0,b',k1,k2,k3,k4,k5⟩:=aside d hm
   rw [unhide_in hm k1 k5] at hb; cases hb
   rw [k4] at hd; cases hd
   exact h.slorg d sh rows gen br b o k1 k2 hh
  ·rw [unhide_out hm] at hb
   rcases h'.slorg d sh rows gen br b o hb hd hh with k | ⟨d2,sh2,rows2,g2,br2,_,k2,k3,k4⟩
   ·exact .inl (Nat.le_trans h.keeps.size k)
   ·exact h.slorg d2 sh2 rows2 g2 br2 b o k2 k3 k4
 ·by_cases hm:d∈H
  ·obtain ⟨e1,e2⟩:=inb d hm hl
   rw [e2] at hd
   obtain ⟨⟨x,hx⟩,hf⟩:=h.alive d br b o e1 hd hh
   exact ⟨hk.alive hx,(hk.frozen (lt_of_cell hx)).trans hf⟩
  ·exact h'.alive d br b o (outb d hm hl) hd hh
 ·rcases iold b o hi (Nat.lt_of_lt_of_le hlt h.keeps.size) with k | ⟨d2,sh,rows,g,br2,_,k2,k3,k4⟩
  ·exact h.iold b o k hlt
  ·rcases h.slorg d2 sh rows g br2 b o k2 k3 k4 with k | k
   ·omega
   ·exact .inr k
 ·refine h.keeps.trans hk fun b o hb ⟨d,br,_,k2,k3,k4⟩=>?_
  rcases h.org d br b o k2 k3 k4 with k | k
  ·omega
  ·exact k
 ·obtain ⟨e1,cells,e2⟩:=h.lent d br hl
  by_cases hm:d∈H
  ·obtain ⟨box,br0,b',k1,k2,k3,k4,k5⟩:=aside d hm
   rw [e1] at k2; cases k2
   exact ⟨k4,cells,by rw [unhide_in hm k1 k5,← k1,e2]⟩
  ·obtain ⟨f1,cells',f2⟩:=h'.lent d br (by simp only [Base.sub,memN_not hm,cond_false]; exact hl)
   exact ⟨f1,cells',by rw [unhide_out hm]; exact f2⟩
 ·obtain ⟨e1,e2⟩:=h.hid d br hl
  have hw:(w₀.sub S ρ H w).hid d=some br:=by
   simp only [Base.sub]
   cases memN d H with
   | true=>exact e1
   | false=>exact hl
  obtain ⟨f1,f2⟩:=h'.hid d br hw
  refine ⟨f1,?_⟩
  by_cases hm:d∈H
  ·rw [unhide_in hm e2 f2]
  ·rw [unhide_out hm]; exact f2
 ·obtain ⟨box,br0,b',k1,k2,k3,k4,k5⟩:=aside d hd
  exact ⟨k4.trans k2.symm,fun ⟨bx,hb,hn⟩=>⟨bx,by rw [unhide_in hd k1 k5,← k1,hb],hn⟩,fun hl=>(inb d hd hl).1⟩
end
end Go.Ev

/- Regions whose order is drawn: whichever order comes,it does what the row that was found does: lemmas; the callees' soundness is a premise. -/
namespace Go.Ev
open Go Go.RowKit
section
variable {P:Program} {ops:Array Oper} {Q:Exit→Act→World→Prop} {md:Region.Mode} {Z:Nat→Nat→Nat→Prop}
def wpAnyZ (Z:Nat→Nat→Nat→Prop) (P:Program) (md:Region.Mode) (ops:Array Oper) (Q:Exit→Act→World→Prop):Nat→Array Bool→Act→World→Prop
 | 0,listed,a,w=>Region.ready md ops listed=[]∧Q .normal a w
 | fuel+1,listed,a,w =>
  (Region.ready md ops listed=[]→Q .normal a w) ∧
  ∀ i∈Region.ready md ops listed,wpOp P ops Q i (fun a' w'=>Keeps (fun b o=>¬ Z i b o) w w'∧wpAnyZ Z P md ops Q fuel (listed.setIfInBounds i true) a' w') a w
theorem wpAny_of_z:∀ (fuel:Nat) (listed:Array Bool) (a:Act) (w:World),wpAnyZ Z P md ops Q fuel listed a w→wpAny P md ops Q fuel listed a w
 | 0,_,_,_,h=>h
 | fuel+1,_,_,_,h=>⟨h.1,fun i hi=>wpOp_mono (fun a' w' h'=>wpAny_of_z fuel _ a' w' h'.2) (h.2 i hi)⟩
theorem wpAnyZ_mono {Z' : Nat→Nat→Nat→Prop} (hZ:∀ i b o,Z i b o→Z' i b o):∀ (fuel:Nat) (listed:Array Bool) (a:Act) (w:World),wpAnyZ Z' P md ops Q fuel listed a w→wpAnyZ Z P md ops Q fuel listed a w
 | 0,_,_,_,h=>h
 | fuel+1,_,_,_,h=>⟨h.1,fun i hi=>wpOp_mono (fun a' w' h'=>⟨h'.1.mono fun b o _ hn hz=>hn (hZ i b o hz),wpAnyZ_mono hZ fuel _ a' w' h'.2⟩) (h.2 i hi)⟩
theorem wpAnyZ_first {S:World→Prop} {i:Nat} {oi:Oper} {v:Value} {C:Nat→Prop} (hi:ops[i]? = some oi) (hsel:∀ (j:Nat) (o:Oper) cs b,ops[j]? = some o→o.op ≠ .select cs b)
  (hQ:∀ c a w,Q (.panic c) (a.put oi.dst v) w→Q (.panic c) a w)
  (hC:∀ j oj,ops[j]? = some oj→j ≠ i→(∀ e∈oj.after,Region.binds md e=true→C e.on)→C j) :
  ∀ (fuel:Nat) (listed:Array Bool) (a:Act) (w:World),
   (∀ j,listed.getD j false=true→C j) →
   (∀ j oj,ops[j]? = some oj→C j→listed.getD j true=false→(∀ w w',Keeps (fun b o=>¬ Z j b o) w w'→S w→S w')) →
   (∀ j oj,ops[j]? = some oj→j ≠ i→listed.getD j true=false→(∀ e∈oj.after,Region.binds md e=true→e.on ≠ i)→oi.apart ops oj=true) →
   i∈Region.ready md ops listed→YieldsIf P ops S oi v a→S w →
   wpAnyZ Z P md ops Q fuel (listed.setIfInBounds i true) (a.put oi.dst v) w→wpAnyZ Z P md ops Q (fuel+1) listed a w:=by
 intro fuel
 induction fuel with
 | zero =>
  intro listed a w _ _ _ hr hy hS H
  refine ⟨fun h=>(by rw [h] at hr; cases hr),fun j hj=>?_⟩
  by_cases hji:j=i
  ·subst hji; exact hy.wpOp hi hS ⟨Keeps.refl _ _,H⟩
  ·have:=ready_mono hj hji
   rw [H.1] at this
   cases this
 | succ fuel ih =>
  intro listed a w hL hS' hfree hr hy hS H
  refine ⟨fun h=>(by rw [h] at hr; cases hr),fun j hj=>?_⟩
  by_cases hji:j=i
  ·subst hji; exact hy.wpOp hi hS ⟨Keeps.refl _ _,H⟩
  ·have h1:=H.2 j (ready_mono hj hji)
   obtain ⟨hjun,oj,hoj,hall⟩:=mem_ready.1 hj
   have hnot:∀ e∈oj.after,Region.binds md e=true→e.on ≠ i:=fun e he hb heq=>by
    have h1:=hall e he hb
    have h0:=(mem_ready.1 hr).1
    rw [heq] at h1
    rcases Nat.lt_or_ge i listed.size with h' | h'
    ·simp [h'] at h0 h1; rw [h0] at h1; cases h1
    ·simp [Array.getElem?_eq_none h'] at h1
   have hCj:C j:=hC j oj hoj hji fun e he hb=>hL _ (hall e he hb)
   have h2:=wpOp_putIf hoj (hfree j oj hoj hji hjun hnot) (fun cs b=>hsel i oi cs b hi) (fun cs b=>hsel j oj cs b hoj) hQ hy h1
   have un:∀ k,(listed.setIfInBounds j true).getD k true=false→listed.getD k true=false:=fun k hun=>by
    by_cases hjk:j=k
    ·subst hjk; exact hjun
    ·rw [getD_set_ne true hjk] at hun; exact hun
   have hL' : ∀ k,(listed.setIfInBounds j true).getD k false=true→C k:=fun k hk=>by
    by_cases hjk:j=k
    ·subst hjk; exact hCj
    ·rw [getD_set_ne false hjk] at hk; exact hL k hk
   refine wpOp_mono (fun a' w' h3=>?_) h2
   obtain ⟨h3,h4,h5⟩:=h3
   have hSw:S w':=hS' j oj hoj hCj hjun w w' h4 hS
   refine ⟨h4,ih (listed.setIfInBounds j true) a' w' hL' (fun k ok hk hc hun=>hS' k ok hk hc (un k hun))
    (fun k ok hk hki hun hno=>hfree k ok hk hki (un k hun) hno) (ready_mono hr (Ne.symm hji)) h3 hSw ?_⟩
   rw [Array.setIfInBounds_comm _ _ hji]
   exact h5
end
theorem allIn_spec:∀ (xs L:List Nat),allIn xs L=true↔∀ i∈xs,i∈L
 | [],L=>by simp [allIn]
 | i::r,L=>by
  simp only [allIn]
  cases h:memN i L with
  | true=>simp [(memN_mem i L).1 h,allIn_spec r L]
  | false =>
   have:¬ i∈L:=fun e=>by rw [(memN_mem i L).2 e] at h; cases h
   simp [this]
theorem mem_depsOf {o:Oper} {k:Nat}:k∈depsOf o↔∃ e∈o.after,Region.binds .any e=true∧e.on=k:=by
 unfold depsOf
 simp only [List.mem_map,List.mem_filter,Array.mem_toList_iff]
 constructor
 ·rintro ⟨e,⟨h1,h2⟩,h3⟩; exact ⟨e,h1,h2,h3⟩
 ·rintro ⟨e,h1,h2,h3⟩; exact ⟨e,⟨h1,h2⟩,h3⟩
theorem mem_number {α:Type}:∀ (l:List α) (n i:Nat) (x:α),(i,x)∈numberFrom n l↔∃ k,i=n+k∧l[k]? = some x
 | [],n,i,x=>by simp [numberFrom]
 | y::r,n,i,x=>by
  simp only [numberFrom,List.mem_cons,Prod.mk.injEq,mem_number r (n+1) i x]
  constructor
  ·rintro (⟨rfl,rfl⟩ | ⟨k,rfl,h⟩)
   ·exact ⟨0,by simp,by simp⟩
   ·exact ⟨k+1,by omega,by simpa using h⟩
  ·rintro ⟨k,rfl,h⟩
   cases k with
   | zero=>left; simp at h; exact ⟨by simp,h.symm⟩
   | succ k=>right; exact ⟨k,by omega,by simpa using h⟩
theorem mem_num {ops:Array Oper} {i:Nat} {o:Oper}:(i,o)∈numberFrom 0 ops.toList↔ops[i]? = some o:=by
 rw [mem_number]
 constructor
 ·rintro ⟨k,rfl,h⟩; simpa using h
 ·intro h; exact ⟨i,by simp,by simpa using h⟩
structure LR (ops:Array Oper) (L:List Nat) (listed:Array Bool):Prop where
 size:listed.size=ops.size
 mem:∀ i,i<ops.size→(listed.getD i true=true↔i∈L)
 lt:∀ i∈L,i<ops.size
theorem LR.getF {ops:Array Oper} {L:List Nat} {listed:Array Bool} (h:LR ops L listed) (i:Nat):listed.getD i false=true↔i∈L:=by
 rcases Nat.lt_or_ge i ops.size with hi | hi
 ·rw [← h.mem i hi]
  have:i<listed.size:=by rw [h.size]; exact hi
  simp [this]
 ·have:¬ i<listed.size:=by rw [h.size]; omega
  constructor
  ·intro e; simp [Array.getElem?_eq_none (Nat.not_lt.1 this)] at e
  ·intro e; have:=h.lt i e; omega
theorem LR.un {ops:Array Oper} {L:List Nat} {listed:Array Bool} (h:LR ops L listed) {i:Nat} (hi:i<ops.size):listed.getD i true=false↔¬ i∈L:=by
 rw [← h.mem i hi]; simp
theorem LR.ready {ops:Array Oper} {L:List Nat} {listed:Array Bool} (h:LR ops L listed) (i:Nat) :
  i∈Region.ready .any ops listed↔∃ o,(i,o)∈readyL (numberFrom 0 ops.toList) L:=by
 rw [mem_ready]
 unfold readyL
 simp only [List.mem_filter,mem_num]
 constructor
 ·rintro ⟨h1,o,h2,h3⟩
  have hi:=(Array.getElem?_eq_some_iff.1 h2).1
  have hn:=(h.un hi).1 h1
  refine ⟨o,h2,?_⟩
  have:memN i L=false:=by rw [Bool.eq_false_iff]; exact fun e=>hn ((memN_mem i L).1 e)
  rw [this,cond_false,allIn_spec]
  intro k hk
  obtain ⟨e,e1,e2,rfl⟩:=mem_depsOf.1 hk
  exact (h.getF _).1 (h3 e e1 e2)
 ·rintro ⟨o,h2,h3⟩
  have hi:=(Array.getElem?_eq_some_iff.1 h2).1
  obtain ⟨h4,h5⟩:memN i L=false∧allIn (depsOf o) L=true:=by
   cases e:memN i L with
   | true=>rw [e] at h3; cases h3
   | false=>rw [e] at h3; exact ⟨rfl,h3⟩
  refine ⟨(h.un hi).2 fun e=>?_,o,h2,fun e he hb=>(h.getF _).2 ((allIn_spec _ _).1 h5 _ (mem_depsOf.2 ⟨e,he,hb,rfl⟩))⟩
  rw [(memN_mem i L).2 e] at h4; cases h4
theorem LR.set {ops:Array Oper} {L:List Nat} {listed:Array Bool} (h:LR ops L listed) {i:Nat} (hi:i<ops.size):LR ops (i::L) (listed.setIfInBounds i true):=by
 refine ⟨by simp [h.size],fun j hj=>?_,fun j hj=>?_⟩
 ·by_cases e:i=j
  ·subst e
   have:i<listed.size:=by rw [h.size]; exact hi
   simp [this]
  ·rw [getD_set_ne true e,h.mem j hj]
   simp [Ne.symm e]
 ·rcases List.mem_cons.1 hj with rfl | hj
  ·exact hi
  ·exact h.lt j hj
theorem noSel_spec:∀ (l:List Oper),noSel l=true→∀ o∈l,∀ cs b,o.op ≠ .select cs b
 | [],_,_,h,_,_=>by cases h
 | o::r,h,o',ho,cs,b=>by
  have h' : noSel r=true∧∀ cs b,o.op ≠ .select cs b:=by
   unfold noSel at h
   cases hop:o.op<;>rw [hop] at h<;>first | (cases h; done) | exact ⟨h,by simp⟩
  rcases List.mem_cons.1 ho with rfl | ho
  ·exact h'.2 cs b
  ·exact noSel_spec r h'.1 o' ho cs b
end Go.Ev

/- Variables that wait,and small changes of a state: lemmas,no condition. -/
namespace Go.Ev
open Go Go.RowKit
theorem mapT_id {f:Nat→Box→Box} (hf:∀ d b,f d b=b):∀ l,mapT f l=l
 | []=>rfl
 | (d,b)::r=>by rw [mapT,hf,mapT_id hf r]
theorem hide_nil (S:St):S.hide []=S:=by
 have:=mapT_id (f:=fun d b=>cond (memN d []) .dead b) (fun d b=>rfl) S.tab
 unfold St.hide; rw [this]
theorem unhide_nil (S S' : St):S.unhide [] S' = S':=by
 have:=mapT_id (f:=fun d b=>cond (memN d []) (lk b S.tab d) b) (fun d b=>rfl) S'.tab
 unfold St.unhide; rw [this]
theorem lk_dropF (ts:List Nat):∀ (l:List (Nat × V)) (t:Nat),lk? (dropF ts l) t=if t∈ts then none else lk? l t
 | [],t=>by simp [dropF,lk?]
 | (e,v)::r,t=>by
  simp only [dropF]
  by_cases he:e∈ts
  ·rw [(memN_mem e ts).2 he,cond_true,lk_dropF ts r t]
   by_cases ht:t∈ts
   ·rw [if_pos ht,if_pos ht]
   ·rw [if_neg ht,if_neg ht,lk?]
    have:Nat.beq t e=false:=by rw [Bool.eq_false_iff]; exact fun h=>ht (Nat.eq_of_beq_eq_true h ▸ he)
    rw [this]; rfl
  ·rw [memN_not he,cond_false]
   simp only [lk?]
   cases h:Nat.beq t e with
   | true =>
    obtain rfl:=Nat.eq_of_beq_eq_true h
    rw [if_neg he]; rfl
   | false=>simp only [cond_false]; exact lk_dropF ts r t
theorem drop_tab (S:St) (ts:List Nat):(S.drop ts).tab=S.tab:=by cases ts<;>rfl
theorem drop_fr (S:St) (ts:List Nat) (t:Nat):lk? (S.drop ts).fr t=if t∈ts then none else lk? S.fr t:=by
 cases ts with
 | nil=>simp [St.drop]
 | cons e r=>exact lk_dropF (e::r) S.fr t
section
variable {m:Nat} {w₀:Base} {I₀ O₀:Nat→Nat→Prop} {ρ:Nat→Option Real} {I:Nat→Nat→Prop} {S:St} {a:Act} {w:World}
theorem Rel.drop (h:Rel m w₀ I₀ O₀ ρ I S a w) (ts:List Nat):Rel m w₀ I₀ O₀ ρ I (S.drop ts) a w:=by
 obtain ⟨f1,f2,f3,f4,f5,f6,f7,f8,f9,f10,f11,f12,f13,f14,f15,f16,f17⟩:=h
 have e:=drop_tab S ts
 refine ⟨fun t v hv=>f1 t v ?_,f2,f3,by rw [e]; exact f4,by rw [e]; exact f5,?_,?_,?_,by rw [e]; exact f9,?_,f11,f12,f13,f14,by rw [e]; exact f15,by rw [e]; exact f16,f17⟩
 ·rw [drop_fr] at hv
  by_cases ht:t∈ts
  ·rw [if_pos ht] at hv; cases hv
  ·rw [if_neg ht] at hv; exact hv
 all_goals unfold Live at *; rw [e]; assumption
theorem Rel.setTmp (h:Rel m w₀ I₀ O₀ ρ I S a w) {t:Nat} (ht:lk? S.fr t=none) (x:Value):Rel m w₀ I₀ O₀ ρ I S (a.put (some t) x) w:=by
 refine ⟨fun t' v' hv'=>?_,h.dfr,by simp [Act.put,h.size],h.tab,h.dom,h.apart,h.notI,h.org,h.slorg,h.alive,h.ilt,h.imono,h.iold,h.keeps,h.lent,h.hid,h.evo⟩
 have hne:t' ≠ t:=fun e=>by subst e; rw [ht] at hv'; cases hv'
 have:=h.fr t' v' hv'
 simp only [Act.put]
 rw [Array.getD_eq_getD_getElem?,Array.getElem?_setIfInBounds,if_neg (by omega),← Array.getD_eq_getD_getElem?]
 exact this
theorem Rel.bind (h:Rel m w₀ I₀ O₀ ρ I S a w) {t:Nat} {v:V} (hv:Rv w I ρ v (a.tmps.getD t Go.undef)):Rel m w₀ I₀ O₀ ρ I (S.put (some t) v) a w:=by
 refine ⟨fun t' v' hv'=>?_,h.dfr,h.size,h.tab,h.dom,h.apart,h.notI,h.org,h.slorg,h.alive,h.ilt,h.imono,h.iold,h.keeps,h.lent,h.hid,h.evo⟩
 simp only [St.put,St.set,lk?] at hv'
 by_cases e:t' = t
 ·subst e
  simp at hv'
  subst hv'
  exact hv
 ·have e' : Nat.beq t' t=false:=by rw [Bool.eq_false_iff]; exact fun hh=>e (Nat.eq_of_beq_eq_true hh)
  rw [e'] at hv'
  exact h.fr t' v' hv'
end
theorem pickB_spec {P:Program} {ops:Array Oper} {num:List (Nat × Oper)} {L:List Nat} {j:Nat} {oj:Oper} {C:List Nat}:∀ (r:List (Nat × Oper)),pickB P ops num L r=some ((j,oj),C) →
  (j,oj)∈r∧reader P oj.op=true∧freeB ops num L j oj=true∧(noMem oj.op=true∨closedB num L j C=true)
 | [],h=>by cases h
 | (i,o)::r,h=>by
  unfold pickB at h
  have rest:pickB P ops num L r=some ((j,oj),C)→(j,oj)∈(i,o)::r∧reader P oj.op=true∧freeB ops num L j oj=true∧(noMem oj.op=true∨closedB num L j C=true):=fun h=>by
   obtain ⟨e,f⟩:=pickB_spec r h; exact ⟨List.mem_cons_of_mem _ e,f⟩
  cases h1:reader P o.op with
  | false=>rw [h1] at h; exact rest h
  | true =>
   rw [h1] at h
   cases h2:freeB ops num L i o with
   | false=>rw [h2] at h; exact rest h
   | true =>
    rw [h2] at h
    cases h3:noMem o.op with
    | true =>
     rw [h3] at h
     simp only [cond_true,Option.some.injEq,Prod.mk.injEq] at h
     obtain ⟨⟨rfl,rfl⟩,rfl⟩:=h
     exact ⟨List.mem_cons_self,h1,h2,.inl h3⟩
    | false =>
     rw [h3] at h
     cases h4:closedB num L i (closeB i num (closeB i num L)) with
     | true =>
      rw [h4] at h
      simp only [cond_true,cond_false,Option.some.injEq,Prod.mk.injEq] at h
      obtain ⟨⟨rfl,rfl⟩,rfl⟩:=h
      exact ⟨List.mem_cons_self,h1,h2,.inr h4⟩
     | false=>rw [h4] at h; exact rest h
theorem restB_spec {P:Program} {num:List (Nat × Oper)}:∀ (r:List (Nat × Oper)),(∀ p,p∈r↔p∈(restB P num r).1∨p∈(restB P num r).2)∧(∀ p,p∈(restB P num r).1→waitB P num p.1 p.2=true)∧∀ p,p∈(restB P num r).2→waitB P num p.1 p.2=false
 | []=>⟨fun p=>by simp [restB],(fun p h=>by cases h),(fun p h=>by cases h)⟩
 | (i,o)::r=>by
  obtain ⟨h1,h2,h3⟩:=restB_spec (P:=P) (num:=num) r
  unfold restB
  cases h:waitB P num i o with
  | true =>
   simp only [cond_true]
   refine ⟨fun p=>by simp only [List.mem_cons,h1 p,or_assoc],fun p hp=>?_,h3⟩
   rcases List.mem_cons.1 hp with rfl | hp
   ·exact h
   ·exact h2 p hp
  | false =>
   simp only [cond_false]
   refine ⟨fun p=>by simp only [List.mem_cons,h1 p]; exact ⟨fun h=>by rcases h with h | h | h<;>simp [h],fun h=>by rcases h with h | h | h<;>simp [h]⟩,h2,fun p hp=>?_⟩
   rcases List.mem_cons.1 hp with rfl | hp
   ·exact h
   ·exact h3 p hp
theorem others_mem {x:Nat}:∀ {A:List (Nat × Oper)} {p:Nat × Oper},p∈others x A↔p∈A∧p.1 ≠ x
 | [],p=>by simp [others]
 | q::r,p=>by
  unfold others
  cases h:Nat.beq q.1 x with
  | true =>
   have:=Nat.eq_of_beq_eq_true h
   simp only [cond_true,others_mem (A:=r),List.mem_cons]
   constructor
   ·rintro ⟨h1,h2⟩; exact ⟨.inr h1,h2⟩
   ·rintro ⟨rfl | h1,h2⟩
    ·exact absurd this h2
    ·exact ⟨h1,h2⟩
  | false =>
   have hne:q.1 ≠ x:=fun e=>by rw [e] at h; simp at h
   simp only [cond_false,others_mem (A:=r),List.mem_cons]
   constructor
   ·rintro (rfl | ⟨h1,h2⟩)
    ·exact ⟨.inl rfl,hne⟩
    ·exact ⟨.inr h1,h2⟩
   ·rintro ⟨rfl | h1,h2⟩
    ·exact .inl rfl
    ·exact .inr ⟨h1,h2⟩
theorem firstS_spec {num:List (Nat × Oper)} {L W:List Nat} {A:List (Nat × Oper)} {kd:Nat} {x:Nat × Oper} {A' : List (Nat × Oper)}:∀ {r:List (Nat × Oper)},firstS num L W A r=some (kd,x,A') →
  x∈r∧soloB num L x.1 A' = true∧kd=kdOf W x∧A' = others x.1 A
 | [],h=>by cases h
 | y::r,h=>by
  unfold firstS at h
  cases hs:soloB num L y.1 (others y.1 A) with
  | true =>
   rw [hs] at h
   simp only [cond_true,Option.some.injEq,Prod.mk.injEq] at h
   obtain ⟨rfl,rfl,rfl⟩:=h
   exact ⟨List.mem_cons_self,hs,rfl,rfl⟩
  | false =>
   rw [hs] at h
   obtain ⟨h1,h2⟩:=firstS_spec h
   exact ⟨List.mem_cons_of_mem _ h1,h2⟩
theorem pickD_spec {P:Program} {num R:List (Nat × Oper)} {L W:List Nat} {kd:Nat} {x:Nat × Oper} {A:List (Nat × Oper)} (h:pickD P num L W R=some (kd,x,A)) :
  soloB num L x.1 A=true∧x∈R∧(∀ p,p∈R→p.1=x.1∨p∈A)∧(∀ p,p∈A→p∈R∧waitB P num p.1 p.2=true)∧((kd=1∧waitB P num x.1 x.2=true)∨(kd=2∧(waitB P num x.1 x.2=false∨(¬ x.1∈W∧∀ p,p∈A→p.1 ≠ x.1)))):=by
 obtain ⟨h1,h2,h3⟩:=restB_spec (P:=P) (num:=num) R
 unfold pickD at h
 split at h
 ·rename_i A' x' he
  rw [he] at h1 h2 h3
  cases hs:soloB num L x'.1 A' with
  | false=>rw [hs] at h; cases h
  | true =>
   rw [hs] at h
   simp only [cond_true,Option.some.injEq,Prod.mk.injEq] at h
   obtain ⟨rfl,rfl,rfl⟩:=h
   exact ⟨hs,(h1 _).2 (.inr (by simp)),fun p hp=>((h1 p).1 hp).elim .inr fun e=>.inl (by rw [show p=x' by simpa using e]),fun p hp=>⟨(h1 p).2 (.inl hp),h2 p hp⟩,.inr ⟨rfl,.inl (h3 _ (by simp))⟩⟩
 ·rename_i A' he
  rw [he] at h1 h2 h3
  obtain ⟨g1,g2,g3,rfl⟩:=firstS_spec h
  refine ⟨g2,(h1 _).2 (.inl g1),fun p hp=>?_,fun p hp=>⟨(h1 p).2 (.inl (others_mem.1 hp).1),h2 p (others_mem.1 hp).1⟩,?_⟩
  ·by_cases e:p.1=x.1
   ·exact .inl e
   ·rcases (h1 p).1 hp with h | h
    ·exact .inr (others_mem.2 ⟨h,e⟩)
    ·cases h
  ·rw [g3]
   unfold kdOf
   cases hc:isCallO x.2 with
   | false=>exact .inl ⟨rfl,h2 _ g1⟩
   | true =>
    cases hm:memN x.1 W with
    | true=>exact .inl ⟨rfl,h2 _ g1⟩
    | false=>exact .inr ⟨rfl,.inr ⟨fun e=>by rw [(memN_mem _ _).2 e] at hm; (cases hm),fun p hp=>(others_mem.1 hp).2⟩⟩
 ·cases h
theorem evStep_do {E:Env} {s:Step} {Pr:List (List Nat × List Nat)} {S:St} {k:V→List (List Nat × List Nat)→St→Option R} {q:R} (hk:s.kd=2) (h:evStep E s Pr S k=some q) :
  presB S (hidOf s.L Pr)=true∧(evOp E (S.hide (hidOf s.L Pr)) s.o fun v S'=>k v Pr (S.unhide (hidOf s.L Pr) S'))=some q:=by
 unfold evStep at h
 rw [hk] at h
 simp only at h
 split at h
 ·rename_i he
  rw [he]
  refine ⟨rfl,?_⟩
  rw [hide_nil]
  simp only [unhide_nil]
  exact h
 ·rename_i d H he
  rw [he]
  exact cond_none h
theorem evDraw_cons {E:Env} {ops:Array Oper} {s:Step} {l:List Step} {Pr:List (List Nat × List Nat)} {S:St} {K:St→Option R} {q:R} (h:evDraw E ops (s::l) Pr S K=some q) {m:Nat} {w₀:Base} {I₀ O₀:Nat→Nat→Prop}
  {ρ:Nat→Option Real} {I:Nat→Nat→Prop} {a:Act} {w:World} (hr0:Rel m w₀ I₀ O₀ ρ I (S.drop s.dr) a w):wsOk E.P (S.drop s.dr) s.ws=true∧wcOk E (S.drop s.dr) s.wc=true∧∃ S',(s.o.guard=none→S' = S.drop s.dr)∧Rel m w₀ I₀ O₀ ρ I S' a w∧S'.tab=S.tab∧(∀ t,t∈s.dr→lk? S'.fr t=none) ∧
   ((Region.wanted s.o (yielded ops a.tmps)=true∧(evStep E s Pr S' fun v Pr S=>evDraw E ops l Pr (S.put s.o.dst v) K)=some q) ∨
    (Region.wanted s.o (yielded ops a.tmps)=false∧s.o.guard ≠ none∧evDraw E ops l Pr (S'.put s.o.dst (.tup [])) K=some q)):=by
 have ht0:=drop_tab S s.dr
 have hn0:∀ t,t∈s.dr→lk? (S.drop s.dr).fr t=none:=fun t ht=>by rw [drop_fr,if_pos ht]
 unfold evDraw at h
 obtain ⟨hws,h⟩:=cond_none h
 obtain ⟨hwc,h⟩:=cond_none h
 refine ⟨hws,hwc,?_⟩
 generalize S.drop s.dr=S₀ at *
 simp only [vf_eq] at h
 split at h
 ·rename_i hg
  exact ⟨S₀,fun _=>rfl,hr0,ht0,hn0,.inl ⟨by simp [Region.wanted,hg],h⟩⟩
 ·rename_i j want hg
  have hgn:s.o.guard ≠ none:=by rw [hg]; simp
  split at h
  ·rename_i t hs
   have hy:yielded ops a.tmps j=match a.tmps[t]? with | some (.bool b)=>some b | _=>none:=by
    unfold slotOf at hs
    unfold yielded
    split at hs
    ·rename_i oj hoj; rw [hoj]; simp only [Option.bind_some,hs]; cases a.tmps[t]? with | none=>rfl | some u=>cases u<;>rfl
    ·cases hs
   have hw:∀ b,a.tmps[t]? = some (.bool b)→Region.wanted s.o (yielded ops a.tmps)=(b==want):=fun b hb=>by
    simp only [Region.wanted,hg]
    rw [hy,hb]; cases b<;>cases want<;>rfl
   split at h
   ·rename_i b hb
    have hlk:=get_some hb (by simp)
    have hbt:=tmps_bool (hr0.fr t _ hlk).bool_inv
    have hrs:=hr0.reset hlk
    have hn1:∀ v,∀ t',t'∈s.dr→lk? (S₀.set t v).fr t' = none:=fun v t' ht'=>by
     have hne:t' ≠ t:=fun e=>by subst e; rw [hn0 t' ht'] at hlk; cases hlk
     simp only [St.set,lk?]
     rw [show Nat.beq t' t=false by rw [Bool.eq_false_iff]; exact fun hh=>hne (Nat.eq_of_beq_eq_true hh)]
     exact hn0 t' ht'
    cases b with
    | true =>
     simp only [cond_true] at h
     cases want with
     | true=>exact ⟨_,fun e=>absurd e hgn,hrs,ht0,hn1 _,.inl ⟨by rw [hw _ hbt]; rfl,h⟩⟩
     | false=>exact ⟨_,fun e=>absurd e hgn,hrs,ht0,hn1 _,.inr ⟨by rw [hw _ hbt]; rfl,hgn,h⟩⟩
    | false =>
     simp only [cond_false] at h
     cases want with
     | true=>exact ⟨_,fun e=>absurd e hgn,hrs,ht0,hn1 _,.inr ⟨by rw [hw _ hbt]; rfl,hgn,h⟩⟩
     | false=>exact ⟨_,fun e=>absurd e hgn,hrs,ht0,hn1 _,.inl ⟨by rw [hw _ hbt]; rfl,h⟩⟩
   ·rename_i hb
    have hlk:=get_some hb (by simp)
    obtain ⟨xs,hx,hxl,_⟩:=(hr0.fr t _ hlk).tup_inv
    have hxs:xs=[]:=by cases xs with | nil=>rfl | cons _ _=>cases hxl
    have hn:yielded ops a.tmps j=none:=by
     rw [hy]
     cases e:a.tmps[t]? with
     | none=>rfl
     | some u =>
      rw [Array.getD_eq_getD_getElem?,e,Option.getD_some,hxs] at hx
      subst hx; rfl
    exact ⟨S₀,fun _=>rfl,hr0,ht0,hn0,.inr ⟨by simp only [Region.wanted,hg,hn]; cases want<;>simp,hgn,h⟩⟩
   ·cases h
  ·cases h
end Go.Ev

/- Regions whose order is drawn: whichever order comes,it does what the row that was found does; the callees' soundness is a premise. -/
namespace Go.Ev
open Go Go.RowKit
def cnt (l:Array Bool):Nat:=l.toList.count false
theorem cnt_set {l:Array Bool} {i:Nat} (h:l.getD i true=false):cnt (l.setIfInBounds i true)+1=cnt l:=by
 have hi:i<l.size:=by
  rcases Nat.lt_or_ge i l.size with h' | h'
  ·exact h'
  ·simp [Array.getElem?_eq_none h'] at h
 unfold cnt
 rw [Array.toList_setIfInBounds,List.count_set (by simpa using hi)]
 have e:l.toList[i]'(by simpa using hi)=false:=by simpa [hi] using h
 have:0<l.toList.count false:=List.count_pos_iff.2 (e ▸ List.getElem_mem _)
 rw [e]
 simp only [BEq.rfl,if_true]
 rw [if_neg (by simp)]
 omega
theorem cnt_zero {l:Array Bool} (h:cnt l=0) (i:Nat):l.getD i true=true:=by
 cases e:l.getD i true with
 | true=>rfl
 | false=>have:=cnt_set e; omega
section
variable {m:Nat} {w₀:Base} {I₀ O₀:Nat→Nat→Prop} {ρ:Nat→Option Real} {I:Nat→Nat→Prop} {S:St} {a:Act} {w:World}
structure SlcW (ops:Array Oper) (i:Nat) (oi:Oper) (ty:TypeId) (n:Nat) (ps:Array (Nat × Operand)) (t:Nat):Prop where
 at' : ops[i]? = some oi
 op:oi.op = .buildSlice ty n ps
 gd:oi.guard=none
 dst:oi.dst=some t
 own:∀ j oj,ops[j]? = some oj→j ≠ i→oj.dst ≠ some t
 ins:∀ j oj,ops[j]? = some oj→¬ j∈depsOf oi→∀ t',oj.dst=some t'→∀ q,q∈ps.toList→notTmp q.2 t' = true
 len:ps.toList.length=n
theorem eval_put {a:Act} {x:Operand} {d:Option Nat} {v:Value} (h:∀ t,d=some t→notTmp x t=true):(a.put d v).eval x=a.eval x:=by
 cases d with
 | none=>rfl
 | some t =>
  cases x with
  | tmp i =>
   have hne:t ≠ i:=fun e=>by have:=h t rfl; subst e; simp [notTmp] at this
   simp only [Act.eval,Act.put]
   simp [Array.getD_eq_getD_getElem?,hne]
  | _=>rfl
structure PendOk (P:Program) (ops:Array Oper) (w₀:Base) (ρ:Nat→Option Real) (I:Nat→Nat→Prop) (S:St) (a:Act) (w:World) (i b:Nat):Prop where
 ex:(∃ (oi:Oper) (e:TypeId) (t:Nat) (z:Value),ops[i]? = some oi∧oi.op = .alloc e∧oi.guard=none∧oi.dst=some t∧(∀ j oj,ops[j]? = some oj→j ≠ i→oj.dst ≠ some t) ∧
  (∀ w I ρ,AllRv w I ρ (zeroOf P FUEL e) z.cells.toList)∧a.tmps.getD t Go.undef = .pointer (some ⟨b,0,none⟩)∧w.heap[b]? = some (.cells z.cells e (0,0))) ∨
  ∃ (oi:Oper) (ty:TypeId) (n:Nat) (ps:Array (Nat × Operand)) (t:Nat) (e:TypeId) (cells:Array Value),SlcW ops i oi ty n ps t∧a.tmps.getD t Go.undef = .slice (some ⟨b,0,none⟩) n n∧w.heap[b]? = some (.cells cells e (0,0)) ∧
   ∀ (j:Nat) (q:Nat × Operand),ps.toList[j]? = some q→cells[j]? = some (a.eval q.2)
 noI:∀ o,¬ I b o
 noB:∀ d br o,Live S d→ρ d=some br→¬ br.has b o
 new:w₀.heap.size≤b
structure CallW (ops:Array Oper) (i:Nat) (oi:Oper) (c:Call) (f:FuncId) (t:Nat):Prop where
 at' : ops[i]? = some oi
 op:oi.op = .call c
 cal:c.callee = .value (.func f)
 gd:oi.guard=none
 dst:oi.dst=some t
 own:∀ j oj,ops[j]? = some oj→j ≠ i→oj.dst ≠ some t
 ins:∀ j oj,ops[j]? = some oj→¬ j∈depsOf oi→∀ t',oj.dst=some t'→∀ x,x∈c.args.toList→notTmp x t' = true
 len:c.args.toList.length=c.argTypes.toList.length
def PendC (G:FuncId→Option Den) (ops:Array Oper) (a:Act) (i:Nat):Prop :=
 ∃ (oi:Oper) (c:Call) (f:FuncId) (t:Nat) (D:Den) (vs:List V),CallW ops i oi c f t∧G f=some D∧vs.length=c.args.toList.length ∧
  (∀ (j:Nat) (x:Operand),c.args.toList[j]? = some x→flatV (vs.getD j .undef)=true∧∀ w I,Dat w I (vs.getD j .undef) (a.eval x)) ∧
  flatV (D.res vs []).v=true∧∀ w I,Dat w I (D.res vs []).v (a.tmps.getD t Go.undef)
theorem PendC.next {G:FuncId→Option Den} {ops:Array Oper} {a:Act} {i:Nat} (h:PendC G ops a i) {k:Nat} {ok:Oper} (hk:ops[k]? = some ok) (hki:k ≠ i) (hkd:∀ oi,ops[i]? = some oi→¬ k∈depsOf oi) {x:Value} :
  PendC G ops (a.put ok.dst x) i:=by
 obtain ⟨oi,c,f,t,D,vs,h1,h2,h3,h4,h5,h6⟩:=h
 refine ⟨oi,c,f,t,D,vs,h1,h2,h3,fun j y hy=>?_,h5,fun w I=>?_⟩
 ·rw [eval_put fun t' ht'=>h1.ins k ok hk (hkd oi h1.at') t' ht' y (List.mem_of_getElem? hy)]
  exact h4 j y hy
 ·have:(a.put ok.dst x).tmps.getD t Go.undef=a.tmps.getD t Go.undef:=by
   cases hd:ok.dst with
   | none=>rfl
   | some t' =>
    have hne:t' ≠ t:=fun e=>h1.own k ok hk hki (by rw [hd,e])
    simp only [Act.put]
    rw [Array.getD_eq_getD_getElem?,Array.getElem?_setIfInBounds,if_neg hne,← Array.getD_eq_getD_getElem?]
  rw [this]; exact h6 w I
theorem PendOk.lt {P:Program} {ops:Array Oper} {i b:Nat} (h:PendOk P ops w₀ ρ I S a w i b):b<w.heap.size:=by
 have main:∀ o,w.heap[b]? = some o→b<w.heap.size:=fun o h=>by
  rcases Nat.lt_or_ge b w.heap.size with h' | h'
  ·exact h'
  ·rw [Array.getElem?_eq_none h'] at h; cases h
 rcases h.ex with ⟨_,_,_,_,_,_,_,_,_,_,_,h⟩ | ⟨_,_,_,_,_,_,_,_,_,h,_⟩
 ·exact main _ h
 ·exact main _ h
theorem PendOk.next {P:Program} {ops:Array Oper} {i b:Nat} (h:PendOk P ops w₀ ρ I S a w i b) {k:Nat} {ok:Oper} (hk:ops[k]? = some ok) (hki:k ≠ i) (hkd:∀ oi,ops[i]? = some oi→¬ k∈depsOf oi) {x:Value} {X:Nat→Nat→Prop} {w' : World}
  (hw:Keeps X w w') (hX:∀ o,¬ X b o) {ρ' : Nat→Option Real} {I' : Nat→Nat→Prop} {S' : St} (hI:∀ o,¬ I' b o) (hB:∀ d br o,Live S' d→ρ' d=some br→¬ br.has b o) :
  PendOk P ops w₀ ρ' I' S' (a.put ok.dst x) w' i b:=by
 have tmp:∀ t x',(∀ j oj,ops[j]? = some oj→j ≠ i→oj.dst ≠ some t)→a.tmps.getD t Go.undef=x'→(a.put ok.dst x).tmps.getD t Go.undef=x':=fun t x' h5 h7=>by
  cases hd:ok.dst with
  | none=>exact h7
  | some t' =>
   have hne:t' ≠ t:=fun e=>h5 k ok hk hki (by rw [hd,e])
   simp only [Act.put]
   rw [Array.getD_eq_getD_getElem?,Array.getElem?_setIfInBounds,if_neg hne,← Array.getD_eq_getD_getElem?]
   exact h7
 have mem:∀ c e,w.heap[b]? = some (.cells c e (0,0))→w'.heap[b]? = some (.cells c e (0,0)):=fun c e h8=>by
  have:=hw.obj b h.lt
  rw [h8] at this
  obtain ⟨c',g1,g2,g3⟩:=this
  rw [g1]
  congr 2
  exact Array.ext_getElem? fun i=>g3 i (hX i)
 rcases h.ex with ⟨oi,e,t,z,h1,h2,h3,h4,h5,h6,h7,h8⟩ | ⟨oi,ty,n,ps,t,e,cells,h1,h7,h8,h9⟩
 ·exact ⟨.inl ⟨oi,e,t,z,h1,h2,h3,h4,h5,h6,tmp t _ h5 h7,mem _ _ h8⟩,hI,hB,h.new⟩
 ·refine ⟨.inr ⟨oi,ty,n,ps,t,e,cells,h1,tmp t _ h1.own h7,mem _ _ h8,fun j q hq=>?_⟩,hI,hB,h.new⟩
  rw [eval_put fun t' ht'=>h1.ins k ok hk (hkd oi h1.at') t' ht' q (List.mem_of_getElem? hq)]
  exact h9 j q hq
theorem Rel.early (h:Rel m w₀ I₀ O₀ ρ I S a w) {t:Nat} (ht:lk? S.fr t=none) (o:Obj) (x:Value):Rel m w₀ I₀ O₀ ρ I S (a.put (some t) x) (w.alloc o) :=
 (h.grow (Keeps.alloc _ w o)).setTmp ht x
theorem PendOk.fresh (h:Rel m w₀ I₀ O₀ ρ I S a w) {P:Program} {ops:Array Oper} {i:Nat} {oi:Oper} {e:TypeId} {t:Nat} {z:Value} (h1:ops[i]? = some oi) (h2:oi.op = .alloc e) (h3:oi.guard=none) (h4:oi.dst=some t)
  (h5:∀ j oj,ops[j]? = some oj→j ≠ i→oj.dst ≠ some t) (h6:∀ w I ρ,AllRv w I ρ (zeroOf P FUEL e) z.cells.toList) (ht:t<m) :
  PendOk P ops w₀ ρ I S (a.put (some t) (.pointer (some ⟨w.heap.size,0,none⟩))) (w.alloc (.cells z.cells e)) i w.heap.size:=by
 refine ⟨.inl ⟨oi,e,t,z,h1,h2,h3,h4,h5,h6,?_,heap_alloc_new w _⟩,fun o hi=>?_,fun d br o hl hd hh=>?_,h.keeps.size⟩
 ·simp only [Act.put]
  rw [Array.getD_eq_getD_getElem?,Array.getElem?_setIfInBounds]
  simp [h.size,ht]
 ·have:=h.ilt _ _ hi; omega
 ·obtain ⟨⟨y,hy⟩,_⟩:=h.alive d br _ _ hl hd hh
  have:=lt_of_cell hy; omega
theorem Rel.adopt (h:Rel m w₀ I₀ O₀ ρ I S a w) {P:Program} {bo:Nat} {ops:Array Oper} {i b:Nat} (hp:PendOk P ops w₀ ρ I S a w i b) {oi:Oper} {e:TypeId} {t:Nat} (h1:ops[i]? = some oi) (h2:oi.op = .alloc e) (h4:oi.dst=some t)
  (hn:lk? S.tab (bo+t)=none):∃ br,br.base=some (b,0)∧Rel m w₀ I₀ O₀ (upd ρ (bo+t) br) I (St.put { S with tab:=S.tab++[(bo+t,.var (zeroOf P FUEL e))] } (some t) (.ptr (bo+t) 0 0 0)) a w:=by
 rcases hp.ex with ⟨oi',e',t',z,g1,g2,g3,g4,g5,g6,g7,g8⟩ | ⟨oi',_,_,_,_,_,_,gw,_⟩
 case inr=>have:=gw.at'; rw [h1] at this; cases this; have:=gw.op; rw [h2] at this; cases this
 rw [h1] at g1; cases g1
 rw [h2] at g2; cases g2
 rw [h4] at g4; cases g4
 let br:Real:={ base:=some (b,0),sz:=(zeroOf P FUEL e).length,n:=1,cap:=1,gen:=0 }
 have hz:=g6 w I (upd ρ (bo+t) br)
 have hcell:∀ o,o<z.cells.size→w.cell? ⟨b,o,none⟩=some (z.cells.toList.getD o Go.undef):=fun o ho=>by
  rw [cell_eq,g8]; simp [ho]
 have hbox:BoxR w I (upd ρ (bo+t) br) (.var (zeroOf P FUEL e)) br:=⟨rfl,rfl,rfl,rfl,b,0,rfl,fun j hj=>by
  have hj' : j<z.cells.size:=by have:=hz.1; simp at this; omega
  exact ⟨_,by rw [Nat.zero_add]; exact hcell j hj',hz.2 j hj⟩⟩
 have hadd:=h.addBox hn hbox fun b' o hh=>by
  obtain ⟨o₀,k1,k2,k3⟩:=hh
  cases k1
  have ho:o<z.cells.size:=by have:=hz.1; simp [br] at this k3; omega
  refine ⟨hp.new,hp.noI o,⟨_,hcell o ho⟩,?_,fun d br' hl hd=>hp.noB d br' o hl hd⟩
  rw [frozen_eq,g8]; simp
 refine ⟨br,rfl,hadd.1.bind ?_⟩
 rw [g7]
 exact .ptr (bo+t) 0 0 0 br _ (by simp [upd]) (Nat.le_refl _) (fun _=>⟨Nat.one_pos,b,0,rfl,by simp⟩) ⟨_,rfl⟩
theorem PendOk.freshS (h:Rel m w₀ I₀ O₀ ρ I S a w) {P:Program} {ops:Array Oper} {i:Nat} {oi:Oper} {ty:TypeId} {n:Nat} {ps:Array (Nat × Operand)} {t:Nat} {e:TypeId} {cells:Array Value} (hw:SlcW ops i oi ty n ps t)
  (hc:∀ (j:Nat) (q:Nat × Operand),ps.toList[j]? = some q→cells[j]? = some (a.eval q.2)) (hi:∀ q,q∈ps.toList→notTmp q.2 t=true) (ht:t<m) :
  PendOk P ops w₀ ρ I S (a.put (some t) (.slice (some ⟨w.heap.size,0,none⟩) n n)) (w.alloc (.cells cells e)) i w.heap.size:=by
 refine ⟨.inr ⟨oi,ty,n,ps,t,e,cells,hw,?_,heap_alloc_new w _,fun j q hq=>?_⟩,fun o hi=>?_,fun d br o hl hd hh=>?_,h.keeps.size⟩
 ·simp only [Act.put]
  rw [Array.getD_eq_getD_getElem?,Array.getElem?_setIfInBounds]
  simp [h.size,ht]
 ·rw [eval_put fun t' ht'=>by cases ht'; exact hi q (List.mem_of_getElem? hq)]
  exact hc j q hq
 ·have:=h.ilt _ _ hi; omega
 ·obtain ⟨⟨y,hy⟩,_⟩:=h.alive d br _ _ hl hd hh
  have:=lt_of_cell hy; omega
theorem Rel.addI (h:Rel m w₀ I₀ O₀ ρ I S a w) {b:Nat} (hb:b<w.heap.size) (hn:w₀.heap.size≤b) (hno:∀ d br o,Live S d→ρ d=some br→¬ br.has b o):Rel m w₀ I₀ O₀ ρ (fun b' o=>I b' o∨b' = b) S a w:=by
 refine ⟨fun t v hv=>(h.fr t v hv).keep (fun _ _ _=>rfl) (fun _ _ h=>.inl h) (Evo.refl _),h.dfr,h.size,fun d box hb=>?_,h.dom,h.apart,fun d br b' o hl hd hh hi=>?_,h.org,h.slorg,h.alive,fun b' o hi=>?_,fun b' o hi=>.inl (h.imono b' o hi),fun b' o hi hlt=>?_,h.keeps,h.lent,h.hid,h.evo⟩
 ·obtain ⟨br,h1,h2⟩:=h.tab d box hb
  exact ⟨br,h1,h2.keep (fun _ _ _=>rfl) (fun _ _ h=>.inl h) (Evo.refl _) (fun _ _ _=>rfl) fun b cur e f h=>⟨cur,h,rfl⟩⟩
 ·rcases hi with hi | rfl
  ·exact h.notI d br b' o hl hd hh hi
  ·exact hno d br o hl hd hh
 ·rcases hi with hi | rfl
  ·exact h.ilt b' o hi
  ·exact hb
 ·rcases hi with hi | rfl
  ·exact h.iold b' o hi hlt
  ·omega
theorem Rv.flat {v:V} {x:Value} (h:Rv w I ρ v x) (hf:flatV v=true):x.cells = #[x]∧∀ w I,Dat w I v x:=by
 cases h with
 | dat h=>cases h<;>first | (cases hf; done) | exact ⟨rfl,fun _ _=>by constructor⟩
 | _=>cases hf
def flatLit:V→Value
 | .bool b=>.bool b | .int k n=>.int k n | .str s=>.string ⟨s.toArray⟩ | _=>Go.undef
theorem Dat.lit {w:World} {I:Nat→Nat→Prop} {v:V} {x:Value} (h:Dat w I v x) (hf:flatV v=true):x=flatLit v:=by
 cases h<;>first | rfl | cases hf
theorem flat_inj {v v' : V} {x:Value} {w:World} {I:Nat→Nat→Prop} {w' : World} {I' : Nat→Nat→Prop} {ρ:Nat→Option Real} (h:Dat w I v x) (hf:flatV v=true) (h' : Rv w' I' ρ v' x) (hf' : flatV v' = true):v=v':=by
 have e:=(h.lit hf).symm.trans (((h'.flat hf').2 w I).lit hf')
 cases v<;>first | (cases hf; done) | skip
 all_goals cases v'<;>first | (cases hf'; done) | skip
 all_goals simp [flatLit] at e
 all_goals simp [e]
theorem dataVs_flat:∀ (vs:List V) (S:St) (k:List V→St→Option R),(∀ v∈vs,flatV v=true)→dataVs vs S k=k vs S
 | [],S,k,_=>rfl
 | v::r,S,k,h=>by
  have hv:=h v List.mem_cons_self
  unfold dataVs
  cases v<;>first | (cases hv; done) | (simp only [dataV,dataOf,datV,cond_true]; exact dataVs_flat r S _ fun u hu=>h u (List.mem_cons_of_mem _ hu))
theorem wsOk_spec {P:Program} {S:St}:∀ {l:List Operand},wsOk P S l=true→∀ x∈l,flatV (S.eval P 0 x)=true
 | [],_,x,hx=>by cases hx
 | y::r,h,x,hx=>by
  unfold wsOk at h
  obtain ⟨h1,h2⟩:=cond_and h
  rcases List.mem_cons.1 hx with rfl | hx
  ·exact h1
  ·exact wsOk_spec h2 x hx
theorem wsOf_mem:∀ {A:List (Nat × Oper)} {i:Nat} {o:Oper} {ty:TypeId} {n:Nat} {ps:Array (Nat × Operand)},(i,o)∈A→o.op = .buildSlice ty n ps→∀ q∈ps.toList,q.2∈wsOf A
 | [],_,_,_,_,_,h,_=>by cases h
 | (j,o')::r,i,o,ty,n,ps,h,ho=>fun q hq=>by
  unfold wsOf
  rcases List.mem_cons.1 h with h | h
  ·cases h; rw [ho]; exact List.mem_append_left _ (List.mem_map.2 ⟨q,hq,rfl⟩)
  ·have:=wsOf_mem h ho q hq
   split
   ·exact List.mem_append_right _ this
   ·exact this
theorem run_slice {P:Program} {ty e:TypeId} {n:Nat} {ps:Array (Nat × Operand)} (hu:P.underlying ty=some (.slice e)) (hz:zeroOk P e=true) (c1:P.cellsOf e=1) (c2:inOrder 0 ps.toList=true) (c3:ps.toList.length=n) (c4:1≤n) (c5:n≤1000)
  (hs:∀ q,q∈ps.toList→(a.eval q.2).cells = #[a.eval q.2]):∃ cells:Array Value,(Instr.buildSlice ty n (ps.map fun (i,x)=>(i,a.eval x))).run P w = .ok (.slice (some ⟨w.heap.size,0,none⟩) n n) (w.alloc (.cells cells e)) ∧
   ∀ (j:Nat) (q:Nat × Operand),ps.toList[j]? = some q→cells[j]? = some (a.eval q.2):=by
 let xs:=ps.toList.map fun p=>a.eval p.2
 have hxl:xs.length=n:=by simp [xs,c3]
 have hcell:∀ v∈xs,v.cells.size=1:=fun v hv=>by
  obtain ⟨q,hq,rfl⟩:=List.mem_map.1 hv
  rw [hs q hq]; rfl
 obtain ⟨z,hz1,hz2⟩:=zeroOk_spec hz
 have hparts:(ps.map fun (i,x)=>(i,a.eval x)).toList=(xs.zipIdx 0).map fun p=>(p.2,p.1):=by
  apply List.ext_getElem?
  intro i
  simp only [Array.toList_map,List.getElem?_map,List.getElem?_zipIdx,xs]
  cases hg:ps.toList[i]? with
  | none=>simp
  | some p =>
   have hi:i<ps.toList.length:=(List.getElem?_eq_some_iff.1 hg).1
   have:=inOrder_spec 0 ps.toList c2 i hi
   rw [hg] at this
   simp at this
   obtain ⟨p1,p2⟩:=p
   simp at this ⊢; exact this
 let cells0:Array Value:=(Array.range (n*P.cellsOf e)).map (z.cells[· % z.cells.size]!)
 obtain ⟨cells',g1,g2,_,g4⟩:=fill_rows 1 xs 0 cells0 hcell (by simp [cells0,hxl,c1])
 refine ⟨cells',?_,fun j q hq=>?_⟩
 ·simp only [Instr.buildSlice,Sem.run_bind,run_underlying' hu,Result.andThen_ok,run_sizeOf' (show P.cellsOf e ≠ 0 by omega)]
  rw [if_neg (by rw [c1]; omega)]
  have hn0:n*P.cellsOf e ≠ 0:=by rw [c1]; omega
  simp only [hn0,if_false,Sem.run_pure,Sem.run_bind,Result.andThen_ok,hz1]
  rw [c1]
  simp only [cells0,c1] at g1
  rw [hparts]
  simp only [g1]
  simp [newRow]
 ·have hj:j<xs.length:=by rw [hxl,← c3]; exact (List.getElem?_eq_some_iff.1 hq).1
  have hsz:cells'.size=n:=by rw [g2]; simp [cells0,c1]
  have:=g4 j 0 hj (by omega)
  have e1:xs.getD j Go.undef=a.eval q.2:=by simp only [xs,List.getD_eq_getElem?_getD,List.getElem?_map,hq,Option.map_some,Option.getD_some]
  rw [e1,hs q (List.mem_of_getElem? hq)] at this
  simp only [Nat.zero_add,Nat.mul_one,Nat.add_zero] at this
  rw [Array.getD_eq_getD_getElem?] at this
  rw [Array.getElem?_eq_getElem (by omega)] at this ⊢
  simpa using this
theorem Rel.adoptS (h:Rel m w₀ I₀ O₀ ρ I S a w) {P:Program} {ops:Array Oper} {i b:Nat} (hp:PendOk P ops w₀ ρ I S a w i b) {oi:Oper} {ty:TypeId} {n:Nat} {ps:Array (Nat × Operand)} {t:Nat} (hw:SlcW ops i oi ty n ps t) {sh:List Sh} (hsh:sh.length=1)
  (hf:∀ q∈ps.toList,flatV (S.eval P 0 q.2)=true) (hfit:fitsRows sh ((ps.toList.map fun (_,x)=>S.eval P 0 x).map V.cells)=true) :
  Rel m w₀ I₀ O₀ ρ (fun b' o=>I b' o∨b' = b) (St.put S (some t) (.slc sh ((ps.toList.map fun (_,x)=>S.eval P 0 x).map V.cells))) a w:=by
 have hlt:=hp.lt
 have hno:=hp.noB
 have hnew:=hp.new
 rcases hp.ex with ⟨oi',e',t',z,g1,g2,_⟩ | ⟨oi',ty',n',ps',t',e,cells,gw,g1,g2,g3⟩
 ·have:=hw.at'; rw [g1] at this; cases this; have:=hw.op; rw [g2] at this; cases this
 have e1:=hw.at'; rw [gw.at'] at e1; cases e1
 have e2:=hw.op; rw [gw.op] at e2; cases e2
 have e3:=hw.dst; rw [gw.dst] at e3; cases e3
 refine (h.addI hlt hnew hno).bind ?_
 rw [g1]
 have hl:=hw.len
 have hrl:((ps.toList.map fun (_,x)=>S.eval P 0 x).map V.cells).length=n:=by simp; simpa using hl
 have hat:∀ i,i<n→∃ q,ps.toList[i]? = some q∧((ps.toList.map fun (_,x)=>S.eval P 0 x).map V.cells).getD i []=[S.eval P 0 q.2]∧flatV (S.eval P 0 q.2)=true:=fun i hi=>by
  have hi' : i<ps.toList.length:=by omega
  refine ⟨ps.toList[i],List.getElem?_eq_getElem hi',?_,hf _ (List.getElem_mem _)⟩
  have hfl:=hf _ (List.getElem_mem hi')
  simp only [List.getD_eq_getElem?_getD,List.getElem?_map,List.getElem?_eq_getElem hi',Option.map_some,Option.getD_some]
  generalize S.eval P 0 (ps.toList[i]).2=v at *
  cases v<;>first | rfl | (cases hfl)
 have:=Dat.slc (w:=w) (I:=fun b' o=>I b' o∨b' = b) sh _ (some ⟨b,0,none⟩) n (fun i _=>cells.getD i Go.undef) (by rw [hrl]; exact Nat.le_refl _) (fun h=>by cases h) hfit
  (fun _=>⟨b,0,rfl,fun i j hi hj=>by
   rw [hrl] at hi
   have hj0:j=0:=by omega
   subst hj0
   obtain ⟨q,hq,_⟩:=hat i hi
   refine ⟨?_,.inr rfl⟩
   rw [cell_eq,g2,hsh]
   simp [Array.getD_eq_getD_getElem?,g3 i q hq]⟩) (fun i j hi hj=>by
   rw [hrl] at hi
   have hj0:j=0:=by omega
   subst hj0
   obtain ⟨q,hq,h2,h3⟩:=hat i hi
   unfold rowAt
   rw [h2]
   rw [Array.getD_eq_getD_getElem?,g3 i q hq]
   exact ((eval_ok h P 0 q.2).flat h3).2 _ _)
 rw [hrl] at this
 exact .dat this
def ZInv (Z:Nat→Nat→Nat→Prop) (Pr:List (List Nat × List Nat)) (L:List Nat) (S:St) (ρ:Nat→Option Real) (I:Nat→Nat→Prop) (w:World):Prop :=
 ∀ k b o,¬ k∈L→Z k b o→b<w.heap.size∧(I b o∨∃ p,p∈Pr∧k∈p.1∧∃ d br,d∈p.2∧Live S d∧ρ d=some br∧br.has b o)
theorem hidOf_mem {L:List Nat} {k:Nat} (hk:¬ k∈L):∀ {Pr:List (List Nat × List Nat)} {p:List Nat × List Nat} {d:Nat},p∈Pr→k∈p.1→d∈p.2→d∈hidOf L Pr
 | [],_,_,hp,_,_=>by cases hp
 | (C,ds)::r,p,d,hp,hc,hd=>by
  unfold hidOf
  rcases List.mem_cons.1 hp with rfl | hp
  ·have:allIn C L=false:=by
    rw [Bool.eq_false_iff]; exact fun e=>hk ((allIn_spec C L).1 e k hc)
   rw [this,cond_false]; exact List.mem_append_left _ hd
  ·have:=hidOf_mem hk hp hc hd
   cases allIn C L with
   | true=>exact this
   | false=>exact List.mem_append_right _ this
end
theorem mem_readyL {num:List (Nat × Oper)} {L:List Nat} {i:Nat} {o:Oper}:(i,o)∈readyL num L↔(i,o)∈num∧¬ i∈L∧∀ k,k∈depsOf o→k∈L:=by
 unfold readyL
 rw [List.mem_filter]
 cases h:memN i L with
 | true=>simp [(memN_mem i L).1 h]
 | false =>
  have:¬ i∈L:=fun e=>by rw [(memN_mem i L).2 e] at h; cases h
  simp only [cond_false,allIn_spec,this,not_false_eq_true,true_and]
theorem LR.congr {ops:Array Oper} {L L' : List Nat} {listed:Array Bool} (h:LR ops L listed) (hL:∀ i,i∈L↔i∈L'):LR ops L' listed :=
 ⟨h.size,fun i hi=>(h.mem i hi).trans (hL i),fun i hi=>h.lt i ((hL i).2 hi)⟩
theorem live_tab {S S' : St} (h:S'.tab=S.tab) (d:Nat):Live S' d↔Live S d:=by unfold Live; rw [h]
theorem ZInv.tab {Z:Nat→Nat→Nat→Prop} {Pr:List (List Nat × List Nat)} {L:List Nat} {S S' : St} {ρ:Nat→Option Real} {I:Nat→Nat→Prop} {w:World} (h:ZInv Z Pr L S ρ I w) (ht:S'.tab=S.tab) {L' : List Nat} (hL:∀ k,k∈L→k∈L'):ZInv Z Pr L' S' ρ I w:=fun k b o hk hz=>by
 obtain ⟨h1,h2⟩:=h k b o (fun e=>hk (hL k e)) hz
 refine ⟨h1,h2.imp id fun ⟨p,g1,g2,d,br,g3,g4,g5⟩=>⟨p,g1,g2,d,br,g3,(live_tab ht d).2 g4,g5⟩⟩
def PendX (P:Program) (G:FuncId→Option Den) (ops:Array Oper) (w₀:Base) (ρ:Nat→Option Real) (I:Nat→Nat→Prop) (S:St) (a:Act) (w:World) (i b:Nat):Prop :=
 PendOk P ops w₀ ρ I S a w i b∨PendC G ops a i
def isC (ops:Array Oper) (i:Nat):Prop:=∃ o,ops[i]? = some o∧isCallO o=true
theorem PendOk.notC {P:Program} {ops:Array Oper} {w₀:Base} {ρ:Nat→Option Real} {I:Nat→Nat→Prop} {S:St} {a:Act} {w:World} {i b:Nat} (h:PendOk P ops w₀ ρ I S a w i b):¬ isC ops i:=fun ⟨o,h1,h2⟩=>by
 rcases h.ex with ⟨oi,e,t,z,g1,g2,_⟩ | ⟨oi,_,_,_,_,_,_,gw,_⟩
 ·rw [h1] at g1; cases g1; unfold isCallO at h2; rw [g2] at h2; cases h2
 ·have g1:=gw.at'; rw [h1] at g1; cases g1; unfold isCallO at h2; rw [gw.op] at h2; cases h2
theorem PendOk.re {P:Program} {ops:Array Oper} {w₀:Base} {ρ ρ' : Nat→Option Real} {I I' : Nat→Nat→Prop} {S S' : St} {a:Act} {w:World} {i b:Nat} (h:PendOk P ops w₀ ρ I S a w i b)
  (hI:∀ o,¬ I' b o) (hB:∀ d br o,Live S' d→ρ' d=some br→¬ br.has b o):PendOk P ops w₀ ρ' I' S' a w i b:=⟨h.ex,hI,hB,h.new⟩
theorem PendX.re {P:Program} {G:FuncId→Option Den} {ops:Array Oper} {w₀:Base} {ρ ρ' : Nat→Option Real} {I I' : Nat→Nat→Prop} {S S' : St} {a:Act} {w:World} {i b:Nat} (h:PendX P G ops w₀ ρ I S a w i b)
  (hs:PendOk P ops w₀ ρ I S a w i b→(∀ o,¬ I' b o)∧∀ d br o,Live S' d→ρ' d=some br→¬ br.has b o):PendX P G ops w₀ ρ' I' S' a w i b:=h.imp (fun h=>h.re (hs h).1 (hs h).2) id
theorem PendX.next {P:Program} {G:FuncId→Option Den} {ops:Array Oper} {w₀:Base} {ρ:Nat→Option Real} {I:Nat→Nat→Prop} {S:St} {a:Act} {w:World} {i b:Nat} (h:PendX P G ops w₀ ρ I S a w i b) {k:Nat} {ok:Oper} (hk:ops[k]? = some ok) (hki:k ≠ i)
  (hkd:∀ oi,ops[i]? = some oi→¬ k∈depsOf oi) {x:Value} {X:Nat→Nat→Prop} {w' : World} (hw:Keeps X w w') {ρ' : Nat→Option Real} {I' : Nat→Nat→Prop} {S' : St}
  (hs:PendOk P ops w₀ ρ I S a w i b→(∀ o,¬ X b o)∧(∀ o,¬ I' b o)∧∀ d br o,Live S' d→ρ' d=some br→¬ br.has b o):PendX P G ops w₀ ρ' I' S' (a.put ok.dst x) w' i b :=
 h.imp (fun h=>h.next hk hki hkd hw (hs h).1 (hs h).2.1 (hs h).2.2) fun h=>h.next hk hki hkd
structure PS (P:Program) (G:FuncId→Option Den) (ops:Array Oper) (w₀:Base) (ρ:Nat→Option Real) (I:Nat→Nat→Prop) (S:St) (a:Act) (w:World) (L W:List Nat) (pend:List (Nat × Nat)):Prop where
 ok:∀ p,p∈pend→PendX P G ops w₀ ρ I S a w p.1 p.2
 rdy:∀ p,p∈pend→∃ o,(p.1,o)∈readyL (numberFrom 0 ops.toList) L∧waitB P (numberFrom 0 ops.toList) p.1 o=true
 inj:∀ p p',p∈pend→p'∈pend→¬ isC ops p.1→¬ isC ops p'.1→p.2=p'.2→p.1=p'.1
 wt:∀ p,p∈pend→p.1∈W
theorem PS.widen {P:Program} {G:FuncId→Option Den} {ops:Array Oper} {w₀:Base} {ρ:Nat→Option Real} {I:Nat→Nat→Prop} {S:St} {a:Act} {w:World} {L W W' : List Nat} {pend:List (Nat × Nat)} (h:PS P G ops w₀ ρ I S a w L W pend)
  (hW:∀ p,p∈pend→p.1∈W→p.1∈W'):PS P G ops w₀ ρ I S a w L W' pend:=⟨h.ok,h.rdy,h.inj,fun p hp=>hW p hp (h.wt p hp)⟩
theorem PS.next {P:Program} {G:FuncId→Option Den} {ops:Array Oper} {w₀:Base} {ρ ρ' : Nat→Option Real} {I I' : Nat→Nat→Prop} {S S' : St} {a a' : Act} {w w' : World} {L W:List Nat} {pend:List (Nat × Nat)} (h:PS P G ops w₀ ρ I S a w L W pend) {i:Nat} {W' : List Nat}
  (hi:∀ p,p∈pend→p.1 ≠ i) (hok:∀ p,p∈pend→PendX P G ops w₀ ρ' I' S' a' w' p.1 p.2) (hW:∀ p,p∈pend→p.1∈W→p.1∈W'):PS P G ops w₀ ρ' I' S' a' w' (i::L) W' pend:=by
 refine ⟨hok,fun p hp=>?_,h.inj,fun p hp=>hW p hp (h.wt p hp)⟩
 obtain ⟨o,ho,hw⟩:=h.rdy p hp
 obtain ⟨g1,g2,g3⟩:=mem_readyL.1 ho
 exact ⟨o,mem_readyL.2 ⟨g1,fun e=>(List.mem_cons.1 e).elim (hi p hp) g2,fun k hk=>List.mem_cons_of_mem _ (g3 k hk)⟩,hw⟩
theorem addPr_old {C ds:List Nat} {Pr:List (List Nat × List Nat)} {p:List Nat × List Nat} (h:p∈Pr):p∈addPr C ds Pr:=by
 cases ds with
 | nil=>exact h
 | cons d r=>exact List.mem_cons_of_mem _ h
theorem addPr_new {C ds:List Nat} {Pr:List (List Nat × List Nat)} {d:Nat} (h:d∈ds):(C,ds)∈addPr C ds Pr:=by
 cases ds with
 | nil=>cases h
 | cons d r=>exact List.mem_cons_self
theorem rdBx_noMem {P:Program} {S:St} {o:Oper} (h:noMem o.op=true):rdBx P S o=[]:=by
 unfold rdBx
 split<;>first | rfl | (rename_i e; rw [e] at h; cases h)
theorem waitB_spec {P:Program} {num:List (Nat × Oper)} {i:Nat} {o:Oper} (h:waitB P num i o=true):(∃ e t,o.op = .alloc e∧o.guard=none∧o.dst=some t∧zeroOk P e=true∧∀ p∈num,p.1 ≠ i→p.2.dst ≠ some t) ∨
  (∃ ty n ps e t,o.op = .buildSlice ty n ps∧o.guard=none∧o.dst=some t∧P.underlying ty=some (.slice e)∧P.cellsOf e=1∧(shOf P FUEL e).length=1∧zeroOk P e=true∧inOrder 0 ps.toList=true∧ps.toList.length=n∧1≤n∧n≤1000 ∧
   (∀ p∈num,p.1 ≠ i→p.2.dst ≠ some t)∧∀ p∈num,¬ p.1∈depsOf o→∀ t',p.2.dst=some t'→∀ q,q∈ps.toList→notTmp q.2 t' = true) ∨
  ∃ c f t,o.op = .call c∧c.callee = .value (.func f)∧o.guard=none∧o.dst=some t∧flatRetP P f=true∧c.args.toList.length=c.argTypes.toList.length ∧
   (∀ p∈num,p.1 ≠ i→p.2.dst ≠ some t)∧∀ p∈num,¬ p.1∈depsOf o→∀ t',p.2.dst=some t'→∀ x,x∈c.args.toList→notTmp x t' = true:=by
 have own:∀ t,(num.all fun p=>cond (Nat.beq p.1 i) true (match p.2.dst with | some t'=>!Nat.beq t t' | none=>true))=true→∀ p∈num,p.1 ≠ i→p.2.dst ≠ some t:=fun t h2 p hp hpi hpt=>by
  have:=List.all_eq_true.1 h2 p hp
  have e1:Nat.beq p.1 i=false:=by rw [Bool.eq_false_iff]; exact fun e=>hpi (Nat.eq_of_beq_eq_true e)
  rw [e1,hpt] at this
  simp at this
 unfold waitB at h
 split at h
 ·rename_i e he
  split at h
  ·rename_i hg
   split at h
   ·rename_i t ht
    obtain ⟨h1,h2⟩:=cond_and h
    exact .inl ⟨e,t,he,hg,ht,h1,own t h2⟩
   ·cases h
  ·cases h
 ·rename_i ty n ps he
  split at h
  ·rename_i hg
   split at h
   ·rename_i t e ht hu
    obtain ⟨h1,h⟩:=cond_and h
    obtain ⟨h2,h⟩:=cond_and h
    obtain ⟨h3,h⟩:=cond_and h
    obtain ⟨_,h⟩:=cond_and h
    obtain ⟨h4,h⟩:=cond_and h
    obtain ⟨h5,h⟩:=cond_and h
    obtain ⟨h6,h⟩:=cond_and h
    obtain ⟨h7,h⟩:=cond_and h
    obtain ⟨h8,h⟩:=cond_and h
    refine .inr (.inl ⟨ty,n,ps,e,t,he,hg,ht,hu,Nat.eq_of_beq_eq_true h2,Nat.eq_of_beq_eq_true h3,h4,h5,Nat.eq_of_beq_eq_true h6,Nat.le_of_ble_eq_true h7,Nat.le_of_ble_eq_true h8,own t h1,fun p hp hpd t' ht' q hq=>?_⟩)
    have:=List.all_eq_true.1 h p hp
    rw [memN_not hpd,ht',cond_false] at this
    exact List.all_eq_true.1 this q hq
   ·cases h
  ·cases h
 ·rename_i c he
  split at h
  ·rename_i f hf
   split at h
   ·rename_i hg
    split at h
    ·rename_i t ht
     obtain ⟨h1,h⟩:=cond_and h
     obtain ⟨h2,h⟩:=cond_and h
     obtain ⟨_,h⟩:=cond_and h
     obtain ⟨h3,h⟩:=cond_and h
     refine .inr (.inr ⟨c,f,t,he,hf,hg,ht,h2,Nat.eq_of_beq_eq_true h3,own t h1,fun p hp hpd t' ht' x hx=>?_⟩)
     have:=List.all_eq_true.1 h p hp
     rw [memN_not hpd,ht',cond_false] at this
     exact List.all_eq_true.1 this x hx
    ·cases h
   ·cases h
  ·cases h
 ·cases h
theorem dstL_mem:∀ {A:List (Nat × Oper)} {i:Nat} {o:Oper} {t:Nat},(i,o)∈A→o.dst=some t→t∈dstL A
 | [],_,_,_,h,_=>by cases h
 | (j,o')::r,i,o,t,h,ht=>by
  unfold dstL
  rcases List.mem_cons.1 h with h | h
  ·cases h; rw [ht]; exact List.mem_cons_self
  ·have:=dstL_mem h ht
   cases o'.dst with
   | none=>exact this
   | some t'=>exact List.mem_cons_of_mem _ this
theorem lendAll_flat (E:Env) (S:St):∀ (vs:List V) (ts:List TypeId) (n:Nat) (k:List V→List Loan→List Nat→Option R),flatL vs=true→lendAll E S vs ts n k=k vs [] []
 | [],ts,n,k,_=>rfl
 | v::r,ts,n,k,h=>by
  unfold flatL at h
  obtain ⟨h1,h2⟩:=cond_and h
  have e:∀ k' : V→List Loan→List Nat→Option R,lendV S (argSz E.P S ts v) v n k' = k' v [] []:=fun k'=>by
   cases v<;>first | (cases h1; done) | (simp only [lendV,borV,borOf,datV,cond_true,vf_eq])
  unfold lendAll
  rw [e]
  simp only [List.length_nil,Nat.add_zero,lendAll_flat E S r ts.tail n _ h2,List.append_nil]
theorem flat_res {v:V} (h:flatV v=true):flatRes v=true:=by cases v<;>first | rfl | cases h
theorem callFn_flat {E:Env} {f:FuncId} {D:Den} {dst:Option Nat} {vs:List V} {ts:List TypeId} {S:St} {K:V→St→Option R} (hX:E.X f=none) (hG:E.G f=some D) (hr:flatRetP E.P f=true) (hv:flatL vs=true) (hf:flatV (D.res vs []).v=true) (hb:(D.res vs []).bx=[]) :
  callFn E f dst vs ts S K=cond (D.pre vs []) (K (D.res vs []).v S) none:=by
 have hN:callFn E f dst vs ts S K=callG E f dst vs ts S K:=by
  unfold callFn
  rw [hX]
  simp only
  unfold callN
  split
  ·rfl
  ·split
   ·simp [flatL,flatV] at hv
   ·rfl
 rw [hN]
 unfold callG callA
 rw [hG]
 simp only [lendAll_flat E S vs ts 0 _ hv,loanCells,apartL,apartB,List.append_nil,cond_true]
 rw [show flatRet E f=true from hr,cond_true,hb,show flatBx []=true from rfl,cond_true,flat_res hf,cond_true]
 cases D.pre vs []<;>rfl
theorem callOk_spec {E:Env} {S:St} {c:Call} {f:FuncId} (hc:c.callee = .value (.func f)) (h:callOk E S c=true):∃ D,E.G f=some D∧flatL (c.args.toList.zipWith (fun x t=>S.eval E.P t x) c.argTypes.toList)=true ∧
  D.pre (c.args.toList.zipWith (fun x t=>S.eval E.P t x) c.argTypes.toList) []=true∧flatV (D.res (c.args.toList.zipWith (fun x t=>S.eval E.P t x) c.argTypes.toList) []).v=true∧(D.res (c.args.toList.zipWith (fun x t=>S.eval E.P t x) c.argTypes.toList) []).bx=[]∧E.X f=none:=by
 unfold callOk at h
 rw [hc] at h
 simp only at h
 obtain ⟨hX,h⟩:=cond_and h
 split at h
 ·rename_i D hD
  obtain ⟨h1,h⟩:=cond_and h
  obtain ⟨h2,h⟩:=cond_and h
  obtain ⟨h3,h⟩:=cond_and h
  refine ⟨D,hD,h1,h2,h3,?_⟩
  split at h
  ·rename_i he; exact ⟨he,by simpa using hX⟩
  ·cases h
 ·cases h
theorem wcOk_spec {E:Env} {S:St}:∀ {l:List Call},wcOk E S l=true→∀ c∈l,callOk E S c=true
 | [],_,x,hx=>by cases hx
 | y::r,h,x,hx=>by
  unfold wcOk at h
  obtain ⟨h1,h2⟩:=cond_and h
  rcases List.mem_cons.1 hx with rfl | hx
  ·exact h1
  ·exact wcOk_spec h2 x hx
theorem wcOf_mem:∀ {A:List (Nat × Oper)} {i:Nat} {o:Oper} {c:Call},(i,o)∈A→o.op = .call c→c∈wcOf A
 | [],_,_,_,h,_=>by cases h
 | (j,o')::r,i,o,c,h,ho=>by
  unfold wcOf
  rcases List.mem_cons.1 h with h | h
  ·cases h; rw [ho]; exact List.mem_cons_self
  ·have:=wcOf_mem h ho
   split
   ·exact List.mem_cons_of_mem _ this
   ·exact this
theorem flatL_get:∀ {vs:List V},flatL vs=true→∀ j,j<vs.length→flatV (vs.getD j .undef)=true
 | [],_,j,hj=>by cases hj
 | v::r,h,j,hj=>by
  unfold flatL at h
  obtain ⟨h1,h2⟩:=cond_and h
  cases j with
  | zero=>exact h1
  | succ j=>simpa using flatL_get h2 j (by simpa using hj)
section
variable {m:Nat} {w₀:Base} {I₀ O₀:Nat→Nat→Prop} {ρ:Nat→Option Real} {I:Nat→Nat→Prop} {S:St} {a:Act} {w:World}
theorem zip_get (E:Env) (S:St) {c:Call} (hl:c.args.toList.length=c.argTypes.toList.length) {j:Nat} {x:Operand} (hx:c.args.toList[j]? = some x) :
  j<(c.args.toList.zipWith (fun x t=>S.eval E.P t x) c.argTypes.toList).length∧∃ t,(c.args.toList.zipWith (fun x t=>S.eval E.P t x) c.argTypes.toList).getD j .undef=S.eval E.P t x:=by
 have hj:=(List.getElem?_eq_some_iff.1 hx).1
 have hj2:j<c.argTypes.toList.length:=by omega
 refine ⟨by rw [List.length_zipWith]; omega,c.argTypes.toList[j],?_⟩
 rw [List.getD_eq_getElem?_getD,List.getElem?_zipWith,hx,List.getElem?_eq_getElem hj2]; rfl
theorem Rel.tabEq (h:Rel m w₀ I₀ O₀ ρ I S a w) {S' : St} (hf:S'.fr=S.fr) (ht:∀ d,lk? S'.tab d=lk? S.tab d):Rel m w₀ I₀ O₀ ρ I S' a w:=by
 have hl:∀ d,Live S' d↔Live S d:=fun d=>by unfold Live; rw [ht]
 refine ⟨fun t v hv=>h.fr t v (by rw [← hf]; exact hv),h.dfr,h.size,fun d box hb=>h.tab d box (by rw [← ht]; exact hb),fun d br hd=>by rw [ht]; exact h.dom d br hd,fun d d' br br' b o l l'=>h.apart d d' br br' b o ((hl d).1 l) ((hl d').1 l'),
  fun d br b o l=>h.notI d br b o ((hl d).1 l),fun d br b o l=>h.org d br b o ((hl d).1 l),fun d sh rows gen br b o hb=>h.slorg d sh rows gen br b o (by rw [← ht]; exact hb),fun d br b o l=>h.alive d br b o ((hl d).1 l),h.ilt,h.imono,h.iold,h.keeps,
  fun d br hd=>by rw [ht]; exact h.lent d br hd,fun d br hd=>by rw [ht]; exact h.hid d br hd,h.evo⟩
theorem lk_keys:∀ {l:List (Nat × Box)} {d:Nat},d∈l.map Prod.fst↔∃ b,lk? l d=some b
 | [],d=>by simp [lk?]
 | (e,b)::r,d=>by
  simp only [List.map_cons,List.mem_cons,lk?]
  cases h:Nat.beq d e with
  | true=>simp [Nat.eq_of_beq_eq_true h]
  | false =>
   have hne:d ≠ e:=fun e'=>by subst e'; simp at h
   simp only [hne,false_or,cond_false,lk_keys]
theorem Rel.earlyC (h:Rel m w₀ I₀ O₀ ρ I S a w) {E:Env} (hG:GOk E) (hgd:Good E.P w₀.toWorld I₀ O₀) {ops:Array Oper} {k:Nat} {ok:Oper} {c:Call} {f:FuncId} {t:Nat} (hw:CallW ops k ok c f t) (hr:flatRetP E.P f=true)
  (hok:callOk E S c=true) (htm:t<m) (hno:lk? S.fr t=none) (hself:∀ x,x∈c.args.toList→notTmp x t=true) (next:Act→World→Prop) (Q:Exit→Act→World→Prop)
  (hn:∀ x w' ρ' I',Rel m w₀ I₀ O₀ ρ' I' S (a.put (some t) x) w'→Keeps (fun _ _=>False) w w'→(∀ b o,I b o→I' b o)→(∀ b o,I' b o→b<w.heap.size→I b o)→(∀ d,Live S d→ρ' d=ρ d)→PendC E.G ops (a.put (some t) x) k→next (a.put ok.dst x) w') :
  ok.wp E.P a w next Q:=by
 obtain ⟨D,g1,g2,g3,g4,g5,gx⟩:=callOk_spec hw.cal hok
 let H:=S.tab.map Prod.fst
 have hH:∀ d,d∈H→∃ box,lk? S.tab d=some box:=fun d hd=>lk_keys.1 hd
 have hin:∀ d box,lk? S.tab d=some box→d∈H:=fun d box hb=>lk_keys.2 ⟨box,hb⟩
 have hev:∀ t x,(S.hide H).eval E.P t x=S.eval E.P t x:=fun t x=>by cases x<;>rfl
 obtain ⟨dst,op,ty,pos,after,guard⟩:=ok
 have ho:op = .call c:=hw.op
 subst ho
 have hd:dst=some t:=hw.dst
 subst hd
 let v₀:=(D.res (c.args.toList.zipWith (fun x t=>S.eval E.P t x) c.argTypes.toList) []).v
 let K:V→St→Option R:=fun v S'=>@ite _ (v=v₀∧S' = S.hide H) (Classical.propDecidable _) (some { v:=.undef,bx:=[] }) none
 have hc:callFn E f (some t) ([]++c.args.toList.zipWith (fun x t=>(S.hide H).eval E.P t x) c.argTypes.toList++[]) ([]++c.argTypes.toList) (S.hide H) K=some { v:=.undef,bx:=[] }:=by
  have e:c.args.toList.zipWith (fun x t=>(S.hide H).eval E.P t x) c.argTypes.toList=c.args.toList.zipWith (fun x t=>S.eval E.P t x) c.argTypes.toList:=by
   congr 1
  rw [e,List.nil_append,List.append_nil,callFn_flat gx g1 hr g2 g4 g5,g3,cond_true]
  exact if_pos ⟨rfl,rfl⟩
 obtain ⟨v,S',e1,e2⟩:=ok_callValue (m:=m) (ty:=ty) (pos:=pos) (after:=after) (guard:=guard) hG hw.cal (first:=[]) (caps:=[]) (f:=f) rfl hw.len hc
 obtain ⟨rfl,rfl⟩:v=v₀∧S' = S.hide H:=by
  by_cases hq:v=v₀∧S' = S.hide H
  ·exact hq
  ·simp only [K] at e1
   rw [if_neg hq] at e1; cases e1
 have noH:∀ d,¬ d∈H→∀ box,lk? S.tab d ≠ some box:=fun d hd box hb=>hd (hin d box hb)
 refine e2.2 _ _ _ _ _ a w (h.sub H) (h.goodSub hgd H) next Q fun x w' ρ' I' r1 r2=>?_
 obtain ⟨u1,u2⟩:=h.unsub hH r1
 have hk0:Keeps (Osub S ρ H) w w':=r1.keeps
 have hkeep:Keeps (fun _ _=>False) w w':=hk0.mono fun b o _ ⟨d,br,k1,k2,_⟩=>by
  obtain ⟨box,hb,_⟩:=k2
  exact k1 (hin d box hb)
 have iold:∀ b o,I' b o→b<w.heap.size→I b o∨∃ d sh rows g br,¬ d∈H∧lk? S.tab d=some (.sl sh rows g)∧ρ d=some br∧br.has b o:=r1.iold
 have hS:Rel m w₀ I₀ O₀ ρ' I' S a w':=by
  refine u1.tabEq rfl fun d=>?_
  cases hb:lk? S.tab d with
  | some box=>exact (unhide_in (hin d box hb) hb (hide_in (hin d box hb) hb)).symm
  | none =>
   have hd:¬ d∈H:=fun e=>by obtain ⟨b,hb'⟩:=hH d e; rw [hb] at hb'; cases hb'
   rw [unhide_out hd,hide_out hd,hb]
 have hρ:∀ d,Live S d→ρ' d=ρ d:=fun d ⟨box,hb,_⟩=>(u2 d (hin d box hb)).1
 have hx:∀ w I,Dat w I v₀ x:=(r2.flat g4).2
 refine hn x w' ρ' I' (hS.setTmp hno x) hkeep (fun b o hi=>r1.imono b o hi) (fun b o hi hlt=>?_) hρ ?_
 ·rcases iold b o hi hlt with h1 | ⟨d,sh,rows,g,br,k1,k2,_⟩
  ·exact h1
  ·exact absurd k2 (noH d k1 _)
 ·refine ⟨_,c,f,t,D,_,hw,g1,by rw [List.length_zipWith]; have:=hw.len; omega,fun j y hy=>?_,g4,fun w I=>?_⟩
  ·obtain ⟨k1,t',k2⟩:=zip_get E S hw.len hy
   rw [eval_put fun t'' ht''=>by cases ht''; exact hself y (List.mem_of_getElem? hy)]
   refine ⟨flatL_get g2 j k1,fun w I=>?_⟩
   have hf:=flatL_get g2 j k1
   rw [k2] at hf ⊢
   exact ((eval_ok h E.P t' y).flat hf).2 w I
  ·have:(a.put (some t) x).tmps.getD t Go.undef=x:=by
    simp only [Act.put]
    rw [Array.getD_eq_getD_getElem?,Array.getElem?_setIfInBounds]
    simp [h.size,htm]
   rw [this]; exact hx w I
theorem Rel.adoptC (h:Rel m w₀ I₀ O₀ ρ I S a w) {E:Env} {ops:Array Oper} {i:Nat} (hp:PendC E.G ops a i) {oi:Oper} (hi:ops[i]? = some oi) {K:V→St→Option R} {q:R} (hr:∀ c f,oi.op = .call c→c.callee = .value (.func f)→flatRetP E.P f=true)
  (hok:∀ c,oi.op = .call c→callOk E S c=true) (he:evOp E S oi K=some q):∃ v,K v S=some q∧Rel m w₀ I₀ O₀ ρ I (S.put oi.dst v) a w:=by
 obtain ⟨oi',c,f,t,D,vs,h1,h2,h3,h4,h5,h6⟩:=hp
 have e1:=h1.at'; rw [hi] at e1; cases e1
 obtain ⟨D',g1,g2,g3,g4,g5,gx⟩:=callOk_spec h1.cal (hok c h1.op)
 rw [h2] at g1; cases g1
 have hlen:(c.args.toList.zipWith (fun x t=>S.eval E.P t x) c.argTypes.toList).length=c.args.toList.length:=by rw [List.length_zipWith]; have:=h1.len; omega
 have hvs:vs=c.args.toList.zipWith (fun x t=>S.eval E.P t x) c.argTypes.toList:=by
  apply List.ext_getElem?
  intro j
  rcases Nat.lt_or_ge j c.args.toList.length with hj | hj
  ·obtain ⟨x,hx⟩:∃ x,c.args.toList[j]? = some x:=⟨_,List.getElem?_eq_getElem hj⟩
   obtain ⟨k1,t',k2⟩:=zip_get E S h1.len hx
   obtain ⟨l1,l2⟩:=h4 j x hx
   have hR:=eval_ok h E.P t' x
   rw [← k2] at hR
   have:=flat_inj (l2 w I) l1 hR (flatL_get g2 j k1)
   rw [List.getElem?_eq_getElem (by omega),List.getElem?_eq_getElem k1]
   rw [List.getD_eq_getElem?_getD,List.getD_eq_getElem?_getD,List.getElem?_eq_getElem (by omega),List.getElem?_eq_getElem k1] at this
   simpa using this
  ·rw [List.getElem?_eq_none (by omega),List.getElem?_eq_none (by omega)]
 rw [← hvs] at g2 g3 g4 g5
 obtain ⟨dst,op,ty,pos,after,guard⟩:=oi
 have ho:op = .call c:=h1.op
 subst ho
 have hd:dst=some t:=h1.dst
 subst hd
 unfold evOp at he
 have ef:∀ t,S.eval E.P t (.func f) = .fn f [] []:=fun _=>rfl
 simp only [h1.cal,ef] at he
 obtain ⟨_,he⟩:=cond_none he
 simp only [List.nil_append,List.append_nil] at he
 rw [← show vs=c.args.toList.zipWith (fun x t=>S.eval E.P t x) c.argTypes.toList from hvs] at he
 rw [callFn_flat gx h2 (hr c f rfl h1.cal) g2 g4 g5,g3,cond_true] at he
 exact ⟨_,he,h.bind (.dat (h6 w I))⟩
end
section
variable {m:Nat}
theorem sched_ok {E:Env} (hG:GOk E) (ops:Array Oper) (hsel:noSel ops.toList=true) (hd:∀ o∈ops.toList,∀ d,o.dst=some d→d<m) {K:St→Option R} {q:R} {w₀:Base} {I₀ O₀:Nat→Nat→Prop} {Q:Exit→Act→World→Prop}
  (hgd:Good E.P w₀.toWorld I₀ O₀) (hp:∀ c a w,¬ Q (.panic c) a w) (hK:∀ S a w ρ I,Rel m w₀ I₀ O₀ ρ I S a w→K S=some q→Q .normal a w) :
  ∀ (n:Nat) (L W:List Nat) (l:List Step),sched E.P ops (numberFrom 0 ops.toList) n L W=some l→∀ (Z:Nat→Nat→Nat→Prop) Pr pend listed,LR ops (pend.map Prod.fst++L) listed→∀ (S:St),evDraw E ops l Pr S K=some q →
   ∀ a w ρ I,Rel m w₀ I₀ O₀ ρ I S a w→PS E.P E.G ops w₀ ρ I S a w L W pend→ZInv Z Pr L S ρ I w→∀ fuel,cnt listed≤fuel→wpAnyZ Z E.P .any ops Q fuel listed a w:=by
 have sel:∀ (j:Nat) (o:Oper) cs b,ops[j]? = some o→o.op ≠ .select cs b:=fun j o cs b ho=>noSel_spec _ hsel o (by
  have:=Array.mem_of_getElem? ho
  simpa using this) cs b
 have hdst:∀ (j:Nat) (o:Oper),ops[j]? = some o→∀ d,o.dst=some d→d<m:=fun j o ho=>hd o (by
  have:=Array.mem_of_getElem? ho
  simpa using this)
 have done:∀ (Z:Nat→Nat→Nat→Prop) (L W:List Nat) (pend:List (Nat × Nat)) (listed:Array Bool),LR ops (pend.map Prod.fst++L) listed→∀ S a w ρ I,PS E.P E.G ops w₀ ρ I S a w L W pend→readyL (numberFrom 0 ops.toList) L=[]→Q .normal a w →
   ∀ fuel,wpAnyZ Z E.P .any ops Q fuel listed a w:=fun Z L W pend listed hL S a w ρ I hps h hq fuel=>by
  have hpe:pend=[]:=by
   cases pend with
   | nil=>rfl
   | cons p r=>obtain ⟨o,ho,_⟩:=hps.rdy p List.mem_cons_self; rw [h] at ho; cases ho
  subst hpe
  have hr:Region.ready .any ops listed=[]:=List.eq_nil_iff_forall_not_mem.2 fun i hi=>by
   obtain ⟨o,ho⟩:=(hL.ready i).1 hi
   simp only [List.map_nil,List.nil_append] at ho
   rw [h] at ho; cases ho
  cases fuel with
  | zero=>exact ⟨hr,hq⟩
  | succ f=>exact ⟨fun _=>hq,by rw [hr]; simp⟩
 intro n
 induction n with
 | zero =>
  intro L W l h Z Pr pend listed hL S hev a w ρ I hr hps hz fuel hf
  unfold sched at h
  split at h
  ·rename_i hrd
   cases h
   exact done Z L W pend listed hL S a w ρ I hps hrd (hK S a w ρ I hr hev) fuel
  ·cases h
 | succ n ih =>
  intro L W l h Z Pr pend listed hL S hev a w ρ I hr hps hz fuel hf
  unfold sched at h
  split at h
  ·rename_i hrd
   cases h
   exact done Z L W pend listed hL S a w ρ I hps hrd (hK S a w ρ I hr hev) fuel
  ·rename_i hne
   split at h
   · -- a reader is taken first
    rename_i i oi C hpick
    split at h
    ·rename_i l' hs
     cases h
     obtain ⟨p1,p2,p3,p4⟩:=pickB_spec _ hpick
     obtain ⟨n1,n2,n3⟩:=mem_readyL.1 p1
     have hi:=mem_num.1 n1
     have hlt:=(Array.getElem?_eq_some_iff.1 hi).1
     have hpi:∀ p,p∈pend→p.1 ≠ i:=fun p hp e=>by
      rcases hps.ok p hp with hpo | ⟨oi',c,f,t,D,vs,gw,_⟩
      ·rcases hpo.ex with ⟨oi',e',t,z,g1,g2,_⟩ | ⟨oi',_,_,_,_,_,_,gw,_⟩
       ·rw [e,hi] at g1; cases g1
        rw [g2] at p2; cases p2
       ·have g1:=gw.at'
        rw [e,hi] at g1; cases g1
        rw [gw.op] at p2; cases p2
      ·have g1:=gw.at'
       rw [e,hi] at g1; cases g1
       rw [gw.op] at p2
       unfold reader at p2
       simp only [gw.cal] at p2
       cases p2
     have hni:¬ i∈pend.map Prod.fst++L:=fun e=>by
      rcases List.mem_append.1 e with e | e
      ·obtain ⟨p,hp,rfl⟩:=List.mem_map.1 e
       exact hpi p hp rfl
      ·exact n2 e
     have hun:=(hL.un hlt).2 hni
     have hrdy:i∈Region.ready .any ops listed:=(hL.ready i).2 ⟨oi,mem_readyL.2 ⟨n1,hni,fun k hk=>List.mem_append_right _ (n3 k hk)⟩⟩
     obtain ⟨f,rfl⟩:∃ f,fuel=f+1:=by
      have:=cnt_set hun
      exact ⟨fuel-1,by omega⟩
     have hf' : cnt (listed.setIfInBounds i true)≤f:=by have:=cnt_set hun; omega
     have hL' : LR ops (pend.map Prod.fst++(i::L)) (listed.setIfInBounds i true):=(hL.set hlt).congr fun j=>by simp only [List.mem_cons,List.mem_append]; exact ⟨fun h=>by rcases h with h | h | h<;>simp [h],fun h=>by rcases h with h | h | h<;>simp [h]⟩
     obtain ⟨_,_,S',_,hr',ht,_,hstep⟩:=evDraw_cons hev (hr.drop _)
     have hdi:=hdst i oi hi
     have unl:∀ k ok,ops[k]? = some ok→listed.getD k true=false→¬ k∈L:=fun k ok hk hun e=>(hL.un (Array.getElem?_eq_some_iff.1 hk).1).1 hun (List.mem_append_right _ e)
     have free:∀ k ok,ops[k]? = some ok→k ≠ i→listed.getD k true=false→(∀ e∈ok.after,Region.binds .any e=true→e.on ≠ i)→oi.apart ops ok=true:=fun k ok hk hki hun hno=>by
      have:=List.all_eq_true.1 p3 (k,ok) (mem_num.2 hk)
      have e1:Nat.beq k i=false:=by rw [Bool.eq_false_iff]; exact fun e=>hki (Nat.eq_of_beq_eq_true e)
      have e2:memN k L=false:=memN_not (unl k ok hk hun)
      have e3:memN i (depsOf ok)=false:=memN_not fun e=>by
       obtain ⟨e,_,e2,e3⟩:=mem_depsOf.1 e
       exact hno e ‹_› e2 e3
      simpa only [e1,e2,e3,cond_false] using this
     have hpd:∀ p,p∈pend→∀ o,ops[p.1]? = some o→∀ k,¬ k∈L→¬ k∈depsOf o:=fun p hp o ho k hk hkd=>by
      obtain ⟨o',ho',_⟩:=hps.rdy p hp
      obtain ⟨g1,_,g3⟩:=mem_readyL.1 ho'
      have:=mem_num.1 g1
      rw [ho] at this; cases this
      exact hk (g3 k hkd)
     have pnext:∀ S₂:St,S₂.tab=S.tab→∀ x,PS E.P E.G ops w₀ ρ I S₂ (a.put oi.dst x) w (i::L) W pend:=fun S₂ ht₂ x=>hps.next hpi (fun p hp =>
      (hps.ok p hp).next hi (Ne.symm (hpi p hp)) (fun o ho=>hpd p hp o ho i n2) (Keeps.refl (fun _ _=>False) _) fun hpo=>⟨fun _ h=>h,hpo.noI,fun d br o hl=>hpo.noB d br o ((live_tab ht₂ d).1 hl)⟩) fun _ _ h=>h
     have take:∀ (T:World→Prop) (C:Nat→Prop) (v:Value) (S₂:St) (Z' : Nat→Nat→Nat→Prop) Pr',S₂.tab=S.tab→(∀ k b o,Z k b o→Z' k b o)→T w→(∀ k ok,ops[k]? = some ok→k ≠ i→(∀ e∈ok.after,Region.binds .any e=true→C e.on)→C k)→(∀ k,k∈pend.map Prod.fst++L→C k) →
       (∀ k ok,ops[k]? = some ok→C k→¬ k∈L→∀ w w',Keeps (fun b o=>¬ Z' k b o) w w'→T w→T w')→YieldsIf E.P ops T oi v a→evDraw E ops l' Pr' S₂ K=some q →
       Rel m w₀ I₀ O₀ ρ I S₂ (a.put oi.dst v) w→ZInv Z' Pr' (i::L) S₂ ρ I w→wpAnyZ Z E.P .any ops Q (f+1) listed a w:=fun T C v S₂ Z' Pr' ht₂ hZ hT hC hCL hCT hy he hr₂ hz₂=>by
      refine wpAnyZ_mono hZ _ _ _ _ (wpAnyZ_first (S:=T) (C:=C) (v:=v) hi sel (fun c a w h=>absurd h (hp _ _ _)) hC f listed a w (fun k hk=>hCL k ((hL.getF k).1 hk)) (fun k ok hk hc hun=>?_) free hrdy hy hT ?_)
      ·exact hCT k ok hk hc (unl k ok hk hun)
      ·exact ih (i::L) W l' hs Z' Pr' pend _ hL' S₂ he _ w ρ I hr₂ (pnext S₂ ht₂ v) hz₂ f hf'
     have putTab:∀ (S₂:St) d v,(S₂.put d v).tab=S₂.tab:=fun S₂ d v=>by cases d<;>rfl
     rcases hstep with ⟨hw,he⟩ | ⟨hw,_,he⟩
     ·unfold evStep at he
      simp only at he
      obtain ⟨hok,he⟩:=cond_none he
      obtain ⟨v,h1,h2⟩:=evOp_pure (m:=m) (K:=fun v S₁=>evDraw E ops l' (addPr C (rdBx E.P S' oi) Pr) (S₁.put oi.dst v) K) p2 hok he
      obtain ⟨x,g1,g2⟩:=h2 w₀ I₀ O₀ ρ I a w hr'
      let Cs:Nat→Prop:=fun k=>noMem oi.op=true∨k∈C
      refine take (fun w'=>Keeps (fun b o=>¬ Pz S' ρ I (rdBx E.P S' oi) b o) w w') Cs x _ (fun k b o=>Z k b o∨(Cs k∧b<w.heap.size∧Pz S' ρ I (rdBx E.P S' oi) b o)) _ ((putTab _ _ _).trans ht) (fun _ _ _ h=>.inl h) (Keeps.refl _ _)
       (fun k ok hk hki hall=>?_) (fun k hk=>?_) (fun k ok hk hc hkL w₁ w₂ hk₁ hw₁=>?_) (.inl ⟨hw,fun w' e=>g1 w' e⟩) h1 (hr'.put g2 oi.dst hdi) ?_
      ·by_cases hm:noMem oi.op=true
       ·exact .inl hm
       ·refine .inr (Classical.byContradiction fun hn=>?_)
        have p4:=p4.resolve_left hm
        unfold closedB at p4
        obtain ⟨_,p4⟩:=cond_and p4
        have:=List.all_eq_true.1 p4 (k,ok) (mem_num.2 hk)
        have e1:Nat.beq k i=false:=by rw [Bool.eq_false_iff]; exact fun e=>hki (Nat.eq_of_beq_eq_true e)
        have e2:allIn (depsOf ok) C=true:=(allIn_spec _ _).2 fun d hd'=>by
         obtain ⟨e,h1,h2,rfl⟩:=mem_depsOf.1 hd'
         exact (hall e h1 h2).resolve_left hm
        simp only [e1,e2,memN_not hn,cond_false] at this
        cases this
      ·by_cases hm:noMem oi.op=true
       ·exact .inl hm
       ·refine .inr ?_
        have p4:=p4.resolve_left hm
        unfold closedB at p4
        obtain ⟨p5,p4⟩:=cond_and p4
        have hin:∀ k,k∈L→k∈C:=by
         cases e:memN i C with
         | true=>rw [e] at p5; cases p5
         | false=>rw [e,cond_false] at p5; exact (allIn_spec _ _).1 p5
        rcases List.mem_append.1 hk with e | e
        ·obtain ⟨p,hp,rfl⟩:=List.mem_map.1 e
         obtain ⟨o,ho,_⟩:=hps.rdy p hp
         obtain ⟨g1,_,g3⟩:=mem_readyL.1 ho
         have:=List.all_eq_true.1 p4 (p.1,o) g1
         have e1:Nat.beq p.1 i=false:=by rw [Bool.eq_false_iff]; exact fun e=>hpi p hp (Nat.eq_of_beq_eq_true e)
         have e2:allIn (depsOf o) C=true:=(allIn_spec _ _).2 fun d hd'=>hin d (g3 d hd')
         simp only [e1,e2,cond_false] at this
         cases e3:memN p.1 C with
         | true=>exact (memN_mem _ _).1 e3
         | false=>rw [e3] at this; cases this
        ·exact hin k e
      ·exact hw₁.trans hk₁ fun r o hr hy hpz=>hy (.inr ⟨hc,hr,hpz⟩)
      ·intro k b o hk hz'
       have hkL:¬ k∈L:=fun e=>hk (List.mem_cons_of_mem _ e)
       have ht' : (S'.put oi.dst v).tab=S.tab:=(putTab _ _ _).trans ht
       rcases hz' with hz' | ⟨hc,hb,hpz⟩
       ·obtain ⟨f1,f2⟩:=hz k b o hkL hz'
        exact ⟨f1,f2.imp id fun ⟨p,g1,g2,d,br,g3,g4,g5⟩=>⟨p,addPr_old g1,g2,d,br,g3,(live_tab ht' d).2 g4,g5⟩⟩
       ·refine ⟨hb,hpz.imp id fun ⟨d,br,g3,g4,g5⟩=>?_⟩
        rcases hc with hc | hc
        ·rw [rdBx_noMem hc] at g3; cases g3
        ·exact ⟨(C,rdBx E.P S' oi),addPr_new g3,hc,d,br,g3,(live_tab (putTab _ _ _) d).2 g4,g5⟩
     ·exact take (fun _=>True) (fun _=>True) Go.undef _ Z Pr ((putTab _ _ _).trans ht) (fun _ _ _ h=>h) trivial (fun _ _ _ _ _=>trivial) (fun _ _=>trivial) (fun _ _ _ _ _ _ _ _ _=>trivial) (.inr ⟨hw,rfl⟩) he (hr'.put (.tup [] [] rfl fun i hi=>by cases hi) oi.dst hdi)
       (hz.tab ((putTab _ _ _).trans ht) fun k hk=>List.mem_cons_of_mem _ hk)
    ·cases h
   ·split at h
    ·rename_i kd i oi A hpick
     split at h
     ·rename_i l' hs
      cases h
      obtain ⟨hsolo,q1,q2,q3,q4⟩:=pickD_spec hpick
      simp only at hsolo q2
      obtain ⟨n1,n2,n3⟩:=mem_readyL.1 q1
      have hi:=mem_num.1 n1
      have hlt:=(Array.getElem?_eq_some_iff.1 hi).1
      have putTab:∀ (S₂:St) d v,(S₂.put d v).tab=S₂.tab:=fun S₂ d v=>by cases d<;>rfl
      generalize hdr:dstL (cond (Nat.beq kd 1) ((i,oi)::A) A)=dr at hev
      generalize hwsd:wsOf (cond (Nat.beq kd 1) ((i,oi)::A) A)=ws at hev
      generalize hwcd:wcOf (cond (Nat.beq kd 1) ((i,oi)::A) A)=wc at hev
      obtain ⟨Wm,hWm⟩:∃ Wm:List Nat,∀ k,k∈Wm↔(k∈A.map Prod.fst++W∨(k=i∧kd=1)):=by
       by_cases h:kd=1
       ·exact ⟨i::(A.map Prod.fst++W),fun k=>by simp [h,or_comm]⟩
       ·exact ⟨A.map Prod.fst++W,fun k=>by simp [h]⟩
      have hWs:∀ k,k ≠ i→k∈Wm→k∈A.map Prod.fst++W:=fun k hk h=>((hWm k).1 h).resolve_right fun e=>hk e.1
      have dt:(S.drop dr).tab=S.tab:=drop_tab S dr
      -- one that has waited comes up
      have adopt:∀ pend listed a w ρ I,LR ops (pend.map Prod.fst++L) listed→Rel m w₀ I₀ O₀ ρ I (S.drop dr) a w→PS E.P E.G ops w₀ ρ I S a w L Wm pend→ZInv Z Pr L S ρ I w→∀ b,(i,b)∈pend→∀ fuel,cnt listed≤fuel →
        wpAnyZ Z E.P .any ops Q fuel listed a w:=by
       intro pend listed a w ρ I hL hr hps hz b hb fuel hf
       have hkd:kd=1:=by
        rcases q4 with ⟨h,_⟩ | ⟨h2,h | ⟨h3,h4⟩⟩
        ·exact h
        ·obtain ⟨o,ho,hw⟩:=hps.rdy _ hb
         have:=mem_num.1 (mem_readyL.1 ho).1
         rw [hi] at this; cases this
         simp only at h hw
         rw [hw] at h; cases h
        ·exfalso
         rcases (hWm _).1 (hps.wt _ hb) with h | ⟨_,h⟩
         ·rcases List.mem_append.1 h with h | h
          ·obtain ⟨p,hp,hpe⟩:=List.mem_map.1 h
           exact h4 p hp hpe
          ·exact h3 h
         ·omega
       subst hkd
       obtain ⟨hws,hwc,S',hS',hr',ht,_,hstep⟩:=evDraw_cons hev hr
       simp only at hws hwc hS' hr ht hstep
       have ht:=ht
       have pre:∀ p,p∈pend→PendX E.P E.G ops w₀ ρ I S' a w p.1 p.2:=fun p hp=>(hps.ok p hp).re fun hpo=>⟨hpo.noI,fun d br o hl=>hpo.noB d br o ((live_tab ht d).1 hl)⟩
       have lst:LR ops ((pend.filter fun p=>!Nat.beq p.1 i).map Prod.fst++(i::L)) listed:=by
        refine hL.congr fun j=>?_
        simp only [List.mem_append,List.mem_map,List.mem_cons,List.mem_filter]
        constructor
        ·rintro (⟨p,hp,rfl⟩ | hj)
         ·by_cases e:p.1=i
          ·exact .inr (.inl e)
          ·exact .inl ⟨p,⟨hp,by rw [show Nat.beq p.1 i=false by rw [Bool.eq_false_iff]; exact fun h=>e (Nat.eq_of_beq_eq_true h)]; rfl⟩,rfl⟩
         ·exact .inr (.inr hj)
        ·rintro (⟨p,⟨hp,_⟩,rfl⟩ | rfl | hj)
         ·exact .inl ⟨p,hp,rfl⟩
         ·exact .inl ⟨_,hb,rfl⟩
         ·exact .inr hj
       have rdy' : ∀ p,p∈pend.filter (fun p=>!Nat.beq p.1 i)→∃ o,(p.1,o)∈readyL (numberFrom 0 ops.toList) (i::L)∧waitB E.P (numberFrom 0 ops.toList) p.1 o=true:=fun p hp=>by
        obtain ⟨hp,hpi⟩:=List.mem_filter.1 hp
        have hpi:p.1 ≠ i:=fun e=>by simp [e] at hpi
        obtain ⟨o,ho,hw⟩:=hps.rdy p hp
        obtain ⟨f1,f2,f3⟩:=mem_readyL.1 ho
        exact ⟨o,mem_readyL.2 ⟨f1,fun e=>(List.mem_cons.1 e).elim hpi f2,fun k hk=>List.mem_cons_of_mem _ (f3 k hk)⟩,hw⟩
       have hw1:waitB E.P (numberFrom 0 ops.toList) i oi=true:=by
        obtain ⟨o,ho,hw⟩:=hps.rdy _ hb
        have:=mem_num.1 (mem_readyL.1 ho).1
        rw [hi] at this; cases this
        exact hw
       rcases hps.ok _ hb with hpo | hpc
       case inr =>
        obtain ⟨oi',c,f,t,D,vs,gw,_⟩:=id hpc
        have g1:=gw.at'
        rw [hi] at g1; cases g1
        have hSe:=hS' gw.gd
        rcases hstep with ⟨_,he⟩ | ⟨_,hg,_⟩
        ·unfold evStep at he
         simp only at he
         obtain ⟨v,he,hr2⟩:=hr'.adoptC hpc hi (fun c' f' h1 h2=>by
          rcases waitB_spec hw1 with ⟨_,_,h,_⟩ | ⟨_,_,_,_,_,h,_⟩ | ⟨c'',f'',t'',k1,k2,_,_,k3,_⟩
          ·rw [gw.op] at h; cases h
          ·rw [gw.op] at h; cases h
          ·rw [h1] at k1; cases k1
           rw [h2] at k2; cases k2
           exact k3) (fun c' h1=>by
          rw [hSe]
          exact wcOk_spec hwc _ (by rw [← hwcd]; exact wcOf_mem (i:=i) List.mem_cons_self h1)) he
         refine ih (i::L) _ l' hs Z Pr (pend.filter fun p=>!Nat.beq p.1 i) listed lst _ he a w ρ I hr2 ⟨fun p hp=>?_,rdy',fun p p' hp hp'=>hps.inj p p' (List.mem_filter.1 hp).1 (List.mem_filter.1 hp').1,fun p hp=>hWs _ (fun e=>by have:=(List.mem_filter.1 hp).2; simp [e] at this) (hps.wt p (List.mem_filter.1 hp).1)⟩ ?_ fuel hf
         ·obtain ⟨hp,_⟩:=List.mem_filter.1 hp
          exact (pre p hp).re fun hpo=>⟨hpo.noI,fun d br' o hl=>hpo.noB d br' o ((live_tab (putTab _ _ _) d).1 hl)⟩
         ·exact hz.tab ((putTab _ _ _).trans ht) fun k hk=>List.mem_cons_of_mem _ hk
        ·exact absurd gw.gd hg
       have preo:PendOk E.P ops w₀ ρ I S' a w i b:=hpo.re hpo.noI fun d br o hl=>hpo.noB d br o ((live_tab ht d).1 hl)
       rcases hpo.ex with ⟨oi',e,t,z,g1,g2,g3,g4,_⟩ | ⟨oi',ty,n,ps,t,e,cells,gw,_⟩
       case inr =>
        have g1:=gw.at'
        rw [hi] at g1; cases g1
        obtain ⟨e,hu,hc1,hsh⟩:∃ e,E.P.underlying ty=some (.slice e)∧E.P.cellsOf e=1∧(shOf E.P FUEL e).length=1:=by
         rcases waitB_spec hw1 with ⟨_,_,h,_⟩ | ⟨ty',n',ps',e',t',h1,h2,h3,h4,h5,h6,_⟩ | ⟨_,_,_,h,_⟩
         ·rw [gw.op] at h; cases h
         ·rw [gw.op] at h1; cases h1; exact ⟨e',h4,h5,h6⟩
         ·rw [gw.op] at h; cases h
        have hSe:=hS' gw.gd
        rcases hstep with ⟨_,he⟩ | ⟨_,hg,_⟩
        ·have hfl:∀ q∈ps.toList,flatV (S'.eval E.P 0 q.2)=true:=fun q hq=>by
          rw [hSe]
          exact wsOk_spec hws _ (by rw [← hwsd]; exact wsOf_mem (i:=i) List.mem_cons_self gw.op q hq)
         unfold evStep at he
         simp only at he
         unfold evOp at he
         simp only [gw.op,hu] at he
         obtain ⟨_,he⟩:=cond_none he
         rw [dataVs_flat _ _ _ (fun v hv=>by obtain ⟨q,hq,rfl⟩:=List.mem_map.1 hv; exact hfl q hq)] at he
         obtain ⟨hfit,he⟩:=cond_none he
         obtain ⟨_,he⟩:=cond_none he
         rw [litV_ne (by
          rcases waitB_spec hw1 with ⟨_,_,h,_⟩ | ⟨ty',n',ps',e',t',h1,h2,h3,h4,h5,h6,h7,h8,h9,h10,_⟩ | ⟨_,_,_,h,_⟩
          ·rw [gw.op] at h; cases h
          rotate_left
          ·rw [gw.op] at h; cases h
          ·rw [gw.op] at h1; cases h1
           intro e0; have:=congrArg List.length e0; simp at this; rw [this] at h9; simp at h9; omega),nrm_flat (fun v hv=>by obtain ⟨q,hq,rfl⟩:=List.mem_map.1 hv; exact hfl q hq)] at he
         have hr2:=hr'.adoptS preo gw hsh hfl hfit
         rw [gw.dst] at he
         refine ih (i::L) _ l' hs Z Pr (pend.filter fun p=>!Nat.beq p.1 i) listed lst _ he a w _ _ hr2 ⟨fun p hp=>?_,rdy',fun p p' hp hp'=>hps.inj p p' (List.mem_filter.1 hp).1 (List.mem_filter.1 hp').1,fun p hp=>hWs _ (fun e=>by have:=(List.mem_filter.1 hp).2; simp [e] at this) (hps.wt p (List.mem_filter.1 hp).1)⟩ ?_ fuel hf
         ·obtain ⟨hp,hpi⟩:=List.mem_filter.1 hp
          have hpi:p.1 ≠ i:=fun e=>by simp [e] at hpi
          refine (pre p hp).re fun hpo'=>⟨fun o ho=>?_,fun d br' o hl=>hpo'.noB d br' o ((live_tab (putTab _ _ _) d).1 hl)⟩
          rcases ho with ho | ho
          ·exact hpo'.noI o ho
          ·exact hpi (hps.inj p _ hp hb hpo'.notC hpo.notC ho)
         ·intro k b' o hk hz'
          obtain ⟨f1,f2⟩:=hz k b' o (fun e=>hk (List.mem_cons_of_mem _ e)) hz'
          refine ⟨f1,?_⟩
          rcases f2 with f2 | ⟨p,k1,k2,d,br',k3,k4,k5,k6⟩
          ·exact .inl (.inl f2)
          ·exact .inr ⟨p,k1,k2,d,br',k3,(live_tab ((putTab _ _ _).trans ht) d).2 k4,k5,k6⟩
        ·exact absurd gw.gd hg
       rw [hi] at g1; cases g1
       rcases hstep with ⟨_,he⟩ | ⟨_,hg,_⟩
       ·unfold evStep at he
        simp only at he
        unfold evOp at he
        simp only [g2,g4] at he
        obtain ⟨_,he⟩:=cond_none he
        unfold putBox at he
        split at he
        ·rename_i hn
         obtain ⟨br,hbr,hr2⟩:=hr'.adopt preo hi g2 g4 hn
         have hold:∀ d,Live S d→d ≠ E.bo+t:=fun d ⟨bx,hbx,_⟩ e=>by subst e; rw [ht] at hn; rw [hn] at hbx; cases hbx
         refine ih (i::L) _ l' hs Z Pr (pend.filter fun p=>!Nat.beq p.1 i) listed lst _ he a w _ I hr2 ⟨fun p hp=>?_,rdy',fun p p' hp hp'=>hps.inj p p' (List.mem_filter.1 hp).1 (List.mem_filter.1 hp').1,fun p hp=>hWs _ (fun e=>by have:=(List.mem_filter.1 hp).2; simp [e] at this) (hps.wt p (List.mem_filter.1 hp).1)⟩ ?_ fuel hf
         ·obtain ⟨hp,hpi⟩:=List.mem_filter.1 hp
          have hpi:p.1 ≠ i:=fun e=>by simp [e] at hpi
          refine (pre p hp).re fun hpo'=>⟨hpo'.noI,fun d br' o hl hd' hh=>?_⟩
          obtain ⟨bx,hbx,hne'⟩:=hl
          simp only [St.put,St.set,lk_append] at hbx
          by_cases e:d=E.bo+t
          ·subst e
           simp [upd] at hd'; subst hd'
           obtain ⟨o₀,k1,_⟩:=hh
           rw [hbr] at k1; cases k1
           exact hpi (hps.inj p _ hp hb hpo'.notC hpo.notC rfl)
          ·unfold upd at hd'; rw [if_neg e] at hd'
           refine hpo'.noB d br' o ⟨bx,?_,hne'⟩ hd' hh
           split at hbx
           ·rename_i x hx; rw [hx]; exact hbx
           ·rw [if_neg e] at hbx; cases hbx
         ·intro k b' o hk hz'
          obtain ⟨f1,f2⟩:=hz k b' o (fun e=>hk (List.mem_cons_of_mem _ e)) hz'
          refine ⟨f1,f2.imp id fun ⟨p,k1,k2,d,br',k3,k4,k5,k6⟩=>⟨p,k1,k2,d,br',k3,?_,by unfold upd; rw [if_neg (hold d k4)]; exact k5,k6⟩⟩
          obtain ⟨bx,hbx,hne'⟩:=k4
          refine ⟨bx,?_,hne'⟩
          simp only [St.put,St.set,lk_append,ht,hbx]
        ·cases he
       ·exact absurd g3 hg
      have main:∀ fuel pend listed a w ρ I,LR ops (pend.map Prod.fst++L) listed→Rel m w₀ I₀ O₀ ρ I (S.drop dr) a w→PS E.P E.G ops w₀ ρ I S a w L Wm pend→ZInv Z Pr L S ρ I w→cnt listed≤fuel →
        wpAnyZ Z E.P .any ops Q fuel listed a w:=by
       intro fuel
       induction fuel with
       | zero =>
        intro pend listed a w ρ I hL hr hps hz hf
        have hli:=(hL.mem i hlt).1 (cnt_zero (by omega) i)
        rcases List.mem_append.1 hli with e | e
        ·obtain ⟨p,hp,rfl⟩:=List.mem_map.1 e
         exact adopt pend listed a w ρ I hL hr hps hz p.2 hp 0 hf
        ·exact absurd e n2
       | succ f ihf =>
        intro pend listed a w ρ I hL hr hps hz hf
        by_cases hli:i∈pend.map Prod.fst
        ·obtain ⟨p,hp,rfl⟩:=List.mem_map.1 hli
         exact adopt pend listed a w ρ I hL hr hps hz p.2 hp (f+1) hf
        have hni:¬ i∈pend.map Prod.fst++L:=fun e=>(List.mem_append.1 e).elim hli n2
        have hrdy:i∈Region.ready .any ops listed:=(hL.ready i).2 ⟨oi,mem_readyL.2 ⟨n1,hni,fun k hk=>List.mem_append_right _ (n3 k hk)⟩⟩
        refine ⟨fun h0=>(by rw [h0] at hrdy; cases hrdy),fun k hk=>?_⟩
        obtain ⟨ok,hok⟩:=(hL.ready k).1 hk
        obtain ⟨m1,m2,m3⟩:=mem_readyL.1 hok
        have hko:=mem_num.1 m1
        have hklt:=(Array.getElem?_eq_some_iff.1 hko).1
        have hkn:¬ k∈L:=fun e=>m2 (List.mem_append_right _ e)
        have hun:=(hL.un hklt).2 m2
        have hf' : cnt (listed.setIfInBounds k true)≤f:=by have:=cnt_set hun; omega
        have hpk:∀ p,p∈pend→p.1 ≠ k:=fun p hp e=>m2 (List.mem_append_left _ (List.mem_map.2 ⟨p,hp,e⟩))
        have hkA' : k=i∨k∈A.map Prod.fst:=by
         by_cases hkA:k∈A.map Prod.fst
         ·exact .inr hkA
         ·have hin:(k,ok)∈readyL (numberFrom 0 ops.toList) (A.map Prod.fst++L):=mem_readyL.2 ⟨m1,fun e=>(List.mem_append.1 e).elim hkA hkn,fun d hd'=>by
           rcases List.mem_append.1 (m3 d hd') with e | e
           ·obtain ⟨p,hp,rfl⟩:=List.mem_map.1 e
            obtain ⟨o,ho,_⟩:=hps.rdy p hp
            rcases q2 _ ho with h | h
            ·exact absurd (List.mem_map.2 ⟨p,hp,h⟩) hli
            ·exact List.mem_append_left _ (List.mem_map.2 ⟨_,h,rfl⟩)
           ·exact List.mem_append_right _ e⟩
          exact .inl (Nat.eq_of_beq_eq_true (List.all_eq_true.1 hsolo _ hin))
        have m3' : ∀ d,d∈depsOf ok→d∈L:=by
         rcases hkA' with rfl | h
         ·rw [hi] at hko; cases hko; exact n3
         ·obtain ⟨⟨k',o'⟩,hp,rfl⟩:=List.mem_map.1 h
          have:=mem_num.1 (mem_readyL.1 (q3 _ hp).1).1
          simp only at this hko
          rw [hko] at this; cases this
          exact (mem_readyL.1 (q3 _ hp).1).2.2
        have hkA:k=i∨(k,ok)∈A:=by
         rcases hkA' with h | h
         ·exact .inl h
         ·obtain ⟨⟨k',o'⟩,hp,rfl⟩:=List.mem_map.1 h
          have:=mem_num.1 (mem_readyL.1 (q3 _ hp).1).1
          simp only at this hko
          rw [hko] at this; cases this
          exact .inr hp
        have hkr:(k,ok)∈readyL (numberFrom 0 ops.toList) L:=by
         rcases hkA with rfl | h
         ·rw [hi] at hko; cases hko; exact q1
         ·exact (q3 _ h).1
        by_cases hwd:¬ (k=i∧kd=2)
        · -- a variable or a slice is made early
         have hk1:k=i→kd=1∧waitB E.P (numberFrom 0 ops.toList) i oi=true:=fun e=>by
          rcases q4 with h | ⟨h,_⟩
          ·exact h
          ·exact absurd ⟨e,h⟩ hwd
         have hwt:waitB E.P (numberFrom 0 ops.toList) k ok=true:=by
          rcases hkA with h | h
          ·have h2:=(hk1 h).2
           subst h
           rw [hi] at hko; cases hko; exact h2
          ·exact (q3 _ h).2
         have htd:∀ t,ok.dst=some t→t∈dr:=fun t g3=>by
          rw [← hdr]
          rcases hkA with h | h
          ·have h1:=(hk1 h).1
           subst h h1
           rw [hi] at hko; cases hko
           exact dstL_mem List.mem_cons_self g3
          ·have:=dstL_mem h g3
           cases Nat.beq kd 1 with
           | false=>exact this
           | true =>
            show t∈dstL ((i,oi)::A)
            unfold dstL
            cases oi.dst with
            | none=>exact this
            | some t'=>exact List.mem_cons_of_mem _ this
         have hno:∀ t,ok.dst=some t→lk? (S.drop dr).fr t=none:=fun t g3=>by rw [drop_fr,if_pos (htd t g3)]
         have hpd:∀ p,p∈pend→∀ o,ops[p.1]? = some o→∀ k,¬ k∈L→¬ k∈depsOf o:=fun p hp o ho k hk hkd=>by
          obtain ⟨o',ho',_⟩:=hps.rdy p hp
          obtain ⟨g1,_,g3⟩:=mem_readyL.1 ho'
          have:=mem_num.1 g1
          rw [ho] at this; cases this
          exact hk (g3 k hkd)
         have hkW' : k∈Wm:=by
          rcases hkA with h | h
          ·exact (hWm k).2 (.inr ⟨h,(hk1 h).1⟩)
          ·exact (hWm k).2 (.inl (List.mem_append_left _ (List.mem_map.2 ⟨_,h,rfl⟩)))
         have early:∀ (c:Array Value) (e:TypeId) (x:Value) (t:Nat),ok.dst=some t→PendOk E.P ops w₀ ρ I (S.drop dr) (a.put (some t) x) (w.alloc (.cells c e)) k w.heap.size →
           wpAnyZ Z E.P .any ops Q f (listed.setIfInBounds k true) (a.put ok.dst x) (w.alloc (.cells c e))∧Keeps (fun b o=>¬ Z k b o) w (w.alloc (.cells c e)):=fun c e x t g3 hfresh=>by
          rw [g3]
          refine ⟨ihf ((k,w.heap.size)::pend) _ _ _ ρ I ((hL.set hklt).congr fun j=>by simp) (hr.early (hno t g3) _ _) ⟨fun p hp=>?_,fun p hp=>?_,fun p p' hp hp' n1 n2 he=>?_,fun p hp=>?_⟩ (fun k' b o hk' hz'=>?_) hf',Keeps.alloc _ _ _⟩
          ·rcases List.mem_cons.1 hp with rfl | hp
           ·exact .inl (hfresh.re hfresh.noI fun d br o hl=>hfresh.noB d br o ((live_tab dt d).2 hl))
           ·have:=(hps.ok p hp).next hko (Ne.symm (hpk p hp)) (fun o ho=>hpd p hp o ho k hkn) (x:=x) (Keeps.alloc (fun _ _=>False) w (.cells c e)) (fun hpo=>⟨fun _ h=>h,hpo.noI,hpo.noB⟩)
            rw [g3] at this
            exact this
          ·rcases List.mem_cons.1 hp with rfl | hp
           ·exact ⟨ok,hkr,hwt⟩
           ·exact hps.rdy p hp
          ·have lt:∀ p,p∈pend→¬ isC ops p.1→p.2<w.heap.size:=fun p hp hn=>by
            rcases hps.ok p hp with h | ⟨oi',c,f,t,D,vs,gw,_⟩
            ·exact h.lt
            ·exact absurd ⟨oi',gw.at',by unfold isCallO; rw [gw.op]⟩ hn
           rcases List.mem_cons.1 hp with rfl | hp<;>rcases List.mem_cons.1 hp' with rfl | hp'
           ·rfl
           ·have:=lt p' hp' n2; simp only at he; omega
           ·have:=lt p hp n1; simp only at he; omega
           ·exact hps.inj p p' hp hp' n1 n2 he
          ·rcases List.mem_cons.1 hp with rfl | hp
           ·exact hkW'
           ·exact hps.wt p hp
          ·obtain ⟨f1,f2⟩:=hz k' b o hk' hz'
           exact ⟨by simp; omega,f2⟩
         unfold wpOp
         simp only [hko]
         rcases waitB_spec hwt with ⟨e,t,g1,g2,g3,g4,g5⟩ | ⟨ty,n,ps,e,t,g1,g2,g3,u1,u2,u3,u4,u5,u6,u7,u8,g5,u9⟩ | ⟨c,f,t,g1,gc,g2,g3,g4,g6,g5,u9⟩
         ·obtain ⟨z,hz1,hz2⟩:=zeroOk_spec g4
          have g5' : ∀ j oj,ops[j]? = some oj→j ≠ k→oj.dst ≠ some t:=fun j oj hj hjk=>g5 (j,oj) (mem_num.2 hj) hjk
          have hfresh:=PendOk.fresh hr hko g1 g2 g3 g5' hz2 (hdst k ok hko t g3)
          rw [if_pos (by simp [Region.wanted,g2])]
          refine .inl (wp_value (x:=.pointer (some ⟨w.heap.size,0,none⟩)) (w':=w.alloc (.cells z.cells e)) ?_ (early _ _ _ t g3 hfresh).symm)
          simp [execOp,g1,Instr.alloc,hz1,run_newVar']
         ·have g5' : ∀ j oj,ops[j]? = some oj→j ≠ k→oj.dst ≠ some t:=fun j oj hj hjk=>g5 (j,oj) (mem_num.2 hj) hjk
          have hsw:SlcW ops k ok ty n ps t:=⟨hko,g1,g2,g3,g5',fun j oj hj hjd t' ht' q hq=>u9 (j,oj) (mem_num.2 hj) hjd t' ht' q hq,u6⟩
          have hfl:∀ q∈ps.toList,flatV ((S.drop dr).eval E.P 0 q.2)=true:=fun q hq=>by
           obtain ⟨hws,_⟩:=evDraw_cons hev hr
           refine wsOk_spec hws _ ?_
           rw [← hwsd]
           rcases hkA with h | h
           ·have h1:=(hk1 h).1
            subst h h1
            rw [hi] at hko; cases hko
            exact wsOf_mem (i:=k) List.mem_cons_self g1 q hq
           ·have:=wsOf_mem h g1 q hq
            cases Nat.beq kd 1 with
            | false=>exact this
            | true =>
             show q.2∈wsOf ((i,oi)::A)
             unfold wsOf
             split
             ·exact List.mem_append_right _ this
             ·exact this
          have hsc:∀ q,q∈ps.toList→(a.eval q.2).cells = #[a.eval q.2]:=fun q hq=>((eval_ok hr E.P 0 q.2).flat (hfl q hq)).1
          obtain ⟨cells,hrun,hcs⟩:=run_slice (a:=a) (w:=w) u1 u4 u2 u5 u6 u7 u8 hsc
          have hfresh:=PendOk.freshS (P:=E.P) hr hsw (e:=e) hcs (fun q hq=>u9 (k,ok) m1 (fun hd=>hkn (m3' k hd)) t g3 q hq) (hdst k ok hko t g3)
          rw [if_pos (by simp [Region.wanted,g2])]
          refine .inl (wp_value (x:=.slice (some ⟨w.heap.size,0,none⟩) n n) (w':=w.alloc (.cells cells e)) ?_ (early _ _ _ t g3 hfresh).symm)
          simp only [execOp,g1,Sem.run_bind,hrun]; rfl
         · -- a call is made early
          have g5' : ∀ j oj,ops[j]? = some oj→j ≠ k→oj.dst ≠ some t:=fun j oj hj hjk=>g5 (j,oj) (mem_num.2 hj) hjk
          have hcw:CallW ops k ok c f t:=⟨hko,g1,gc,g2,g3,g5',fun j oj hj hjd t' ht' x hx=>u9 (j,oj) (mem_num.2 hj) hjd t' ht' x hx,g6⟩
          have hcok:callOk E (S.drop dr) c=true:=by
           obtain ⟨_,hwc,_⟩:=evDraw_cons hev hr
           refine wcOk_spec hwc _ ?_
           rw [← hwcd]
           rcases hkA with h | h
           ·have h1:=(hk1 h).1
            subst h h1
            rw [hi] at hko; cases hko
            exact wcOf_mem (i:=k) List.mem_cons_self g1
           ·have:=wcOf_mem h g1
            cases Nat.beq kd 1 with
            | false=>exact this
            | true =>
             show c∈wcOf ((i,oi)::A)
             unfold wcOf
             split
             ·exact List.mem_cons_of_mem _ this
             ·exact this
          rw [if_pos (by simp [Region.wanted,g2])]
          refine .inl ?_
          refine hr.earlyC hG hgd hcw g4 hcok (hdst k ok hko t g3) (hno t g3) (fun x hx=>u9 (k,ok) m1 (fun hd=>hkn (m3' k hd)) t g3 x hx) _ _ fun x w' ρ' I' r1 hkeep hI' hIo hρ hpc=>?_
          refine ⟨hkeep.mono fun _ _ _ h=>h.elim,ihf ((k,0)::pend) _ _ w' ρ' I' ((hL.set hklt).congr fun j=>by simp) (by rw [g3]; exact r1) ⟨fun p hp=>?_,fun p hp=>?_,fun p p' hp hp' n1 n2 he=>?_,fun p hp=>?_⟩ (fun k' b o hk' hz'=>?_) hf'⟩
          ·rcases List.mem_cons.1 hp with rfl | hp
           ·exact .inr (by rw [g3]; exact hpc)
           ·exact (hps.ok p hp).next hko (Ne.symm (hpk p hp)) (fun o ho=>hpd p hp o ho k hkn) hkeep fun hpo=>⟨fun _ h=>h,fun o ho=>hpo.noI o (hIo _ _ ho hpo.lt),fun d br o hl hd=>hpo.noB d br o hl ((hρ d ((live_tab dt d).2 hl)).symm.trans hd)⟩
          ·rcases List.mem_cons.1 hp with rfl | hp
           ·exact ⟨ok,hkr,hwt⟩
           ·exact hps.rdy p hp
          ·have isc:isC ops k:=⟨ok,hko,by unfold isCallO; rw [g1]⟩
           rcases List.mem_cons.1 hp with rfl | hp
           ·exact absurd isc n1
           ·rcases List.mem_cons.1 hp' with rfl | hp'
            ·exact absurd isc n2
            ·exact hps.inj p p' hp hp' n1 n2 he
          ·rcases List.mem_cons.1 hp with rfl | hp
           ·exact hkW'
           ·exact hps.wt p hp
          ·obtain ⟨f1,f2⟩:=hz k' b o hk' hz'
           refine ⟨Nat.lt_of_lt_of_le f1 hkeep.size,f2.imp (hI' b o) fun ⟨p,j1,j2,d,br,j3,j4,j5,j6⟩=>⟨p,j1,j2,d,br,j3,j4,(hρ d ((live_tab dt d).2 j4)).trans j5,j6⟩⟩
        · -- the doer
         obtain ⟨hki,hkd⟩:=Classical.not_not.1 hwd
         subst hki
         rw [hi] at hko; cases hko
         obtain ⟨_,_,S',_,hr',ht,_,hstep⟩:=evDraw_cons hev hr
         simp only at ht hstep
         have hWd:∀ p,p∈pend→p.1∈Wm→p.1∈A.map Prod.fst++W:=fun p hp h=>hWs _ (hpk p hp) h
         have hpd:∀ p,p∈pend→∀ o,ops[p.1]? = some o→∀ k,¬ k∈L→¬ k∈depsOf o:=fun p hp o ho k hk hkd=>by
          obtain ⟨o',ho',_⟩:=hps.rdy p hp
          obtain ⟨g1,_,g3⟩:=mem_readyL.1 ho'
          have:=mem_num.1 g1
          rw [ho] at this; cases this
          exact hk (g3 k hkd)
         have hL' : LR ops (pend.map Prod.fst++(k::L)) (listed.setIfInBounds k true):=(hL.set hlt).congr fun j=>by simp only [List.mem_cons,List.mem_append]; exact ⟨fun h=>by rcases h with h | h | h<;>simp [h],fun h=>by rcases h with h | h | h<;>simp [h]⟩
         unfold wpOp
         simp only [hi]
         rcases hstep with ⟨hw,he⟩ | ⟨hw,_,he⟩
         ·rw [if_pos hw]
          refine .inl ?_
          obtain ⟨hpres,he⟩:=evStep_do hkd he
          simp only at hpres he
          obtain ⟨v,S₁,h1,_,h3⟩:=evOp_ok (m:=m) hG (K:=fun v S₂=>evDraw E ops l' Pr ((S'.unhide (hidOf L Pr) S₂).put oi.dst v) K) he
          have hH:=presB_spec hpres
          refine h3 _ _ _ _ _ _ _ (hr'.sub (hidOf L Pr)) (hr'.goodSub hgd _) _ _ fun x w' ρ' I' g1 g2=>?_
          obtain ⟨u1,u2⟩:=hr'.unsub hH g1
          have hkeep:Keeps (Osub S' ρ (hidOf L Pr)) w w':=g1.keeps
          have iold:∀ b o,I' b o→b<w.heap.size→I b o∨∃ d sh rows g br,¬ d∈hidOf L Pr∧lk? S'.tab d=some (.sl sh rows g)∧ρ d=some br∧br.has b o:=g1.iold
          have org:∀ d br b o,Live S₁ d→ρ' d=some br→br.has b o→w.heap.size≤b∨Osub S' ρ (hidOf L Pr) b o:=g1.org
          have hzk:∀ b o,b<w.heap.size→Osub S' ρ (hidOf L Pr) b o→¬ Z k b o:=fun b o hb ⟨d,br,k1,k2,k3,k4⟩ hzz=>by
           obtain ⟨_,f2⟩:=hz k b o n2 hzz
           rcases f2 with f2 | ⟨p,j1,j2,d2,br2,j3,j4,j5,j6⟩
           ·exact hr'.notI d br b o k2 k3 k4 f2
           ·have:=hr'.apart d d2 br br2 b o k2 ((live_tab ht d2).2 j4) k3 j5 k4 j6
            subst this
            exact k1 (hidOf_mem n2 j1 j2 j3)
          have noO:∀ p,p∈pend→PendOk E.P ops w₀ ρ I S a w p.1 p.2→∀ o,¬ Osub S' ρ (hidOf L Pr) p.2 o:=fun p hp hpo o ⟨d,br,k1,k2,k3,k4⟩=>hpo.noB d br o ((live_tab ht d).1 k2) k3 k4
          refine ⟨hkeep.mono hzk,ih (k::L) _ l' hs Z Pr pend _ hL' _ h1 _ w' ρ' I' (u1.put g2 oi.dst (hdst k oi hi)) (hps.next hpk (fun p hp=>?_) hWd) (fun k' b o hk' hz'=>?_) f hf'⟩
          ·refine (hps.ok p hp).next hi (Ne.symm (hpk p hp)) (fun o ho=>hpd p hp o ho k n2) hkeep fun hpo=>⟨noO p hp hpo,fun o hI=>?_,fun d br o hl hd' hh=>?_⟩
           ·rcases iold p.2 o hI hpo.lt with h | ⟨d,sh,rows,g,br,k1,k2,k3,k4⟩
            ·exact hpo.noI o h
            ·exact noO p hp hpo o ⟨d,br,k1,⟨_,k2,by simp⟩,k3,k4⟩
           ·have hl:=(live_tab (putTab _ _ _) d).1 hl
            by_cases hm:d∈hidOf L Pr
            ·obtain ⟨e1,e2⟩:=u2 d hm
             rw [e1] at hd'
             exact hpo.noB d br o ((live_tab ht d).1 (e2.2 hl)) hd' hh
            ·have hl1:Live S₁ d:=by
              obtain ⟨bx,hb,hn⟩:=hl
              exact ⟨bx,by rw [← unhide_out (S:=S') hm]; exact hb,hn⟩
             rcases org d br p.2 o hl1 hd' hh with h | h
             ·have:=hpo.lt; omega
             ·exact noO p hp hpo o h
          ·obtain ⟨f1,f2⟩:=hz k' b o (fun e=>hk' (List.mem_cons_of_mem _ e)) hz'
           refine ⟨Nat.lt_of_lt_of_le f1 hkeep.size,f2.imp (g1.imono b o) fun ⟨p,j1,j2,d,br,j3,j4,j5,j6⟩=>?_⟩
           have hm:=hidOf_mem (fun e=>hk' (List.mem_cons_of_mem _ e)) j1 j2 j3
           obtain ⟨e1,e2⟩:=u2 d hm
           exact ⟨p,j1,j2,d,br,j3,(live_tab (putTab _ _ _) d).2 (e2.1 ((live_tab ht d).2 j4)),e1.trans j5,j6⟩
         ·rw [if_neg (by rw [hw]; simp)]
          refine ⟨Keeps.refl _ _,ih (k::L) _ l' hs Z Pr pend _ hL' _ he _ w ρ I (hr'.put (.tup [] [] rfl fun i hi=>by cases hi) oi.dst (hdst k oi hi)) (hps.next hpk (fun p hp=>?_) hWd) (hz.tab ((putTab _ _ _).trans ht) fun k hk=>List.mem_cons_of_mem _ hk) f hf'⟩
          exact (hps.ok p hp).next hi (Ne.symm (hpk p hp)) (fun o ho=>hpd p hp o ho k n2) (Keeps.refl (fun _ _=>False) _) fun hpo=>⟨fun _ h=>h,hpo.noI,fun d br o hl=>hpo.noB d br o ((live_tab ((putTab _ _ _).trans ht) d).1 hl)⟩
      exact main fuel pend listed a w ρ I hL (hr.drop dr) (hps.widen fun p _ h=>(hWm _).2 (.inl (List.mem_append_right _ h))) hz hf
     ·cases h
    ·cases h
theorem draw_ok {E:Env} (hG:GOk E) {id:Nat} {ops:Array Oper} (hm:E.P.follows .mixedOrders=true) (hsel:noSel ops.toList=true) (hd:∀ o∈ops.toList,∀ d,o.dst=some d→d<m) {l:List Step}
  (hs:sched E.P ops (numberFrom 0 ops.toList) ops.size [] []=some l) {K:St→Option R} {q:R} {S:St} (hev:evDraw E ops l [] S K=some q) {w₀:Base} {I₀ O₀:Nat→Nat→Prop} {ρ:Nat→Option Real} {I:Nat→Nat→Prop} {a:Act} {w:World}
  (hr:Rel m w₀ I₀ O₀ ρ I S a w) (hgd:Good E.P w₀.toWorld I₀ O₀) {Q:Exit→Act→World→Prop} (hK:∀ S a w ρ I,Rel m w₀ I₀ O₀ ρ I S a w→K S=some q→Q .normal a w):(Code.region id ops true).wp E.P Q a w:=by
 let Q' : Exit→Act→World→Prop:=fun e a w=>match e with | .panic _=>False | e=>Q e a w
 have h0:wpAnyZ (fun _ _ _=>False) E.P .any ops Q' ops.size (Array.replicate ops.size false) a { w with drawn:=w.drawn+1 } :=
  sched_ok (m:=m) hG ops hsel hd (Q:=Q') hgd (fun c a w h=>h) hK ops.size [] [] l hs _ [] [] _ ⟨by simp,fun i hi=>by simp [hi],fun i hi=>by cases hi⟩ S hev a _ ρ I (hr.grow (Keeps.drawn _ w _))
   ⟨fun p hp=>(by cases hp),fun p hp=>(by cases hp),fun p p' hp=>(by cases hp),fun p hp=>(by cases hp)⟩ (fun k b o _ h=>h.elim) _ (by simp [cnt])
 exact wp_mono (wp_region_any hm (wpAny_of_z _ _ _ _ h0)) (fun e a w h=>by cases e<;>first | exact h | exact h.elim)
end
end Go.Ev

/- Code: lemmas; the callees' and the loops' soundness are premises. -/
namespace Go.Ev
open Go Go.RowKit
def Ex.to:Ex→Exit
 | .normal=>.normal | .exit j=>.exit j | .ret=>.ret
def CodeOk (P:Program) (m:Nat) (c:Code) (S:St) (K:Ex→St→Option R) (q:R):Prop :=
 ∀ (w₀:Base),(w₀.hid=(fun _=>none)∧w₀.ev=fun _=>none)→∀ I₀ O₀ ρ I a w,Rel m w₀ I₀ O₀ ρ I S a w→Good P w₀.toWorld I₀ O₀→∀ Q:Exit→Act→World→Prop,
  (∀ e S' a' w' ρ' I',Rel m w₀ I₀ O₀ ρ' I' S' a' w'→K e S' = some q→Q e.to a' w')→c.wp P Q a w
def LoopOk (E:Env) (m:Nat) (id:Nat) (c:Code):Prop:=∀ F,E.L id=some F→∀ S K q,F S K=some q→CodeOk E.P m (.loop c) S K q
def CanonOk (m:Nat) (S S' : St):Prop:=∀ (w₀:Base),(w₀.hid=(fun _=>none)∧w₀.ev=fun _=>none)→∀ I₀ O₀ ρ I a w,Rel m w₀ I₀ O₀ ρ I S a w→∃ ρ',Rel m w₀ I₀ O₀ ρ' I S' a w
theorem evCode_ok {E:Env} {m:Nat} (hG:GOk E)
  (hcan:∀ fz fy keep S (K:St→Option R) q,canon fz fy keep S K=some q→∃ S',K S' = some q∧CanonOk m S S') :
  ∀ (c:Code),(∀ p∈loopsOf c,LoopOk E m p.1 p.2)→dstsOk m c=true→∀ S K q,evCode E c S K=some q→CodeOk E.P m c S K q
 | .skip,_,_,S,K,q,h=>fun w₀ hz I₀ O₀ ρ I a w hr hgd Q hq=>wp_skip (hq .normal S a w ρ I hr h)
 | .region id ops false,_,hd,S,K,q,h=>fun w₀ hz I₀ O₀ ρ I a w hr hgd Q hq=>by
  refine wp_region ?_
  have:=evOps_ok (m:=m) hG ops (K:=K .normal) (q:=q) (Q:=Q) (w₀:=w₀) (I₀:=I₀) (O₀:=O₀) hgd (fun S a w ρ I hr hk=>hq .normal S a w ρ I hr hk) ops.toList 0 ops.size (by omega) (by simp)
   (fun o ho d hd'=>by
    simp only [dstsOk] at hd
    have:=List.all_eq_true.1 hd o ho
    rw [hd'] at this
    exact Nat.le_of_ble_eq_true this) S h a w ρ I hr
  rwa [← List.range_eq_range'] at this
 | .seq x y,hl,hd,S,K,q,h=>fun w₀ hz I₀ O₀ ρ I a w hr hgd Q hq=>by
  obtain ⟨d1,d2⟩:=cond_and hd
  simp only [evCode] at h
  refine wp_seq (evCode_ok hG hcan x (fun p hp=>hl p (by simp [loopsOf,hp])) d1 S _ q h w₀ hz I₀ O₀ ρ I a w hr hgd _ fun e S' a' w' ρ' I' hr' hk=>?_)
  cases e with
  | normal=>exact evCode_ok hG hcan y (fun p hp=>hl p (by simp [loopsOf,hp])) d2 S' K q hk w₀ hz I₀ O₀ ρ' I' a' w' hr' hgd Q hq
  | exit j=>exact hq _ _ _ _ _ _ hr' hk
  | ret=>exact hq _ _ _ _ _ _ hr' hk
 | .cond c x y,hl,hd,S,K,q,h=>fun w₀ hz I₀ O₀ ρ I a w hr hgd Q hq=>by
  obtain ⟨d1,d2⟩:=cond_and hd
  simp only [evCode] at h
  split at h
  ·rename_i t hc
   have hv:=eval_ok hr E.P 0 c
   rw [hc] at hv
   have hv:=hv.bool_inv
   cases t with
   | true=>exact wp_cond_true hv (evCode_ok hG hcan x (fun p hp=>hl p (by simp [loopsOf,hp])) d1 S K q h w₀ hz I₀ O₀ ρ I a w hr hgd Q hq)
   | false=>exact wp_cond_false hv (evCode_ok hG hcan y (fun p hp=>hl p (by simp [loopsOf,hp])) d2 S K q h w₀ hz I₀ O₀ ρ I a w hr hgd Q hq)
  ·cases h
 | .block id x,hl,hd,S,K,q,h=>fun w₀ hz I₀ O₀ ρ I a w hr hgd Q hq=>by
  simp only [evCode] at h
  refine wp_block (evCode_ok hG hcan x (fun p hp=>hl p (by simp [loopsOf,hp])) hd S _ q h w₀ hz I₀ O₀ ρ I a w hr hgd _ fun e S' a' w' ρ' I' hr' hk=>?_)
  cases e with
  | normal=>exact hq _ _ _ _ _ _ hr' hk
  | exit j =>
   simp only [Ex.to,Exit.inBlock]
   rcases cond_some hk with ⟨e,hk⟩ | ⟨e,hk⟩
   ·rw [if_pos (Nat.eq_of_beq_eq_true e)]; exact hq _ _ _ _ _ _ hr' hk
   ·rw [if_neg (fun e'=>by rw [e'] at e; simp at e)]; exact hq _ _ _ _ _ _ hr' hk
  | ret=>exact hq _ _ _ _ _ _ hr' hk
 | .loop x,hl,hd,S,K,q,h=>fun w₀ hz I₀ O₀ ρ I a w hr hgd Q hq=>by
  simp only [evCode] at h
  split at h
  ·rename_i id hid
   split at h
   ·rename_i F hF
    obtain ⟨S',h1,h2⟩:=hcan _ _ _ _ _ _ h
    obtain ⟨ρ',hr'⟩:=h2 w₀ hz I₀ O₀ ρ I a w hr
    exact hl (id,x) (by simp [loopsOf,hid]) F hF S' K q h1 w₀ hz I₀ O₀ ρ' I a w hr' hgd Q hq
   ·cases h
  ·cases h
 | .exit id,_,_,S,K,q,h=>fun w₀ hz I₀ O₀ ρ I a w hr hgd Q hq=>wp_exit (hq (.exit id) S a w ρ I hr h)
 | .scope x,hl,hd,S,K,q,h=>fun w₀ hz I₀ O₀ ρ I a w hr hgd Q hq=>by
  simp only [evCode] at h
  refine wp_scope_straight (evCode_ok hG hcan x (fun p hp=>hl p (by simp [loopsOf,hp])) hd S _ q h w₀ hz I₀ O₀ ρ I a w hr hgd _ fun e S' a' w' ρ' I' hr' hk=>?_)
  cases e<;>exact hq _ _ _ _ _ _ hr' hk
 | .label l,_,_,S,K,q,h=>fun w₀ hz I₀ O₀ ρ I a w hr hgd Q hq=>wp_label (hq .normal S a w ρ I hr h)
 | .ret,_,_,S,K,q,h=>fun w₀ hz I₀ O₀ ρ I a w hr hgd Q hq=>wp_ret (hq .ret S a w ρ I hr h)
 | .region id ops true,_,hd,S,K,q,h=>fun w₀ hz I₀ O₀ ρ I a w hr hgd Q hq=>by
  simp only [evCode] at h
  obtain ⟨hc,h⟩:=cond_none h
  obtain ⟨hm,hsel⟩:=cond_and hc
  split at h
  ·rename_i l hs
   refine draw_ok (m:=m) hG hm hsel (fun o ho d hd'=>?_) hs h hr hgd (fun S a w ρ I hr hk=>hq .normal S a w ρ I hr hk)
   simp only [dstsOk] at hd
   have:=List.all_eq_true.1 hd o ho
   rw [hd'] at this
   exact Nat.le_of_ble_eq_true this
  ·cases h
 | .goto l,_,_,S,K,q,h=>by cases h
theorem iterL_rounds {E:Env} {m:Nat} (hG:GOk E)
  (hcan:∀ fz fy keep S (K:St→Option R) q,canon fz fy keep S K=some q→∃ S',K S' = some q∧CanonOk m S S')
  {id:Nat} {c:Code} (hl:∀ p∈loopsOf c,LoopOk E m p.1 p.2) (hd:dstsOk m c=true) {w₀:Base} (hz:w₀.hid=(fun _=>none)∧w₀.ev=fun _=>none) {I₀ O₀:Nat→Nat→Prop} (hgd:Good E.P w₀.toWorld I₀ O₀) {Q:Exit→Act→World→Prop} {K:Ex→St→Option R} {q:R}
  (hq:∀ e S' a' w' ρ' I',Rel m w₀ I₀ O₀ ρ' I' S' a' w'→K e S' = some q→Q e.to a' w') :
  ∀ (n:Nat) (S:St),iterL E id c n S K=some q→∀ ρ I a w,Rel m w₀ I₀ O₀ ρ I S a w→Code.rounds E.P c Q n a w
 | 0,S,h=>by cases h
 | n+1,S,h=>fun ρ I a w hr=>by
  rw [rounds_succ]
  simp only [iterL,evBody] at h
  refine evCode_ok hG hcan c hl hd S _ q h w₀ hz I₀ O₀ ρ I a w hr hgd _ fun e S' a' w' ρ' I' hr' hk=>?_
  obtain ⟨S₂,h1,h2⟩:=hcan _ _ _ _ _ _ hk
  obtain ⟨ρ₂,hr₂⟩:=h2 w₀ hz I₀ O₀ ρ' I' a' w' hr'
  cases e with
  | normal=>exact iterL_rounds hG hcan hl hd hz hgd hq n S₂ h1 ρ₂ I' a' w' hr₂
  | exit j=>exact hq _ _ _ _ _ _ hr₂ h1
  | ret=>exact hq _ _ _ _ _ _ hr₂ h1
theorem iterL_ok {E:Env} {m:Nat} (hG:GOk E)
  (hcan:∀ fz fy keep S (K:St→Option R) q,canon fz fy keep S K=some q→∃ S',K S' = some q∧CanonOk m S S')
  {id:Nat} {c:Code} (hl:∀ p∈loopsOf c,LoopOk E m p.1 p.2) (hd:dstsOk m c=true) (h:∀ F,E.L id=some F→∀ S K q,F S K=some q→∃ n,iterL E id c n S K=some q):LoopOk E m id c :=
 fun F hF S K q hf w₀ hz I₀ O₀ ρ I a w hr hgd Q hq=>by
  obtain ⟨n,hn⟩:=h F hF S K q hf
  exact wp_loop_rounds n (iterL_rounds hG hcan hl hd hz hgd hq n S hn ρ I a w hr)
end Go.Ev

/- A function's beginning and end: lemmas. -/
namespace Go.Ev
open Go Go.RowKit
theorem lk_number {α:Type}:∀ (l:List α) (k t:Nat),lk? (numberFrom k l) t=if k≤t then l[t-k]? else none
 | [],k,t=>by simp [numberFrom,lk?]
 | x::l,k,t=>by
  simp only [numberFrom,lk?]
  by_cases e:t=k
  ·subst e; simp
  ·have e' : Nat.beq t k=false:=by rw [Bool.eq_false_iff]; exact fun hh=>e (Nat.eq_of_beq_eq_true hh)
   rw [e',cond_false,lk_number l (k+1) t]
   by_cases h:k≤t
   ·rw [if_pos h,if_pos (by omega),show t-k=(t-(k+1))+1 by omega]; simp
   ·rw [if_neg h,if_neg (by omega)]
theorem lk_number0 {α:Type} (l:List α) (t:Nat):lk? (numberFrom 0 l) t=l[t]?:=by rw [lk_number]; simp
theorem locReal_spec {locs:List (Nat × Nat)} {bx:List (List V)} {j:Nat} {br:Real} (h:locReal locs bx j=some br) :
  ∃ p cs,locs[j]? = some p∧bx[j]? = some cs∧br={ base:=some p,sz:=cs.length,n:=1,cap:=1,gen:=0 }:=by
 unfold locReal at h
 split at h
 ·rename_i p cs h1 h2
  exact ⟨p,cs,h1,h2,(Option.some.inj h).symm⟩
 ·cases h
theorem locReal_small {locs:List (Nat × Nat)} {bx:List (List V)} (h:bx.length≤BOX) (j:Nat) (br:Real) (hj:locReal locs bx j=some br):j<BOX:=by
 obtain ⟨p,cs,_,h2,_⟩:=locReal_spec hj
 have:=(List.getElem?_eq_some_iff.1 h2).1
 omega
theorem Rel.enter {args:List V} {bx:List (List V)} {locs:List (Nat × Nat)} {xs:List Value} {w:World} {J:Nat→Nat→Prop} {n:Nat} (hb:bx.length≤BOX) (hlen:locs.length=bx.length) (hJ:∀ b o,J b o→b<w.heap.size)
  (hx:AllRv w J (locReal locs bx) args xs)
  (hc:∀ (j:Nat) (p:Nat × Nat) (cs:List V),locs[j]? = some p→bx[j]? = some cs→∀ k,k<cs.length→(∃ y,w.cell? ⟨p.1,p.2+k,none⟩=some y∧Rv w J noRho (cs.getD k .undef) y)∧w.frozen? ⟨p.1,p.2+k,none⟩=false∧¬ J p.1 (p.2+k))
  (hdis:∀ (j j' : Nat) (p p' : Nat × Nat) (cs cs' : List V) (b o:Nat),locs[j]? = some p→locs[j']? = some p'→bx[j]? = some cs→bx[j']? = some cs'→b=p.1→p.2≤o→o<p.2+cs.length→b=p'.1→p'.2≤o→o<p'.2+cs'.length→j=j')
  (hn:args.length≤n) :
  Rel n ⟨w,locReal locs bx,locReal_small hb,fun _=>none,fun _=>none,fun _ _=>False⟩ J (LocHas locs bx) (locReal locs bx) J { fr:=numberFrom 0 args,tab:=numberFrom 0 (bx.map Box.var) }
   { tmps:=xs.toArray++Array.replicate (n-xs.toArray.size) Go.undef,defers:=[] } w:=by
 have hxl:xs.length=args.length:=hx.1.symm
 have tab:∀ d box,lk? (numberFrom 0 (bx.map Box.var)) d=some box→∃ cs p,bx[d]? = some cs∧locs[d]? = some p∧box = .var cs∧locReal locs bx d=some { base:=some p,sz:=cs.length,n:=1,cap:=1,gen:=0 }:=fun d box h=>by
  rw [lk_number0,List.getElem?_map] at h
  cases e:bx[d]? with
  | none=>rw [e] at h; cases h
  | some cs =>
   rw [e] at h; cases h
   have hd:=(List.getElem?_eq_some_iff.1 e).1
   have hl:locs[d]? = some (locs[d]'(by omega)):=List.getElem?_eq_getElem _
   exact ⟨cs,_,rfl,hl,rfl,by unfold locReal; rw [hl,e]⟩
 have dom:∀ d br,locReal locs bx d=some br→∃ p cs,locs[d]? = some p∧bx[d]? = some cs∧br={ base:=some p,sz:=cs.length,n:=1,cap:=1,gen:=0 }∧lk? (numberFrom 0 (bx.map Box.var)) d=some (.var cs):=fun d br h=>by
  obtain ⟨p,cs,h1,h2,h3⟩:=locReal_spec h
  exact ⟨p,cs,h1,h2,h3,by rw [lk_number0,List.getElem?_map,h2]; rfl⟩
 have has:∀ (p:Nat × Nat) (cs:List V) (b o:Nat),({ base:=some p,sz:=cs.length,n:=1,cap:=1,gen:=0 }:Real).has b o→b=p.1∧p.2≤o∧o<p.2+cs.length:=by
  rintro p cs b o ⟨o₀,h1,h2,h3⟩
  cases h1
  simp only [Nat.one_mul] at h3
  exact ⟨rfl,h2,h3⟩
 refine ⟨?_,rfl,?_,?_,?_,?_,?_,?_,?_,?_,hJ,fun _ _ h=>h,fun _ _ h _=>.inl h,Keeps.refl _ _,?_,(fun _ _ h=>nomatch h),(fun _ _ h=>nomatch h)⟩
 ·intro t v hv
  rw [lk_number0] at hv
  have ht:=(List.getElem?_eq_some_iff.1 hv).1
  have:=hx.2 t ht
  rw [List.getD_eq_getElem?_getD,hv,Option.getD_some] at this
  have e:(xs.toArray++Array.replicate (n-xs.toArray.size) Go.undef).getD t Go.undef=xs.getD t Go.undef:=by
   rw [Array.getD_eq_getD_getElem?,Array.getElem?_append_left (by simp; omega),List.getD_eq_getElem?_getD]; simp
  rw [e]; exact this
 ·simp; omega
 ·intro d box h
  obtain ⟨cs,p,h1,h2,rfl,h3⟩:=tab d box h
  refine ⟨_,h3,rfl,rfl,rfl,rfl,p.1,p.2,rfl,fun j hj=>?_⟩
  obtain ⟨⟨y,e1,e2⟩,_⟩:=hc d p cs h2 h1 j hj
  exact ⟨y,e1,e2.keep (fun _ _ _=>rfl) (fun _ _ h=>h) (evo_no _)⟩
 ·intro d br h
  obtain ⟨p,cs,_,_,_,h4⟩:=dom d br h
  exact ⟨_,h4⟩
 ·intro d d' br br' b o _ _ hd hd' hh hh'
  obtain ⟨p,cs,h1,h2,rfl,_⟩:=dom d br hd
  obtain ⟨p',cs',h1',h2',rfl,_⟩:=dom d' br' hd'
  obtain ⟨e1,e2,e3⟩:=has p cs b o hh
  obtain ⟨f1,f2,f3⟩:=has p' cs' b o hh'
  exact hdis d d' p p' cs cs' b o h1 h1' h2 h2' e1 e2 e3 f1 f2 f3
 ·intro d br b o _ hd hh
  obtain ⟨p,cs,h1,h2,rfl,_⟩:=dom d br hd
  obtain ⟨rfl,e2,e3⟩:=has p cs b o hh
  have:=(hc d p cs h1 h2 (o-p.2) (by omega)).2.2
  rwa [show p.2+(o-p.2)=o by omega] at this
 ·intro d br b o _ hd hh
  obtain ⟨p,cs,h1,h2,rfl,_⟩:=dom d br hd
  obtain ⟨e1,e2,e3⟩:=has p cs b o hh
  exact .inr ⟨d,p,cs,h1,h2,e1,e2,e3⟩
 ·intro d sh rows gen br b o h
  obtain ⟨cs,p,_,_,e,_⟩:=tab d _ h
  cases e
 ·intro d br b o _ hd hh
  obtain ⟨p,cs,h1,h2,rfl,_⟩:=dom d br hd
  obtain ⟨rfl,e2,e3⟩:=has p cs b o hh
  obtain ⟨⟨y,f1,_⟩,f2,_⟩:=hc d p cs h1 h2 (o-p.2) (by omega)
  rw [show p.2+(o-p.2)=o by omega] at f1 f2
  exact ⟨⟨y,f1⟩,f2⟩
 ·intro d br h
  obtain ⟨p,cs,_,_,_,h4⟩:=dom d br h
  exact ⟨h,cs,h4⟩
section
variable {m:Nat} {P:Program}
theorem run_loadVar {t:TypeId} (ht:okT P t=true) {b p:Nat} {w:World} (val:Nat→Value) (hv:∀ j,j<P.cellsOf t→w.cell? ⟨b,p+j,none⟩=some (val j)) :
  (loadVar t ⟨b,p,none⟩).run P w = .ok (asX P t ((List.range (P.cellsOf t)).map val)) w:=by
 have:=run_loadAt (P:=P) ht val hv
 simpa only [Instr.loadAt,Instr.sureAddr,pure_bind] using this
def retOne (tmps:Array Value):ResultVar→Sem Value
 | .tmp t=>pure (tmps.getD t undef)
 | .cell a t=>do loadVar t (← asAddr (tmps.getD a undef))
theorem retVals_ok {E:Env} {S:St}:∀ (rs:List ResultVar) {K:List V→Option R} {q:R},retVals E S rs K=some q→∃ vs,K vs=some q∧vs.length=rs.length ∧
  ∀ w₀ I₀ O₀ ρ I a w,Rel m w₀ I₀ O₀ ρ I S a w→∃ xs,(rs.mapM (retOne a.tmps)).run E.P w = .ok xs w∧AllRv w I ρ vs xs
 | [],K,q,h=>⟨[],h,rfl,fun w₀ I₀ O₀ ρ I a w hr=>⟨[],rfl,rfl,fun i hi=>by cases hi⟩⟩
 | .tmp t::rs,K,q,h=>by
  obtain ⟨vs,h1,h2,h3⟩:=retVals_ok rs h
  refine ⟨_,h1,by simp [h2],fun w₀ I₀ O₀ ρ I a w hr=>?_⟩
  obtain ⟨xs,g1,g2⟩:=h3 w₀ I₀ O₀ ρ I a w hr
  refine ⟨a.tmps.getD t undef::xs,?_,by simp [g2.1],fun i hi=>?_⟩
  ·rw [List.mapM_cons]
   simp only [retOne,pure_bind,Sem.run_bind,g1,Result.andThen_ok]; rfl
  ·cases i with
   | zero=>exact eval_ok hr E.P 0 (.tmp t)
   | succ i=>exact g2.2 i (by simpa using hi)
 | .cell a₀ t::rs,K,q,h=>by
  simp only [retVals] at h
  split at h
  ·rename_i d i o g hg
   obtain ⟨ht,h⟩:=cond_none h
   obtain ⟨cs,h1,h2,h3⟩:=readAt_ok (m:=m) h
   obtain ⟨vs,k1,k2,k3⟩:=retVals_ok rs h1
   refine ⟨_,k1,by simp [k2],fun w₀ I₀ O₀ ρ I a w hr=>?_⟩
   obtain ⟨xs,g1,g2⟩:=k3 w₀ I₀ O₀ ρ I a w hr
   have hv:=eval_ok hr E.P 0 (.tmp a₀)
   simp only [St.eval] at hv
   rw [hg] at hv
   obtain ⟨b,p,val,e1,e2⟩:=h3 w₀ I₀ O₀ ρ I a w hr _ hv
   refine ⟨asX E.P t ((List.range (E.P.cellsOf t)).map val)::xs,?_,by simp [g2.1],fun i hi=>?_⟩
   ·rw [List.mapM_cons]
    have e1' : a.tmps.getD a₀ undef = .pointer (some ⟨b,p,none⟩):=e1
    simp only [retOne,e1',asAddr,pure_bind,Sem.run_bind,run_loadVar ht val (fun j hj=>(e2 j hj).1),g1,Result.andThen_ok]; rfl
   ·cases i with
    | zero =>
     refine asV_ok ht ⟨by simp [h2],fun j hj=>?_⟩ h2
     rw [h2] at hj
     have:((List.range (E.P.cellsOf t)).map val).getD j Go.undef=val j:=by simp [List.getD_eq_getElem?_getD,hj]
     rw [this]
     exact (e2 j hj).2
    | succ i=>exact g2.2 i (by simpa using hi)
  ·cases h
end
end Go.Ev

/- What a function gives back; a function's own soundness: lemmas. -/
namespace Go.Ev
open Go Go.RowKit
theorem AllDat.nrm {w:World} {I:Nat→Nat→Prop} {vs:List V} {xs:List Value} (h:AllDat w I vs xs):AllDat w I (nrmL vs) xs :=
 ⟨by rw [nrmL_length]; exact h.1,fun i hi=>by rw [nrmL_getD]; rw [nrmL_length] at hi; exact (h.2 i hi).nrm1⟩
theorem Rv.nrm1 {w:World} {I:Nat→Nat→Prop} {ρ:Nat→Option Real} {v:V} {x:Value} (h:Rv w I ρ v x):Rv w I ρ (nrm1 v) x:=by
 cases v with
 | nils sh=>cases h with | dat h=>exact .dat h.nrm1
 | _=>exact h
theorem Rv.nrm {w:World} {I:Nat→Nat→Prop} {ρ:Nat→Option Real} {v:V} {x:Value} (h:Rv w I ρ v x):Rv w I ρ (nrm v) x:=by
 cases v with
 | agg cs =>
  obtain ⟨xs,rfl,l,hh⟩:=h.agg_inv
  exact .agg _ xs (by rw [nrmL_length]; exact l) fun i hi=>by rw [nrmL_getD]; rw [nrmL_length] at hi; exact (hh i hi).nrm1
 | _=>exact h.nrm1
theorem nrmA_length:∀ l:List V,(nrmA l).length=l.length
 | []=>rfl
 | v::r=>by simp [nrmA,nrmA_length r]
theorem nrmA_getD:∀ (l:List V) (i:Nat),(nrmA l).getD i .undef=Go.Ev.nrm (l.getD i .undef)
 | [],i=>by simp [nrmA,Go.Ev.nrm,Go.Ev.nrm1]
 | v::r,0=>by simp [nrmA]
 | v::r,i+1=>by simpa [nrmA] using nrmA_getD r i
theorem AllRv.nrm {w:World} {I:Nat→Nat→Prop} {ρ:Nat→Option Real} {vs:List V} {xs:List Value} (h:AllRv w I ρ vs xs):AllRv w I ρ (nrmA vs) xs :=
 ⟨by rw [nrmA_length]; exact h.1,fun i hi=>by rw [nrmA_getD]; rw [nrmA_length] at hi; exact (h.2 i hi).nrm⟩
theorem AllRv.nrmL {w:World} {I:Nat→Nat→Prop} {ρ:Nat→Option Real} {vs:List V} {xs:List Value} (h:AllRv w I ρ vs xs):AllRv w I ρ (nrmL vs) xs :=
 ⟨by rw [nrmL_length]; exact h.1,fun i hi=>by rw [nrmL_getD]; rw [nrmL_length] at hi; exact (h.2 i hi).nrm1⟩
section
variable {m:Nat} {S:St}
theorem lentCells_ok:∀ (js:List Nat) {K:List (List V)→List Nat→Option R} {q:R},giveBack.lentCells S js K=some q→∃ bs B,K bs B=some q∧bs.length=js.length ∧
  ∀ (i j:Nat) (c:List V),js[i]? = some j→bs[i]? = some c→∃ cells,lk? S.tab j=some (.var cells)∧c.length=cells.length ∧
   ∀ w₀ I₀ O₀ ρ I a w,Rel m w₀ I₀ O₀ ρ I S a w→∀ J:Nat→Nat→Prop,(∀ b o,I b o→J b o)→(∀ b o,HasOf S ρ B b o→J b o)→∀ xs,AllRv w I ρ cells xs→AllRv w J noRho c xs
 | [],K,q,h=>⟨[],[],h,rfl,fun i j c hi=>by cases hi⟩
 | j₀::js,K,q,h=>by
  simp only [giveBack.lentCells] at h
  split at h
  ·rename_i cells ht
   obtain ⟨c₀,B,h1,h2,h3⟩:=borVL_ok (m:=m) cells h
   obtain ⟨bs,B',g1,g2,g3⟩:=lentCells_ok js h1
   refine ⟨_,_,g1,by simp [g2],fun i j c hi hc=>?_⟩
   cases i with
   | zero =>
    cases hi; cases hc
    exact ⟨cells,ht,by rw [nrmL_length]; exact h2,fun w₀ I₀ O₀ ρ I a w hr J hJ hB xs hx=>(h3 w₀ I₀ O₀ ρ I a w hr J hJ (fun b o hh=>hB b o hh.left) xs hx noRho).nrmL⟩
   | succ i =>
    obtain ⟨cells',e1,e2,e3⟩:=g3 i j c (by simpa using hi) (by simpa using hc)
    exact ⟨cells',e1,e2,fun w₀ I₀ O₀ ρ I a w hr J hJ hB xs hx=>e3 w₀ I₀ O₀ ρ I a w hr J hJ (fun b o hh=>hB b o hh.right) xs hx⟩
  ·cases h
theorem borVs_ok:∀ (vs:List V) {K:List V→Option R} {q:R},borVs S vs K=some q→∃ vs' B,K vs' = some q∧vs'.length=vs.length ∧
  ∀ w₀ I₀ O₀ ρ I a w,Rel m w₀ I₀ O₀ ρ I S a w→∀ J:Nat→Nat→Prop,(∀ b o,I b o→J b o)→(∀ b o,HasOf S ρ B b o→J b o)→∀ xs,AllRv w I ρ vs xs→∀ ρ',AllRv w J ρ' vs' xs
 | [],K,q,h=>⟨[],[],h,rfl,fun w₀ I₀ O₀ ρ I a w hr J hJ hB xs hx ρ'=>⟨hx.1,fun i hi=>by cases hi⟩⟩
 | v::vs,K,q,h=>by
  obtain ⟨v',B,h1,h2⟩:=borV_ok (m:=m) h
  obtain ⟨vs',B',g1,g2,g3⟩:=borVs_ok vs h1
  refine ⟨_,B++B',g1,by simp [g2],fun w₀ I₀ O₀ ρ I a w hr J hJ hB xs hx ρ'=>?_⟩
  obtain ⟨x,xs',rfl,hx1,hx2⟩:=hx.uncons
  have e1:=h2 w₀ I₀ O₀ ρ I a w hr J hJ (fun b o h=>hB b o h.left) x hx1 ρ'
  have e2:=g3 w₀ I₀ O₀ ρ I a w hr J hJ (fun b o h=>hB b o h.right) xs' hx2 ρ'
  refine ⟨by simp [e2.1],fun i hi=>?_⟩
  cases i with
  | zero=>exact e1
  | succ i=>exact e2.2 i (by simpa using hi)
theorem var_cells {w:World} {I:Nat→Nat→Prop} {ρ:Nat→Option Real} {cells:List V} {br:Real} (h:BoxR w I ρ (.var cells) br):∃ (b p:Nat) (val:Nat→Value),br.base=some (b,p) ∧
  (∀ j,j<cells.length→w.cell? ⟨b,p+j,none⟩=some (val j))∧AllRv w I ρ cells ((List.range cells.length).map val):=by
 obtain ⟨_,_,_,_,b,p,hb,hc⟩:=h
 have hget:∀ j,∃ y,j<cells.length→w.cell? ⟨b,p+j,none⟩=some y∧Rv w I ρ (cells.getD j .undef) y:=fun j=>by
  by_cases hj:j<cells.length
  ·obtain ⟨y,hy⟩:=hc j hj; exact ⟨y,fun _=>hy⟩
  ·exact ⟨Go.undef,fun h=>absurd h hj⟩
 have hv:=fun j=>Classical.choose_spec (hget j)
 refine ⟨b,p,fun j=>Classical.choose (hget j),hb,fun j hj=>(hv j hj).1,by simp,fun j hj=>?_⟩
 have:=(hv j hj).2
 simpa [List.getD_eq_getElem?_getD,hj] using this
theorem range_val (val:Nat→Value) (n j:Nat) (h:j<n):((List.range n).map val).getD j Go.undef=val j:=by simp [List.getD_eq_getElem?_getD,h]
def tupX (xs:List Value):Value:=match xs with | [x]=>x | xs=>.tuple xs.toArray
theorem tupOf_ok {w:World} {I:Nat→Nat→Prop} {ρ:Nat→Option Real} {vs:List V} {xs:List Value} (h:AllRv w I ρ vs xs):Rv w I ρ (tupOf vs) (tupX xs):=by
 obtain ⟨h1,h2⟩:=h
 match vs,xs,h1 with
 | [],[],_=>exact .tup [] [] rfl h2
 | [v],[x],_=>exact h2 0 (by simp)
 | v::v'::vs,x::x'::xs,h1=>exact .tup _ _ h1 h2
theorem ownSplit_spec:∀ (cs:List V) {p s:List V} {d g:Nat},ownSplit cs=some (p,(d,g),s)→cs=p++V.own d g::s
 | [],p,s,d,g,h=>by cases h
 | v::r,p,s,d,g,h=>by
  have rest:(match ownSplit r with | some (p,x,q)=>some (v::p,x,q) | none=>none)=some (p,(d,g),s)→v::r=p++V.own d g::s:=fun h=>by
   split at h
   ·rename_i p' x q hs
    simp only [Option.some.injEq,Prod.mk.injEq] at h
    obtain ⟨rfl,rfl,rfl⟩:=h
    rw [ownSplit_spec r hs]; rfl
   ·cases h
  cases v with
  | own d' g' =>
   simp only [ownSplit,Option.some.injEq,Prod.mk.injEq] at h
   obtain ⟨rfl,⟨rfl,rfl⟩,rfl⟩:=h
   rfl
  | _=>exact rest h
theorem giveBack_ok {w w' : World} {J:Nat→Nat→Prop} {bx:List (List V)} {locs:List (Nat × Nat)} (hb:bx.length≤BOX) (_:locs.length=bx.length) {ow:Bool} {vs:List V} {q:DRes} {a:Act} {ρ:Nat→Option Real} {I:Nat→Nat→Prop}
  (h:giveBack S ow bx.length vs some=some q) (hr:Rel m ⟨w,locReal locs bx,locReal_small hb,fun _=>none,fun _=>none,fun _ _=>False⟩ J (LocHas locs bx) ρ I S a w') {xs:List Value} (hx:AllRv w' I ρ vs xs):∃ J',RetOk w w' J locs bx q (tupX xs) J':=by
 have lo:∀ d br b o,Live S d→ρ d=some br→br.has b o→b<w'.heap.size:=fun d br b o hl hd hh=>by
  obtain ⟨⟨x,hx⟩,_⟩:=hr.alive d br b o hl hd hh
  exact lt_of_cell hx
 unfold giveBack at h
 obtain ⟨bs,B,h,hbl,hbs⟩:=lentCells_ok (m:=m) (List.range bx.length) h
 rw [List.length_range] at hbl
 -- all but the value
 have core:∀ (B' : List Nat) (v:V) (nb:List Box),q={ v:=v,bx:=bs,nb:=nb } →
   let J' : Nat→Nat→Prop:=fun b o=>I b o∨HasOf S ρ (B++B') b o
   ((nb=[]∧Rv w' J' noRho v (tupX xs))∨∃ box br,nb=[box]∧box ≠ .dead∧BoxR w' J' noRho box br ∧
    (∀ b o,br.has b o→w.heap.size≤b∧(∃ y,w'.cell? ⟨b,o,none⟩=some y)∧w'.frozen? ⟨b,o,none⟩=false∧¬ J' b o)∧Rv w' J' (oneRho br) v (tupX xs)) →
   ∃ J',RetOk w w' J locs bx q (tupX xs) J':=by
  rintro B' v nb rfl J' hval
  refine ⟨J',hr.keeps,fun b o hj=>.inl (hr.imono b o hj),?_,?_,hbl,?_,hval⟩
  ·rintro b o (hi | ⟨d,_,br,sh,rows,g,e1,e2,e3⟩)
   ·exact hr.ilt b o hi
   ·exact lo d br b o ⟨_,e1,by simp⟩ e2 e3
  ·rintro b o (hi | ⟨d,_,br,sh,rows,g,e1,e2,e3⟩) hlt
   ·exact (hr.iold b o hi hlt).resolve_right id
   ·have:=(hr.slorg d sh rows g br b o e1 e2 e3).resolve_right id
    simp only at this; omega
  ·intro j cs cs' p hj hj' hp
   have hjl:=(List.getElem?_eq_some_iff.1 hj).1
   obtain ⟨cells,e1,e2,e3⟩:=hbs j j cs' (by simp [hjl]) hj'
   have hloc:locReal locs bx j=some { base:=some p,sz:=cs.length,n:=1,cap:=1,gen:=0 }:=by unfold locReal; rw [hp,hj]
   obtain ⟨hρ,_⟩:=hr.lent j _ hloc
   obtain ⟨br,hd,hbx⟩:=hr.tab j _ e1
   rw [hρ] at hd; cases hd
   obtain ⟨b,p',val,f1,f2,f3⟩:=var_cells hbx
   cases f1
   have hsz:cs.length=cells.length:=hbx.1
   refine ⟨by omega,fun k hk=>⟨val k,f2 k (by omega),?_⟩⟩
   have:=(e3 _ _ _ ρ I a w' hr J' (fun _ _ h=>.inl h) (fun b o hh=>.inr hh.left) _ f3).2 k hk
   rw [range_val val _ _ (by omega)] at this
   exact this
 split at h
 ·rename_i d g _
  obtain ⟨hd,h⟩:=cond_none h
  split at h
  ·rename_i cells ht
   obtain ⟨cells',B',h1,h2,_,h3⟩:=borL_ok (m:=m) cells h
   refine core B' _ _ (Option.some.inj h1).symm (.inr ?_)
   obtain ⟨br,hρ,hbx⟩:=hr.tab d _ ht
   obtain ⟨b,p,val,f1,f2,f3⟩:=var_cells hbx
   obtain ⟨x,rfl,hx1⟩:=hx.one
   obtain ⟨e1,e2,e3,e4,_⟩:=hbx
   refine ⟨_,br,rfl,by simp,⟨by omega,e2,e3,e4,b,p,f1,fun j hj=>⟨val j,f2 j (by omega),?_⟩⟩,fun b o hh=>⟨?_,(hr.alive d br b o ⟨_,ht,by simp⟩ hρ hh).1,(hr.alive d br b o ⟨_,ht,by simp⟩ hρ hh).2,?_⟩,?_⟩
   ·have:=(h3 _ _ _ ρ I a w' hr (fun b o=>I b o∨HasOf S ρ (B++B') b o) (fun _ _ h=>.inl h) (fun b o hh=>.inr hh.right) _ f3).2 j hj
    rw [range_val val _ _ (by omega)] at this
    exact .dat this
   ·rcases hr.org d br b o ⟨_,ht,by simp⟩ hρ hh with g1 | ⟨j,p',cs,g1,g2,g3,g4,g5⟩
    ·exact g1
    ·exfalso
     have hloc:locReal locs bx j=some { base:=some p',sz:=cs.length,n:=1,cap:=1,gen:=0 }:=by unfold locReal; rw [g1,g2]
     obtain ⟨k1,cells₂,k2⟩:=hr.lent j _ hloc
     have e:=hr.apart d j br _ b o ⟨_,ht,by simp⟩ ⟨_,k2,by simp⟩ hρ k1 hh ⟨p'.2,by rw [g3],g4,by simpa using g5⟩
     have:=locReal_small hb j _ hloc
     have:=Nat.le_of_ble_eq_true hd
     omega
   ·rintro (hi | ⟨d',_,br',sh,rows,g',k1,k2,k3⟩)
    ·exact hr.notI d br b o ⟨_,ht,by simp⟩ hρ hh hi
    ·have e:=hr.apart d d' br br' b o ⟨_,ht,by simp⟩ ⟨_,k1,by simp⟩ hρ k2 hh k3
     subst e
     rw [ht] at k1; cases k1
   ·cases hx1 with
    | dat hx1=>cases hx1
    | ptr _ _ _ _ br' _ hd' hg hh hp =>
     rw [hρ] at hd'; cases hd'
     have hg0:g=0:=by omega
     subst hg0
     exact .ptr NEW 0 0 0 br x (by simp [oneRho]) (by omega) (fun _=>hh (by omega)) hp
  ·cases h
 ·rename_i d g _
  cases ow with
  | false =>
   obtain ⟨sh,rows,ht,h⟩:=withOwn_spec h
   obtain ⟨x,rfl,hx1⟩:=hx.one
   obtain ⟨br,hd,_,hdat⟩:=own_data ht hr hx1
   exact core [d] _ _ (Option.some.inj h).symm (.inl ⟨rfl,.dat (hdat _ (fun b o h=>.inl h) fun b o hh=>.inr ⟨d,by simp,br,sh,rows,g,ht,hd,hh⟩)⟩)
  | true =>
   rw [cond_true] at h
   obtain ⟨sh,rows,ht,h⟩:=withOwn_spec h
   obtain ⟨hB,h⟩:=none_cond h
   refine core [] _ _ (Option.some.inj h).symm (.inr ?_)
   obtain ⟨br,hρ,hbx⟩:=hr.tab d _ ht
   obtain ⟨x,rfl,hx1⟩:=hx.one
   obtain ⟨e1,e2,e3,e4,e5,e6,e7,e8⟩:=hbx
   refine ⟨_,{ br with gen:=0 },rfl,by simp,⟨e1,e2,rfl,e4,e5,e6,fun b o hb i j hi hj=>?_,e8⟩,fun b o hh=>?_,?_⟩
   ·obtain ⟨y,k1,k2⟩:=e7 b o hb i j hi hj
    exact ⟨y,k1,k2.keep (fun _ _ _=>rfl) (fun _ _ h=>.inl h)⟩
   ·have hh' : br.has b o:=hh
    refine ⟨(hr.slorg d sh rows g br b o ht hρ hh').resolve_right id,(hr.alive d br b o ⟨_,ht,by simp⟩ hρ hh').1,(hr.alive d br b o ⟨_,ht,by simp⟩ hρ hh').2,?_⟩
    rintro (hi | ⟨d',hdB,br',sh',rows',g',k1,k2,k3⟩)
    ·exact hr.notI d br b o ⟨_,ht,by simp⟩ hρ hh' hi
    ·have e:=hr.apart d d' br br' b o ⟨_,ht,by simp⟩ ⟨_,k1,by simp⟩ hρ k2 hh' k3
     subst e
     have:B.any (Nat.beq d)=true:=List.any_eq_true.2 ⟨d,by simpa using hdB,by simp⟩
     rw [this] at hB; cases hB
   ·cases hx1 with
    | dat hx1=>cases hx1
    | own _ _ br' _ hd' hg hh hp =>
     rw [hρ] at hd'; cases hd'
     exact .own NEW 0 { br with gen:=0 } x (by simp [oneRho]) (Nat.le_refl _) (fun _=>hh e3.symm) hp
 ·rename_i sh _
  obtain ⟨x,rfl,hx1⟩:=hx.one
  have hx0:x = .slice none 0 0:=by cases hx1 with | dat h=>cases h; rfl
  cases ow with
  | false=>exact core [] _ _ (Option.some.inj h).symm (.inl ⟨rfl,by
    have:=hx1.nrm1
    subst hx0
    exact .dat (.slc sh [] _ 0 (fun _ _=>Go.undef) (Nat.le_refl _) (fun _=>rfl) rfl (fun h=>absurd rfl h) (fun i j hi=>by cases hi))⟩)
  | true =>
   refine core [] _ _ (Option.some.inj h).symm (.inr ⟨_,{ base:=none,sz:=sh.length,n:=0,cap:=0,gen:=0 },rfl,by simp,⟨rfl,rfl,rfl,Nat.le_refl _,rfl,fun _=>rfl,(fun b o hb=>by cases hb),(fun b o hb=>by cases hb)⟩,fun b o hh=>?_,?_⟩)
   ·obtain ⟨o₀,h1,_⟩:=hh; cases h1
   ·exact .own NEW 0 { base:=none,sz:=sh.length,n:=0,cap:=0,gen:=0 } x (by simp [oneRho]) (Nat.le_refl _) (fun _=>by rw [hx0]; rfl) ⟨none,0,0,hx0⟩
 ·rename_i cs _
  have plain:(borVs S [V.agg cs] fun vs'=>some { v:=tupOf (nrmA vs'),bx:=bs })=some q→∃ J',RetOk w w' J locs bx q (tupX xs) J':=fun h=>by
   obtain ⟨vs',B',h1,h2,h3⟩:=borVs_ok (m:=m) [V.agg cs] h
   refine core B' _ _ (Option.some.inj h1).symm (.inl ⟨rfl,?_⟩)
   exact tupOf_ok (h3 _ _ _ ρ I a w' hr (fun b o=>I b o∨HasOf S ρ (B++B') b o) (fun _ _ h=>.inl h) (fun b o hh=>.inr hh.right) xs hx noRho).nrm
  cases ow with
  | false=>exact plain h
  | true =>
   rw [cond_true] at h
   split at h
   ·rename_i p d g s hs
    have hsp:=ownSplit_spec cs hs
    obtain ⟨sh,rows,ht,h⟩:=withOwn_spec h
    obtain ⟨cs',B',h,hl,hdl,hbor⟩:=borL_ok (m:=m) (p++s) h
    obtain ⟨hB,h⟩:=none_cond h
    refine core B' _ _ (Option.some.inj h).symm (.inr ?_)
    obtain ⟨br,hρ,hbx⟩:=hr.tab d _ ht
    obtain ⟨x,rfl,hx1⟩:=hx.one
    obtain ⟨ys,rfl,hyl,hyh⟩:=hx1.agg_inv
    subst hsp
    obtain ⟨e1,e2,e3,e4,e5,e6,e7,e8⟩:=hbx
    have hnd:¬ d∈B++B':=fun hm=>by
     rcases List.mem_append.1 hm with hm | hm
     ·have:B.any (Nat.beq d)=true:=List.any_eq_true.2 ⟨d,hm,by simp⟩
      rw [this] at hB; cases hB
     ·have:B'.any (Nat.beq d)=true:=List.any_eq_true.2 ⟨d,hm,by simp⟩
      rw [this] at hB; cases h:B.any (Nat.beq d)<;>rw [h] at hB<;>cases hB
    simp only [List.length_append,List.length_cons] at hyl
    have hother:AllRv w' I ρ (p++s) (ys.take p.length++ys.drop (p.length+1)):=by
     refine ⟨by simp; omega,fun i hi=>?_⟩
     simp only [List.length_append] at hi
     by_cases hip:i<p.length
     ·have:=hyh i (by simp; omega)
      rw [List.getD_eq_getElem?_getD,List.getElem?_append_left hip] at this ⊢
      rw [List.getD_eq_getElem?_getD] at this
      rw [List.getD_eq_getElem?_getD,List.getElem?_append_left (by simp; omega),List.getElem?_take,if_pos hip]
      exact this
     ·have:=hyh (i+1) (by simp; omega)
      rw [List.getD_eq_getElem?_getD,List.getElem?_append_right (by omega)] at this ⊢
      rw [show i+1-p.length=(i-p.length)+1 by omega,List.getElem?_cons_succ,List.getD_eq_getElem?_getD] at this
      rw [List.getD_eq_getElem?_getD,List.getElem?_append_right (by simp; omega),List.getElem?_drop]
      simp only [List.length_take]
      rw [show p.length+1+(i-min p.length ys.length)=i+1 by omega]
      exact this
    have hdat:=hbor _ _ _ ρ I a w' hr (fun b o=>I b o∨HasOf S ρ (B++B') b o) (fun _ _ h=>.inl h) (fun b o hh=>.inr hh.right) _ hother
    refine ⟨_,{ br with gen:=0 },rfl,by simp,⟨e1,e2,rfl,e4,e5,e6,fun b o hb i j hi hj=>?_,e8⟩,fun b o hh=>?_,?_⟩
    ·obtain ⟨y,k1,k2⟩:=e7 b o hb i j hi hj
     exact ⟨y,k1,k2.keep (fun _ _ _=>rfl) (fun _ _ h=>.inl h)⟩
    ·have hh' : br.has b o:=hh
     refine ⟨(hr.slorg d sh rows g br b o ht hρ hh').resolve_right id,(hr.alive d br b o ⟨_,ht,by simp⟩ hρ hh').1,(hr.alive d br b o ⟨_,ht,by simp⟩ hρ hh').2,?_⟩
     rintro (hi | ⟨d',hdB,br',sh',rows',g',k1,k2,k3⟩)
     ·exact hr.notI d br b o ⟨_,ht,by simp⟩ hρ hh' hi
     ·have e:=hr.apart d d' br br' b o ⟨_,ht,by simp⟩ ⟨_,k1,by simp⟩ hρ k2 hh' k3
      subst e
      exact hnd hdB
    ·have nl:∀ l:List V,(nrmL l).length=l.length:=fun l=>by
      induction l with
      | nil=>rfl
      | cons v r ih=>simp [nrmL,ih]
     have ng:∀ (l:List V) (i:Nat),i<l.length→(nrmL l).getD i .undef=nrm1 (l.getD i .undef):=fun l=>by
      induction l with
      | nil=>intro i hi; cases hi
      | cons v r ih =>
       intro i hi
       cases i with
       | zero=>rfl
       | succ i=>simpa [nrmL] using ih i (by simpa using hi)
     simp only [List.length_append] at hl
     have ht1:(cs'.take p.length).length=p.length:=by simp; omega
     refine .agg _ ys (by simp [nl]; omega) fun i hi=>?_
     simp only [List.length_append,List.length_cons,nl,ht1,List.length_drop] at hi
     have getI:∀ k,k<cs'.length→Dat w' (fun b o=>I b o∨HasOf S ρ (B++B') b o) (nrm1 (cs'.getD k .undef)) ((ys.take p.length++ys.drop (p.length+1)).getD k Go.undef):=fun k hk=>(hdat.2 k hk).nrm1
     by_cases hip:i<p.length
     ·have hg:=getI i (by omega)
      rw [List.getD_eq_getElem?_getD,List.getElem?_append_left (by rw [nl,ht1]; exact hip),← List.getD_eq_getElem?_getD,ng _ _ (by rw [ht1]; exact hip)]
      have e1' : (cs'.take p.length).getD i .undef=cs'.getD i .undef:=by
       rw [List.getD_eq_getElem?_getD,List.getD_eq_getElem?_getD,List.getElem?_take,if_pos hip]
      have e2' : (ys.take p.length++ys.drop (p.length+1)).getD i Go.undef=ys.getD i Go.undef:=by
       rw [List.getD_eq_getElem?_getD,List.getD_eq_getElem?_getD,List.getElem?_append_left (by simp; omega),List.getElem?_take,if_pos hip]
      rw [e1']
      rw [e2'] at hg
      exact .dat hg
     ·by_cases hie:i=p.length
      ·subst hie
       have hown:=hyh p.length (by simp)
       rw [List.getD_eq_getElem?_getD,List.getElem?_append_right (Nat.le_refl _),Nat.sub_self] at hown
       rw [List.getD_eq_getElem?_getD,List.getElem?_append_right (by rw [nl,ht1]; exact Nat.le_refl _),nl,ht1,Nat.sub_self]
       simp only [List.getElem?_cons_zero,Option.getD_some] at hown ⊢
       generalize ys.getD p.length Go.undef=y at hown ⊢
       cases hown with
       | dat h=>cases h
       | own _ _ br' _ hd' hg hh hp =>
        rw [hρ] at hd'; cases hd'
        exact .own NEW 0 { br with gen:=0 } y (by simp [oneRho]) (Nat.le_refl _) (fun _=>hh e3.symm) hp
      ·have hk:i-1<cs'.length:=by omega
       have hg:=getI (i-1) hk
       rw [List.getD_eq_getElem?_getD,List.getElem?_append_right (by rw [nl,ht1]; omega),nl,ht1,show i-p.length=(i-1-p.length)+1 by omega,List.getElem?_cons_succ,← List.getD_eq_getElem?_getD,ng _ _ (by simp; omega)]
       have e1' : (cs'.drop p.length).getD (i-1-p.length) .undef=cs'.getD (i-1) .undef:=by
        rw [List.getD_eq_getElem?_getD,List.getD_eq_getElem?_getD,List.getElem?_drop,show p.length+(i-1-p.length)=i-1 by omega]
       have e2' : (ys.take p.length++ys.drop (p.length+1)).getD (i-1) Go.undef=ys.getD i Go.undef:=by
        rw [List.getD_eq_getElem?_getD,List.getD_eq_getElem?_getD,List.getElem?_append_right (by simp; omega),List.getElem?_drop]
        simp only [List.length_take]
        rw [show p.length+1+(i-1-min p.length ys.length)=i by omega]
       rw [e1']
       rw [e2'] at hg
       exact .dat hg
   ·exact plain h
 ·obtain ⟨vs',B',h1,h2,h3⟩:=borVs_ok (m:=m) vs h
  refine core B' _ _ (Option.some.inj h1).symm (.inl ⟨rfl,?_⟩)
  exact tupOf_ok (h3 _ _ _ ρ I a w' hr (fun b o=>I b o∨HasOf S ρ (B++B') b o) (fun _ _ h=>.inl h) (fun b o hh=>.inr hh.right) xs hx noRho).nrm
end
theorem evFn_ok {E:Env} (hG:GOk E) {f:FuncId} {fn:Func} {c:Code} (hf:E.P.funcs[f]? = some fn) (hb:fn.body=some c)
  (hcan:∀ fz fy keep S (K:St→Option R) q,canon fz fy keep S K=some q→∃ S',K S' = some q∧CanonOk fn.ntmps S S')
  (hl : ∀ p ∈ loopsOf c, LoopOk E fn.ntmps p.1 p.2) (hnm : (fn.name == "runtime.NumGoroutine") = false) {D : Den} (h : ∀ args bx, D.pre args bx = true → evFn E f args bx some = some (D.res args bx)) : FnOk E.P f D := by
 intro args bx hpre w J locs xs hlen hJ hx hc hdis hgl
 have h:=h args bx hpre
 unfold evFn at h
 rw [hf] at h
 simp only [hb] at h
 obtain ⟨h1,h⟩:=cond_none h
 obtain ⟨n1,h1⟩:=cond_and h1
 obtain ⟨n2,hd⟩:=cond_and h1
 have n1:=Nat.le_of_ble_eq_true n1
 have n2:=Nat.le_of_ble_eq_true n2
 have hno:∀ b o,J b o→¬ LocHas locs bx b o:=fun b o hj ⟨j,p,cs,e1,e2,e3,e4,e5⟩=>by
  have:=(hc j p cs e1 e2 (o-p.2) (by omega)).2.2
  rw [show p.2+(o-p.2)=o by omega,← e3] at this
  exact this hj
 refine .inl ⟨?_,calls_of_wp hf hb ?_⟩
 ·have hnm' : ¬ fn.name = "runtime.NumGoroutine" := fun e => by rw [e] at hnm; cases hnm
  simp [callFunc,hf,hnm',hb]
 ·refine evCode_ok hG hcan c hl hd _ _ _ h _ ⟨rfl,rfl⟩ _ _ _ _ _ _ (Rel.enter n2 hlen hJ hx hc hdis n1) (fun b o x hx=>⟨⟨(hgl b o x hx).1,hno b o (hgl b o x hx).1⟩,(hgl b o x hx).2⟩) _ fun e S' a' w' ρ' I' hr' hk=>?_
  have fin:retVals E S' fn.results.toList (fun vs=>giveBack S' (E.ow f) bx.length vs some)=some (D.res args bx)→a'.defers=[]∧∃ v,(results fn a'.tmps).run E.P w' = .ok v w'∧∃ v',Ending.returned v = .returned v'∧∃ J',RetOk w w' J locs bx (D.res args bx) v' J':=fun hk=>by
   obtain ⟨vs,k1,k2,k3⟩:=retVals_ok (m:=fn.ntmps) _ hk
   obtain ⟨ys,g1,g2⟩:=k3 _ _ _ ρ' I' a' w' hr'
   refine ⟨hr'.dfr,tupX ys,?_,_,rfl,giveBack_ok n2 hlen k1 hr' g2⟩
   have:=run_mapM_array (P:=E.P) (retOne a'.tmps) fn.results ys w' g1
   have e:results fn a'.tmps=(fn.results.mapM (retOne a'.tmps) >>= fun vs=>pure (if h:vs.size=1 then vs[0] else .tuple vs)):=by
    unfold results retOne; congr 1
   rw [e,Sem.run_bind,this,Result.andThen_ok]
   match ys with
   | []=>rfl
   | [y]=>rfl
   | y::y'::ys=>simp [tupX]
  cases e with
  | normal=>exact fin hk
  | exit j=>cases hk
  | ret=>exact fin hk
end Go.Ev
