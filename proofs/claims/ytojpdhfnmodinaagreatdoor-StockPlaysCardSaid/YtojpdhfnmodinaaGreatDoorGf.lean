/- What a claim needs: definitions and lemmas, no condition. -/
import Derived.Test.YtojpdhfnmodinaaGreatDoorGe
import Derived.Test.YtojpdhfnmodinaaGreatDoorGd
import Derived.Test.YtojpdhfnmodinaaGreatDoorGc
import Derived.Test.YtojpdhfnmodinaaGreatDoorProg
import Derived.KernelRfl
import Derived.Shelf.Strings.Builder1
import Derived.RegionTactic
import Derived.Deep.RegionWith
namespace Go.Ev
open Go
set_option maxRecDepth 100000
theorem abO (l:List aG):(N.o7 l).1.map aG.aQ=l.map aG.aQ:=by
 unfold N.o7
 rcases nS N.isReady l 0 (Int.le_refl _) with ⟨h1,_⟩ | ⟨k,h1,h2,_⟩
 .rw [h1]; rfl
 .rw [h1,iG (by omega)]
  have e:(0+(k:Int)).toNat=k:=by omega
  rw [e]
  exact ada (f:=N.vF) (fun _=>rfl) l k h2
theorem abP (l:List aG) (id:Int):(N.uO l id).1.map aG.aQ=l.map aG.aQ:=by
 unfold N.uO
 rcases nS (N.isId id) l 0 (Int.le_refl _) with ⟨h1,_⟩ | ⟨k,h1,h2,_⟩
 .rw [h1]; rfl
 .rw [h1,iG (by omega)]
  have e:(0+(k:Int)).toNat=k:=by omega
  rw [e]
  simp only [cond_false]
  cases (l.getD k fA).eF with
  | true=>exact ada (f:=N.qX) (fun _=>rfl) l k h2
  | false=>rfl
theorem Qh (l:List aG):(N.mX l).map aG.aQ=l.map aG.aQ:=by
 unfold N.mX
 rw [List.map_map]
 exact List.map_congr_left fun x _=>afc x
theorem nV (x:aG) (r:List aG):N.fM (x::r)=N.bJ x.aQ+N.fM r:=rfl
theorem D9:∀ (a b:List aG),N.fM (a++b)=N.fM a+N.fM b
 | [],b=>(Int.zero_add _).symm
 | x::r,b=>by rw [List.cons_append,nV,D9 r b,nV,Int.add_assoc]
theorem Qi:∀ {l l' : List aG},l'.map aG.aQ=l.map aG.aQ->N.fM l' = N.fM l
 | [],[],_=>rfl
 | [],_::_,h=>by cases h
 | _::_,[],h=>by cases h
 | x::r,y::t,h=>by
  rw [List.map_cons,List.map_cons] at h
  injection h with h1 h2
  rw [nV,nV,h1,Qi h2]
theorem af9 {l l' : List aG} (h:l'.Sublist l):N.fM l'<=N.fM l:=by
 induction h with
 | slnil=>exact Int.le_refl _
 | cons x _ ih=>have:=(lZ x.aQ).1; rw [nV]; omega
 | cons_cons x _ ih=>rw [nV,nV]; omega
structure wM (l l' : List aG):Prop where
 inv:Eh l->Eh l'
 fine:∀ p,allM p l=true->allM p l' = true
 len:l'.length<=l.length
 size:N.fM l'<=N.fM l
 low:∀ n:Int,(∀ y∈l,y.aQ.id<n)->∀ y∈l',y.aQ.id<n
theorem wM.aeb {l l' : List aG} (h:l'.map aG.aQ=l.map aG.aQ):wM l l' where
 inv:=QO h
 fine _:=ano h
 len:=by have:=congrArg List.length h; simp only [List.length_map] at this; omega
 size:=by rw [Qi h]; exact Int.le_refl _
 low n hn y hy:=by
  have:y.aQ∈l.map aG.aQ:=h ▸ List.mem_map_of_mem hy
  obtain ⟨z,hz,e⟩:=List.mem_map.1 this
  rw [<- e]; exact hn z hz
theorem wM.sub {l l' : List aG} (h:l'.Sublist l):wM l l' where
 inv:=aiN h
 fine _ ha:=List.all_eq_true.2 fun x hx=>List.all_eq_true.1 ha x (h.subset hx)
 len:=h.length_le
 size:=af9 h
 low _ hn y hy:=hn y (h.subset hy)
theorem abQ (l:List aG) (id:Int):(N.eP l id).1.Sublist l:=by
 unfold N.eP
 cases aZ (N.ix (N.isId id) l 0) 0 with
 | true=>exact List.Sublist.refl _
 | false=>exact adb l _
structure tV (n:Int) (x:dW):Prop where
 line:Eh x.line
 fine:allM N.fH x.line=true
 most:(x.line.length:Int)<=x.q.most
 q:N.jq x.q=0
 life:N.u64 x.q.life=true
 low:n=0∨∀ y∈x.line,y.aQ.id<n
structure gW (s:aF):Prop where
 wO:0<=s.next
 xQ:s.next<18446744073709551616
 Ar:0<=s.bytes
 Au:s.bytes<=9223372036854775807
 few:s.rows.length<=8
 row:∀ x∈s.rows,tV s.next x
 names:(s.rows.map fun x=>x.q.name).Nodup
 rise:s.rises.list.all fJ=true
 size:N.jv s<=s.bytes
theorem Ea {q:dZ} (h:N.jq q=0):N.name q.name=0∧1<=q.most∧q.most<=64∧(q.dead=[]∨N.name q.dead=0):=by
 unfold N.jq at h
 cases h1:N.name q.name != 0 with
 | true=>rw [h1] at h; have h:N.name q.name=0:=h; rw [h] at h1; cases h1
 | false =>
  rw [h1] at h
  refine ⟨by simpa using h1,?_⟩
  cases h2:aZ q.most 1 with
  | true=>rw [h2] at h; cases h
  | false =>
   cases h3:aZ 64 q.most with
   | true=>rw [h2,h3] at h; cases h
   | false =>
    refine ⟨fD h2,fD h3,?_⟩
    cases h4:q.dead==[] with
    | true=>exact .inl (by simpa using h4)
    | false=>rw [h2,h3,h4] at h; exact .inr h
theorem IB {b:Bytes} (h:N.name b=0):b.length<=16:=by
 unfold N.name at h
 cases h1:b==[] with
 | true=>rw [h1] at h; cases h
 | false =>
  cases h2:aZ 16 b.length with
  | true=>rw [h1,h2] at h; cases h
  | false=>have:=fD h2; omega
theorem Di {m:ay} (h:N.fH m=true):N.iJ m=true∧N.aV m=0:=by
 obtain ⟨h1,h2⟩:=aP h
 exact ⟨h1,aY h2⟩
theorem Qj {l:List aG} (h:Eh l) (hf:allM N.fH l=true):jQ l=true:=by
 have:=h.few
 unfold jQ
 rw [dN (show l.length<=300 by omega),h.small,List.all_eq_true.2 fun x hx=>(Di (List.all_eq_true.1 hf x hx)).1]; rfl
theorem KO {x:aC} (h:fJ x=true):jI x=true:=by
 obtain ⟨h1,h2⟩:=aP h
 unfold jI
 rw [h1,List.all_eq_true.2 fun m hm=>(Di (List.all_eq_true.1 h2 m hm)).1]; rfl
theorem gW.tN {s:aF} (h:gW s):tN s=true:=by
 have:=h.few
 unfold Go.Ev.tN
 rw [dN (show s.rows.length<=100 by omega),show s.rows.all Df=true from List.all_eq_true.2 fun x hx=>Qj (h.row x hx).line (h.row x hx).fine]; rfl
theorem gW.qx {s:aF} (h:gW s):qx s=true:=by
 unfold Go.Ev.qx qw
 rw [h.tN,List.all_eq_true.2 fun x hx=>KO (List.all_eq_true.1 h.rise x hx),dX h.wO,dK h.xQ]; rfl
theorem gW.wJ {s:aF} (h:gW s):wJ s=true:=by
 unfold Go.Ev.wJ vH
 rw [aoI (aP h.qx).1,dX h.wO,dK h.xQ,dX h.Ar,dX h.Au]; rfl
theorem gW.jG {s:aF} (h:gW s):jG s=true:=aoI (aP h.qx).1
theorem gW.eY {s:aF} (h:gW s):eY s=true:=(aP h.jG).1
theorem gW.pW {s:aF} (h:gW s):pW s=true:=(aP h.eY).1
theorem gW.vH {s:aF} (h:gW s):vH s=true:=(aP h.wJ).1
theorem gW.TV {s:aF} (h:gW s):nU s=true:=by
 have:=h.few
 unfold nU N.u64
 rw [dN (show s.rows.length<=100 by omega),h.rise,dX h.wO,dK h.xQ,List.all_eq_true.2 fun x hx=>?_]
 .rfl
 .have hr:=h.row x hx
  obtain ⟨h1,h2,h3,h4⟩:=Ea hr.q
  have h5:=IB h1
  have h6:x.q.dead.length<=16:=by
   rcases h4 with h4 | h4
   .rw [h4]; decide
   .exact IB h4
  have h7:=hr.line.few
  show cond (cond (Nat.ble x.q.name.length 1000) (Nat.ble x.q.dead.length 1000) false) (cond (cond (N.u64 x.q.most) (N.u64 x.q.life) false) (zC x.line) false) false=true
  unfold zC
  rw [dN (show x.q.name.length<=1000 by omega),dN (show x.q.dead.length<=1000 by omega),hr.life,dN (show x.line.length<=100 by omega),hr.line.small,show (x.line.all fun x=>N.fH x.aQ)=true from hr.fine]
  unfold N.u64
  rw [dX (show 0<=x.q.most by omega),dK (show x.q.most<18446744073709551616 by omega)]; rfl
theorem mF (x:dW) (r:List dW):N.bY (x::r)=N.fM x.line+N.bY r:=rfl
theorem IC:∀ (a b:List dW),N.bY (a++b)=N.bY a+N.bY b
 | [],b=>(Int.zero_add _).symm
 | x::r,b=>by rw [List.cons_append,mF,IC r b,mF,Int.add_assoc]
theorem VX {l l' : List dW} (h:l'.Sublist l):N.bY l'<=N.bY l:=by
 induction h with
 | slnil=>exact Int.le_refl _
 | cons x _ ih=>have:=(uP x.line).1; rw [mF]; omega
 | cons_cons x _ ih=>rw [mF,mF]; omega
theorem Aw:∀ (l:List dW) (k:Nat) (x:dW),k<l.length->N.bY (l.set k x)=N.bY l-N.fM (l.getD k row0).line+N.fM x.line
 | y::r,0,x,_=>by
  show N.fM x.line+N.bY r=N.fM y.line+N.bY r-N.fM y.line+N.fM x.line
  omega
 | y::r,k+1,x,h=>by
  have:=Aw r k x (by simpa using h)
  show N.fM y.line+N.bY (r.set k x)=N.fM y.line+N.bY r-N.fM (r.getD k row0).line+N.fM x.line
  omega
theorem yL:∀ (l:List aC) (k:Nat) (x:aC),k<l.length->N.dP (l.set k x)=N.dP l-N.bZ (l.getD k iC).kept+N.bZ x.kept
 | y::r,0,x,_=>by
  show N.bZ x.kept+N.dP r=N.bZ y.kept+N.dP r-N.bZ y.kept+N.bZ x.kept
  omega
 | y::r,k+1,x,h=>by
  have:=yL r k x (by simpa using h)
  show N.bZ y.kept+N.dP (r.set k x)=N.bZ y.kept+N.dP r-N.bZ (r.getD k iC).kept+N.bZ x.kept
  omega
theorem TW (rows:List dW) (k:Nat) (l:List aG):(rows.set k ⟨(rows.getD k row0).q,l⟩).map (fun x=>x.q.name)=rows.map fun x=>x.q.name:=by
 rw [List.map_set]
 refine List.ext_getElem? fun i=>?_
 rw [List.getElem?_set]
 by_cases h:k=i
 .subst h
  by_cases hk:k<rows.length
  .rw [List.getD_eq_getElem?_getD,List.getElem?_eq_getElem hk]; simp [hk]
  .simp [hk]
 .simp [h]
theorem Zl {rows:List dW} {n n' : Int} {k:Nat} {x:dW} (h:∀ y∈rows,tV n y) (hn:∀ y,tV n y->tV n' y) (hx:tV n' x):∀ y∈rows.set k x,tV n' y:=fun y hy=>by
 rcases List.mem_or_eq_of_mem_set hy with hy | hy
 .exact hn y (h y hy)
 .rw [hy]; exact hx
theorem Qk {s:aF} (h:gW s) {k:Int} (h0:0<=k) (h1:k<s.rows.length) {l:List aG} (hl:wM (N.dn s k).line l):gW (N.iH s k l):=by
 have hk:k.toNat<s.rows.length:=by omega
 have hr:=h.row _ (getD_mem row0 hk)
 have hz:=h.size
 have e:=Aw s.rows k.toNat ⟨(s.rows.getD k.toNat row0).q,l⟩ hk
 have hs:=hl.size
 refine ⟨h.wO,h.xQ,h.Ar,h.Au,by show (List.set _ _ _).length<=8; rw [List.length_set]; exact h.few,?_,?_,h.rise,?_⟩
 .refine Zl h.row (fun _ hy=>hy) ⟨hl.inv hr.line,hl.fine _ hr.fine,?_,hr.q,hr.life,?_⟩
  .have h2:=hl.len
   have h3:((N.dn s k).line.length:Int)<=(s.rows.getD k.toNat row0).q.most:=hr.most
   show (l.length:Int)<=(s.rows.getD k.toNat row0).q.most
   omega
  .rcases hr.low with h2 | h2
   .exact .inl h2
   .exact .inr (hl.low _ h2)
 .show ((s.rows.set k.toNat ⟨(s.rows.getD k.toNat row0).q,l⟩).map fun x=>x.q.name).Nodup
  rw [TW]; exact h.names
 .show N.bY (s.rows.set k.toNat ⟨(s.rows.getD k.toNat row0).q,l⟩)+N.dP s.rises.list<=s.bytes
  have hz:N.bY s.rows+N.dP s.rises.list<=s.bytes:=hz
  have hs:N.fM l<=N.fM (s.rows.getD k.toNat row0).line:=hs
  rw [e]
  show N.bY s.rows-N.fM (s.rows.getD k.toNat row0).line+N.fM l+N.dP s.rises.list<=s.bytes
  omega
theorem ak2 {s:aF} (h:gW s) (n:Bytes):gW (N.mZ s n).1:=by
 unfold N.mZ
 cases h1:aZ (N.bP s n) 0 with
 | true=>exact h
 | false =>
  obtain ⟨g1,g2,_,_⟩:=mD (oH h1)
  exact Qk h g1 g2 (.aeb (abO _))
theorem ak3 {s:aF} (h:gW s) (n:Bytes) (id:Int):gW (N.qE s n id).1:=by
 unfold N.qE
 cases h1:aZ (N.bP s n) 0 with
 | true=>exact h
 | false =>
  obtain ⟨g1,g2,_,_⟩:=mD (oH h1)
  exact Qk h g1 g2 (.aeb (abP _ id))
theorem abR {s:aF} (h:gW s) (n:Bytes) (id:Int):gW (N.iY s n id).1:=by
 unfold N.iY
 cases h1:aZ (N.bP s n) 0 with
 | true=>exact h
 | false =>
  obtain ⟨g1,g2,_,_⟩:=mD (oH h1)
  exact Qk h g1 g2 (.sub (abQ _ id))
theorem IE:∀ l:List dW,N.bY (l.map N.jV)=N.bY l
 | []=>rfl
 | x::r=>by
  rw [List.map_cons,mF,mF,IE r,show N.fM (N.jV x).line=N.fM x.line from Qi (Qh x.line)]
theorem ak4 {s:aF} (h:gW s):gW (N.KH s):=by
 refine ⟨h.wO,h.xQ,h.Ar,h.Au,by show (List.map _ _).length<=8; rw [List.length_map]; exact h.few,fun y hy=>?_,?_,h.rise,?_⟩
 .obtain ⟨x,hx,rfl⟩:=List.mem_map.1 (show y∈s.rows.map N.jV from hy)
  have hr:=h.row x hx
  have hl:wM x.line (N.mX x.line):=.aeb (Qh x.line)
  refine ⟨hl.inv hr.line,hl.fine _ hr.fine,?_,hr.q,hr.life,?_⟩
  .have h2:=hl.len
   have h3:=hr.most
   show ((N.mX x.line).length:Int)<=x.q.most
   omega
  .rcases hr.low with h2 | h2
   .exact .inl h2
   .exact .inr (hl.low _ h2)
 .show ((s.rows.map N.jV).map fun x=>x.q.name).Nodup
  rw [List.map_map]; exact h.names
 .show N.bY (s.rows.map N.jV)+N.dP s.rises.list<=s.bytes
  rw [IE]; exact h.size
theorem aec {s:aF} {n:Bytes} (h:bU 0 (N.bP s n)=false):∀ x∈s.rows,x.q.name ≠ n:=fun x hx e=>by
 rw [show bU 0 (N.bP s n)=s.rows.any (N.isRow n) from ajW _ _] at h
 rw [List.any_eq_true.2 ⟨x,hx,show (x.q.name==n)=true by rw [e]; exact beq_self_eq_true _⟩] at h
 cases h
theorem Zm {s:aF} (h:gW s) {q:dZ} (hq:N.u64 q.life=true):gW (N.gy s q).1:=by
 unfold N.gy
 cases h1:N.jq q != 0 with
 | true=>exact h
 | false =>
  have hc:N.jq q=0:=by simpa using h1
  obtain ⟨_,h5,_,_⟩:=Ea hc
  cases h2:bU 0 (N.bP s q.name) with
  | true=>cases N.YF (N.dn s (N.bP s q.name)).q q<;>exact h
  | false =>
   cases h3:bU 8 s.rows.length with
   | true=>exact h
   | false =>
    have h4:=lW h3
    simp only [cond_false]
    refine ⟨h.wO,h.xQ,h.Ar,h.Au,?_,fun y hy=>?_,?_,h.rise,?_⟩
    .show (s.rows++[_]).length<=8
     rw [List.length_append]; simp only [List.length_cons,List.length_nil]; omega
    .rcases List.mem_append.1 (show y∈s.rows++[(⟨q,[]⟩:dW)] from hy) with hy | hy
     .exact h.row y hy
     .rw [List.mem_singleton.1 hy]
      exact ⟨ac8,rfl,by show ((0:Nat):Int)<=q.most; omega,hc,hq,.inr fun y hy=>by cases hy⟩
    .show ((s.rows++[(⟨q,[]⟩:dW)]).map fun x=>x.q.name).Nodup
     rw [List.map_append,List.map_cons,List.map_nil,List.nodup_append]
     refine ⟨h.names,List.nodup_cons.2 ⟨List.not_mem_nil,List.nodup_nil⟩,fun a ha b hb=>?_⟩
     obtain ⟨x,hx,rfl⟩:=List.mem_map.1 ha
     rw [List.mem_singleton.1 hb]
     exact aec h2 x hx
    .show N.bY (s.rows++[(⟨q,[]⟩:dW)])+N.dP s.rises.list<=s.bytes
     rw [IC]
     show N.bY s.rows+0+N.dP s.rises.list<=s.bytes
     rw [Int.add_zero]; exact h.size
theorem ak5 {α:Type} (l:List α) (k:Nat):(N.abq l k).Sublist l:=by
 unfold N.abq
 have:(l.take k++l.drop (k+1)).Sublist (l.take k++l.drop k):=List.Sublist.append (List.Sublist.refl _) (by
  rw [<- List.drop_drop]
  exact List.drop_sublist 1 (l.drop k))
 rwa [List.take_append_drop] at this
theorem ak6 {s:aF} (h:gW s) (n:Bytes):gW (N.vG s n).1:=by
 unfold N.vG
 cases h1:aZ (N.bP s n) 0 with
 | true=>exact h
 | false =>
  have hs:=ak5 s.rows (N.bP s n).toNat
  have hz:=VX hs
  have h2:=h.size
  have h3:=hs.length_le
  have h4:=h.few
  refine ⟨h.wO,h.xQ,h.Ar,h.Au,?_,fun y hy=>h.row y (hs.subset hy),List.Nodup.sublist (hs.map _) h.names,h.rise,?_⟩
  .show (N.abq s.rows (N.bP s n).toNat).length<=8
   omega
  .show N.bY (N.abq s.rows (N.bP s n).toNat)+N.dP s.rises.list<=s.bytes
   have h2:N.bY s.rows+N.dP s.rises.list<=s.bytes:=h2
   omega
theorem drop_eq {s:aF} (h:gW s) (n:Bytes):N.vG s n=N.yJ s n:=by
 unfold N.vG N.yJ
 cases h1:aZ (N.bP s n) 0 with
 | true=>rfl
 | false =>
  have e:N.abq s.rows (N.bP s n).toNat=s.rows.filter (N.Ap n):=by
   have h0:=fD h1
   rcases zu (N.isRow n) s.rows 0 with ⟨h2,_⟩ | ⟨a,x,b,h2,h3,h4,h5,_⟩
   .have h2:N.bP s n = -1:=h2
    omega
   .have h3:N.bP s n=0+(a.length:Int):=h3
    have hk:(N.bP s n).toNat=a.length:=by omega
    have hn:=h.names
    have hx:x.q.name=n:=by simpa [N.isRow] using h4
    rw [hk,h2]
    rw [h2,List.map_append,List.map_cons,List.nodup_append,List.nodup_cons] at hn
    unfold N.abq
    rw [List.take_left' rfl,List.drop_append,List.drop_eq_nil_of_le (by omega),List.nil_append,show a.length+1-a.length=1 from by omega,List.drop_succ_cons,List.drop_zero,List.filter_append,List.filter_cons]
    have ha:a.filter (N.Ap n)=a:=List.filter_eq_self.2 fun y hy=>by
     show (!N.isRow n y)=true
     cases hc:N.isRow n y with
     | true=>rw [List.any_eq_true.2 ⟨y,hy,hc⟩] at h5; cases h5
     | false=>rfl
    have hb:b.filter (N.Ap n)=b:=List.filter_eq_self.2 fun y hy=>by
     show (!(y.q.name==n))=true
     cases hc:y.q.name==n with
     | true =>
      have hc:y.q.name=n:=by simpa using hc
      exact absurd (List.mem_map.2 ⟨y,hy,hc.trans hx.symm⟩) hn.2.1.1
     | false=>rfl
    rw [ha,hb,show N.Ap n x=false from by show (!N.isRow n x)=false; rw [h4]; rfl]
    simp
  rw [cond_false,e]; rfl
theorem abS {x:aC} (h:fJ x=true) {m:ay} (hm:N.iJ m=true) (hs:dA m=true):fJ (N.dH x m).1=true:=by
 have h0:=TS (KO h) hm hs
 obtain ⟨h1,h2⟩:=aP h
 have h3:=(aP h0).1
 unfold fJ
 rw [h3]
 show ((N.dH x m).1.kept.all N.fH)=true
 unfold N.dH
 cases hc:N.aV m != 0 with
 | true=>exact h2
 | false =>
  cases x.total==18446744073709551615 with
  | true=>exact h2
  | false =>
   refine List.all_eq_true.2 fun y hy=>?_
   rcases List.mem_append.1 (List.mem_of_mem_drop hy) with hy | hy
   .exact List.all_eq_true.1 h2 y hy
   .rw [List.mem_singleton.1 hy]
    unfold N.fH
    rw [hm]
    show (N.aV m==0)=true
    have:N.aV m=0:=by simpa using hc
    rw [this]; rfl
theorem aga {s:aF} (h:gW s) (p:Int) {m:ay} (hm:N.iJ m=true) (hs:dA m=true):gW (N.qo s p m).1:=by
 unfold N.qo
 cases h1:aZ p 0 with
 | true=>exact h
 | false =>
  cases h2:bU 16 p with
  | true=>exact h
  | false =>
   have g1:=fD h1
   have g2:=lW h2
   simp only [cond_false]
   cases (N.dH (N.kS s p) m).2 != 0 with
   | true=>exact h
   | false =>
    cases h3:aZ s.bytes (N.jv s-N.bZ (N.kS s p).kept+N.bZ (N.dH (N.kS s p) m).1.kept) with
    | true=>exact h
    | false =>
     have h4:=fD h3
     have hk:p.toNat<s.rises.list.length:=by rw [dG.jE]; omega
     refine ⟨h.wO,h.xQ,h.Ar,h.Au,h.few,h.row,h.names,?_,?_⟩
     .exact ad7 _ h.rise (abS (List.all_eq_true.1 h.rise _ (getD_mem iC hk)) hm hs)
     .show N.bY s.rows+N.dP (s.rises.set p.toNat (N.dH (N.kS s p) m).1).list<=s.bytes
      rw [dG.zo,yL _ _ _ hk]
      have h4:N.bY s.rows+N.dP s.rises.list-N.bZ (s.rises.list.getD p.toNat iC).kept+N.bZ (N.dH (N.kS s p) m).1.kept<=s.bytes:=h4
      omega
theorem ak7 (s:aF) (p:Int) (m:ay):N.qo s p m=N.uw s p m:=by
 unfold N.qo N.uw
 cases h1:aZ p 0 with
 | true=>rfl
 | false =>
  cases h2:bU 16 p with
  | true=>rw [dK (show 15<p by have:=bQ h2; omega)]; rfl
  | false =>
   have g1:=fD h1
   have g2:=lW h2
   rw [iG (show p<=15 by omega)]
   have hk:p.toNat<s.rises.list.length:=by rw [dG.jE]; omega
   have e:N.jv ⟨s.next,s.bytes,s.rows,s.rises.set p.toNat (N.dH (N.kS s p) m).1⟩=N.jv s-N.bZ (N.kS s p).kept+N.bZ (N.dH (N.kS s p) m).1.kept:=by
    show N.bY s.rows+N.dP (s.rises.set p.toNat (N.dH (N.kS s p) m).1).list=_
    rw [dG.zo,yL _ _ _ hk]
    show _=N.bY s.rows+N.dP s.rises.list-N.bZ (s.rises.list.getD p.toNat iC).kept+_
    omega
   rw [e]
theorem anO {l:List aG} (hs:Sorted l) {k:Nat} (hk:k<l.length):N.ix (N.isId (l.getD k fA).aQ.id) l 0=k:=by
 rcases nS (N.isId (l.getD k fA).aQ.id) l 0 (Int.le_refl _) with ⟨_,h2⟩ | ⟨j,h1,h2,h3,h4⟩
 .have:=h2 _ (getD_mem fA hk)
  rw [show N.isId (l.getD k fA).aQ.id (l.getD k fA)=true from beq_self_eq_true _] at this
  cases this
 .rw [h1]
  have h3:(l.getD j fA).aQ.id=(l.getD k fA).aQ.id:=by simpa [N.isId] using h3
  have hj:j=k:=by
   rcases Nat.lt_trichotomy j k with hl | hl | hl
   .have:=List.pairwise_iff_getElem.1 hs j k h2 hk hl
    rw [List.getD_eq_getElem?_getD,List.getElem?_eq_getElem h2,List.getD_eq_getElem?_getD,List.getElem?_eq_getElem hk] at h3
    simp only [Option.getD_some] at h3
    omega
   .exact hl
   .have:=h4 k hl
    rw [show N.isId (l.getD k fA).aQ.id (l.getD k fA)=true from beq_self_eq_true _] at this
    cases this
  rw [hj]; omega
theorem ak8 {l:List aG} (hs:Sorted l) (h:(N.fF l).2=true):∃ k,k<l.length∧(l.getD k fA).eF=false∧(∀ j,j<k->(l.getD j fA).eF=true)∧N.fF l=((l.getD k fA).aQ,true)∧(N.eP l (l.getD k fA).aQ.id).1=N.cutAt l k∧N.ix N.isReady l 0=k:=by
 rcases nS N.isReady l 0 (Int.le_refl _) with ⟨h1,_⟩ | ⟨k,h1,h2,h3,h4⟩
 .unfold N.fF N.lS at h
  rw [h1] at h; cases h
 .have hl:∀ x:aG,N.isReady x=true->x.eF=false:=fun x hx=>by
   unfold N.isReady at hx
   cases hc:x.eF with
   | true=>rw [hc] at hx; cases hx
   | false=>rfl
  have hl' : ∀ x:aG,N.isReady x=false->x.eF=true:=fun x hx=>by
   unfold N.isReady at hx
   cases hc:x.eF with
   | true=>rfl
   | false=>rw [hc] at hx; cases hx
  refine ⟨k,h2,hl _ h3,fun j hj=>hl' _ (h4 j hj),?_,?_,by rw [h1]; omega⟩
  .unfold N.fF N.lS
   rw [h1,iG (by omega),show (0+(k:Int)).toNat=k from by omega]; rfl
  .unfold N.eP
   rw [anO hs h2,iG (by omega)]; rfl
theorem ak9 {l:List aG} {k:Nat} (h:k<l.length):N.fM (N.cutAt l k)+N.bJ (l.getD k fA).aQ=N.fM l:=by
 have e:=congrArg N.fM (Yu h)
 rw [D9,nV] at e
 unfold N.cutAt
 rw [D9]
 omega
theorem abT (m:ay) (n:Int):N.aV (N.kL m n)=N.aV m:=rfl
theorem agb (m:ay) (n:Int):N.bJ (N.kL m n)=N.bJ m:=rfl
theorem anP {l:List aG} (hl:l.length<64) {m:ay} (hm:N.aV m=0) (h:∀ y∈l,y.aQ.id<m.id):N.rRc l m=0:=by
 unfold N.rRc
 rw [hm,show (l.any fun y=>bU m.id y.aQ.id)=false from by
  rw [Bool.eq_false_iff]
  intro ha
  obtain ⟨y,hy,hyi⟩:=List.any_eq_true.1 ha
  have h1:=bQ hyi
  have h2:=h y hy
  omega,BK (show (l.length:Int)<64 by omega)]; rfl
theorem TY {l:List aG} (hs:Sorted l) (hl:l.length<64) {x:aG} (hm:N.aV x.aQ=0) (h:∀ y∈l,y.aQ.id<x.aQ.id):N.l7 l x=(l++[x],0)∧N.rU l x=(l++[x],0):=by
 have e:N.rU l x=(l++[x],0):=by
  unfold N.rU
  rw [anP hl hm h]; rfl
 exact ⟨by rw [<- amL hs]; exact e,e⟩
structure aql (s:aF) (k:Int) (m out:ay) (l:List aG):Prop where
 prog:N.zx s k m out l=cond (aZ (N.l9 s+N.bJ out) (N.bJ m)) (s,0,gJ,12) (⟨IntKind.wrap .u64 (s.next+1),s.bytes,(N.iH s k (l++[⟨N.kL m s.next,false,false⟩])).rows,s.rises⟩,s.next,out,0)
 anQ:N.KN s k m out l=N.zx s k m out l
 inv:gW (N.zx s k m out l).1
theorem agc {n:Int} (h0:0<=n) (h1:n<18446744073709551616):(IntKind.wrap .u64 (n+1)=n+1∧n+1<18446744073709551616)∨IntKind.wrap .u64 (n+1)=0:=by
 by_cases h:n+1<18446744073709551616
 .exact .inl ⟨kC (by omega) (by omega),h⟩
 .have:n=18446744073709551615:=by omega
  subst this; exact .inr (by decide)
theorem aed {s:aF} (h:gW s) (hn:s.next ≠ 0) {k:Int} (h0:0<=k) (h1:k<s.rows.length) {m out:ay} (hm:N.iJ m=true) (hsm:dA m=true) (hc:N.aV m=0) {l:List aG}
  (hl:wM (N.dn s k).line l) (hlen:(l.length:Int)<(N.dn s k).q.most) (hz:N.fM l+N.bJ out=N.fM (N.dn s k).line):aql s k m out l:=by
 have hk:k.toNat<s.rows.length:=by omega
 have hr:=h.row _ (getD_mem row0 hk)
 obtain ⟨_,_,q3,_⟩:=Ea hr.q
 have q3:(N.dn s k).q.most<=64:=q3
 have hlow:∀ y∈l,y.aQ.id<s.next:=hl.low _ (hr.low.resolve_left hn)
 have hs:=(hl.inv hr.line).sorted
 obtain ⟨e1,e2⟩:=TY (l:=l) (x:=⟨N.kL m s.next,false,false⟩) hs (by omega) (show N.aV (N.kL m s.next)=0 from hc) hlow
 have hsz:=Aw s.rows k.toNat ⟨(s.rows.getD k.toNat row0).q,l++[⟨N.kL m s.next,false,false⟩]⟩ hk
 have hla:N.fM (l++[(⟨N.kL m s.next,false,false⟩:aG)])=N.fM l+N.bJ m:=by
  rw [D9,nV]
  show _+(N.bJ m+0)=_
  omega
 have hss:N.jv ⟨IntKind.wrap .u64 (s.next+1),s.bytes,(N.iH s k (l++[⟨N.kL m s.next,false,false⟩])).rows,s.rises⟩=N.jv s-N.bJ out+N.bJ m:=by
  show N.bY (s.rows.set k.toNat ⟨(s.rows.getD k.toNat row0).q,l++[⟨N.kL m s.next,false,false⟩]⟩)+N.dP s.rises.list=N.bY s.rows+N.dP s.rises.list-N.bJ out+N.bJ m
  rw [hsz]
  show N.bY s.rows-N.fM (s.rows.getD k.toNat row0).line+N.fM (l++[(⟨N.kL m s.next,false,false⟩:aG)])+N.dP s.rises.list=_
  have hz:N.fM l+N.bJ out=N.fM (s.rows.getD k.toNat row0).line:=hz
  rw [hla]; omega
 have prog:N.zx s k m out l=cond (aZ (N.l9 s+N.bJ out) (N.bJ m)) (s,0,gJ,12) (⟨IntKind.wrap .u64 (s.next+1),s.bytes,(N.iH s k (l++[⟨N.kL m s.next,false,false⟩])).rows,s.rises⟩,s.next,out,0):=by
  unfold N.zx
  rw [e1,agb]; rfl
 refine ⟨prog,?_,?_⟩
 .rw [prog]
  unfold N.KN
  rw [e2,hss]
  have:aZ s.bytes (N.jv s-N.bJ out+N.bJ m)=aZ (N.l9 s+N.bJ out) (N.bJ m):=by
   unfold N.l9
   cases hc:aZ s.bytes (N.jv s-N.bJ out+N.bJ m) with
   | true=>rw [dK]; have:=jZ hc; omega
   | false=>rw [iG]; have:=fD hc; omega
  rw [this]; rfl
 .rw [prog]
  cases hc2:aZ (N.l9 s+N.bJ out) (N.bJ m) with
  | true=>exact h
  | false =>
   have hroom:=fD hc2
   have hw:=agc h.wO h.xQ
   have hx:dR ⟨N.kL m s.next,false,false⟩=true:=hsm
   have hli:=Yf (hl.inv hr.line) hx
   rw [e1] at hli
   show gW ⟨IntKind.wrap .u64 (s.next+1),s.bytes,(N.iH s k (l++[⟨N.kL m s.next,false,false⟩])).rows,s.rises⟩
   refine ⟨?_,?_,h.Ar,h.Au,?_,?_,?_,h.rise,?_⟩
   .show 0<=IntKind.wrap .u64 (s.next+1)
    have:=h.wO
    rcases hw with ⟨e,_⟩ | e<;>rw [e]<;>omega
   .show IntKind.wrap .u64 (s.next+1)<18446744073709551616
    rcases hw with ⟨e,_⟩ | e<;>rw [e]<;>omega
   .show (List.set _ _ _).length<=8
    rw [List.length_set]; exact h.few
   .refine Zl h.row (fun y hy=>⟨hy.line,hy.fine,hy.most,hy.q,hy.life,?_⟩) ⟨hli,?_,?_,hr.q,hr.life,?_⟩
    .rcases hw with ⟨e,_⟩ | e
     .rw [e]
      exact .inr fun z hz=>by have:=hy.low.resolve_left hn z hz; show z.aQ.id<s.next+1; omega
     .exact .inl e
    .show (l++[(⟨N.kL m s.next,false,false⟩:aG)]).all (fun x=>N.fH x.aQ)=true
     rw [List.all_append,show l.all (fun x=>N.fH x.aQ)=true from hl.fine _ hr.fine]
     have:N.fH (N.kL m s.next)=true:=by
      unfold N.fH
      rw [TT hm h.wO h.xQ,abT,hc]; rfl
     simp [this]
    .show ((l++[_]).length:Int)<=(s.rows.getD k.toNat row0).q.most
     have hlen:(l.length:Int)<(s.rows.getD k.toNat row0).q.most:=hlen
     rw [List.length_append]; simp only [List.length_cons,List.length_nil]; omega
    .rcases hw with ⟨e,_⟩ | e
     .rw [e]
      refine .inr fun y hy=>?_
      rcases List.mem_append.1 hy with hy | hy
      .have:=hlow y hy; show y.aQ.id<s.next+1; omega
      .rw [List.mem_singleton.1 hy]
       show s.next<s.next+1
       omega
     .exact .inl e
   .show ((s.rows.set k.toNat ⟨(s.rows.getD k.toNat row0).q,_⟩).map fun x=>x.q.name).Nodup
    rw [TW]; exact h.names
   .rw [hss]
    show N.jv s-N.bJ out+N.bJ m<=s.bytes
    unfold N.l9 at hroom
    omega
structure arY (s:aF) (n:Bytes) (m:ay):Prop where
 anQ:N.qc s n m=N.oN s n m
 inv:gW (N.oN s n m).1
 ends:(∃ e,N.oN s n m=(s,0,gJ,e)∧e ≠ 0)∨(s.next ≠ 0∧N.aV m=0∧0<=N.bP s n∧N.bP s n<s.rows.length∧∃ out l,N.oN s n m=(⟨IntKind.wrap .u64 (s.next+1),s.bytes,(N.iH s (N.bP s n) (l++[⟨N.kL m s.next,false,false⟩])).rows,s.rises⟩,s.next,out,0) ∧
  ((out=gJ∧l=(N.dn s (N.bP s n)).line∧(l.length:Int)<(N.dn s (N.bP s n)).q.most)∨((N.dn s (N.bP s n)).q.most<=(N.dn s (N.bP s n)).line.length∧∃ k,k<(N.dn s (N.bP s n)).line.length∧((N.dn s (N.bP s n)).line.getD k fA).eF=false∧(∀ j,j<k->((N.dn s (N.bP s n)).line.getD j fA).eF=true)∧out=((N.dn s (N.bP s n)).line.getD k fA).aQ∧l=N.cutAt (N.dn s (N.bP s n)).line k)))
theorem abU {s:aF} (h:gW s) (n:Bytes) {m:ay} (hm:N.iJ m=true) (hsm:dA m=true):arY s n m:=by
 cases h1:aZ (N.bP s n) 0 with
 | true =>
  have e:N.oN s n m=(s,0,gJ,10):=by unfold N.oN; rw [h1]; rfl
  exact ⟨by rw [e]; unfold N.qc; rw [h1]; rfl,by rw [e]; exact h,.inl ⟨10,e,by decide⟩⟩
 | false =>
 cases h2:N.aV m != 0 with
 | true =>
  have e:N.oN s n m=(s,0,gJ,N.aV m):=by unfold N.oN; rw [h1,h2]; rfl
  exact ⟨by rw [e]; unfold N.qc; rw [h1,h2]; rfl,by rw [e]; exact h,.inl ⟨_,e,by simpa using h2⟩⟩
 | false =>
 have hc:N.aV m=0:=by simpa using h2
 cases h3:s.next==0 with
 | true =>
  have e:N.oN s n m=(s,0,gJ,18):=by unfold N.oN; rw [h1,h2,h3]; rfl
  exact ⟨by rw [e]; unfold N.qc; rw [h1,h2,h3]; rfl,by rw [e]; exact h,.inl ⟨18,e,by decide⟩⟩
 | false =>
 have hn:s.next ≠ 0:=by simpa using h3
 obtain ⟨g1,g2,_,g4⟩:=mD (oH h1)
 have hr:=h.row _ (getD_mem row0 g4)
 have hrm:((N.dn s (N.bP s n)).line.length:Int)<=(N.dn s (N.bP s n)).q.most:=hr.most
 cases h4:bU (N.dn s (N.bP s n)).q.most (N.dn s (N.bP s n)).line.length with
 | true =>
  cases h5:(N.fF (N.dn s (N.bP s n)).line).2 with
  | false =>
   have e:N.oN s n m=(s,0,gJ,12):=by unfold N.oN; rw [h1,h2,h3,h4,h5]; rfl
   exact ⟨by rw [e]; unfold N.qc; rw [h1,h2,h3,h4,h5]; rfl,by rw [e]; exact h,.inl ⟨12,e,by decide⟩⟩
  | true =>
   obtain ⟨k,k1,k2,k3,k4,k5,_⟩:=ak8 (l:=(N.dn s (N.bP s n)).line) hr.line.sorted h5
   have hcl:=anh k1
   have hpe:=aed h hn g1 g2 (out:=((N.dn s (N.bP s n)).line.getD k fA).aQ) hm hsm hc (.sub (adb _ k)) (by omega) (ak9 k1)
   have e1:N.oN s n m=N.zx s (N.bP s n) m ((N.dn s (N.bP s n)).line.getD k fA).aQ (N.cutAt (N.dn s (N.bP s n)).line k):=by unfold N.oN; rw [h1,h2,h3,h4,k4,k5]; rfl
   have e2:N.qc s n m=N.KN s (N.bP s n) m ((N.dn s (N.bP s n)).line.getD k fA).aQ (N.cutAt (N.dn s (N.bP s n)).line k):=by unfold N.qc; rw [h1,h2,h3,h4,k4,k5]; rfl
   refine ⟨by rw [e1,e2]; exact hpe.anQ,by rw [e1]; exact hpe.inv,?_⟩
   cases hc2:aZ (N.l9 s+N.bJ ((N.dn s (N.bP s n)).line.getD k fA).aQ) (N.bJ m) with
   | true=>exact .inl ⟨12,by rw [e1,hpe.prog,hc2]; rfl,by decide⟩
   | false=>exact .inr ⟨hn,hc,g1,g2,_,_,by rw [e1,hpe.prog,hc2]; rfl,.inr ⟨bQ h4,k,k1,k2,k3,rfl,rfl⟩⟩
 | false =>
  have h4':=lW h4
  have hpe:=aed h hn g1 g2 (out:=gJ) hm hsm hc (.aeb (l:=(N.dn s (N.bP s n)).line) rfl) (by omega) (Int.add_zero _)
  have e1:N.oN s n m=N.zx s (N.bP s n) m gJ (N.dn s (N.bP s n)).line:=by unfold N.oN; rw [h1,h2,h3,h4]; rfl
  have e2:N.qc s n m=N.KN s (N.bP s n) m gJ (N.dn s (N.bP s n)).line:=by unfold N.qc; rw [h1,h2,h3,h4]; rfl
  refine ⟨by rw [e1,e2]; exact hpe.anQ,by rw [e1]; exact hpe.inv,?_⟩
  cases hc2:aZ (N.l9 s+N.bJ gJ) (N.bJ m) with
  | true=>exact .inl ⟨12,by rw [e1,hpe.prog,hc2]; rfl,by decide⟩
  | false=>exact .inr ⟨hn,hc,g1,g2,_,_,by rw [e1,hpe.prog,hc2]; rfl,.inl ⟨rfl,rfl,h4'⟩⟩
def uD (a:lI):Bool:=cond (Dh a) (N.u64 a.q.life) false
theorem FH {a:lI} (h:uD a=true):N.iJ a.aQ=true∧dA a.aQ=true∧N.u64 a.q.life=true:=by
 obtain ⟨h1,h2⟩:=aP h
 obtain ⟨h1,h3⟩:=aP h1
 exact ⟨h1,h3,h2⟩
theorem ala {s:aF} (h:gW s) {a:lI} (ha:uD a=true) (q:aF):gW (N.oI s q a).1:=by
 obtain ⟨h1,h2,h3⟩:=FH ha
 unfold N.oI
 cases Int.tmod a.op 10==3 with
 | true=>exact Zm h h3
 | false =>
 cases Int.tmod a.op 10==4 with
 | true=>exact ak6 h _
 | false =>
 cases Int.tmod a.op 10==5 with
 | true=>exact ak2 h _
 | false =>
 cases Int.tmod a.op 10==6 with
 | true=>exact ak3 h _ _
 | false =>
 cases Int.tmod a.op 10==7 with
 | true=>exact abR h _ _
 | false =>
 cases Int.tmod a.op 10==8 with
 | true=>exact aga h _ h1 h2
 | false =>
 cases Int.tmod a.op 10==9 with
 | true=>exact ak4 h
 | false=>exact (abU h _ h1 h2).inv
theorem abV (s q:aF) (a:lI) (h:gW s) (ha:uD a=true):(N.oI s q a).1.bytes=s.bytes:=by
 obtain ⟨h1,h2,h3⟩:=FH ha
 unfold N.oI
 cases Int.tmod a.op 10==3 with
 | true =>
  show (N.gy s a.q).1.bytes=s.bytes
  unfold N.gy
  cases N.jq a.q != 0<;>cases bU 0 (N.bP s a.q.name)<;>cases N.YF (N.dn s (N.bP s a.q.name)).q a.q<;>cases bU 8 (s.rows.length:Int)<;>rfl
 | false =>
 cases Int.tmod a.op 10==4 with
 | true =>
  show (N.vG s a.name).1.bytes=s.bytes
  unfold N.vG
  cases aZ (N.bP s a.name) 0<;>rfl
 | false =>
 cases Int.tmod a.op 10==5 with
 | true =>
  show (N.mZ s a.name).1.bytes=s.bytes
  unfold N.mZ
  cases aZ (N.bP s a.name) 0<;>rfl
 | false =>
 cases Int.tmod a.op 10==6 with
 | true =>
  show (N.qE s a.name a.id).1.bytes=s.bytes
  unfold N.qE
  cases aZ (N.bP s a.name) 0<;>rfl
 | false =>
 cases Int.tmod a.op 10==7 with
 | true =>
  show (N.iY s a.name a.id).1.bytes=s.bytes
  unfold N.iY
  cases aZ (N.bP s a.name) 0<;>rfl
 | false =>
 cases Int.tmod a.op 10==8 with
 | true =>
  show (N.qo s a.place a.aQ).1.bytes=s.bytes
  unfold N.qo
  cases aZ a.place 0<;>cases bU 16 a.place<;>cases (N.dH (N.kS s a.place) a.aQ).2 != 0<;>cases aZ s.bytes (N.jv s-N.bZ (N.kS s a.place).kept+N.bZ (N.dH (N.kS s a.place) a.aQ).1.kept)<;>rfl
 | false =>
 cases Int.tmod a.op 10==9 with
 | true=>rfl
 | false =>
  show (N.oN s a.name a.aQ).1.bytes=s.bytes
  rcases (abU h a.name h1 h2).ends with ⟨e,h4,_⟩ | ⟨_,_,_,_,out,l,h4,_⟩<;>rw [h4]
theorem Zn {s:aF} (h:gW s) {a:lI} (ha:uD a=true):N.oI s s a=((N.oI s iW a).1,(N.oI s iW a).1,true):=by
 obtain ⟨h1,h2,h3⟩:=FH ha
 unfold N.oI
 cases Int.tmod a.op 10==3 with
 | true=>simp only [cond_true,beq_self_eq_true]
 | false =>
 cases Int.tmod a.op 10==4 with
 | true=>simp only [cond_true,cond_false,<- drop_eq h,beq_self_eq_true]
 | false =>
 cases Int.tmod a.op 10==5 with
 | true=>simp only [cond_true,cond_false,beq_self_eq_true,Fj]
 | false =>
 cases Int.tmod a.op 10==6 with
 | true=>simp only [cond_true,cond_false,beq_self_eq_true]
 | false =>
 cases Int.tmod a.op 10==7 with
 | true=>simp only [cond_true,cond_false,beq_self_eq_true,Fj]
 | false =>
 cases Int.tmod a.op 10==8 with
 | true=>simp only [cond_true,cond_false,<- ak7,beq_self_eq_true]
 | false =>
 cases Int.tmod a.op 10==9 with
 | true=>rfl
 | false =>
  simp only [cond_false]
  unfold N.Ez
  rw [(abU h a.name h1 h2).anQ,uj]
  simp only [beq_self_eq_true,cond_true]
theorem anR (base bytes:Int) (h0:0<=base) (h1:base<18446744073709551616) (h2:bytes<=9223372036854775807):gW (N.sNew base bytes):=by
 have hb:0<=cond (aZ 0 bytes) bytes 0∧cond (aZ 0 bytes) bytes 0<=9223372036854775807:=by
  cases hc:aZ 0 bytes with
  | true=>have:=jZ hc; exact ⟨by show 0<=bytes; omega,h2⟩
  | false=>exact ⟨Int.le_refl 0,show (0:Int)<=9223372036854775807 by omega⟩
 exact { wO:=h0,xQ:=h1,Ar:=hb.1,Au:=hb.2,few:=Nat.zero_le 8,row:=fun x hx=>(List.not_mem_nil hx).elim,names:=List.nodup_nil,rise:=rfl,size:=hb.1 }
end Go.Ev

namespace Go.Ev
open Go Go.Proofs
set_option maxRecDepth 100000
-- FOLD2
noncomputable def alb:Env:=env Tryz.prog [(109,nI)] [] []
theorem anS  : bM alb 36 [] [] some =
 some {v:=.bool true,bx:=[]:aH}:=by kernel_rfl
theorem alc (hN:bH Tryz.prog 95 fZ):bH Tryz.prog 36 nI :=
 aK (aT ((fK.nil _).cons (anf hN))) (E:=alb) Tryz.func36 [] (by kernel_rfl) none0 fun _ _ _=>anS
noncomputable def ald:Env:=env Tryz.prog [(110,nI)] [] []
theorem anT  : bM ald 37 [] [] some =
 some {v:=.bool true,bx:=[]:aH}:=by kernel_rfl
theorem ale (hN:bH Tryz.prog 95 fZ):bH Tryz.prog 37 nI :=
 aK (aT ((fK.nil _).cons (amC hN))) (E:=ald) Tryz.func37 [] (by kernel_rfl) none0 fun _ _ _=>anT
noncomputable def aoK:Env:=env Tryz.prog [(10,Tm),(11,JB),(13,akt),(35,nI),(36,nI),(37,nI)] [] []
theorem aqm  : bM aoK 8 [] [] some =
 some {v:=.bool true,bx:=[]:aH}:=by kernel_rfl
theorem anU (hN:bH Tryz.prog 95 fZ):bH Tryz.prog 8 nI :=
 aK (aT (((((((fK.nil _).cons (ale hN)).cons (alc hN)).cons acY).cons (adS hN)).cons PG).cons VL)) (E:=aoK) Tryz.func8 [] (by kernel_rfl) none0 fun _ _ _=>aqm
end Go.Ev

namespace Go.Ev
open Go Go.Proofs
set_option maxRecDepth 100000
-- FOLD2
open Classical in
open Classical in
open Classical in
theorem agd (c:List V):List.map aS.dec (V.toRows (List.getD c 2 V.undef))=(au.dec c).rows:=rfl
theorem aqn {s:aF} (h:(s.rows.map fun x=>x.q.name).Nodup) {x:dW} (hx:x∈s.rows):0<=N.bP s x.q.name∧N.dn s (N.bP s x.q.name)=x:=by
 rcases zu (N.isRow x.q.name) s.rows 0 with ⟨_,h2⟩ | ⟨a,y,b,h1,h2,h3,h4,_⟩
 .rw [List.any_eq_true.2 ⟨x,hx,show (x.q.name==x.q.name)=true from beq_self_eq_true _⟩] at h2; cases h2
 .have h2:N.bP s x.q.name=0+(a.length:Int):=h2
  have hy:y.q.name=x.q.name:=by simpa [N.isRow] using h3
  refine ⟨by omega,?_⟩
  unfold N.dn
  rw [h2,show (0+(a.length:Int)).toNat=a.length from by omega,h1,List.getD_eq_getElem?_getD,List.getElem?_append_right (Nat.le_refl _),Nat.sub_self]
  show y=x
  rw [h1] at hx h
  rw [List.map_append,List.map_cons,List.nodup_append,List.nodup_cons] at h
  rcases List.mem_append.1 hx with hx | hx
  .have:=List.any_eq_false.1 h4 x hx
   exact (this (show (x.q.name==x.q.name)=true from beq_self_eq_true _)).elim
  .rcases List.mem_cons.1 hx with hx | hx
   .exact hx.symm
   .exact (h.2.1.1 (List.mem_map.2 ⟨x,hx,hy.symm⟩)).elim
theorem alf {s:aF} (h:(s.rows.map fun x=>x.q.name).Nodup) {x:dW} (hx:x∈s.rows):N.CV s x.q.name=x.line:=by
 obtain ⟨h1,h2⟩:=aqn h hx
 unfold N.CV
 rw [iG h1,h2]; rfl
def wP (a:lI):Bool:=cond (N.iJ a.aQ) (N.u64 a.q.life) false
theorem QW {a:lI} (h:N.uz a=true):dA a.aQ=true:=by
 unfold N.uz at h
 cases hc:aZ 40 (N.af4 a.name.length a.q.name.length a.q.dead.length) with
 | true=>rw [hc] at h; cases h
 | false =>
  rw [hc] at h
  obtain ⟨_,h1⟩:=aP (show N.Aa a.aQ=true from h)
  obtain ⟨_,h1⟩:=aP h1
  obtain ⟨h1,_⟩:=aP h1
  exact dN (Nat.le_trans (XK h1) (by decide))
theorem Ua:∀ {l:List lI},N.og l=true->l.all wP=true->l.all uD=true
 | [],_,_=>rfl
 | a::r,h,hw=>by
  obtain ⟨h1,h2⟩:=aP h
  rw [List.all_cons,Bool.and_eq_true] at hw
  obtain ⟨h3,h4⟩:=aP hw.1
  rw [List.all_cons,Ua h2 hw.2]
  show (cond (cond (N.iJ a.aQ) (dA a.aQ) false) (N.u64 a.q.life) false && true)=true
  rw [h3,h4,QW h1]; rfl
theorem anV {a:lI} (h:AY (fU.enc a)=true):wP a=true:=by
 have h:cond (Jg (.int .u8 a.op)) (cond (Jg (.str a.name)) (cond (Jg (.str a.q.name)) (cond (Jg (.int .u64 a.q.most)) (cond (Jg (.int .u64 a.q.life)) (cond (Jg (.str a.q.dead)) (AY (ak.enc a.aQ++[.int .u64 a.id,.int .i64 a.place])) false) false) false) false) false) false=true:=h
 obtain ⟨_,h⟩:=aP h
 obtain ⟨_,h⟩:=aP h
 obtain ⟨_,h⟩:=aP h
 obtain ⟨_,h⟩:=aP h
 obtain ⟨hl,h⟩:=aP h
 obtain ⟨_,h⟩:=aP h
 rw [vZ] at h
 have hm:=amy (aP h).1
 obtain ⟨l1,l2⟩:=OG hl
 have e1:IntKind.u64.min=0:=rfl
 have e2:IntKind.u64.max=18446744073709551615:=rfl
 show cond (N.iJ a.aQ) (cond (bU 0 a.q.life) (aZ a.q.life 18446744073709551616) false) false=true
 rw [show N.iJ a.aQ=true from hm,dX (by omega),dK (by omega)]; rfl
theorem Ub:∀ l:List lI,zW (l.map fU.enc)=true->l.all wP=true
 | [],_=>rfl
 | m::r,h=>by
  have h:cond (AY (fU.enc m)) (zW (r.map fU.enc)) false=true:=h
  obtain ⟨h1,h2⟩:=aP h
  rw [List.all_cons,Ub r h2,anV h1]; rfl
theorem alg {l:List lI} (h:AY ((uZ fU).enc l)=true):l.all wP=true:=by
 have h:cond (cond (Nat.ble (l.map fU.enc).length 9223372036854775807) (cond (dM fU.sh (l.map fU.enc)) (zW (l.map fU.enc)) false) false) true false=true:=h
 exact Ub l (aP (aP (aP h).1).2).2
theorem agf {b n:Int} {l:List lI} (h0:AY ((rM .u64).enc b)=true) (h1:AY ((rM .i64).enc n)=true) (h2:AY ((uZ fU).enc l)=true):cond (cond (bU 0 b) (aZ b 18446744073709551616) false) (cond (bU n 9223372036854775807) (cond (Nat.ble l.length 9223372036854775807) (l.all wP) false) false) false=true:=by
 obtain ⟨a1,a2⟩:=aP (apT h0)
 have h1:cond (Jg (.int .i64 n)) true false=true:=h1
 obtain ⟨_,b2⟩:=OG (aP h1).1
 have e1:IntKind.i64.max=9223372036854775807:=rfl
 have a2:=bQ a2
 rw [a1,dK (by omega),dX (by omega),apQ h2,alg h2]; rfl
end Go.Ev

namespace Go.Ev
open Go Go.Proofs
set_option maxRecDepth 100000
-- FOLD2
def N.Zo:aF->List lI->aF
 | s,[]=>s
 | s,a::r=>N.Zo (N.oI s iW a).1 r
open Classical in
noncomputable def wQ (c:List V):Bool:=decide (∃ s:aF,gW s∧au.enc s=aB aA 0 c)
open Classical in
theorem KP {c:List V} (h:wQ c=true):∃ s:aF,gW s∧au.enc s=aB aA 0 c:=of_decide_eq_true h
open Classical in
theorem abW {s:aF} (h:gW s):wQ (au.enc s)=true:=decide_eq_true ⟨s,h,rfl⟩
theorem wR {c:List V} {s:aF} (h:au.enc s=aB aA 0 c):au.dec c=s:=by
 rw [<- au.de s,h]; rfl
theorem Ql:∀ l:List dW,N.jw l l=true
 | []=>rfl
 | x::r=>by
  show cond (cond (N.YF x.q x.q) (N.nJ x.line x.line) false) (N.jw r r) false=true
  rw [OX,Ql r]
  unfold N.YF
  simp only [beq_self_eq_true,cond_true]
theorem Qm:∀ l:List aC,N.rW l l=true
 | []=>rfl
 | x::r=>by
  show cond (N.xK x x) (N.rW r r) false=true
  rw [aa5,Qm r]; rfl
theorem FI (s:aF):N.AP s s=true:=by
 unfold N.AP
 simp only [beq_self_eq_true,Ql,Qm,cond_true]
end Go.Ev

namespace Go.Ev
open Go Go.Proofs
set_option maxRecDepth 100000
theorem JI:∀ {l:List dW},l.all uS=true->(N.lQ l).length<=160000*l.length
 | [],_=>Nat.le_refl _
 | x::r,h=>by
  rw [List.all_cons,Bool.and_eq_true] at h
  have h1:=P7 h.1
  have h2:=JI h.2
  show (N.rowB x++N.lQ r).length<=160000*(r.length+1)
  rw [List.length_append]; omega
theorem Dj:∀ l:List aC,0<=N.jR l∧N.jR l<=l.length
 | []=>⟨Int.le_refl _,Int.le_refl _⟩
 | x::r=>by
  have h:=Dj r
  unfold N.jR
  rw [List.length_cons]
  cases aZ 0 x.total with
  | true=>simp only [cond_true]; omega
  | false=>simp only [cond_false]; omega
theorem VY:∀ {l:List aC} (k:Int),l.all fJ=true->(N.FD k l).length<=26001*l.length
 | [],_,_=>Nat.le_refl _
 | x::r,k,h=>by
  rw [List.all_cons,Bool.and_eq_true] at h
  have h1:=JF h.1
  have h2:=VY (k+1) h.2
  unfold N.FD
  rw [List.length_cons]
  cases aZ 0 x.total with
  | true=>simp only [cond_true,List.length_append,fB]; omega
  | false=>simp only [cond_false]; omega
theorem Uc (hN:bH Tryz.prog 95 fZ):bH Tryz.prog 33 Iq:=by
 refine aK (aT (((((((((((fK.nil _).cons rO).cons (ae9 hN)).cons XU).cons DV).cons akD).cons (vP hN)).cons adv).cons Vz).cons (Ad hN)).cons hN)) (E:=rY) Tryz.func33 [3,7,16] (by kernel_rfl) (ahv Y0 Y1 VU) fun a b hp=>?_
 obtain ⟨h1,h2⟩:=aP (show nU a=true from hp)
 obtain ⟨h1,h3⟩:=aP h1
 obtain ⟨h4,h5⟩:=aP h2
 obtain ⟨n1,n2⟩:=P5 h5
 have h1':=aX h1
 have l1:=JI h3
 have l2:=Dj a.rises.list
 have l3:=VY 0 h4
 rw [dG.jE] at l2 l3
 have wl:IntKind.wrap .u64 (a.rows.length:Int)=a.rows.length:=kC (by omega) (by omega)
 refine (akL a).trans ?_
 simp only [bn,mg,List.length_map,wl,beq_self_eq_true,h1,h3,h4,Int.zero_add,cond_true]
 have e:(16:Int)-((16:Nat):Int)=0:=rfl
 simp only [uM,BR,Ox,List.nil_append,e]
 have b1:Nat.ble (N.bW a.next 8++N.bW (a.rows.length:Int) 1++N.lQ a.rows).length 9223372036854775799=true:=dN (by simp only [List.length_append,fB]; omega)
 have b2:Nat.ble ((N.bW a.next 8++N.bW (a.rows.length:Int) 1++N.lQ a.rows++N.bW (N.jR a.rises.list) 1).length+(N.FD 0 a.rises.list).length) 9223372036854775807=true:=dN (by simp only [List.length_append,fB]; omega)
 rw [dX n1,dK n2,dK (show (a.rows.length:Int)<18446744073709551616 by omega),dX l2.1,dK (show N.jR a.rises.list<18446744073709551616 by omega),b1,b2]
 try rfl
end Go.Ev

namespace Go.Ev
open Go Go.Proofs
set_option maxRecDepth 100000
namespace N
def Az (nx f:Int) (m:ay):Bool:=cond (aZ 3 f) true (cond (nx != 0) (bU nx m.id) false)
def abX (m:ay) (f:Int):aG:=⟨m,Int.tmod f 2==1,IntKind.wrap .u64 (Int.tdiv f 2)==1⟩
def kM (nx:Int) (i:eH):aG × eH :=
 (abX (dL (aN i 1).2).1 (aN i 1).1,cond (Az nx (aN i 1).1 (dL (aN i 1).2).1) (bV (dL (aN i 1).2).2 4) (dL (aN i 1).2).2)
def gV (nx:Int):Nat->eH->List aG->List aG × eH
 | 0,i,acc=>(acc,i)
 | k+1,i,acc=>cond (i.err==0) (gV nx k (kM nx i).2 (acc++[(kM nx i).1])) (acc,i)
def QX (i:eH):dZ × eH :=
 (⟨(cO i 16).1,(aN (cO i 16).2 8).1,(aN (aN (cO i 16).2 8).2 8).1,(cO (aN (aN (cO i 16).2 8).2 8).2 16).1⟩,(cO (aN (aN (cO i 16).2 8).2 8).2 16).2)
def vk (s:aF) (q:dZ) (l:List aG × Int) (i:eH):eH :=
 cond (cond (aZ q.most l.1.length) true (bU 0 (bP s q.name))) (bV (bV i l.2) 4) (bV i l.2)
def zD (s:aF) (q:dZ) (l:List aG) (i:eH):aF × eH :=
 (cond ((bV i (gy s q).2).err==0) (iH (gy s q).1 ((gy s q).1.rows.length-1) l) (gy s q).1,bV i (gy s q).2)
def Zp (s:aF) (q:dZ) (w:List aG × eH):aF × eH:=zD s q (yS [] w.1).1 (vk s q (yS [] w.1) w.2)
def oh (s:aF) (i:eH):aF × eH:=Zp s (QX i).1 (gV s.next (aN (QX i).2 1).1.toNat (aN (QX i).2 1).2 [])
def iZ:Nat->aF->eH->aF × eH
 | 0,s,i=>(s,i)
 | k+1,s,i=>cond (i.err==0) (iZ k (oh s i).1 (oh s i).2) (s,i)
def IG (s:aF) (p:Int) (x:aC):aF:=⟨s.next,s.bytes,s.rows,s.rises.set p.toNat x⟩
def iM:Nat->aF->eH->aF × eH
 | 0,s,i=>(s,i)
 | k+1,s,i=>cond (i.err==0) (cond (bU 16 (aN i 1).1) (s,bV (iw (aN i 1).2).2 4) (iM k (IG s (aN i 1).1 (iw (aN i 1).2).1) (iw (aN i 1).2).2)) (s,i)
def arZ (w:aF × eH):aF × eH:=iM (aN w.2 1).1.toNat w.1 (aN w.2 1).2
def su (t:Bytes) (b:Int):aF × eH:=arZ (iZ (aN (aN ⟨t,0⟩ 8).2 1).1.toNat (sNew (aN ⟨t,0⟩ 8).1 b) (aN (aN ⟨t,0⟩ 8).2 1).2)
def alh (i:eH):Int:=cond (i.err==0) (cond (aZ 0 i.s.length) 4 0) i.err
def xR (t:Bytes) (b:Int):aF × Int :=
 cond (alh (su t b).2 != 0) (iW,4) (cond (aZ (l9 (su t b).1) 0) (iW,4) (cond (tK (su t b).1==t) ((su t b).1,0) (iW,4)))
def mix (new old:dG aC):Nat->dG aC
 | 0=>old
 | i+1=>(mix new old i).set i (new.list.getD i iC)
end N
theorem dG.Zq {a b:dG aC} (h:a.list=b.list):a=b:=by
 cases a; cases b
 simp only [dG.list,List.cons.injEq,and_true] at h
 simp only [dG.mk.injEq]
 exact h
theorem Qn (new old:dG aC):∀ i,i<=16->(N.mix new old i).list=new.list.take i++old.list.drop i
 | 0,_=>rfl
 | i+1,h=>by
  show ((N.mix new old i).set i (new.list.getD i iC)).list=_
  have hn:i<new.list.length:=by rw [dG.jE]; omega
  have ho:i<old.list.length:=by rw [dG.jE]; omega
  have e:new.list.take (i+1)=new.list.take i++[new.list[i]]:=by rw [List.take_add_one,List.getElem?_eq_getElem hn]; rfl
  rw [dG.zo,Qn new old i (by omega),List.set_append_right _ _ (by rw [List.length_take]; omega),List.length_take,Nat.min_eq_left (by omega),Nat.sub_self,List.drop_eq_getElem_cons ho,List.set_cons_zero,List.getD_eq_getElem?_getD,List.getElem?_eq_getElem hn,e,List.append_assoc]
  try rfl
theorem VZ (new old:dG aC):N.mix new old 16=new:=dG.Zq (by
 rw [Qn new old 16 (Nat.le_refl _),List.take_of_length_le (by rw [dG.jE]; omega),List.drop_eq_nil_of_le (by rw [dG.jE]; omega),List.append_nil])
def N.KQ (x:aC):Bool:=(x.kept.length:Int)==cond (aZ 16 x.total) 16 x.total
def N.uT (s:aF):Bool:=s.rises.list.all N.KQ
theorem abY (x:aG):N.abX x.aQ (N.qp x)=x:=by
 obtain ⟨m,l,a⟩:=x
 cases l<;>cases a<;>rfl
theorem agh (x:aG):0<=N.qp x∧N.qp x<=3:=by
 unfold N.qp
 cases x.again<;>cases x.eF<;>decide
theorem agi {nx f:Int} {m:ay} (hf:f<=3) (h:nx=0∨m.id<nx):N.Az nx f m=false:=by
 unfold N.Az
 rw [iG hf,cond_false]
 rcases h with h | h
 .rw [Xl h]; rfl
 .cases nx != 0 with
  | true=>exact BK h
  | false=>rfl
theorem agj {nx:Int} {x:aG} (hx:N.fH x.aQ=true) (hl:nx=0∨x.aQ.id<nx) (z:Bytes):N.kM nx ⟨N.wK x++z,0⟩=(x,⟨z,0⟩):=by
 have hf:=agh x
 have hm:=pV hx
 have a1:N.aN ⟨N.wK x++z,0⟩ 1=(N.qp x,⟨N.mQ x.aQ++z,0⟩):=by
  unfold N.wK
  rw [List.append_assoc]
  exact lM 1 (by decide) (N.qp x) hf.1 (by rw [show (256:Int) ^ 1=256 by decide]; omega) _
 have a2:=SE z x.aQ hm.1 hm.2.2.1 hm.2.1
 unfold N.kM
 rw [a1,a2,agi hf.2 hl]
 show (N.abX x.aQ (N.qp x),_)=_
 rw [abY]; rfl
theorem Qo {nx:Int}:∀ (l acc:List aG) (z:Bytes),(∀ x∈l,N.fH x.aQ=true∧(nx=0∨x.aQ.id<nx))->N.gV nx l.length ⟨N.ny l++z,0⟩ acc=(acc++l,⟨z,0⟩)
 | [],acc,z,_=>by
  show (acc,(⟨[]++z,0⟩:eH))=_
  rw [List.append_nil]; rfl
 | x::r,acc,z,h=>by
  have hx:=h x List.mem_cons_self
  show cond ((0:Int)==0) (N.gV nx r.length (N.kM nx ⟨(N.wK x++N.ny r)++z,0⟩).2 (acc++[(N.kM nx ⟨(N.wK x++N.ny r)++z,0⟩).1])) _=_
  rw [List.append_assoc,agj hx.1 hx.2]
  show N.gV nx r.length ⟨N.ny r++z,0⟩ (acc++[x])=_
  rw [Qo r _ z fun y hy=>h y (List.mem_cons_of_mem _ hy),List.append_assoc]; rfl
theorem Zr:∀ (r acc:List aG),Sorted (acc++r)->(acc++r).length<=64->(∀ x∈r,N.aV x.aQ=0)->N.yS acc r=(acc++r,0)
 | [],acc,_,_,_=>by rw [List.append_nil]; rfl
 | x::r,acc,hs,hl,hc=>by
  have hl' : acc.length<64:=by simp only [List.length_append,List.length_cons] at hl; omega
  have hs' : Sorted ((acc++[x])++r):=by rw [List.append_assoc]; exact hs
  have h1:=(TY (List.pairwise_append.1 hs).1 hl' (hc x List.mem_cons_self) fun y hy=>(List.pairwise_append.1 hs).2.2 y hy x List.mem_cons_self).1
  unfold N.yS
  rw [h1]
  show N.yS (acc++[x]) r=_
  rw [Zr r (acc++[x]) hs' (by rw [List.append_assoc]; exact hl) fun y hy=>hc y (List.mem_cons_of_mem _ hy),List.append_assoc]; rfl
theorem aqo {q:dZ} (hq:N.jq q=0) (hl:N.u64 q.life=true) (z:Bytes):N.QX ⟨N.dS q.name++(N.bW q.most 8++(N.bW q.life 8++(N.dS q.dead++z))),0⟩=(q,⟨z,0⟩):=by
 obtain ⟨h1,h2,h3,h4⟩:=Ea hq
 obtain ⟨l1,l2⟩:=P5 hl
 have n1:=IB h1
 have n2:q.dead.length<=16:=by
  rcases h4 with h4 | h4
  .rw [h4]; exact Nat.zero_le _
  .exact IB h4
 have p8:(256:Int) ^ 8=18446744073709551616:=by decide
 have a1:=wF q.name 16 (by omega) (by decide) (N.bW q.most 8++(N.bW q.life 8++(N.dS q.dead++z)))
 have a2:=lM 8 (Nat.le_refl 8) q.most (by omega) (by rw [p8]; omega) (N.bW q.life 8++(N.dS q.dead++z))
 have a3:=lM 8 (Nat.le_refl 8) q.life l1 (by rw [p8]; exact l2) (N.dS q.dead++z)
 have a4:=wF q.dead 16 (by omega) (by decide) z
 have a2:N.aN ⟨N.bW q.most 8++(N.bW q.life 8++(N.dS q.dead++z)),0⟩ 8=_:=a2
 have a3:N.aN ⟨N.bW q.life 8++(N.dS q.dead++z),0⟩ 8=_:=a3
 unfold N.QX
 rw [a1]
 simp only
 rw [a2]
 simp only
 rw [a3]
 simp only
 rw [a4]
theorem Ud {s:aF} {q:dZ} (hq:N.jq q=0) (hn:N.bP s q.name<0) (hf:s.rows.length<8):N.gy s q=(⟨s.next,s.bytes,s.rows++[⟨q,[]⟩],s.rises⟩,0):=by
 unfold N.gy
 rw [Xl hq,BK hn,BK (show (s.rows.length:Int)<8 by omega)]
 try rfl
theorem ali {s:aF} {x:dW} (h:tV s.next x) (hn:N.bP s x.q.name<0) (hf:s.rows.length<8) (z:Bytes):N.oh s ⟨N.rowB x++z,0⟩=(⟨s.next,s.bytes,s.rows++[x],s.rises⟩,⟨z,0⟩):=by
 have hfew:=h.line.few
 have e:N.rowB x++z=N.dS x.q.name++(N.bW x.q.most 8++(N.bW x.q.life 8++(N.dS x.q.dead++(N.bW x.line.length 1++(N.ny x.line++z))))):=by
  unfold N.rowB
  simp only [List.append_assoc]
 have a1:=aqo h.q h.life (N.bW x.line.length 1++(N.ny x.line++z))
 have a2:N.aN ⟨N.bW x.line.length 1++(N.ny x.line++z),0⟩ 1=((x.line.length:Int),⟨N.ny x.line++z,0⟩):=lM 1 (by decide) (x.line.length:Int) (by omega) (by rw [show (256:Int) ^ 1=256 by decide]; omega) _
 have hck:∀ y∈x.line,N.fH y.aQ=true:=List.all_eq_true.1 h.fine
 have a3:=Qo (nx:=s.next) x.line [] z fun y hy=>⟨hck y hy,h.low.imp id fun hl=>hl y hy⟩
 have a4:=Zr x.line [] h.line.sorted h.line.few fun y hy=>(pV (hck y hy)).2.1
 rw [e]
 unfold N.oh
 rw [a1]
 simp only
 rw [a2]
 simp only [Int.toNat_natCast]
 rw [a3]
 simp only [List.nil_append] at a4 ⊢
 unfold N.Zp
 rw [a4]
 unfold N.vk
 simp only
 rw [iG h.most,BK hn]
 unfold N.zD
 rw [Ud h.q hn hf]
 show (cond ((0:Int)==0) (N.iH ⟨s.next,s.bytes,s.rows++[⟨x.q,[]⟩],s.rises⟩ (((s.rows++[(⟨x.q,[]⟩:dW)]).length:Nat)-1) x.line) _,(⟨z,0⟩:eH))=_
 have ek:((((s.rows++[(⟨x.q,[]⟩:dW)]).length:Nat):Int)-1).toNat=s.rows.length:=by
  rw [List.length_append,List.length_singleton]; omega
 show ((⟨s.next,s.bytes,(s.rows++[(⟨x.q,[]⟩:dW)]).set ((((s.rows++[(⟨x.q,[]⟩:dW)]).length:Nat):Int)-1).toNat ⟨((s.rows++[(⟨x.q,[]⟩:dW)]).getD ((((s.rows++[(⟨x.q,[]⟩:dW)]).length:Nat):Int)-1).toNat row0).q,x.line⟩,s.rises⟩:aF),(⟨z,0⟩:eH))=_
 rw [ek,List.set_append_right _ _ (Nat.le_refl _),Nat.sub_self,List.getD_eq_getElem?_getD,List.getElem?_append_right (Nat.le_refl _),Nat.sub_self]
 try rfl
theorem anW {s:aF} {n:Bytes} (h:∀ x∈s.rows,x.q.name ≠ n):N.bP s n<0:=by
 have e:=aqh (N.isRow n) s.rows
 have:s.rows.any (N.isRow n)=false:=by
  rw [List.any_eq_false]
  intro x hx
  unfold N.isRow
  simpa using h x hx
 rw [this] at e
 exact jZ e
theorem Ue (nx b:Int) (rs:dG aC):∀ (r acc:List dW) (z:Bytes),(∀ x∈r,tV nx x)->((acc++r).map fun x=>x.q.name).Nodup->(acc++r).length<=8 ->
  N.iZ r.length ⟨nx,b,acc,rs⟩ ⟨N.lQ r++z,0⟩=(⟨nx,b,acc++r,rs⟩,⟨z,0⟩)
 | [],acc,z,_,_,_=>by
  rw [List.append_nil]; rfl
 | x::r,acc,z,h,hn,hl=>by
  have hl' : acc.length<8:=by simp only [List.length_append,List.length_cons] at hl; omega
  have hn' : N.bP ⟨nx,b,acc,rs⟩ x.q.name<0:=anW fun y hy e=>by
   rw [List.map_append,List.nodup_append] at hn
   exact hn.2.2 _ (List.mem_map_of_mem hy) _ (List.mem_map_of_mem List.mem_cons_self) e
  have a:=ali (s:=⟨nx,b,acc,rs⟩) (h x List.mem_cons_self) hn' hl' (N.lQ r++z)
  show cond ((0:Int)==0) (N.iZ r.length (N.oh ⟨nx,b,acc,rs⟩ ⟨(N.rowB x++N.lQ r)++z,0⟩).1 (N.oh ⟨nx,b,acc,rs⟩ ⟨(N.rowB x++N.lQ r)++z,0⟩).2) _=_
  rw [List.append_assoc,a]
  show N.iZ r.length ⟨nx,b,acc++[x],rs⟩ ⟨N.lQ r++z,0⟩=_
  rw [Ue nx b rs r (acc++[x]) z (fun y hy=>h y (List.mem_cons_of_mem _ hy)) (by rw [List.append_assoc]; exact hn) (by rw [List.append_assoc]; exact hl),List.append_assoc]; rfl
theorem Zt:∀ (l:List ay) (acc:List ay) (z:Bytes),l.all N.fH=true->N.fC l.length ⟨N.kW l++z,0⟩ acc=(acc++l,⟨z,0⟩)
 | [],acc,z,_=>by
  show (acc,(⟨[]++z,0⟩:eH))=_
  rw [List.append_nil]; rfl
 | m::r,acc,z,h=>by
  rw [List.all_cons,Bool.and_eq_true] at h
  have hm:=pV h.1
  show cond ((0:Int)==0) (N.fC r.length (N.dL ⟨(N.mQ m++N.kW r)++z,0⟩).2 (acc++[(N.dL ⟨(N.mQ m++N.kW r)++z,0⟩).1])) _=_
  rw [List.append_assoc,SE (N.kW r++z) m hm.1 hm.2.2.1 hm.2.1]
  show N.fC r.length ⟨N.kW r++z,0⟩ (acc++[m])=_
  rw [Zt r _ z h.2,List.append_assoc]
  try rfl
theorem abZ {x:aC} (hg:fJ x=true) (hf:N.KQ x=true) (z:Bytes):N.iw ⟨N.mW x++z,0⟩=(x,⟨z,0⟩):=by
 obtain ⟨h1,hc⟩:=aP hg
 obtain ⟨h1,h2⟩:=aP h1
 obtain ⟨h1,h3⟩:=aP h1
 obtain ⟨h2,_⟩:=aP h2
 have h1:0<=x.total:=bQ h1
 have h3:x.total<=18446744073709551615:=bQ h3
 have h2:x.kept.length<=16:=aX h2
 have hf:(x.kept.length:Int)=cond (aZ 16 x.total) 16 x.total:=aY hf
 have a1:=lM 8 (Nat.le_refl 8) x.total h1 (by rw [show (256:Int) ^ 8=18446744073709551616 by decide]; omega) (N.bW x.kept.length 1++(N.kW x.kept++z))
 have a2:=lM 1 (by decide) (x.kept.length:Int) (by omega) (by rw [show (256:Int) ^ 1=256 by decide]; omega) (N.kW x.kept++z)
 have e:N.mW x++z=N.bW x.total 8++(N.bW x.kept.length 1++(N.kW x.kept++z)):=by
  unfold N.mW; simp only [List.append_assoc]
 have b1:N.aN ⟨N.mW x++z,0⟩ 8=(x.total,⟨N.bW x.kept.length 1++(N.kW x.kept++z),0⟩):=by rw [e]; exact a1
 have b2:N.Ef ⟨N.mW x++z,0⟩=((x.kept.length:Int),⟨N.kW x.kept++z,0⟩):=by
  show N.aN (N.aN ⟨N.mW x++z,0⟩ 8).2 1=_
  rw [b1]; exact a2
 have b3:N.QM ⟨N.mW x++z,0⟩=⟨N.kW x.kept++z,0⟩:=by
  unfold N.QM
  rw [b2,b1]
  have e1:aZ 16 (x.kept.length:Int)=false:=iG (by omega)
  have e2:((x.kept.length:Int) != cond (aZ 16 x.total) 16 x.total)=false:=Xl hf
  show cond ((0:Int) != 0) _ (cond (aZ 16 (x.kept.length:Int)) _ (cond ((x.kept.length:Int) != cond (aZ 16 x.total) 16 x.total) _ _))=_
  rw [e1,e2]; rfl
 show N.rrE (N.aN ⟨N.mW x++z,0⟩ 8).1 (N.fC (N.Ef ⟨N.mW x++z,0⟩).1.toNat (N.QM ⟨N.mW x++z,0⟩) [])=_
 rw [b1,b2,b3]
 show N.rrE x.total (N.fC x.kept.length ⟨N.kW x.kept++z,0⟩ [])=_
 rw [Zt _ _ _ hc]
 try rfl
theorem agk (k:Nat):iW.rises.list.getD k iC=iC:=by
 rcases Nat.lt_or_ge k 16 with h | h
 .match k,h with
  | 0,_ | 1,_ | 2,_ | 3,_ | 4,_ | 5,_ | 6,_ | 7,_ | 8,_ | 9,_ | 10,_ | 11,_ | 12,_ | 13,_ | 14,_ | 15,_=>rfl
  | n+16,h=>exact absurd h (by omega)
 .rw [List.getD_eq_getElem?_getD,List.getElem?_eq_none (by rw [dG.jE]; exact h)]; rfl
theorem agl {x:aC} (hf:N.KQ x=true) (h0:0<=x.total) (ht:aZ 0 x.total=false):x=iC:=by
 obtain ⟨t,k⟩:=x
 have ht:t<=0:=fD ht
 have h0:0<=t:=h0
 obtain rfl:t=0:=by omega
 have hf:((k.length:Nat):Int)=0:=aY hf
 have hk:k=[]:=List.eq_nil_of_length_eq_zero (by omega)
 rw [hk]
 try rfl
theorem aee (nx b:Int) (rows:List dW) (rs:dG aC) (hg:rs.list.all fJ=true) (hf:rs.list.all N.KQ=true) (z:Bytes):∀ (n k:Nat),k+n=16 ->
  N.iM (N.jR (rs.list.drop k)).toNat ⟨nx,b,rows,N.mix rs iW.rises k⟩ ⟨N.FD k (rs.list.drop k)++z,0⟩=(⟨nx,b,rows,rs⟩,⟨z,0⟩)
 | 0,k,hk=>by
  obtain rfl:k=16:=by omega
  rw [List.drop_eq_nil_of_le (by rw [dG.jE]; omega),VZ]; rfl
 | n+1,k,hk=>by
  have hl:k<rs.list.length:=by rw [dG.jE]; omega
  have ih:=aee nx b rows rs hg hf z n (k+1) (by omega)
  have hx:=List.all_eq_true.1 hg _ (List.getElem_mem hl)
  have hfx:=List.all_eq_true.1 hf _ (List.getElem_mem hl)
  have hm:N.mix rs iW.rises (k+1)=(N.mix rs iW.rises k).set k (rs.list[k]'hl):=by
   show (N.mix rs iW.rises k).set k (rs.list.getD k iC)=_
   rw [List.getD_eq_getElem?_getD,List.getElem?_eq_getElem hl]; rfl
  rw [List.drop_eq_getElem_cons hl]
  generalize hxx:rs.list[k]'hl=x at *
  have hmb:=Dj (rs.list.drop (k+1))
  unfold N.jR N.FD
  cases ht:aZ 0 x.total with
  | true =>
   simp only [cond_true]
   have e:(1+N.jR (rs.list.drop (k+1))).toNat=(N.jR (rs.list.drop (k+1))).toNat+1:=by omega
   rw [e]
   have a1:N.aN ⟨N.bW k 1++N.mW x++N.FD (k+1) (rs.list.drop (k+1))++z,0⟩ 1=((k:Int),⟨N.mW x++(N.FD (k+1) (rs.list.drop (k+1))++z),0⟩):=by
    simp only [List.append_assoc]
    exact lM 1 (by decide) (k:Int) (by omega) (by rw [show (256:Int) ^ 1=256 by decide]; omega) _
   have a2:=abZ hx hfx (N.FD (k+1) (rs.list.drop (k+1))++z)
   show cond ((0:Int)==0) _ _=_
   rw [a1]
   simp only
   rw [a2,BK (show (k:Int)<16 by omega)]
   simp only [beq_self_eq_true,cond_true,cond_false]
   unfold N.IG
   simp only [Int.toNat_natCast]
   rw [<- hm]
   exact ih
  | false =>
   simp only [cond_false]
   have h0:0<=x.total:=by
    obtain ⟨h1,_⟩:=aP hx
    obtain ⟨h1,_⟩:=aP h1
    exact bQ (aP h1).1
   have e0:=agl hfx h0 ht
   have hmm:N.mix rs iW.rises (k+1)=N.mix rs iW.rises k:=by
    rw [hm,e0]
    refine dG.Zq ?_
    have hml:k<(N.mix rs iW.rises k).list.length:=by rw [dG.jE]; omega
    have hz:k<iW.rises.list.length:=by rw [dG.jE]; omega
    have hg0:(N.mix rs iW.rises k).list[k]'hml=iC:=by
     have h1:=agk k
     rw [List.getD_eq_getElem?_getD,List.getElem?_eq_getElem hz] at h1
     simp only [Qn rs iW.rises k (by omega)]
     rw [List.getElem_append_right (by rw [List.length_take]; omega)]
     simp only [List.length_take,Nat.min_eq_left (show k<=rs.list.length by omega),Nat.sub_self,List.getElem_drop,Nat.add_zero]
     exact h1
    rw [dG.zo,<- hg0,List.set_getElem_self]
   rw [<- hmm]
   exact ih
theorem ab1 {s:aF} (h:gW s) (hf:N.uT s=true) {b:Int} (hb:s.bytes=cond (aZ 0 b) b 0):N.xR (N.tK s) b=(s,0):=by
 have hfew:=h.few
 have p8:(256:Int) ^ 8=18446744073709551616:=by decide
 have p1:(256:Int) ^ 1=256:=by decide
 have e:N.tK s=N.bW s.next 8++(N.bW s.rows.length 1++(N.lQ s.rows++(N.bW (N.jR s.rises.list) 1++(N.FD 0 s.rises.list++[])))):=by
  unfold N.tK; simp only [List.append_assoc,List.append_nil]
 have hmb:=Dj s.rises.list
 rw [dG.jE] at hmb
 have a1:N.aN ⟨N.tK s,0⟩ 8=(s.next,⟨N.bW s.rows.length 1++(N.lQ s.rows++(N.bW (N.jR s.rises.list) 1++(N.FD 0 s.rises.list++[]))),0⟩):=by
  rw [e]
  exact lM 8 (Nat.le_refl 8) s.next h.wO (by rw [p8]; exact h.xQ) _
 have a2:N.aN ⟨N.bW s.rows.length 1++(N.lQ s.rows++(N.bW (N.jR s.rises.list) 1++(N.FD 0 s.rises.list++[]))),0⟩ 1=((s.rows.length:Int),⟨N.lQ s.rows++(N.bW (N.jR s.rises.list) 1++(N.FD 0 s.rises.list++[])),0⟩) :=
  lM 1 (by decide) (s.rows.length:Int) (by omega) (by rw [p1]; omega) _
 have a3:=Ue s.next (cond (aZ 0 b) b 0) iW.rises s.rows [] (N.bW (N.jR s.rises.list) 1++(N.FD 0 s.rises.list++[])) h.row h.names h.few
 have a4:N.aN ⟨N.bW (N.jR s.rises.list) 1++(N.FD 0 s.rises.list++[]),0⟩ 1=(N.jR s.rises.list,⟨N.FD 0 s.rises.list++[],0⟩) :=
  lM 1 (by decide) (N.jR s.rises.list) hmb.1 (by rw [p1]; omega) _
 have a5:=aee s.next (cond (aZ 0 b) b 0) s.rows s.rises h.rise hf [] 16 0 rfl
 have er:N.su (N.tK s) b=(s,⟨[],0⟩):=by
  unfold N.su
  rw [a1]
  simp only
  rw [a2]
  simp only [Int.toNat_natCast]
  have a3:N.iZ s.rows.length (N.sNew s.next b) ⟨N.lQ s.rows++(N.bW (N.jR s.rises.list) 1++(N.FD 0 s.rises.list++[])),0⟩=_:=a3
  rw [a3]
  unfold N.arZ
  simp only
  rw [a4]
  simp only [List.nil_append]
  have a5:N.iM (N.jR s.rises.list).toNat ⟨s.next,cond (aZ 0 b) b 0,s.rows,iW.rises⟩ ⟨N.FD 0 s.rises.list++[],0⟩=_:=a5
  rw [a5,<- hb]
 have hz:=h.size
 unfold N.xR
 rw [er]
 have r0:aZ (N.l9 s) 0=false:=iG (by unfold N.l9; omega)
 simp only [r0,beq_self_eq_true]
 try rfl
end Go.Ev

namespace Go.Ev
open Go Go.Proofs
set_option maxRecDepth 100000
-- FOLD2
namespace N
def yN (s:aF):List dZ->List dW
 | []=>[]
 | q::r=>⟨q,CV s q.name⟩::yN s r
end N
theorem agm {s:aF} (h:gW s):N.yN s (s.rows.map dW.q)=s.rows:=by
 have:∀ l:List dW,(∀ x∈l,x∈s.rows)->N.yN s (l.map dW.q)=l:=fun l=>by
  induction l with
  | nil=>exact fun _=>rfl
  | cons x r ih =>
   intro hl
   show (⟨x.q,N.CV s x.q.name⟩:dW)::N.yN s (r.map dW.q)=x::r
   rw [alf h.names (hl x (List.mem_cons_self ..)),ih fun y hy=>hl y (List.mem_cons_of_mem _ hy)]
 exact this s.rows fun _ hx=>hx
open Classical in
noncomputable def zF (s:aF):Bool:=decide (gW s)
open Classical in
theorem Zu {s:aF} (h:zF s=true):gW s:=of_decide_eq_true h
open Classical in
theorem Qp {s:aF} (h:gW s):zF s=true:=decide_eq_true h
open Classical in
noncomputable def vW (c:List V):Bool:=decide (aB (aA.drop 3) 0 c=eU iW.rises)
open Classical in
theorem V3 {c:List V} (h:vW c=true):aB (aA.drop 3) 0 c=eU iW.rises:=of_decide_eq_true h
open Classical in
theorem Zv {c:List V} (h:aB (aA.drop 3) 0 c=eU iW.rises):vW c=true:=decide_eq_true h
noncomputable def alj:Den:=den (aW (bg au)) dw (oV (bg au)) (fun s _=>zF s) fun s _=>(s,())
theorem Zw {s:aF} (h:gW s) (n:Bytes):ig (N.CV s n)=true:=by
 unfold N.CV
 cases h1:aZ (N.bP s n) 0 with
 | true=>rfl
 | false =>
  obtain ⟨_,_,_,g4⟩:=mD (oH h1)
  have hr:Eh (N.dn s (N.bP s n)).line:=(h.row _ (getD_mem row0 g4)).line
  have hf:=hr.few
  show cond (Nat.ble (N.dn s (N.bP s n)).line.length 1000) ((N.dn s (N.bP s n)).line.all dR) false=true
  rw [dN (Nat.le_trans hf (by decide))]
  exact hr.small
theorem Zx {s:aF} (h:gW s) (p:Int):dQ (N.KG s p)=true:=by
 have hk:∀ k:Nat,dQ (s.rises.list.getD k iC)=true:=fun k=>by
  rcases Nat.lt_or_ge k s.rises.list.length with hl | hl
  .have:=List.all_eq_true.1 h.rise _ (getD_mem iC hl)
   exact (aP this).1
  .rw [List.getD_eq_getElem?_getD,List.getElem?_eq_none hl]; rfl
 unfold N.KG
 cases aZ p 0 with
 | true=>rfl
 | false =>
  cases bU 16 p with
  | true=>rfl
  | false=>exact hk _
def Zy:fP:={ fr:=[(1,.ptr 10000 0 0),(2,.ptr 10001 0 0),(3,.ptr 10003 0 0),(16,.slc yQ),(17,.int .i64),(18,.int .i64)],tab:=[(10000,.row [] aA),(10002,.sl yR),(10001,.row [.int .u64,.int .i64,.own 10002] (aA.drop 3)),(10004,.sl yR),(10003,.row [.int .u64,.int .i64,.own 10004] (aA.drop 3))] }
noncomputable def Uf:List Leaf->(Ex->St->Option R)->Option R
 | [.r r16,.i i17,.i i18,.c cZ,.r yK,.i oL,.i pF,.c iT,.r QY,.i Qq,.i pG,.c cx3],K=>cond (i17==r16.length) (cond (i18==0) (cond (Nat.ble r16.length 100) (cond (Nat.beq QY.length 0) (cond (wQ cZ) (K (.exit 0) { fr:=[(1,.ptr 10000 0 0 0),(2,.ptr 10001 0 0 0),(3,.ptr 10003 0 0 0)],tab:=[(10000,.var (aB aA 0 cZ)),(10002,.sl yR yK 0),(10001,.var ([.int .u64 oL,.int .i64 pF,.own 10002 0]++aB (aA.drop 3) 0 iT)),(10004,.sl yR ((([]:List dW)++N.yN (au.dec cZ) (r16.map lT.dec)).map aS.enc) 0),(10003,.var ([.int .u64 Qq,.int .i64 pG,.own 10004 0]++aB (aA.drop 3) 0 cx3))] }) none) none) none) none) none
 | _,_=>none
def Zz:fP:={ fr:=[(1,.ptr 10000 0 0),(2,.ptr 10001 0 0),(3,.ptr 10003 0 0),(35,.int .i64)],tab:=[(10000,.row [] aA),(10002,.sl yR),(10001,.row [.int .u64,.int .i64,.own 10002] (aA.drop 3)),(10004,.sl yR),(10003,.row [.int .u64,.int .i64,.own 10004] (aA.drop 3))] }
noncomputable def Ug:List Leaf->(Ex->St->Option R)->Option R
 | [.i i35,.c cZ,.r yK,.i oL,.i pF,.c iT,.r QY,.i Qq,.i pG,.c cx3],K=>cond (i35==0) (cond (wQ cZ) (cond (vW cx3) (K (.exit 2) { fr:=[(2,.ptr 10000 0 0 0),(3,.ptr 10002 0 0 0)],tab:=[(10001,.sl yR yK 0),(10000,.var ([.int .u64 oL,.int .i64 pF,.own 10001 0]++aB (aA.drop 3) 0 iT)),(10003,.sl yR QY 0),(10002,.var ([.int .u64 Qq,.int .i64 pG,.own 10003 0]++eU (au.dec cZ).rises))] }) none) none) none
 | _,_=>none
noncomputable def sD:Env:={ env Tryz.prog [(26,akh),(21,PL),(20,VO),(22,YI),(14,akf),(87,ajA),(89,akj),(88,dOf)] [(8,dJ Zz Ug),(3,dJ Zy Uf)] [(3,[(0,[1,2,3,16,17,18]),(1,[1,2,3]),(1000,[2])]),(8,[(0,[1,2,3,35]),(3,[2,3]),(1000,[2])])] with fz:=true,fk:=fun j=>Nat.beq j 2 }
theorem agp (s:aF):type_of% (by
  have h:bM sD 30 ((aW (bg au)).enc s) ([]) some =(
   let z2:=(List.map (ah.dec aS) (List.map (ah.enc aS) s.rows));let z0:=(List.map (ah.enc lT) (List.map (fun self=>self.1) z2));let z1:=(ah.dec au (ah.enc au s));cond (jG z1) (cond (vH z1) (cond (Nat.ble (List.length z2) 100) (cond ((↑(List.length z0):Int)==(↑(List.length z0):Int)) (cond (Nat.ble (List.length z0) 100) (cond (wQ (ah.enc au s)) (cond (wQ (ah.enc au s)) (cond (vW [V.int .u64 0,.slc yM [],.int .u64 0,.slc yM [],.int .u64 0,.slc yM [],.int .u64 0,.slc yM [],.int .u64 0,.slc yM [],.int .u64 0,.slc yM [],.int .u64 0,.slc yM [],.int .u64 0,.slc yM [],.int .u64 0,.slc yM [],.int .u64 0,.slc yM [],.int .u64 0,.slc yM [],.int .u64 0,.slc yM [],.int .u64 0,.slc yM [],.int .u64 0,.slc yM [],.int .u64 0,.slc yM [],.int .u64 0,.slc yM []]) (some {v:=.agg [V.int .u64 s.next,.int .i64 (IntKind.wrap .i64 (N.jv z1+N.l9 z1)),.slc yR (List.map (ah.enc aS) ([]++N.yN z1 (List.map (ah.dec lT) z0))),.int .u64 (aC.total (dG.a0 s.rises)),.slc yM (List.map (ah.enc ak) (List.map (ah.dec ak) (List.map (ah.enc ak) (aC.kept (dG.a0 s.rises))))),.int .u64 (aC.total (dG.a1 s.rises)),.slc yM (List.map (ah.enc ak) (List.map (ah.dec ak) (List.map (ah.enc ak) (aC.kept (dG.a1 s.rises))))),.int .u64 (aC.total (dG.a2 s.rises)),.slc yM (List.map (ah.enc ak) (List.map (ah.dec ak) (List.map (ah.enc ak) (aC.kept (dG.a2 s.rises))))),.int .u64 (aC.total (dG.a3 s.rises)),.slc yM (List.map (ah.enc ak) (List.map (ah.dec ak) (List.map (ah.enc ak) (aC.kept (dG.a3 s.rises))))),.int .u64 (aC.total (dG.a4 s.rises)),.slc yM (List.map (ah.enc ak) (List.map (ah.dec ak) (List.map (ah.enc ak) (aC.kept (dG.a4 s.rises))))),.int .u64 (aC.total (dG.a5 s.rises)),.slc yM (List.map (ah.enc ak) (List.map (ah.dec ak) (List.map (ah.enc ak) (aC.kept (dG.a5 s.rises))))),.int .u64 (aC.total (dG.a6 s.rises)),.slc yM (List.map (ah.enc ak) (List.map (ah.dec ak) (List.map (ah.enc ak) (aC.kept (dG.a6 s.rises))))),.int .u64 (aC.total (dG.a7 s.rises)),.slc yM (List.map (ah.enc ak) (List.map (ah.dec ak) (List.map (ah.enc ak) (aC.kept (dG.a7 s.rises))))),.int .u64 (aC.total (dG.a8 s.rises)),.slc yM (List.map (ah.enc ak) (List.map (ah.dec ak) (List.map (ah.enc ak) (aC.kept (dG.a8 s.rises))))),.int .u64 (aC.total (dG.a9 s.rises)),.slc yM (List.map (ah.enc ak) (List.map (ah.dec ak) (List.map (ah.enc ak) (aC.kept (dG.a9 s.rises))))),.int .u64 (aC.total (dG.a10 s.rises)),.slc yM (List.map (ah.enc ak) (List.map (ah.dec ak) (List.map (ah.enc ak) (aC.kept (dG.a10 s.rises))))),.int .u64 (aC.total (dG.a11 s.rises)),.slc yM (List.map (ah.enc ak) (List.map (ah.dec ak) (List.map (ah.enc ak) (aC.kept (dG.a11 s.rises))))),.int .u64 (aC.total (dG.a12 s.rises)),.slc yM (List.map (ah.enc ak) (List.map (ah.dec ak) (List.map (ah.enc ak) (aC.kept (dG.a12 s.rises))))),.int .u64 (aC.total (dG.Hu s.rises)),.slc yM (List.map (ah.enc ak) (List.map (ah.dec ak) (List.map (ah.enc ak) (aC.kept (dG.Hu s.rises))))),.int .u64 (aC.total (dG.Hw s.rises)),.slc yM (List.map (ah.enc ak) (List.map (ah.dec ak) (List.map (ah.enc ak) (aC.kept (dG.Hw s.rises))))),.int .u64 (aC.total (dG.Hy s.rises)),.slc yM (List.map (ah.enc ak) (List.map (ah.dec ak) (List.map (ah.enc ak) (aC.kept (dG.Hy s.rises)))))],bx:=[]:aH}) none) none) none) none) none) none) none) none):=by kernel_rfl
  dsimp only at h;exact h):=by kernel_rfl
theorem KR (r16:List (List V)) (i17:Int) (i18:Int) (cZ:List V) (yK:List (List V)) (oL:Int) (pF:Int) (iT:List V) (QY:List (List V)) (Qq:Int) (pG:Int) (cx3:List V) (K:Ex->St->Option R):type_of% (by
  have h:bI sD 30 3 { fr:=[(1,.ptr 10000 0 0 0),(2,.ptr 10001 0 0 0),(3,.ptr 10003 0 0 0),(16,.slc yQ r16),(17,.int .i64 i17),(18,.int .i64 i18)],tab:=[(10000,.var (aB aA 0 cZ)),(10002,.sl yR yK 0),(10001,.var ([.int .u64 oL,.int .i64 pF,.own 10002 0]++aB (aA.drop 3) 0 iT)),(10004,.sl yR QY 0),(10003,.var ([.int .u64 Qq,.int .i64 pG,.own 10004 0]++aB (aA.drop 3) 0 cx3))] } K =(
   let z0:=(List.getD r16 (Int.toNat i18) []);let z1:=(List.map (ah.dec aj) (List.map (ah.enc aj) (N.CV (ah.dec au cZ) (V.toStr (z0.getD 0 .undef)))));let z2:=(V.int .u64 oL::V.int .i64 pF::V.own 10002 0::aB jD 0 iT);let z3:=(V.int .u64 Qq::V.int .i64 pG::V.own 10004 0::aB jD 0 cx3);cond (aZ i18 i17) (cond (decide (0<=i18∧i18<(↑(List.length r16):Int))) (cond (Nat.ble (List.length (List.map (ah.dec aS) (V.toRows (cZ.getD 2 .undef)))) 100) (cond (ig z1) (cond (decide ((List.length QY+1)*72<=140737488355328)) (K .normal {fr:=[(1,.ptr 10000 0 0 0),(2,.ptr 10001 0 0 0),(3,.ptr 10003 0 0 0),(16,.slc yQ r16),(17,.int .i64 i17),(18,.int .i64 (IntKind.wrap .i64 (i18+1)))],tab:=[(10000,.var (aB aA 0 cZ)),(10002,.sl yR yK 0),(10001,.var z2),(10004,.sl yR (QY++[[V.str (V.toStr (z0.getD 0 .undef)),.int .u64 (V.toInt (z0.getD 1 .undef)),.int .u64 (V.toInt (z0.getD 2 .undef)),.str (V.toStr (z0.getD 3 .undef)),.slc yI (List.map (ah.enc aj) z1)]]) 0),(10003,.var z3)]:St}) none) none) none) none) (K (.exit 0) {fr:=[(1,.ptr 10000 0 0 0),(2,.ptr 10001 0 0 0),(3,.ptr 10003 0 0 0)],tab:=[(10000,.var (aB aA 0 cZ)),(10002,.sl yR yK 0),(10001,.var z2),(10004,.sl yR QY 0),(10003,.var z3)]:St})):=by kernel_rfl
  dsimp only at h;exact h):=by kernel_rfl
theorem KT (i35:Int) (cZ:List V) (yK:List (List V)) (oL pF:Int) (iT:List V) (QY:List (List V)) (Qq pG:Int) (a:dG aC) (K:Ex->St->Option R):type_of% (by
  have h:bI sD 30 8 { fr:=[(1,.ptr 10000 0 0 0),(2,.ptr 10001 0 0 0),(3,.ptr 10003 0 0 0),(35,.int .i64 i35)],tab:=[(10000,.var (aB aA 0 cZ)),(10002,.sl yR yK 0),(10001,.var ([.int .u64 oL,.int .i64 pF,.own 10002 0]++aB (aA.drop 3) 0 iT)),(10004,.sl yR QY 0),(10003,.var ([.int .u64 Qq,.int .i64 pG,.own 10004 0]++eU a))] } K =(
   let z1:=(N.KG (ah.dec au cZ) i35);let z0:=(List.map (ah.dec ak) (List.map (ah.enc ak) z1.kept));cond (aZ i35 16) (cond (dQ (ah.dec bD (ah.enc bD z1))) (cond (decide (0<=i35∧i35<(↑(16:Nat):Int))) (K .normal {fr:=[(1,.ptr 10000 0 0 0),(2,.ptr 10001 0 0 0),(3,.ptr 10003 0 0 0),(35,.int .i64 (IntKind.wrap .i64 (i35+1)))],tab:=[(10000,.var (aB aA 0 cZ)),(10002,.sl yR yK 0),(10001,.var (V.int .u64 oL::V.int .i64 pF::V.own 10002 0::aB jD 0 iT)),(10004,.sl yR QY 0),(10003,.var [V.int .u64 Qq,.int .i64 pG,.own 10004 0,.int .u64 (bif Nat.beq (Int.toNat i35) 0 then aC.total z1 else aC.total (dG.a0 a)),.slc yM (bif Nat.beq (Int.toNat i35) 0 then List.map (ah.enc ak) z0 else List.map (ah.enc ak) (aC.kept (dG.a0 a))),.int .u64 (bif Nat.beq (Int.toNat i35) 1 then aC.total z1 else aC.total (dG.a1 a)),.slc yM (bif Nat.beq (Int.toNat i35) 1 then List.map (ah.enc ak) z0 else List.map (ah.enc ak) (aC.kept (dG.a1 a))),.int .u64 (bif Nat.beq (Int.toNat i35) 2 then aC.total z1 else aC.total (dG.a2 a)),.slc yM (bif Nat.beq (Int.toNat i35) 2 then List.map (ah.enc ak) z0 else List.map (ah.enc ak) (aC.kept (dG.a2 a))),.int .u64 (bif Nat.beq (Int.toNat i35) 3 then aC.total z1 else aC.total (dG.a3 a)),.slc yM (bif Nat.beq (Int.toNat i35) 3 then List.map (ah.enc ak) z0 else List.map (ah.enc ak) (aC.kept (dG.a3 a))),.int .u64 (bif Nat.beq (Int.toNat i35) 4 then aC.total z1 else aC.total (dG.a4 a)),.slc yM (bif Nat.beq (Int.toNat i35) 4 then List.map (ah.enc ak) z0 else List.map (ah.enc ak) (aC.kept (dG.a4 a))),.int .u64 (bif Nat.beq (Int.toNat i35) 5 then aC.total z1 else aC.total (dG.a5 a)),.slc yM (bif Nat.beq (Int.toNat i35) 5 then List.map (ah.enc ak) z0 else List.map (ah.enc ak) (aC.kept (dG.a5 a))),.int .u64 (bif Nat.beq (Int.toNat i35) 6 then aC.total z1 else aC.total (dG.a6 a)),.slc yM (bif Nat.beq (Int.toNat i35) 6 then List.map (ah.enc ak) z0 else List.map (ah.enc ak) (aC.kept (dG.a6 a))),.int .u64 (bif Nat.beq (Int.toNat i35) 7 then aC.total z1 else aC.total (dG.a7 a)),.slc yM (bif Nat.beq (Int.toNat i35) 7 then List.map (ah.enc ak) z0 else List.map (ah.enc ak) (aC.kept (dG.a7 a))),.int .u64 (bif Nat.beq (Int.toNat i35) 8 then aC.total z1 else aC.total (dG.a8 a)),.slc yM (bif Nat.beq (Int.toNat i35) 8 then List.map (ah.enc ak) z0 else List.map (ah.enc ak) (aC.kept (dG.a8 a))),.int .u64 (bif Nat.beq (Int.toNat i35) 9 then aC.total z1 else aC.total (dG.a9 a)),.slc yM (bif Nat.beq (Int.toNat i35) 9 then List.map (ah.enc ak) z0 else List.map (ah.enc ak) (aC.kept (dG.a9 a))),.int .u64 (bif Nat.beq (Int.toNat i35) 10 then aC.total z1 else aC.total (dG.a10 a)),.slc yM (bif Nat.beq (Int.toNat i35) 10 then List.map (ah.enc ak) z0 else List.map (ah.enc ak) (aC.kept (dG.a10 a))),.int .u64 (bif Nat.beq (Int.toNat i35) 11 then aC.total z1 else aC.total (dG.a11 a)),.slc yM (bif Nat.beq (Int.toNat i35) 11 then List.map (ah.enc ak) z0 else List.map (ah.enc ak) (aC.kept (dG.a11 a))),.int .u64 (bif Nat.beq (Int.toNat i35) 12 then aC.total z1 else aC.total (dG.a12 a)),.slc yM (bif Nat.beq (Int.toNat i35) 12 then List.map (ah.enc ak) z0 else List.map (ah.enc ak) (aC.kept (dG.a12 a))),.int .u64 (bif Nat.beq (Int.toNat i35) 13 then aC.total z1 else aC.total (dG.Hu a)),.slc yM (bif Nat.beq (Int.toNat i35) 13 then List.map (ah.enc ak) z0 else List.map (ah.enc ak) (aC.kept (dG.Hu a))),.int .u64 (bif Nat.beq (Int.toNat i35) 14 then aC.total z1 else aC.total (dG.Hw a)),.slc yM (bif Nat.beq (Int.toNat i35) 14 then List.map (ah.enc ak) z0 else List.map (ah.enc ak) (aC.kept (dG.Hw a))),.int .u64 (bif Nat.beq (Int.toNat i35) 15 then aC.total z1 else aC.total (dG.Hy a)),.slc yM (bif Nat.beq (Int.toNat i35) 15 then List.map (ah.enc ak) z0 else List.map (ah.enc ak) (aC.kept (dG.Hy a)))])]:St}) none) none) (K (.exit 2) {fr:=[(2,.ptr 10000 0 0 0),(3,.ptr 10002 0 0 0)],tab:=[(10001,.sl yR yK 0),(10000,.var (V.int .u64 oL::V.int .i64 pF::V.own 10001 0::aB jD 0 iT)),(10003,.sl yR QY 0),(10002,.var (V.int .u64 Qq::V.int .i64 pG::V.own 10003 0::eU a))]:St})):=by kernel_rfl
  dsimp only at h;exact h):=by kernel_rfl
theorem V4:dB sD 30 3:=by
 refine bf rfl fun l K q h=>?_
 unfold Uf at h
 split at h
 .rename_i r16 i17 i18 cZ yK oL pF iT QY Qq pG cx3
  replace h:=Ed h;obtain ⟨h1,h2,h3,h4,h5,h⟩:=h
  have e1:=aY h1
  have e2:=aY h2
  subst e1 e2
  have h3:r16.length<=100:=aX h3
  have e4:=List.eq_nil_of_length_eq_zero (jk h4)
  subst e4
  obtain ⟨s0,g1,g2⟩:=KP h5
  have gd:=wR g2
  have hfew:=g1.few
  have main:=dh (E:=sD) (f:=30) (id:=3) (A:=List dW) (r16) (fun a i=>{ fr:=[(1,.ptr 10000 0 0 0),(2,.ptr 10001 0 0 0),(3,.ptr 10003 0 0 0),(16,.slc yQ r16),(17,.int .i64 r16.length),(18,.int .i64 i)],tab:=[(10000,.var (aB aA 0 cZ)),(10002,.sl yR yK 0),(10001,.var ([.int .u64 oL,.int .i64 pF,.own 10002 0]++aB (aA.drop 3) 0 iT)),(10004,.sl yR (a.map aS.enc) 0),(10003,.var ([.int .u64 Qq,.int .i64 pG,.own 10004 0]++aB (aA.drop 3) 0 cx3))] }) (fun a i=>a.length<=i)
   (fun a rows K=>K (.exit 0) { fr:=[(1,.ptr 10000 0 0 0),(2,.ptr 10001 0 0 0),(3,.ptr 10003 0 0 0)],tab:=[(10000,.var (aB aA 0 cZ)),(10002,.sl yR yK 0),(10001,.var ([.int .u64 oL,.int .i64 pF,.own 10002 0]++aB (aA.drop 3) 0 iT)),(10004,.sl yR ((a++N.yN (au.dec cZ) (rows.map lT.dec)).map aS.enc) 0),(10003,.var ([.int .u64 Qq,.int .i64 pG,.own 10004 0]++aB (aA.drop 3) 0 cx3))] }) (fun a i ha hi=>?_) (fun a ha=>?_) (([]:List dW)) 0 (Int.le_refl _) (by omega) (Nat.zero_le _) K q (by assumption)
  .exact main
  .have hq:=fun K=>KR (r16) (r16.length) ((i:Int)) (cZ) (yK) (oL) (pF) (iT) ((a.map aS.enc)) (Qq) (pG) (cx3) K
   have t1:aZ (i:Int) r16.length=true:=dK (by omega)
   have t2:decide ((0:Int)<=i∧(i:Int)<r16.length)=true:=decide_eq_true (by omega)
   have t3:IntKind.wrap .i64 ((i:Int)+1)=(i:Int)+1:=dY (by omega) (by omega)
   have n0:V.toStr (List.getD (List.getD r16 i []) 0 V.undef)=(lT.dec (r16.getD i [])).name:=rfl
   have s1:=Zw g1 (lT.dec (r16.getD i [])).name
   have s2:Nat.ble s0.rows.length 100=true:=dN (by omega)
   simp only [Int.toNat_natCast,n0,gd,bn,agd,List.length_map] at hq
   simp only [t1,t2,t3,cond_true,s1,s2] at hq
   refine .inl ⟨a++[⟨lT.dec (r16.getD i []),N.CV (au.dec cZ) (lT.dec (r16.getD i [])).name⟩],by rw [List.length_append,List.length_singleton]; omega,fun K=>?_,fun K=>?_⟩
   .rw [hq]
    simp (disch:=omega) only [evs,gd,List.length_map,List.map_append]
    try rfl
   .show K _ _=K _ _
    rw [List.append_assoc]
    try rfl
  .refine ⟨.exit 0,{ fr:=[(1,.ptr 10000 0 0 0),(2,.ptr 10001 0 0 0),(3,.ptr 10003 0 0 0)],tab:=[(10000,.var (aB aA 0 cZ)),(10002,.sl yR yK 0),(10001,.var ([.int .u64 oL,.int .i64 pF,.own 10002 0]++aB (aA.drop 3) 0 iT)),(10004,.sl yR ((a++N.yN (au.dec cZ) ([].map lT.dec)).map aS.enc) 0),(10003,.var ([.int .u64 Qq,.int .i64 pG,.own 10004 0]++aB (aA.drop 3) 0 cx3))] },by simp,fun K=>?_,fun K=>rfl⟩
   rw [KR,List.map_nil]
   show _=K _ _
   unfold N.yN
   rw [List.append_nil]
   simp (disch:=omega) only [evs]
   try rfl
 .cases h
theorem V5:dB sD 30 8:=by
 refine bf rfl fun l K q h=>?_
 unfold Ug at h
 split at h
 .rename_i i35 cZ yK oL pF iT QY Qq pG cx3
  replace h:=Lm h;obtain ⟨h1,h2,h3,h⟩:=h
  have e1:=aY h1
  subst e1
  obtain ⟨s0,g1,g2⟩:=KP h2
  have g3:=V3 h3
  have gd:=wR g2
  rw [gd] at h
  show ∃ n,qB sD 30 8 n { fr:=[(1,.ptr 10000 0 0 0),(2,.ptr 10001 0 0 0),(3,.ptr 10003 0 0 0),(35,.int .i64 0)],tab:=[(10000,.var (aB aA 0 cZ)),(10002,.sl yR yK 0),(10001,.var ([.int .u64 oL,.int .i64 pF,.own 10002 0]++aB (aA.drop 3) 0 iT)),(10004,.sl yR QY 0),(10003,.var ([.int .u64 Qq,.int .i64 pG,.own 10004 0]++aB (aA.drop 3) 0 cx3))] } K=some q
  rw [g3]
  refine dD (E:=sD) (f:=30) (id:=8) (σ:=Nat) (fun i=>{ fr:=[(1,.ptr 10000 0 0 0),(2,.ptr 10001 0 0 0),(3,.ptr 10003 0 0 0),(35,.int .i64 (i:Int))],tab:=[(10000,.var (aB aA 0 cZ)),(10002,.sl yR yK 0),(10001,.var ([.int .u64 oL,.int .i64 pF,.own 10002 0]++aB (aA.drop 3) 0 iT)),(10004,.sl yR QY 0),(10003,.var ([.int .u64 Qq,.int .i64 pG,.own 10004 0]++eU (N.mix s0.rises iW.rises i)))] }) (fun i=>i<=16) (fun i=>16-i)
   (fun _ K=>K (.exit 2) { fr:=[(2,.ptr 10000 0 0 0),(3,.ptr 10002 0 0 0)],tab:=[(10001,.sl yR yK 0),(10000,.var ([.int .u64 oL,.int .i64 pF,.own 10001 0]++aB (aA.drop 3) 0 iT)),(10003,.sl yR QY 0),(10002,.var ([.int .u64 Qq,.int .i64 pG,.own 10003 0]++eU s0.rises))] }) (fun i hi=>?_) 0 (Nat.zero_le _) K q h
  by_cases hl:i<16
  .have hq:=fun K=>KT (i:Int) cZ yK oL pF iT QY Qq pG (N.mix s0.rises iW.rises i) K
   have t1:aZ (i:Int) 16=true:=dK (by omega)
   have t2:decide ((0:Int)<=i∧(i:Int)<((16:Nat):Int))=true:=decide_eq_true (by omega)
   have t3:IntKind.wrap .i64 ((i:Int)+1)=(i:Int)+1:=dY (by omega) (by omega)
   have t4:=Zx g1 (i:Int)
   have t5:N.KG s0 (i:Int)=s0.rises.list.getD i iC:=by
    unfold N.KG
    rw [iG (by omega),BK (by omega)]; rfl
   rw [t5] at t4
   simp only [gd,bD.de,bn] at hq
   simp only [t1,t2,t3,t4,cond_true,Int.toNat_natCast,t5] at hq
   have e:=setCells_eq (N.mix s0.rises iW.rises i) i (s0.rises.list.getD i iC)
   refine .inl ⟨i+1,hl,by omega,fun K=>?_,fun K=>rfl⟩
   show _=K .normal { fr:=[(1,.ptr 10000 0 0 0),(2,.ptr 10001 0 0 0),(3,.ptr 10003 0 0 0),(35,.int .i64 ((i:Int)+1))],tab:=[(10000,.var (aB aA 0 cZ)),(10002,.sl yR yK 0),(10001,.var ([.int .u64 oL,.int .i64 pF,.own 10002 0]++aB (aA.drop 3) 0 iT)),(10004,.sl yR QY 0),(10003,.var ([.int .u64 Qq,.int .i64 pG,.own 10004 0]++eU ((N.mix s0.rises iW.rises i).set i (s0.rises.list.getD i iC))))] }
   rw [<- e]
   exact hq K
  .obtain rfl:i=16:=by omega
   refine .inr ⟨.exit 2,{ fr:=[(2,.ptr 10000 0 0 0),(3,.ptr 10002 0 0 0)],tab:=[(10001,.sl yR yK 0),(10000,.var ([.int .u64 oL,.int .i64 pF,.own 10001 0]++aB (aA.drop 3) 0 iT)),(10003,.sl yR QY 0),(10002,.var ([.int .u64 Qq,.int .i64 pG,.own 10003 0]++eU s0.rises))] },by simp,fun K=>?_,fun K=>rfl⟩
   have hq:=KT (16:Int) cZ yK oL pF iT QY Qq pG (N.mix s0.rises iW.rises 16) K
   rw [VZ] at hq
   rw [VZ]
   exact hq
 .cases h
theorem Qr (hN:bH Tryz.prog 95 fZ):bH Tryz.prog 30 alj:=by
 refine aK (aT (((((((((fK.nil _).cons arA).cons akk).cons ajD).cons akg).cons abu).cons (PN hN)).cons (Ie hN)).cons aki)) (E:=sD) Tryz.func30 [3,8] (by kernel_rfl) (Lp V4 V5) fun a b hp=>?_
 have h:=Zu (show zF a=true from hp)
 have hz:=h.size
 have hb0:=h.Ar
 have hb1:=h.Au
 have hf:=h.few
 refine (agp a).trans ?_
 have w:IntKind.wrap .i64 (N.jv a+N.l9 a)=a.bytes:=by
  unfold N.l9
  rw [dY (by omega) (by omega)]; omega
 have g1:=h.jG
 have g2:=h.vH
 have g3:Nat.ble a.rows.length 100=true:=dN (by omega)
 have g4:wQ (au.enc a)=true:=abW h
 have g5:vW (eU iW.rises)=true:=Zv rfl
 simp only [au.de,bn,List.length_map,g1,g2,g3,g4,w,beq_self_eq_true,cond_true,Nat.beq_refl]
 show cond (vW (eU iW.rises)) (some (⟨.agg (V.int .u64 a.next::V.int .i64 a.bytes::V.slc CP (List.map aS.enc ([]++N.yN a (a.rows.map dW.q)))::eU a.rises),[],[]⟩:aH)) none=_
 rw [g5,List.nil_append,agm h]
 try rfl
end Go.Ev

namespace Go.Ev
open Go Go.Proofs
set_option maxRecDepth 100000
-- FOLD2
def ab2:fP:={ fr:=[(2,.ptr 10000 0 0),(3,.ptr 10001 0 0),(30,.int .i64),(31,.int .i64)],tab:=[(10000,.row [] aA),(10001,.row [] aA)] }
def ZA:List Leaf->(Ex->St->Option R)->Option R
 | [.i i30,.i i31,.c cZ,.c iT],K=>cond (i30==(V.toRows (List.getD cZ 2 .undef)).length) (cond (i31==0) (cond (Nat.beq (V.toRows (List.getD cZ 2 .undef)).length (V.toRows (List.getD iT 2 .undef)).length) (cond (((V.toRows (List.getD cZ 2 .undef)).map aS.dec).all jf) (cond (((V.toRows (List.getD iT 2 .undef)).map aS.dec).all jf) (cond (Nat.ble (V.toRows (List.getD cZ 2 .undef)).length 1000) (cond (N.jw ((V.toRows (List.getD cZ 2 .undef)).map aS.dec) ((V.toRows (List.getD iT 2 .undef)).map aS.dec)) (K (.exit 0) { fr:=[(2,.ptr 10000 0 0 0),(3,.ptr 10001 0 0 0)],tab:=[(10000,.var (aB aA 0 cZ)),(10001,.var (aB aA 0 iT))] }) (K .ret { fr:=[(4,.bool false)],tab:=[] })) none) none) none) none) none) none
 | _,_=>none
def ZB:fP:={ fr:=[(2,.ptr 10000 0 0),(3,.ptr 10001 0 0),(64,.int .i64)],tab:=[(10000,.row [] aA),(10001,.row [] aA)] }
def Uh:List Leaf->(Ex->St->Option R)->Option R
 | [.i i64,.c cZ,.c iT],K=>cond (i64==0) (cond (((bF cZ 3).map bD.dec).all dQ) (cond (((bF iT 3).map bD.dec).all dQ) (cond (N.rW ((bF cZ 3).map bD.dec) ((bF iT 3).map bD.dec)) (K (.exit 2) { fr:=[],tab:=[] }) (K .ret { fr:=[(4,.bool false)],tab:=[] })) none) none) none
 | _,_=>none
noncomputable def xU:Env:=env Tryz.prog [(85,ajv),(86,Vo)] [(10,dJ ZB Uh),(4,dJ ab2 ZA)] [(4,[(0,[2,3,30,31]),(1,[2,3]),(1000,[4])]),(10,[(0,[2,3,64]),(3,[]),(1000,[4])])]
theorem alk (s t:aF):type_of% (by
  have h:bM xU 29 ((aO (bg au) (aW (bg au))).enc (s,t)) ([]) some =(
   let z0:=(List.map (ah.enc aS) s.rows);let z1:=(some {v:=.bool false,bx:=[]:aH});let z2:=(List.map (ah.enc aS) t.rows);let z3:=(List.map (ah.dec bD) (iV s.rises));let z4:=(List.map (ah.dec bD) (iV t.rises));cond (aF.next s != aF.next t) z1 (cond (aF.bytes s != aF.bytes t) z1 (cond ((↑(List.length z0):Int) != (↑(List.length z2):Int)) z1 (cond ((↑(List.length z0):Int)==(↑(List.length z0):Int)) (cond (Nat.beq (List.length z0) (List.length z2)) (cond (List.all (List.map (ah.dec aS) z0) jf) (cond (List.all (List.map (ah.dec aS) z2) jf) (cond (Nat.ble (List.length z0) 1000) (cond (N.jw (List.map (ah.dec aS) z0) (List.map (ah.dec aS) z2)) (cond (List.all z3 dQ) (cond (List.all z4 dQ) (cond (N.rW z3 z4) (some {v:=.bool true,bx:=[]:aH}) z1) none) none) z1) none) none) none) none) none)))):=by kernel_rfl
  dsimp only at h;exact h):=by kernel_rfl
theorem Qs (i30:Int) (i31:Int) (cZ:List V) (iT:List V) (K:Ex->St->Option R):type_of% (by
  have h:bI xU 29 4 { fr:=[(2,.ptr 10000 0 0 0),(3,.ptr 10001 0 0 0),(30,.int .i64 i30),(31,.int .i64 i31)],tab:=[(10000,.var (aB aA 0 cZ)),(10001,.var (aB aA 0 iT))] } K =(
   let z0:=(List.getD (V.toRows (cZ.getD 2 .undef)) (Int.toNat i31) []);let z1:=(List.getD (V.toRows (iT.getD 2 .undef)) (Int.toNat i31) []);let z2:=(decide (0<=i31∧i31<(↑(List.length (V.toRows (cZ.getD 2 .undef))):Int)));let z3:=(decide (0<=i31∧i31<(↑(List.length (V.toRows (iT.getD 2 .undef))):Int)));let z4:=(List.map (ah.dec aj) (V.toRows (z0.getD 4 .undef)));cond (aZ i31 i30) (cond z2 (cond z3 (cond (!(V.toStr (z0.getD 0 .undef)==V.toStr (z1.getD 0 .undef) && (V.toInt (z0.getD 1 .undef)==V.toInt (z1.getD 1 .undef) && (V.toInt (z0.getD 2 .undef)==V.toInt (z1.getD 2 .undef) && (V.toStr (z0.getD 3 .undef)==V.toStr (z1.getD 3 .undef) && true))))) (K .ret {fr:=[(4,.bool false)],tab:=[]:St}) (cond z2 (cond z3 (cond (ig z4) (cond (!N.nJ z4 (List.map (ah.dec aj) (V.toRows (z1.getD 4 .undef)))) (K .ret {fr:=[(4,.bool false)],tab:=[]:St}) (K .normal {fr:=[(2,.ptr 10000 0 0 0),(3,.ptr 10001 0 0 0),(30,.int .i64 i30),(31,.int .i64 (IntKind.wrap .i64 (i31+1)))],tab:=[(10000,.var (aB aA 0 cZ)),(10001,.var (aB aA 0 iT))]:St})) none) none) none)) none) none) (K (.exit 0) {fr:=[(2,.ptr 10000 0 0 0),(3,.ptr 10001 0 0 0)],tab:=[(10000,.var (aB aA 0 cZ)),(10001,.var (aB aA 0 iT))]:St})):=by kernel_rfl
  dsimp only at h;exact h):=by kernel_rfl
theorem KU (i64:Int) (cZ:List V) (iT:List V) (K:Ex->St->Option R):bI xU 29 10 { fr:=[(2,.ptr 10000 0 0 0),(3,.ptr 10001 0 0 0),(64,.int .i64 i64)],tab:=[(10000,.var (aB aA 0 cZ)),(10001,.var (aB aA 0 iT))] } K =
 cond (aZ i64 16) (cond (decide (0<=i64∧i64<(↑(16:Nat):Int))) (cond (decide (0<=i64∧i64<(↑(16:Nat):Int))) (cond (bif dQ (ah.dec bD (List.getD (bF cZ 3) (Int.toNat i64) [])) then dQ (ah.dec bD (List.getD (bF iT 3) (Int.toNat i64) [])) else false) (cond (!N.xK (ah.dec bD (List.getD (bF cZ 3) (Int.toNat i64) [])) (ah.dec bD (List.getD (bF iT 3) (Int.toNat i64) []))) (K .ret {fr:=[(4,.bool false)],tab:=[]:St}) (K .normal {fr:=[(2,.ptr 10000 0 0 0),(3,.ptr 10001 0 0 0),(64,.int .i64 (IntKind.wrap .i64 (i64+1)))],tab:=[(10000,.var (aB aA 0 cZ)),(10001,.var (aB aA 0 iT))]:St})) none) none) none) (K (.exit 2) {fr:=[],tab:=[]:St}):=by kernel_rfl
theorem ZC:dB xU 29 4:=by
 refine bf rfl fun l K q h=>?_
 unfold ZA at h
 split at h
 .rename_i i30 i31 cZ iT
  replace h:=cN6 h;obtain ⟨h1,h2,h3,h4,h5,h6,h⟩:=h
  have e1:=aY h1
  have e2:=aY h2
  subst e1 e2
  have h3:=jk h3
  have l0:(V.toRows (List.getD cZ 2 .undef)).length<=1000:=aX h6
  refine dD (E:=xU) (f:=29) (id:=4) (σ:=Nat) (fun i=>{ fr:=[(2,.ptr 10000 0 0 0),(3,.ptr 10001 0 0 0),(30,.int .i64 ((V.toRows (List.getD cZ 2 .undef)).length:Int)),(31,.int .i64 (i:Int))],tab:=[(10000,.var (aB aA 0 cZ)),(10001,.var (aB aA 0 iT))] }) (fun i=>i<=(V.toRows (List.getD cZ 2 .undef)).length) (fun i=>(V.toRows (List.getD cZ 2 .undef)).length-i)
   (fun i K=>cond (N.jw (((V.toRows (List.getD cZ 2 .undef)).drop i).map aS.dec) (((V.toRows (List.getD iT 2 .undef)).drop i).map aS.dec)) (K (.exit 0) { fr:=[(2,.ptr 10000 0 0 0),(3,.ptr 10001 0 0 0)],tab:=[(10000,.var (aB aA 0 cZ)),(10001,.var (aB aA 0 iT))] }) (K .ret { fr:=[(4,.bool false)],tab:=[] })) (fun i hi=>?_) 0 (Nat.zero_le _) K q (by simpa only [List.drop_zero] using h)
  by_cases hl:i<(V.toRows (List.getD cZ 2 .undef)).length
  .have hl2:i<(V.toRows (List.getD iT 2 .undef)).length:=by omega
   rw [jP hl,jP hl2,List.map_cons,List.map_cons,uq]
   have hq:=fun K=>Qs (V.toRows (List.getD cZ 2 .undef)).length i cZ iT K
   have t1:aZ (i:Int) (V.toRows (List.getD cZ 2 .undef)).length=true:=dK (by omega)
   have t2:decide ((0:Int)<=i∧(i:Int)<(V.toRows (List.getD cZ 2 .undef)).length)=true:=decide_eq_true (by omega)
   have t4:decide ((0:Int)<=i∧(i:Int)<(V.toRows (List.getD iT 2 .undef)).length)=true:=decide_eq_true (by omega)
   have t3:IntKind.wrap .i64 ((i:Int)+1)=(i:Int)+1:=dY (by omega) (by omega)
   have g1:pq (aS.dec ((V.toRows (List.getD cZ 2 .undef)).getD i [])).line=true:=jF h4 hl
   have g2:pq (aS.dec ((V.toRows (List.getD iT 2 .undef)).getD i [])).line=true:=jF h5 hl2
   simp only [Int.toNat_natCast,gX] at hq
   simp only [t1,t2,t3,t4,pz g1,cond_true] at hq
   have n:∀ (r r' : List V),(V.toStr (List.getD r 0 .undef)==V.toStr (List.getD r' 0 .undef) && (V.toInt (List.getD r 1 .undef)==V.toInt (List.getD r' 1 .undef) && (V.toInt (List.getD r 2 .undef)==V.toInt (List.getD r' 2 .undef) && (V.toStr (List.getD r 3 .undef)==V.toStr (List.getD r' 3 .undef) && true))))=N.YF (aS.dec r).q (aS.dec r').q:=fun r r'=>Md (aS.dec r).q (aS.dec r').q
   simp only [n] at hq
   cases hc1:N.YF (aS.dec ((V.toRows (List.getD cZ 2 .undef)).getD i [])).q (aS.dec ((V.toRows (List.getD iT 2 .undef)).getD i [])).q with
   | false =>
    have hc:N.sameRow (aS.dec ((V.toRows (List.getD cZ 2 .undef)).getD i [])) (aS.dec ((V.toRows (List.getD iT 2 .undef)).getD i []))=false:=by unfold N.sameRow; rw [hc1]; rfl
    refine .inr ⟨.ret,_,by simp,fun K=>?_,fun K=>by rw [hc]; rfl⟩
    rw [hq,hc1]; rfl
   | true =>
    cases hc2:N.nJ (aS.dec ((V.toRows (List.getD cZ 2 .undef)).getD i [])).line (aS.dec ((V.toRows (List.getD iT 2 .undef)).getD i [])).line with
    | false =>
     have hc:N.sameRow (aS.dec ((V.toRows (List.getD cZ 2 .undef)).getD i [])) (aS.dec ((V.toRows (List.getD iT 2 .undef)).getD i []))=false:=by unfold N.sameRow; rw [hc1,hc2]; rfl
     refine .inr ⟨.ret,_,by simp,fun K=>?_,fun K=>by rw [hc]; rfl⟩
     rw [hq,hc1,hc2]; rfl
    | true =>
     have hc:N.sameRow (aS.dec ((V.toRows (List.getD cZ 2 .undef)).getD i [])) (aS.dec ((V.toRows (List.getD iT 2 .undef)).getD i []))=true:=by unfold N.sameRow; rw [hc1,hc2]; rfl
     refine .inl ⟨i+1,hl,by omega,fun K=>?_,fun K=>by rw [hc]; rfl⟩
     rw [hq,hc1,hc2]; rfl
  .obtain rfl:i=(V.toRows (List.getD cZ 2 .undef)).length:=by omega
   refine .inr ⟨.exit 0,{ fr:=[(2,.ptr 10000 0 0 0),(3,.ptr 10001 0 0 0)],tab:=[(10000,.var (aB aA 0 cZ)),(10001,.var (aB aA 0 iT))] },by simp,fun K=>?_,fun K=>?_⟩
   .rw [Qs,iG (Int.le_refl _)]; rfl
   .rw [List.drop_eq_nil_of_le (Nat.le_refl _),List.drop_eq_nil_of_le (by omega)]; rfl
 .cases h
theorem V6:dB xU 29 10:=by
 refine bf rfl fun l K q h=>?_
 unfold Uh at h
 split at h
 .rename_i i64 cZ iT
  replace h:=Lm h;obtain ⟨h1,h2,h3,h⟩:=h
  have e1:=aY h1
  subst e1
  refine dD (E:=xU) (f:=29) (id:=10) (σ:=Nat) (fun i=>{ fr:=[(2,.ptr 10000 0 0 0),(3,.ptr 10001 0 0 0),(64,.int .i64 (i:Int))],tab:=[(10000,.var (aB aA 0 cZ)),(10001,.var (aB aA 0 iT))] }) (fun i=>i<=16) (fun i=>16-i)
   (fun i K=>cond (N.rW (((bF cZ 3).drop i).map bD.dec) (((bF iT 3).drop i).map bD.dec)) (K (.exit 2) { fr:=[],tab:=[] }) (K .ret { fr:=[(4,.bool false)],tab:=[] })) (fun i hi=>?_) 0 (Nat.zero_le _) K q (by assumption)
  by_cases hl:i<16
  .rw [jP (show i<(bF cZ 3).length from hl),jP (show i<(bF iT 3).length from hl),List.map_cons,List.map_cons,KI]
   have hq:=fun K=>KU i cZ iT K
   have t1:aZ (i:Int) 16=true:=dK (by omega)
   have t2:decide ((0:Int)<=i∧(i:Int)<((16:Nat):Int))=true:=decide_eq_true (by omega)
   have t3:IntKind.wrap .i64 ((i:Int)+1)=(i:Int)+1:=dY (by omega) (by omega)
   have g1:dQ (bD.dec ((bF cZ 3).getD i []))=true:=jF h2 hl
   have g2:dQ (bD.dec ((bF iT 3).getD i []))=true:=jF h3 hl
   simp only [Int.toNat_natCast] at hq
   simp only [t1,t2,t3,g1,g2,cond_true] at hq
   cases hc:N.xK (bD.dec ((bF cZ 3).getD i [])) (bD.dec ((bF iT 3).getD i [])) with
   | true =>
    refine .inl ⟨i+1,hl,by omega,fun K=>?_,fun K=>rfl⟩
    rw [hq,hc]
    try rfl
   | false =>
    refine .inr ⟨.ret,_,by simp,fun K=>?_,fun K=>rfl⟩
    rw [hq,hc]
    try rfl
  .obtain rfl:i=16:=by omega
   exact .inr ⟨.exit 2,{ fr:=[],tab:=[] },by simp,fun K=>KU 16 cZ iT K,fun K=>rfl⟩
 .cases h
theorem Ui:bH Tryz.prog 29 PW:=by
 refine aK (aT (((fK.nil _).cons X8).cons abl)) (E:=xU) Tryz.func29 [4,10] (by kernel_rfl) (Lp ZC V6) fun a b hp=>?_
 obtain ⟨s,t⟩:=a
 obtain ⟨h1,h2⟩:=aP (show cond (jG s) (jG t) false=true from hp)
 have hR:∀ x:aF,jG x=true->x.rises.list.all dQ=true:=fun x hx=>List.all_eq_true.2 fun y hy=>(aP (List.all_eq_true.1 (aP hx).2 y hy)).1
 have g1:=hR s h1
 have g2:=hR t h2
 obtain ⟨a1,a2⟩:=aP (aP h1).1
 obtain ⟨_,a3⟩:=aP (aP h2).1
 have a1:=aX a1
 have hlen:∀ a b:List dW,a.length ≠ b.length->N.jw a b=false:=fun a=>by
  induction a with
  | nil=>intro b hb; cases b with
   | nil=>exact (hb rfl).elim
   | cons _ _=>rfl
  | cons x r ih=>intro b hb; cases b with
   | nil=>rfl
   | cons y z =>
    rw [uq,ih z (by simpa using hb)]
    cases N.sameRow x y<;>rfl
 refine (alk s t).trans ?_
 simp only [bn,List.length_map,mg,g1,g2,a2,a3,dN (show s.rows.length<=1000 by omega),beq_self_eq_true,cond_true]
 show _=some (⟨.bool (N.AP s t),[],[]⟩:aH)
 unfold N.AP
 cases h4:s.next==t.next with
 | false=>rw [bne,h4]; rfl
 | true =>
  cases h5:s.bytes==t.bytes with
  | false=>rw [bne,bne,h4,h5]; rfl
  | true =>
   rw [bne,bne,h4,h5]
   by_cases h6:s.rows.length=t.rows.length
   .rw [h6,bne_self_eq_false,show Nat.beq t.rows.length t.rows.length=true from Nat.beq_refl _]
    cases N.jw s.rows t.rows with
    | false=>rfl
    | true=>cases N.rW s.rises.list t.rises.list<;>rfl
   .rw [hlen _ _ h6,show ((s.rows.length:Int) != (t.rows.length:Int))=true from bne_iff_ne.2 (by omega)]; rfl
end Go.Ev

namespace Go.Ev
open Go Go.Proofs
set_option maxRecDepth 100000
-- FOLD2
theorem fk8:N.iI 8 8=true:=rfl
theorem fk1:N.iI 8 1=true:=rfl
theorem cl8:N.clamp 8=8:=rfl
theorem cl1:N.clamp 1=1:=rfl
def ZE:fP:={ fr:=[(1,.ptr 10000 0 0),(3,.str),(23,.slc yR),(24,.int .i64),(25,.int .i64)],tab:=[(10000,.row [] aA)] }
def Uj:List Leaf->(Ex->St->Option R)->Option R
 | [.s s3,.r wS,.i i24,.i i25,.c cZ],K=>cond (i24==wS.length) (cond (i25==0) (cond (Nat.ble wS.length 100) (cond (Nat.ble s3.length 1000) (cond ((wS.map aS.dec).all uS) (K (.exit 0) { fr:=[(1,.ptr 10000 0 0 0),(3,.str (s3++N.lQ ((wS).map aS.dec)))],tab:=[(10000,.var (aB aA 0 cZ))] }) none) none) none) none) none
 | _,_=>none
def ZF:fP:={ fr:=[(1,.ptr 10000 0 0),(3,.str),(23,.slc yR),(24,.int .i64),(25,.int .i64),(57,.slc yI),(58,.int .i64),(59,.int .i64)],tab:=[(10000,.row [] aA)] }
def Uk:List Leaf->(Ex->St->Option R)->Option R
 | [.s s3,.r wS,.i i24,.i i25,.r xI,.i i58,.i i59,.c cZ],K=>cond (i58==xI.length) (cond (i59==0) (cond (Nat.ble xI.length 100) (cond (Nat.ble s3.length 100000000) (cond ((xI.map aj.dec).all fun x=>N.fH x.aQ) (K (.exit 2) { fr:=[(1,.ptr 10000 0 0 0),(3,.str (s3++N.ny ((xI).map aj.dec))),(23,.slc yR wS),(24,.int .i64 i24),(25,.int .i64 i25)],tab:=[(10000,.var (aB aA 0 cZ))] }) none) none) none) none) none
 | _,_=>none
def V7:fP:={ fr:=[(3,.str),(9,.int .i64),(10,.str),(80,.rowA jD),(81,.int .i64)],tab:=[] }
def Qu:List Leaf->(Ex->St->Option R)->Option R
 | [.s s3,.i i9,.s s10,.c c80,.i i81],K=>cond (i81==0) (cond (i9==0) (cond (Nat.beq s10.length 0) (cond (((bF c80 0).map bD.dec).all fJ) (K (.exit 4) { fr:=[(3,.str s3),(9,.int .i64 (((0,[]):Int × Bytes).1+N.jR (((bF c80 0)).map bD.dec))),(10,.str (((0,[]):Int × Bytes).2++N.FD (16-(((bF c80 0)).length:Int)) (((bF c80 0)).map bD.dec)))],tab:=[] }) none) none) none) none
 | _,_=>none
noncomputable def pI:Env:=env Tryz.prog [(104,(qG 8)),(105,G5),(106,D5),(107,Vr)] [(20,dJ V7 Qu),(7,dJ ZF Uk),(3,dJ ZE Uj)] [(3,[(0,[1,3,23,24,25]),(1,[1,3]),(1000,[2])]),(7,[(0,[1,3,23,24,25,57,58,59]),(3,[1,3,23,24,25]),(1000,[2])]),(20,[(0,[3,9,10,80,81]),(5,[3,9,10]),(1000,[2])])]
theorem agq (s:aF):type_of% (by
  have h:bM pI 34 ((aW (bg au)).enc s) ([]) some =(
   let z0:=(List.map (ah.enc aS) s.rows);let z1:=(List.map (ah.dec bD) (iV s.rises));let z2:=(IntKind.wrap .u64 (↑(List.length z0):Int));let z3:=(IntKind.wrap .u64 (0+N.jR z1));let z4:=(List.map (ah.dec aS) z0);cond (bif bU 0 s.next then bif aZ s.next 18446744073709551616 then N.iI 8 8 else false else false) (cond (bif aZ z2 18446744073709551616 then N.iI 8 1 else false) (cond ((↑(List.length z0):Int)==(↑(List.length z0):Int)) (cond (Nat.ble (List.length z0) 100) (cond (List.all z4 uS) (cond (List.all z1 fJ) (cond (bif bU 0 z3 then bif aZ z3 18446744073709551616 then N.iI 8 1 else false else false) (cond (Nat.ble (List.length (N.bW s.next (N.clamp 8)++N.bW z2 (N.clamp 1)++N.lQ z4)+1) 9223372036854775807) (cond (Nat.ble (List.length (N.bW s.next (N.clamp 8)++N.bW z2 (N.clamp 1)++N.lQ z4++N.bW z3 (N.clamp 1))+List.length ([]++N.FD (16-(↑(16:Nat):Int)) z1)) 9223372036854775807) (some {v:=.str (N.bW s.next (N.clamp 8)++N.bW z2 (N.clamp 1)++N.lQ z4++N.bW z3 (N.clamp 1)++([]++N.FD (16-(↑(16:Nat):Int)) z1)),bx:=[]:aH}) none) none) none) none) none) none) none) none) none):=by kernel_rfl
  dsimp only at h;exact h):=by kernel_rfl
theorem KW (s3:Bytes) (wS:List (List V)) (i24:Int) (i25:Int) (cZ:List V) (K:Ex->St->Option R):type_of% (by
  have h:bI pI 34 3 { fr:=[(1,.ptr 10000 0 0 0),(3,.str s3),(23,.slc yR wS),(24,.int .i64 i24),(25,.int .i64 i25)],tab:=[(10000,.var (aB aA 0 cZ))] } K =(
   let z0:=(List.getD wS (Int.toNat i25) []);let z1:=(List.length (V.toRows (z0.getD 4 .undef)));let z2:=(V.toStr (z0.getD 0 .undef));let z3:=(V.toInt (z0.getD 1 .undef));let z4:=(V.toInt (z0.getD 2 .undef));let z5:=(V.toStr (z0.getD 3 .undef));let z6:=(List.map (ah.dec aj) (V.toRows (z0.getD 4 .undef)));let z7:=(IntKind.wrap .u64 (↑z1:Int));cond (aZ i25 i24) (cond (decide (0<=i25∧i25<(↑(List.length wS):Int))) (cond (Nat.ble (List.length z2) 65535) (cond (Nat.ble (List.length s3+List.length (N.dS z2)) 9223372036854775807) (cond (bif bU 0 z3 then bif aZ z3 18446744073709551616 then N.iI 8 8 else false else false) (cond (Nat.ble (List.length (s3++N.dS z2)+8) 9223372036854775807) (cond (bif bU 0 z4 then bif aZ z4 18446744073709551616 then N.iI 8 8 else false else false) (cond (Nat.ble (List.length (s3++N.dS z2++N.bW z3 (N.clamp 8))+8) 9223372036854775807) (cond (Nat.ble (List.length z5) 65535) (cond (Nat.ble (List.length (s3++N.dS z2++N.bW z3 (N.clamp 8)++N.bW z4 (N.clamp 8))+List.length (N.dS z5)) 9223372036854775807) (cond (bif aZ z7 18446744073709551616 then N.iI 8 1 else false) (cond (Nat.ble (List.length (s3++N.dS z2++N.bW z3 (N.clamp 8)++N.bW z4 (N.clamp 8)++N.dS z5)+1) 9223372036854775807) (cond ((↑z1:Int)==(↑z1:Int)) (cond (Nat.ble z1 100) (cond (Nat.ble (List.length (s3++N.dS z2++N.bW z3 (N.clamp 8)++N.bW z4 (N.clamp 8)++N.dS z5++N.bW z7 (N.clamp 1))) 100000000) (cond (List.all z6 fun x=>N.fH x.aQ) (K .normal {fr:=[(1,.ptr 10000 0 0 0),(3,.str (s3++N.dS z2++N.bW z3 (N.clamp 8)++N.bW z4 (N.clamp 8)++N.dS z5++N.bW z7 (N.clamp 1)++N.ny z6)),(23,.slc yR wS),(24,.int .i64 i24),(25,.int .i64 (IntKind.wrap .i64 (i25+1)))],tab:=[(10000,.var (aB aA 0 cZ))]:St}) none) none) none) none) none) none) none) none) none) none) none) none) none) none) none) (K (.exit 0) {fr:=[(1,.ptr 10000 0 0 0),(3,.str s3)],tab:=[(10000,.var (aB aA 0 cZ))]:St})):=by kernel_rfl
  dsimp only at h;exact h):=by kernel_rfl
theorem KX (s3:Bytes) (wS:List (List V)) (i24:Int) (i25:Int) (xI:List (List V)) (i58:Int) (i59:Int) (cZ:List V) (K:Ex->St->Option R):type_of% (by
  have h:bI pI 34 7 { fr:=[(1,.ptr 10000 0 0 0),(3,.str s3),(23,.slc yR wS),(24,.int .i64 i24),(25,.int .i64 i25),(57,.slc yI xI),(58,.int .i64 i58),(59,.int .i64 i59)],tab:=[(10000,.var (aB aA 0 cZ))] } K =(
   let z4:=(List.getD xI (Int.toNat i59) []);let z0:=(ah.dec ak z4);let z1:=(Nat.ble (List.length s3+1) 9223372036854775807);let z2:=(IntKind.wrap .i64 (i59+1));let z3:=(V.toBool (z4.getD 8 .undef));cond (aZ i59 i58) (cond (decide (0<=i59∧i59<(↑(List.length xI):Int))) (cond (V.toBool (z4.getD 7 .undef)) (cond z3 (cond z1 (cond (N.QI z0) (cond (Nat.ble (List.length (s3++N.bW (IntKind.wrap .u64 ((1 : Int)+2)) (N.clamp 1))+List.length (N.kR z0)) 9223372036854775807) (K .normal {fr:=[(1,.ptr 10000 0 0 0),(3,.str (s3++N.bW (IntKind.wrap .u64 ((1 : Int)+2)) (N.clamp 1)++N.kR z0)),(23,.slc yR wS),(24,.int .i64 i24),(25,.int .i64 i25),(57,.slc yI xI),(58,.int .i64 i58),(59,.int .i64 z2)],tab:=[(10000,.var (aB aA 0 cZ))]:St}) none) none) none) (cond z1 (cond (N.QI z0) (cond (Nat.ble (List.length (s3++N.bW 1 (N.clamp 1))+List.length (N.kR z0)) 9223372036854775807) (K .normal {fr:=[(1,.ptr 10000 0 0 0),(3,.str (s3++N.bW 1 (N.clamp 1)++N.kR z0)),(23,.slc yR wS),(24,.int .i64 i24),(25,.int .i64 i25),(57,.slc yI xI),(58,.int .i64 i58),(59,.int .i64 z2)],tab:=[(10000,.var (aB aA 0 cZ))]:St}) none) none) none)) (cond z3 (cond z1 (cond (N.QI z0) (cond (Nat.ble (List.length (s3++N.bW (IntKind.wrap .u64 ((0 : Int)+2)) (N.clamp 1))+List.length (N.kR z0)) 9223372036854775807) (K .normal {fr:=[(1,.ptr 10000 0 0 0),(3,.str (s3++N.bW (IntKind.wrap .u64 ((0 : Int)+2)) (N.clamp 1)++N.kR z0)),(23,.slc yR wS),(24,.int .i64 i24),(25,.int .i64 i25),(57,.slc yI xI),(58,.int .i64 i58),(59,.int .i64 z2)],tab:=[(10000,.var (aB aA 0 cZ))]:St}) none) none) none) (cond z1 (cond (N.QI z0) (cond (Nat.ble (List.length (s3++N.bW 0 (N.clamp 1))+List.length (N.kR z0)) 9223372036854775807) (K .normal {fr:=[(1,.ptr 10000 0 0 0),(3,.str (s3++N.bW 0 (N.clamp 1)++N.kR z0)),(23,.slc yR wS),(24,.int .i64 i24),(25,.int .i64 i25),(57,.slc yI xI),(58,.int .i64 i58),(59,.int .i64 z2)],tab:=[(10000,.var (aB aA 0 cZ))]:St}) none) none) none))) none) (K (.exit 2) {fr:=[(1,.ptr 10000 0 0 0),(3,.str s3),(23,.slc yR wS),(24,.int .i64 i24),(25,.int .i64 i25)],tab:=[(10000,.var (aB aA 0 cZ))]:St})):=by kernel_rfl
  dsimp only at h;exact h):=by kernel_rfl
theorem II (s3:Bytes) (i9:Int) (s10:Bytes) (c80:List V) (i81:Int) (K:Ex->St->Option R):bI pI 34 20 { fr:=[(3,.str s3),(9,.int .i64 i9),(10,.str s10),(80,.agg (aB jD 0 c80)),(81,.int .i64 i81)],tab:=[] } K =
 cond (aZ i81 16) (cond (decide (0<=i81∧i81<(↑(16:Nat):Int))) (cond (aZ 0 (V.toInt (List.getD (List.getD (bF c80 0) (Int.toNat i81) []) 0 V.undef))) (cond (bif bU 0 (IntKind.wrap .u64 i81) then bif aZ (IntKind.wrap .u64 i81) 18446744073709551616 then N.iI 8 1 else false else false) (cond (Nat.ble (List.length s10+1) 9223372036854775807) (cond (fJ (ah.dec bD (List.getD (bF c80 0) (Int.toNat i81) []))) (cond (Nat.ble (List.length (s10++N.bW (IntKind.wrap .u64 i81) (N.clamp 1))+List.length (N.mW (ah.dec bD (List.getD (bF c80 0) (Int.toNat i81) [])))) 9223372036854775807) (K .normal {fr:=[(3,.str s3),(9,.int .i64 (IntKind.wrap .i64 (i9+1))),(10,.str (s10++N.bW (IntKind.wrap .u64 i81) (N.clamp 1)++N.mW (ah.dec bD (List.getD (bF c80 0) (Int.toNat i81) [])))),(80,.agg (aB jD 0 c80)),(81,.int .i64 (IntKind.wrap .i64 (i81+1)))],tab:=[]:St}) none) none) none) none) (K .normal {fr:=[(3,.str s3),(9,.int .i64 i9),(10,.str s10),(80,.agg (aB jD 0 c80)),(81,.int .i64 (IntKind.wrap .i64 (i81+1)))],tab:=[]:St})) none) (K (.exit 4) {fr:=[(3,.str s3),(9,.int .i64 i9),(10,.str s10)],tab:=[]:St}):=by kernel_rfl
theorem V8:dB pI 34 3:=by
 refine bf rfl fun l K q h=>?_
 unfold Uj at h
 split at h
 .rename_i s3 wS i24 i25 cZ
  replace h:=Ed h;obtain ⟨h1,h2,h3,h5,h6,h⟩:=h
  have e1:=aY h1
  have e2:=aY h2
  subst e1 e2
  have h3:wS.length<=100:=aX h3
  have h5:s3.length<=1000:=aX h5
  have main:=dh (E:=pI) (f:=34) (id:=3) (A:=Bytes) (wS) (fun a i=>{ fr:=[(1,.ptr 10000 0 0 0),(3,.str a),(23,.slc yR wS),(24,.int .i64 wS.length),(25,.int .i64 i)],tab:=[(10000,.var (aB aA 0 cZ))] }) (fun a i=>a.length<=1000+160000*i)
   (fun a rows K=>K (.exit 0) { fr:=[(1,.ptr 10000 0 0 0),(3,.str (a++N.lQ ((rows).map aS.dec)))],tab:=[(10000,.var (aB aA 0 cZ))] }) (fun a i ha hi=>?_) (fun a ha=>?_) (s3) 0 (Int.le_refl _) (by omega) (by show s3.length<=1000+160000*0; omega) K q (by assumption)
  .exact main
  .have hq:=fun K=>KW (a) (wS) (wS.length) ((i:Int)) (cZ) K
   have t1:aZ (i:Int) wS.length=true:=dK (by omega)
   have t2:decide ((0:Int)<=i∧(i:Int)<wS.length)=true:=decide_eq_true (by omega)
   have t3:IntKind.wrap .i64 ((i:Int)+1)=(i:Int)+1:=dY (by omega) (by omega)
   have hr:=Dc (jF h6 hi)
   have hl:=Aq hr.2.2.2
   have hbl:=P7 (jF h6 hi)
   have n0:V.toStr (List.getD (List.getD wS i []) 0 V.undef)=(aS.dec (wS.getD i [])).q.name:=rfl
   have n1:V.toInt (List.getD (List.getD wS i []) 1 V.undef)=(aS.dec (wS.getD i [])).q.most:=rfl
   have n2:V.toInt (List.getD (List.getD wS i []) 2 V.undef)=(aS.dec (wS.getD i [])).q.life:=rfl
   have n3:V.toStr (List.getD (List.getD wS i []) 3 V.undef)=(aS.dec (wS.getD i [])).q.dead:=rfl
   have n4:(V.toRows (List.getD (List.getD wS i []) 4 V.undef)).length=(aS.dec (wS.getD i [])).line.length:=(List.length_map _).symm
   have w:=kC (n:=((aS.dec (wS.getD i [])).line.length:Int)) (by omega) (by omega)
   simp only [Int.toNat_natCast,gX,bn,n0,n1,n2,n3,n4] at hq
   simp only [t1,t2,t3,cond_true,hl.2.2,w] at hq
   obtain ⟨⟨b1,b2⟩,⟨b3,b4⟩,⟨b5,b6⟩,_⟩:=hr
   obtain ⟨b7,_,_⟩:=hl
   refine .inl ⟨a++N.rowB (aS.dec (wS.getD i [])),by rw [List.length_append]; omega,fun K=>?_,fun K=>?_⟩
   .rw [hq]
    simp (disch:=omega) only [evs,fk8,fk1,cl8,cl1,fB,kF,List.length_append]
    unfold N.rowB
    simp only [List.append_assoc]
    try rfl
   .show K _ { fr:=[(1,.ptr 10000 0 0 0),(3,.str (a++(N.rowB (aS.dec (wS.getD i []))++N.lQ ((wS.drop (i+1)).map aS.dec))))],tab:=[(10000,.var (aB aA 0 cZ))] }=_
    rw [List.append_assoc]
  .refine ⟨.exit 0,{ fr:=[(1,.ptr 10000 0 0 0),(3,.str (a++[]))],tab:=[(10000,.var (aB aA 0 cZ))] },by simp,fun K=>?_,fun K=>rfl⟩
   rw [KW,List.append_nil]
   simp (disch:=omega) only [evs]
   try rfl
 .cases h
theorem V9:dB pI 34 7:=by
 refine bf rfl fun l K q h=>?_
 unfold Uk at h
 split at h
 .rename_i s3 wS i24 i25 xI i58 i59 cZ
  replace h:=Ed h;obtain ⟨h1,h2,h3,h5,h6,h⟩:=h
  have e1:=aY h1
  have e2:=aY h2
  subst e1 e2
  have h3:xI.length<=100:=aX h3
  have h5:s3.length<=100000000:=aX h5
  have main:=dh (E:=pI) (f:=34) (id:=7) (A:=Bytes) (xI) (fun a i=>{ fr:=[(1,.ptr 10000 0 0 0),(3,.str a),(23,.slc yR wS),(24,.int .i64 i24),(25,.int .i64 i25),(57,.slc yI xI),(58,.int .i64 xI.length),(59,.int .i64 i)],tab:=[(10000,.var (aB aA 0 cZ))] }) (fun a i=>a.length<=100000000+1571*i)
   (fun a rows K=>K (.exit 2) { fr:=[(1,.ptr 10000 0 0 0),(3,.str (a++N.ny ((rows).map aj.dec))),(23,.slc yR wS),(24,.int .i64 i24),(25,.int .i64 i25)],tab:=[(10000,.var (aB aA 0 cZ))] }) (fun a i ha hi=>?_) (fun a ha=>?_) (s3) 0 (Int.le_refl _) (by omega) (by show s3.length<=100000000+1571*0; omega) K q (by assumption)
  .exact main
  .have hq:=fun K=>KX (a) (wS) (i24) (i25) (xI) (xI.length) ((i:Int)) (cZ) K
   have t1:aZ (i:Int) xI.length=true:=dK (by omega)
   have t2:decide ((0:Int)<=i∧(i:Int)<xI.length)=true:=decide_eq_true (by omega)
   have t3:IntKind.wrap .i64 ((i:Int)+1)=(i:Int)+1:=dY (by omega) (by omega)
   have hs:=pV (show N.fH (aj.dec (xI.getD i [])).aQ=true from jF (p:=fun x:aG=>N.fH x.aQ) h6 hi)
   have hbl:=JE (show N.fH (aj.dec (xI.getD i [])).aQ=true from jF (p:=fun x:aG=>N.fH x.aQ) h6 hi)
   have hm:ak.dec (xI.getD i [])=(aj.dec (xI.getD i [])).aQ:=rfl
   have n7:V.toBool (List.getD (List.getD xI i []) 7 V.undef)=(aj.dec (xI.getD i [])).eF:=rfl
   have n8:V.toBool (List.getD (List.getD xI i []) 8 V.undef)=(aj.dec (xI.getD i [])).again:=rfl
   have hf:=YV (aj.dec (xI.getD i []))
   have hb:=tH hs.2.1
   have hrm:=CB hs.2.2.1 hs.2.1
   simp only [Int.toNat_natCast,hm,n7,n8] at hq
   simp only [t1,t2,t3,cond_true,hs.2.2.2,hrm] at hq
   refine .inl ⟨a++N.wK (aj.dec (xI.getD i [])),by rw [List.length_append]; omega,fun K=>?_,fun K=>?_⟩
   .rw [hq]
    unfold N.wK N.qp
    cases (aj.dec (xI.getD i [])).eF<;>cases (aj.dec (xI.getD i [])).again<;>(simp (disch:=omega) only [evs,cl1,fB,List.length_append,List.append_assoc]; try rfl)
   .show K _ { fr:=[(1,.ptr 10000 0 0 0),(3,.str (a++(N.wK (aj.dec (xI.getD i []))++N.ny ((xI.drop (i+1)).map aj.dec)))),(23,.slc yR wS),(24,.int .i64 i24),(25,.int .i64 i25)],tab:=[(10000,.var (aB aA 0 cZ))] }=_
    rw [List.append_assoc]
  .refine ⟨.exit 2,{ fr:=[(1,.ptr 10000 0 0 0),(3,.str (a++[])),(23,.slc yR wS),(24,.int .i64 i24),(25,.int .i64 i25)],tab:=[(10000,.var (aB aA 0 cZ))] },by simp,fun K=>?_,fun K=>rfl⟩
   rw [KX,List.append_nil]
   simp (disch:=omega) only [evs]
   try rfl
 .cases h
theorem QZ:dB pI 34 20:=by
 refine bf rfl fun l K q h=>?_
 unfold Qu at h
 split at h
 .rename_i s3 i9 s10 c80 i81
  replace h:=UG h;obtain ⟨h1,h3,h4,h5,h⟩:=h
  have e1:=aY h1
  have e3:=aY h3
  have e4:=List.eq_nil_of_length_eq_zero (jk h4)
  subst e1 e3 e4
  have main:=dh (E:=pI) (f:=34) (id:=20) (A:=Int × Bytes) ((bF c80 0)) (fun a i=>{ fr:=[(3,.str s3),(9,.int .i64 a.1),(10,.str a.2),(80,.agg (aB jD 0 c80)),(81,.int .i64 i)],tab:=[] }) (fun a i=>a.2.length<=26001*i∧0<=a.1∧a.1<=i)
   (fun a rows K=>K (.exit 4) { fr:=[(3,.str s3),(9,.int .i64 (a.1+N.jR ((rows).map bD.dec))),(10,.str (a.2++N.FD (16-((rows).length:Int)) ((rows).map bD.dec)))],tab:=[] }) (fun a i ha hi=>?_) (fun a ha=>?_) (((0,[]):Int × Bytes)) 0 (Int.le_refl _) (by omega) ⟨Nat.zero_le _,Int.le_refl _,Int.le_refl _⟩ K q (by assumption)
  .exact main
  .have hq:=fun K=>II (s3) (a.1) (a.2) (c80) ((i:Int)) K
   have hi:i<16:=hi
   have t1:aZ (i:Int) (16:Int)=true:=dK (by omega)
   have t2:decide ((0:Int)<=i∧(i:Int)<((16:Nat):Int))=true:=decide_eq_true (by omega)
   have t3:IntKind.wrap .i64 ((i:Int)+1)=(i:Int)+1:=dY (by omega) (by omega)
   have hg:fJ (bD.dec ((bF c80 0).getD i []))=true:=jF h5 hi
   have hbl:=JF hg
   have w:=kC (n:=(i:Int)) (by omega) (by omega)
   have hle:((((bF c80 0).getD i []::(bF c80 0).drop (i+1)).length:Nat):Int)=16-i:=by
    rw [List.length_cons,List.length_drop]
    show (((16-(i+1)+1:Nat)):Int)=_
    omega
   have hle2:((((bF c80 0).drop (i+1)).length:Nat):Int)=16-(i+1):=by
    rw [List.length_drop]
    show (((16-(i+1):Nat)):Int)=_
    omega
   have n0:V.toInt (List.getD (List.getD (bF c80 0) i []) 0 V.undef)=(bD.dec ((bF c80 0).getD i [])).total:=rfl
   have ha2:IntKind.wrap .i64 (a.1+1)=a.1+1:=dY (by omega) (by omega)
   simp only [Int.toNat_natCast,n0,w] at hq
   simp only [t1,t2,t3,cond_true,hg,ha2] at hq
   simp only [hle,hle2,List.map_cons,N.jR,N.FD,show (16:Int)-(16-i)=i from by omega,show (16:Int)-(16-(i+1))=i+1 from by omega]
   cases hc:aZ 0 (bD.dec ((bF c80 0).getD i [])).total with
   | true =>
    refine .inl ⟨(a.1+1,a.2++(N.bW i 1++N.mW (bD.dec ((bF c80 0).getD i [])))),⟨?_,by show 0<=a.1+1; omega,by show a.1+1<=((i+1:Nat):Int); omega⟩,fun K=>?_,fun K=>?_⟩
    .show (a.2++_).length<=_
     rw [List.length_append,List.length_append,fB]; omega
    .rw [hq,hc]
     simp (disch:=omega) only [evs,fk1,cl1,fB,List.length_append]
     simp only [List.append_assoc]
     try rfl
    .simp only [cond_true,Int.add_assoc,List.append_assoc]
   | false =>
    refine .inl ⟨a,⟨by omega,by omega,by omega⟩,fun K=>?_,fun K=>?_⟩
    .rw [hq,hc]
     try rfl
    .simp only [cond_false]
  .refine ⟨.exit 4,{ fr:=[(3,.str s3),(9,.int .i64 a.1),(10,.str a.2)],tab:=[] },by simp,fun K=>II s3 a.1 a.2 c80 16 K,fun K=>?_⟩
   show K _ { fr:=[(3,.str s3),(9,.int .i64 (a.1+0)),(10,.str (a.2++[]))],tab:=[] }=_
   rw [Int.add_zero,List.append_nil]
 .cases h
theorem ab3:bH Tryz.prog 34 Iq:=by
 refine aK (aT (((((fK.nil _).cons Vt).cons Ce).cons (Fg (tu 8))).cons (tu 8))) (E:=pI) Tryz.func34 [3,7,20] (by kernel_rfl) (ahv V8 V9 QZ) fun a b hp=>?_
 obtain ⟨h1,h2⟩:=aP (show nU a=true from hp)
 obtain ⟨h1,h3⟩:=aP h1
 obtain ⟨h4,h5⟩:=aP h2
 obtain ⟨n1,n2⟩:=P5 h5
 have h1':=aX h1
 have l1:=JI h3
 have l2:=Dj a.rises.list
 have l3:=VY 0 h4
 rw [dG.jE] at l2 l3
 have wl:IntKind.wrap .u64 (a.rows.length:Int)=a.rows.length:=kC (by omega) (by omega)
 have wm:IntKind.wrap .u64 (N.jR a.rises.list)=N.jR a.rises.list:=kC (by omega) (by omega)
 refine (agq a).trans ?_
 have e:(16:Int)-((16:Nat):Int)=0:=rfl
 simp only [bn,mg,List.length_map,wl,wm,beq_self_eq_true,h1,h3,h4,Int.zero_add,cond_true,fk8,fk1,cl8,cl1,e,List.nil_append]
 have b1:Nat.ble ((N.bW a.next 8++N.bW (a.rows.length:Int) 1++N.lQ a.rows).length+1) 9223372036854775807=true:=dN (by simp only [List.length_append,fB]; omega)
 have b2:Nat.ble ((N.bW a.next 8++N.bW (a.rows.length:Int) 1++N.lQ a.rows++N.bW (N.jR a.rises.list) 1).length+(N.FD 0 a.rises.list).length) 9223372036854775807=true:=dN (by simp only [List.length_append,fB]; omega)
 rw [dX n1,dK n2,dK (show (a.rows.length:Int)<18446744073709551616 by omega),dX l2.1,dK (show N.jR a.rises.list<18446744073709551616 by omega),b1,b2]
 try rfl
end Go.Ev

namespace Go.Ev
open Go Go.Proofs
set_option maxRecDepth 100000
-- FOLD2
open Classical in
noncomputable def Dk (s q:aF):Bool:=decide (gW s∧q=s)
open Classical in
theorem ZG {s q:aF} (h:Dk s q=true):gW s∧q=s:=of_decide_eq_true h
open Classical in
theorem ab4 {s:aF} (h:gW s):Dk s s=true:=decide_eq_true ⟨h,rfl⟩
theorem FK (s:aF):(⟨s.next,s.bytes,s.rows,⟨⟨s.rises.a0.total,s.rises.a0.kept⟩,⟨s.rises.a1.total,s.rises.a1.kept⟩,⟨s.rises.a2.total,s.rises.a2.kept⟩,⟨s.rises.a3.total,s.rises.a3.kept⟩,⟨s.rises.a4.total,s.rises.a4.kept⟩,⟨s.rises.a5.total,s.rises.a5.kept⟩,⟨s.rises.a6.total,s.rises.a6.kept⟩,⟨s.rises.a7.total,s.rises.a7.kept⟩,⟨s.rises.a8.total,s.rises.a8.kept⟩,⟨s.rises.a9.total,s.rises.a9.kept⟩,⟨s.rises.a10.total,s.rises.a10.kept⟩,⟨s.rises.a11.total,s.rises.a11.kept⟩,⟨s.rises.a12.total,s.rises.a12.kept⟩,⟨s.rises.Hu.total,s.rises.Hu.kept⟩,⟨s.rises.Hw.total,s.rises.Hw.kept⟩,⟨s.rises.Hy.total,s.rises.Hy.kept⟩⟩⟩:aF)=s:=rfl
theorem ZH {t:Int}:∀ {l:List dW} {n:Int},(∀ x∈l,tV n x)->N.gK t l=N.iy t l
 | [],_,_=>rfl
 | x::r,n,h=>by
  have hx:=h x List.mem_cons_self
  have hf:allM N.iJ x.line=true:=List.all_eq_true.2 fun y hy=>(Di (List.all_eq_true.1 hx.fine y hy)).1
  have e:N.KL x.line t=N.wH x.line t:=by
   unfold N.KL N.wH
   rw [YB x.line 0 hf]
  rw [wL,yH,e,ZH fun y hy=>h y (List.mem_cons_of_mem _ hy)]
theorem ab5 {l:List aG} (h:l.all dR=true) (k:Int):dA (N.lS l k).1=true:=by
 unfold N.lS
 cases aZ k 0 with
 | true=>rfl
 | false =>
  rcases Nat.lt_or_ge k.toNat l.length with hl | hl
  .exact (List.all_eq_true.1 h _ (getD_mem fA hl):dR (l.getD k.toNat fA)=true)
  .show dA (l.getD k.toNat fA).aQ=true
   rw [List.getD_eq_getElem?_getD,List.getElem?_eq_none hl]; rfl
theorem KY {t:Int}:∀ {l:List dW} {n:Int},(∀ x∈l,tV n x)->dA (N.iy t l).2.1=true
 | [],_,_=>rfl
 | x::r,n,h=>by
  rw [yH]
  cases (N.wH x.line t).2 with
  | true=>exact ab5 (h x List.mem_cons_self).line.small _
  | false=>exact KY fun y hy=>h y (List.mem_cons_of_mem _ hy)
noncomputable def aef:Den:=den (aO (bg au) (aO (bg au) (aO fV (aW (cu .u64))))) dw (oV iF) (fun a _=>Dk a.1 a.2.1) fun _ _=>(true,())
noncomputable def aeg:Env:=env Tryz.prog [(90,aku),(91,ad4),(92,adK),(93,CW),(30,alj),(29,PW),(25,qU),(21,PL),(94,Me)] [] []
theorem alm (s q:aF) (n:Bytes) (t:Int):type_of% (by
  have h:bM aeg 32 ((aO (bg au) (aO (bg au) (aO fV (aW (cu .u64))))).enc (s,q,n,t)) ([]) some =(
   let z7:=(ah.dec au (ah.enc au s));let z4:=(List.map (ah.dec aS) (List.map (ah.enc aS) s.rows));let z14:=(List.map (ah.enc ak) (List.map (ah.dec ak) (List.map (ah.enc ak) (aC.kept (dG.a0 s.rises)))));let z15:=(List.map (ah.enc ak) (List.map (ah.dec ak) (List.map (ah.enc ak) (aC.kept (dG.a1 s.rises)))));let z16:=(List.map (ah.enc ak) (List.map (ah.dec ak) (List.map (ah.enc ak) (aC.kept (dG.a2 s.rises)))));let z17:=(List.map (ah.enc ak) (List.map (ah.dec ak) (List.map (ah.enc ak) (aC.kept (dG.a3 s.rises)))));let z18:=(List.map (ah.enc ak) (List.map (ah.dec ak) (List.map (ah.enc ak) (aC.kept (dG.a4 s.rises)))));let z19:=(List.map (ah.enc ak) (List.map (ah.dec ak) (List.map (ah.enc ak) (aC.kept (dG.a5 s.rises)))));let z20:=(List.map (ah.enc ak) (List.map (ah.dec ak) (List.map (ah.enc ak) (aC.kept (dG.a6 s.rises)))));let z21:=(List.map (ah.enc ak) (List.map (ah.dec ak) (List.map (ah.enc ak) (aC.kept (dG.a7 s.rises)))));let z22:=(List.map (ah.enc ak) (List.map (ah.dec ak) (List.map (ah.enc ak) (aC.kept (dG.a8 s.rises)))));let z23:=(List.map (ah.enc ak) (List.map (ah.dec ak) (List.map (ah.enc ak) (aC.kept (dG.a9 s.rises)))));let z8:=(List.map (ah.enc ak) (List.map (ah.dec ak) (List.map (ah.enc ak) (aC.kept (dG.a10 s.rises)))));let z9:=(List.map (ah.enc ak) (List.map (ah.dec ak) (List.map (ah.enc ak) (aC.kept (dG.a11 s.rises)))));let z10:=(List.map (ah.enc ak) (List.map (ah.dec ak) (List.map (ah.enc ak) (aC.kept (dG.a12 s.rises)))));let z11:=(List.map (ah.enc ak) (List.map (ah.dec ak) (List.map (ah.enc ak) (aC.kept (dG.Hu s.rises)))));let z12:=(List.map (ah.enc ak) (List.map (ah.dec ak) (List.map (ah.enc ak) (aC.kept (dG.Hw s.rises)))));let z13:=(List.map (ah.enc ak) (List.map (ah.dec ak) (List.map (ah.enc ak) (aC.kept (dG.Hy s.rises)))));let z3:=(ah.dec au (ah.enc au q));let z24:=(List.map (ah.enc aS) q.rows);let z6:=(List.map (ah.dec aS) z24);let z25:=(ah.dec ak (ah.enc ak (Prod.fst (Prod.snd (N.iy t z4)))));let z5:=(some {v:=.bool false,bx:=[]:aH});let z0:=(cond (zF z7) (cond (bif jG {next:=aF.next s,bytes:=aF.bytes s,rows:=List.map (ah.dec aS) (List.map (ah.enc aS) z4),rises:={a0:={total:=aC.total (dG.a0 s.rises),kept:=List.map (ah.dec ak) z14:aC},a1:={total:=aC.total (dG.a1 s.rises),kept:=List.map (ah.dec ak) z15:aC},a2:={total:=aC.total (dG.a2 s.rises),kept:=List.map (ah.dec ak) z16:aC},a3:={total:=aC.total (dG.a3 s.rises),kept:=List.map (ah.dec ak) z17:aC},a4:={total:=aC.total (dG.a4 s.rises),kept:=List.map (ah.dec ak) z18:aC},a5:={total:=aC.total (dG.a5 s.rises),kept:=List.map (ah.dec ak) z19:aC},a6:={total:=aC.total (dG.a6 s.rises),kept:=List.map (ah.dec ak) z20:aC},a7:={total:=aC.total (dG.a7 s.rises),kept:=List.map (ah.dec ak) z21:aC},a8:={total:=aC.total (dG.a8 s.rises),kept:=List.map (ah.dec ak) z22:aC},a9:={total:=aC.total (dG.a9 s.rises),kept:=List.map (ah.dec ak) z23:aC},a10:={total:=aC.total (dG.a10 s.rises),kept:=List.map (ah.dec ak) z8:aC},a11:={total:=aC.total (dG.a11 s.rises),kept:=List.map (ah.dec ak) z9:aC},a12:={total:=aC.total (dG.a12 s.rises),kept:=List.map (ah.dec ak) z10:aC},Hu:={total:=aC.total (dG.Hu s.rises),kept:=List.map (ah.dec ak) z11:aC},Hw:={total:=aC.total (dG.Hw s.rises),kept:=List.map (ah.dec ak) z12:aC},Hy:={total:=aC.total (dG.Hy s.rises),kept:=List.map (ah.dec ak) z13:aC}:dG aC}:aF} then jG z3 else false) (cond (N.AP {next:=aF.next s,bytes:=aF.bytes s,rows:=List.map (ah.dec aS) (List.map (ah.enc aS) z4),rises:={a0:={total:=aC.total (dG.a0 s.rises),kept:=List.map (ah.dec ak) z14:aC},a1:={total:=aC.total (dG.a1 s.rises),kept:=List.map (ah.dec ak) z15:aC},a2:={total:=aC.total (dG.a2 s.rises),kept:=List.map (ah.dec ak) z16:aC},a3:={total:=aC.total (dG.a3 s.rises),kept:=List.map (ah.dec ak) z17:aC},a4:={total:=aC.total (dG.a4 s.rises),kept:=List.map (ah.dec ak) z18:aC},a5:={total:=aC.total (dG.a5 s.rises),kept:=List.map (ah.dec ak) z19:aC},a6:={total:=aC.total (dG.a6 s.rises),kept:=List.map (ah.dec ak) z20:aC},a7:={total:=aC.total (dG.a7 s.rises),kept:=List.map (ah.dec ak) z21:aC},a8:={total:=aC.total (dG.a8 s.rises),kept:=List.map (ah.dec ak) z22:aC},a9:={total:=aC.total (dG.a9 s.rises),kept:=List.map (ah.dec ak) z23:aC},a10:={total:=aC.total (dG.a10 s.rises),kept:=List.map (ah.dec ak) z8:aC},a11:={total:=aC.total (dG.a11 s.rises),kept:=List.map (ah.dec ak) z9:aC},a12:={total:=aC.total (dG.a12 s.rises),kept:=List.map (ah.dec ak) z10:aC},Hu:={total:=aC.total (dG.Hu s.rises),kept:=List.map (ah.dec ak) z11:aC},Hw:={total:=aC.total (dG.Hw s.rises),kept:=List.map (ah.dec ak) z12:aC},Hy:={total:=aC.total (dG.Hy s.rises),kept:=List.map (ah.dec ak) z13:aC}:dG aC}:aF} z3) (cond (Prod.fst (N.iy t z4)==Prod.fst (N.gK t z6)) (cond (dA z25) (cond (N.iP z25 (ah.dec ak (ah.enc ak (Prod.fst (Prod.snd (N.gK t z6)))))) (cond (Prod.snd (Prod.snd (N.iy t z4))==Prod.snd (Prod.snd (N.gK t z6))) (cond (jG z7) (cond (qw z3) (some {v:=.bool (N.jv z7==N.jv z3),bx:=[]:aH}) none) none) z5) z5) none) z5) z5) none) none);let z1:=(List.getD z24 (Int.toNat (N.bP z3 n)) []);let z2:=(N.JA z7 n);cond (eY z7) (cond (eY z3) (cond (Nat.ble (List.length z4) 100) (cond (Nat.ble (List.length z6) 100) (cond (!Prod.snd z2==bU 0 (N.bP z3 n)) z5 (cond z2.2 (cond (decide (0<=N.bP z3 n∧N.bP z3 n<(↑(List.length z24):Int))) (cond (!(dZ.name z2.1==V.toStr (z1.getD 0 .undef) && (dZ.most z2.1==V.toInt (z1.getD 1 .undef) && (dZ.life z2.1==V.toInt (z1.getD 2 .undef) && (dZ.dead z2.1==V.toStr (z1.getD 3 .undef) && true))))) z5 z0) none) z0)) none) none) none) none):=by kernel_rfl
  dsimp only at h;exact h):=by kernel_rfl
theorem agr (hN:bH Tryz.prog 95 fZ):bH Tryz.prog 32 aef:=by
 refine aK (aT ((((((((((fK.nil _).cons JH).cons (Ie hN)).cons rQ).cons Ui).cons (Qr hN)).cons tJ).cons afD).cons afW).cons akx)) (E:=aeg) Tryz.func32 [] (by kernel_rfl) (none0) fun a b hp=>?_
 obtain ⟨s,q,n,t⟩:=a
 obtain ⟨h,e⟩:=ZG (show Dk s q=true from hp)
 subst e
 have gr:=h.eY
 have gi:=Qp h
 have gs:=h.jG
 have gf:qw q=true:=(aP h.qx).1
 have gl:Nat.ble q.rows.length 100=true:=(aP gr).1
 have hl:=ZH (t:=t) h.row
 have hm:=KY (t:=t) h.row
 refine (alm q q n t).trans ?_
 simp only [au.de,ak.de,bn,List.length_map,FK,gr,gi,gs,gf,gl,hl,hm,cond_true,FI,uj,beq_self_eq_true]
 show _=some (⟨.bool true,[],[]⟩:aH)
 unfold N.JA
 cases h1:aZ (N.bP q n) 0 with
 | true =>
  have h2:bU 0 (N.bP q n)=false:=by unfold aZ at h1; simpa using h1
  rw [h2]
  try rfl
 | false =>
  obtain ⟨k1,k2,k3,k4⟩:=mD (oH h1)
  have h2:bU 0 (N.bP q n)=true:=dX k1
  have h3:decide (0<=N.bP q n∧N.bP q n<(q.rows.length:Int))=true:=decide_eq_true ⟨k1,k2⟩
  have e:List.getD (List.map aS.enc q.rows) (N.bP q n).toNat []=aS.enc (N.dn q (N.bP q n)):=lX aS q.rows _ row0 k4
  rw [h2,h3,e]
  have eq:(N.dn q (N.bP q n)).q=(N.dn q (N.bP q n)).q:=rfl
  show cond (!true==true) _ (cond true (cond true (cond (!((N.dn q (N.bP q n)).q.name==(N.dn q (N.bP q n)).q.name && ((N.dn q (N.bP q n)).q.most==(N.dn q (N.bP q n)).q.most && ((N.dn q (N.bP q n)).q.life==(N.dn q (N.bP q n)).q.life && ((N.dn q (N.bP q n)).q.dead==(N.dn q (N.bP q n)).q.dead && true))))) _ _) _) _)=_
  simp only [beq_self_eq_true]
  try rfl
end Go.Ev

namespace Go.Ev
open Go Go.Proofs
set_option maxRecDepth 100000
-- FOLD2
def N.wide (s:aF):aF:=⟨s.next,9223372036854775807,s.rows,s.rises⟩
open Classical in
noncomputable def Dl (s:aF):Bool:=decide (gW (N.wide s))
open Classical in
theorem ZI {s:aF} (h:Dl s=true):gW (N.wide s):=of_decide_eq_true h
open Classical in
theorem ab6 {s:aF} (h:gW (N.wide s)):Dl s=true:=decide_eq_true h
noncomputable def ZJ:Den:=den (aO (bg au) (aW (nY 0))) (nC IW) (oV (bg au)) (fun a _=>Dl a.1) fun a i=>N.oh a.1 i
theorem KZ (nx:Int):∀ (k:Nat) (i:eH) (acc:List aG),(N.gV nx k i acc).1.length<=acc.length+k
 | 0,_,_=>Nat.le_refl _
 | k+1,i,acc=>by
  unfold N.gV
  cases i.err==0 with
  | true =>
   have h:=KZ nx k (N.kM nx i).2 (acc++[(N.kM nx i).1])
   rw [List.length_append,List.length_singleton] at h
   show (N.gV nx k (N.kM nx i).2 (acc++[(N.kM nx i).1])).1.length<=_
   omega
  | false=>show acc.length<=_; omega
theorem yO (nx:Int):∀ (k:Nat) (i:eH) (acc:List aG),acc.all dR=true->(N.gV nx k i acc).1.all dR=true
 | 0,_,_,h=>h
 | k+1,i,acc,h=>by
  unfold N.gV
  cases i.err==0 with
  | true=>exact yO nx k _ _ (by rw [List.all_append,h,List.all_cons,show dR (N.kM nx i).1=true from CO _]; rfl)
  | false=>exact h
theorem nK {z:eH} {c:Int} (h:(N.bV z c).err=0):z.err=0∧c=0:=by
 by_cases hz:z.err=0
 .refine ⟨hz,Classical.byContradiction fun hc=>?_⟩
  unfold N.bV at h
  rw [hz,Xk hc] at h
  exact hc h
 .exact absurd (by rw [aaE hz] at h; exact h) hz
theorem aln {s:aF} {q:dZ} (h:(N.gy s q).2=0):0<(N.gy s q).1.rows.length:=by
 revert h
 unfold N.gy
 cases hc:N.jq q != 0 with
 | true=>intro h; have h:N.jq q=0:=h; rw [h] at hc; cases hc
 | false =>
  cases ha:bU 0 (N.bP s q.name) with
  | true =>
   cases N.YF (N.dn s (N.bP s q.name)).q q with
   | true =>
    intro _
    obtain ⟨_,_,_,g4⟩:=mD ha
    show 0<s.rows.length
    omega
   | false=>intro h; cases h
  | false =>
   cases bU 8 (s.rows.length:Int) with
   | true=>intro h; cases h
   | false =>
    intro _
    show 0<(s.rows++[_]).length
    rw [List.length_append,List.length_singleton]; omega
theorem alo (s:aF) (q:dZ):(N.gy s q).1.rows.length<=s.rows.length+1:=by
 unfold N.gy
 cases N.jq q != 0<;>cases bU 0 (N.bP s q.name)<;>cases N.YF (N.dn s (N.bP s q.name)).q q<;>cases bU 8 (s.rows.length:Int)<;>first | exact Nat.le_succ _ | (show (s.rows++[_]).length<=_; rw [List.length_append,List.length_singleton]; exact Nat.le_refl _)
def ZK:fP:={ fr:=[(1,.ptr 0 0 0),(2,.ptr 10000 0 0),(4,.ptr 10001 0 0),(5,.ptr 10002 0 0),(6,.own 10003),(7,.int .u64)],tab:=[(0,.var [.str,.int .i64]),(10000,.row [] aA),(10001,.row [] aA),(10002,.row [] nT),(10003,.sl yI)] }
def Ul:List Leaf->(Ex->St->Option R)->Option R
 | [.i i7,.s Ae,.i Ee,.c cZ,.c iT,.c La,.r rx3],K=>cond (bU 0 i7) (cond (bU i7 255) (cond (Nat.beq rx3.length 0) (K (.exit 0) { fr:=[(1,.ptr 0 0 0 0),(2,.ptr 10000 0 0 0),(4,.ptr 10001 0 0 0),(5,.ptr 10002 0 0 0),(6,.own 10003 0)],tab:=[(0,.var [.str (N.gV (au.dec cZ).next i7.toNat ⟨Ae,Ee⟩ []).2.s,.int .i64 (N.gV (au.dec cZ).next i7.toNat ⟨Ae,Ee⟩ []).2.err]),(10000,.var (aB aA 0 cZ)),(10001,.var (aB aA 0 iT)),(10002,.var (aB nT 0 La)),(10003,.sl yI ((N.gV (au.dec cZ).next i7.toNat ⟨Ae,Ee⟩ []).1.map aj.enc) 0)] }) none) none) none
 | _,_=>none
noncomputable def zG:Env:={ env Tryz.prog [(147,LW),(74,U3),(75,EW),(148,Jp),(78,Gz),(149,arS),(15,adl),(40,CW),(11,JB),(50,FB)] [(5,dJ ZK Ul)] [(5,[(0,[1,2,4,5,6,7]),(1,[1,2,4,5,6]),(1000,[4])])] with fz:=true }
theorem ab7 (s:aF) (i:eH):type_of% (by
  have h:bM zG 76 ((aO (bg au) (aW (nY 0))).enc (s,())) ((nC IW).enc i) some =(
   let z11:=(N.aN (Prod.snd (N.cO i 16)) 8);let z12:=(N.cO (Prod.snd (N.aN z11.2 8)) 16);let z5:=(Prod.fst (N.aN z12.2 1));let z0:=(N.gV s.next (Int.toNat z5) (Prod.snd (N.aN z12.2 1)) []);let z1:=(N.gy (ah.dec au (ah.enc au s)) {name:=Prod.fst (N.cO i 16),most:=Prod.fst z11,life:=Prod.fst (N.aN z11.2 8),dead:=Prod.fst z12:dZ});let z7:=(Nat.ble (List.length (List.map (ah.dec aS) (List.map (ah.enc aS) s.rows))) 100);let z4:=(List.map (ah.dec aj) (List.map (ah.enc aj) z0.1));let z10:=(N.bV (N.bV (N.bV z0.2 (Prod.snd (N.yS [] z4))) 4) z1.2);let z9:=(ah.enc au z1.1);let z6:=(IntKind.wrap .i64 ((↑(List.length (List.map (ah.enc aS) (aF.rows z1.1))):Int)-1));let z8:=(List.map (ah.dec aj) (List.map (ah.enc aj) (Prod.fst (N.yS [] z4))));let z2:=(cond z7 (cond (eH.err z10==0) (cond (ni (ah.dec au z9) z6) (some {v:=.agg (ah.enc au (N.iH (ah.dec au z9) z6 z8)),bx:=[[V.str z10.s,.int .i64 z10.err]]:aH}) none) (some {v:=.agg z9,bx:=[[V.str z10.s,.int .i64 z10.err]]:aH})) none);let z3:=(N.bV (N.bV z0.2 (Prod.snd (N.yS [] z4))) z1.2);cond (bU 0 z5) (cond (bU z5 255) (cond (bif Nat.ble (List.length z4) 300 then List.all z4 dR else false) (cond (aZ z11.1 (IntKind.wrap .u64 (↑(List.length z8):Int))) z2 (cond z7 (cond (bU 0 (N.bP (ah.dec au (ah.enc au s)) (Prod.fst (N.cO i 16)))) z2 (cond z7 (cond (eH.err z3==0) (cond (ni (ah.dec au z9) z6) (some {v:=.agg (ah.enc au (N.iH (ah.dec au z9) z6 z8)),bx:=[[V.str z3.s,.int .i64 z3.err]]:aH}) none) (some {v:=.agg z9,bx:=[[V.str z3.s,.int .i64 z3.err]]:aH})) none)) none)) none) none) none):=by kernel_rfl
  dsimp only at h;exact h):=by kernel_rfl
theorem ZL (i7:Int) (Ae:Bytes) (Ee:Int) (cZ:List V) (iT:List V) (La:List V) (rx3:List (List V)) (K:Ex->St->Option R):type_of% (by
  have h:bI zG 76 5 { fr:=[(1,.ptr 0 0 0 0),(2,.ptr 10000 0 0 0),(4,.ptr 10001 0 0 0),(5,.ptr 10002 0 0 0),(6,.own 10003 0),(7,.int .u64 i7)],tab:=[(0,.var [.str Ae,.int .i64 Ee]),(10000,.var (aB aA 0 cZ)),(10001,.var (aB aA 0 iT)),(10002,.var (aB nT 0 La)),(10003,.sl yI rx3 0)] } K =(
   let z5:=(N.aN {s:=Ae,err:=Ee:eH} 1);let z4:=(N.dL z5.2);let z0:=(rx3++[[V.int .u64 (ay.id z4.1),.str (ay.bT z4.1),.str (ay.key z4.1),.slc yP (List.map yE (ay.head z4.1)),.str (ay.body z4.1),.int .u64 (ay.due z4.1),.int .u8 (ay.hops z4.1),.bool (Int.tmod z5.1 (2 : Int)==1),.bool (IntKind.wrap .u64 (Int.tdiv z5.1 2)==1)]]);let z6:=(decide ((List.length rx3+1)*104<=140737488355328));let z1:=(cond z6 (K .normal {fr:=[(1,.ptr 0 0 0 0),(2,.ptr 10000 0 0 0),(4,.ptr 10001 0 0 0),(5,.ptr 10002 0 0 0),(6,.own 10003 0),(7,.int .u64 (IntKind.wrap .u64 (i7-1)))],tab:=[(0,.var [V.str (eH.s (N.bV z4.2 4)),.int .i64 (eH.err (N.bV z4.2 4))]),(10000,.var (aB aA 0 cZ)),(10001,.var (aB aA 0 iT)),(10002,.var (aB nT 0 La)),(10003,.sl yI z0 0)]:St}) none);let z2:=(cond z6 (K .normal {fr:=[(1,.ptr 0 0 0 0),(2,.ptr 10000 0 0 0),(4,.ptr 10001 0 0 0),(5,.ptr 10002 0 0 0),(6,.own 10003 0),(7,.int .u64 (IntKind.wrap .u64 (i7-1)))],tab:=[(0,.var [V.str (eH.s z4.2),.int .i64 (eH.err z4.2)]),(10000,.var (aB aA 0 cZ)),(10001,.var (aB aA 0 iT)),(10002,.var (aB nT 0 La)),(10003,.sl yI z0 0)]:St}) none);let z3:=(K (.exit 0) {fr:=[(1,.ptr 0 0 0 0),(2,.ptr 10000 0 0 0),(4,.ptr 10001 0 0 0),(5,.ptr 10002 0 0 0),(6,.own 10003 0)],tab:=[(0,.var [V.str Ae,.int .i64 Ee]),(10000,.var (aB aA 0 cZ)),(10001,.var (aB aA 0 iT)),(10002,.var (aB nT 0 La)),(10003,.sl yI rx3 0)]:St});cond (aZ 0 i7) (cond (Ee==0) (cond (aZ 3 z5.1) z1 (cond (V.toInt (cZ.getD 0 .undef) != 0) (cond (bU (V.toInt (cZ.getD 0 .undef)) (ay.id z4.1)) z1 z2) z2)) z3) z3):=by kernel_rfl
  dsimp only at h;exact h):=by kernel_rfl
theorem Q5:dB zG 76 5:=by
 refine bf rfl fun l K q h=>?_
 unfold Ul at h
 split at h
 .rename_i i7 Ae Ee cZ iT La rx3
  replace h:=Lm h;obtain ⟨h1,h2,h4,h⟩:=h
  have e4:=List.eq_nil_of_length_eq_zero (jk h4)
  subst e4
  have h1:=bQ h1
  have h2:=bQ h2
  obtain ⟨n,rfl⟩:=Int.eq_ofNat_of_zero_le h1
  have main:=dD (E:=zG) (f:=76) (id:=5) (σ:=Nat × eH × List aG) (fun x=>{ fr:=[(1,.ptr 0 0 0 0),(2,.ptr 10000 0 0 0),(4,.ptr 10001 0 0 0),(5,.ptr 10002 0 0 0),(6,.own 10003 0),(7,.int .u64 (x.1:Int))],tab:=[(0,.var [.str x.2.1.s,.int .i64 x.2.1.err]),(10000,.var (aB aA 0 cZ)),(10001,.var (aB aA 0 iT)),(10002,.var (aB nT 0 La)),(10003,.sl yI (x.2.2.map aj.enc) 0)] })
   (fun x=>x.2.2.length+x.1<=255) (fun x=>x.1) (fun x K=>K (.exit 0) { fr:=[(1,.ptr 0 0 0 0),(2,.ptr 10000 0 0 0),(4,.ptr 10001 0 0 0),(5,.ptr 10002 0 0 0),(6,.own 10003 0)],tab:=[(0,.var [.str (N.gV (au.dec cZ).next x.1 x.2.1 x.2.2).2.s,.int .i64 (N.gV (au.dec cZ).next x.1 x.2.1 x.2.2).2.err]),(10000,.var (aB aA 0 cZ)),(10001,.var (aB aA 0 iT)),(10002,.var (aB nT 0 La)),(10003,.sl yI ((N.gV (au.dec cZ).next x.1 x.2.1 x.2.2).1.map aj.enc) 0)] }) (fun x hx=>?_) (n,⟨Ae,Ee⟩,[]) (by show 0+n<=255; omega) K q h
  .exact main
  .obtain ⟨n,i,acc⟩:=x
   have hx:acc.length+n<=255:=hx
   have hn:=fun K=>ZL (n:Int) i.s i.err cZ iT La (acc.map aj.enc) K
   have ei:(⟨i.s,i.err⟩:eH)=i:=rfl
   have enx:V.toInt (List.getD cZ 0 V.undef)=(au.dec cZ).next:=rfl
   rw [ei,enx] at hn
   cases n with
   | zero =>
    refine .inr ⟨.exit 0,{ fr:=[(1,.ptr 0 0 0 0),(2,.ptr 10000 0 0 0),(4,.ptr 10001 0 0 0),(5,.ptr 10002 0 0 0),(6,.own 10003 0)],tab:=[(0,.var [.str ((acc,i):List aG × eH).2.s,.int .i64 ((acc,i):List aG × eH).2.err]),(10000,.var (aB aA 0 cZ)),(10001,.var (aB aA 0 iT)),(10002,.var (aB nT 0 La)),(10003,.sl yI (((acc,i):List aG × eH).1.map aj.enc) 0)] },by simp,fun K=>?_,fun K=>rfl⟩
    exact hn K
   | succ k =>
    have t1:aZ (0:Int) ((k+1:Nat):Int)=true:=dK (by omega)
    have t2:IntKind.wrap .u64 (((k+1:Nat):Int)-1)=(k:Int):=by rw [kC (by omega) (by omega)]; omega
    have t3:decide (((acc.map aj.enc).length+1)*104<=140737488355328)=true:=decide_eq_true (by rw [List.length_map]; omega)
    simp only [t1,t2,t3,cond_true] at hn
    have er:N.gV (au.dec cZ).next (k+1) i acc=cond (i.err==0) (N.gV (au.dec cZ).next k (N.kM (au.dec cZ).next i).2 (acc++[(N.kM (au.dec cZ).next i).1])) (acc,i):=rfl
    cases he:i.err==0 with
    | true =>
     refine .inl ⟨(k,(N.kM (au.dec cZ).next i).2,acc++[(N.kM (au.dec cZ).next i).1]),by simp only [List.length_append,List.length_singleton]; omega,by simp only; omega,fun K=>?_,fun K=>?_⟩
     .refine (hn K).trans ?_
      rw [he]
      simp only [List.map_append]
      unfold N.kM N.Az
      cases aZ 3 (N.aN i 1).1<;>cases (au.dec cZ).next != 0<;>cases bU (au.dec cZ).next (N.dL (N.aN i 1).2).1.id<;>rfl
     .simp only [er,he,cond_true]
    | false =>
     refine .inr ⟨.exit 0,{ fr:=[(1,.ptr 0 0 0 0),(2,.ptr 10000 0 0 0),(4,.ptr 10001 0 0 0),(5,.ptr 10002 0 0 0),(6,.own 10003 0)],tab:=[(0,.var [.str ((acc,i):List aG × eH).2.s,.int .i64 ((acc,i):List aG × eH).2.err]),(10000,.var (aB aA 0 cZ)),(10001,.var (aB aA 0 iT)),(10002,.var (aB nT 0 La)),(10003,.sl yI (((acc,i):List aG × eH).1.map aj.enc) 0)] },by simp,fun K=>?_,fun K=>?_⟩
     .refine (hn K).trans ?_
      rw [he]; rfl
     .simp only [er,he,cond_false]
 .cases h
theorem ZM:bH Tryz.prog 76 ZJ:=by
 refine aK (aT (((((((((((fK.nil _).cons zy).cons PG).cons Am).cons Vz).cons aqc).cons xG).cons Kr).cons zi).cons BQ).cons Js)) (E:=zG) Tryz.func76 [5] (by kernel_rfl) (one1 Q5) fun a b hp=>?_
 obtain ⟨s,u⟩:=a
 have h:=ZI (show Dl s=true from hp)
 have hfew:s.rows.length<=8:=h.few
 refine (ab7 s b).trans ?_
 have hN:=BX (N.cO (N.aN (N.aN (N.cO b 16).2 8).2 8).2 16).2
 have er:N.oh s b=N.Zp s ⟨(N.cO b 16).1,(N.aN (N.cO b 16).2 8).1,(N.aN (N.aN (N.cO b 16).2 8).2 8).1,(N.cO (N.aN (N.aN (N.cO b 16).2 8).2 8).2 16).1⟩
  (N.gV s.next (N.aN (N.cO (N.aN (N.aN (N.cO b 16).2 8).2 8).2 16).2 1).1.toNat (N.aN (N.cO (N.aN (N.aN (N.cO b 16).2 8).2 8).2 16).2 1).2 []):=rfl
 show _=some (⟨.agg (au.enc (N.oh s b).1),[[.str (N.oh s b).2.s,.int .i64 (N.oh s b).2.err]],[]⟩:aH)
 rw [er]
 have hw1:=KZ s.next (N.aN (N.cO (N.aN (N.aN (N.cO b 16).2 8).2 8).2 16).2 1).1.toNat (N.aN (N.cO (N.aN (N.aN (N.cO b 16).2 8).2 8).2 16).2 1).2 []
 have hw2:=yO s.next (N.aN (N.cO (N.aN (N.aN (N.cO b 16).2 8).2 8).2 16).2 1).1.toNat (N.aN (N.cO (N.aN (N.aN (N.cO b 16).2 8).2 8).2 16).2 1).2 [] rfl
 generalize N.cO b 16=x1 at *
 generalize N.aN x1.2 8=x2 at *
 generalize N.aN x2.2 8=x3 at *
 generalize N.cO x3.2 16=x4 at *
 generalize N.aN x4.2 1=x5 at *
 generalize N.gV s.next x5.1.toNat x5.2 []=w at *
 rw [dX hN.1,dX (show x5.1<=255 by omega)]
 have hl:=(OV w.1 [] ac8 hw2).few
 have hw3:Nat.ble w.1.length 300=true:=dN (by simp only [List.length_nil] at hw1; omega)
 simp only [au.de,bn,hw3,hw2,cond_true,FK]
 unfold N.Zp
 generalize N.yS [] w.1=l at *
 have wl:IntKind.wrap .u64 ((l.1.length:Nat):Int)=l.1.length:=kC (by omega) (by omega)
 have g1:Nat.ble s.rows.length 100=true:=dN (by omega)
 simp only [wl,g1,List.length_map,cond_true]
 generalize hq:(⟨x1.1,x2.1,x3.1,x4.1⟩:dZ)=q at *
 have q1:q.most=x2.1:=by rw [<- hq]
 have q2:q.name=x1.1:=by rw [<- hq]
 rw [<- q1,<- q2]
 have fin:∀ z:eH,cond ((N.bV z (N.gy s q).2).err==0) (cond (ni (N.gy s q).1 (IntKind.wrap .i64 (((N.gy s q).1.rows.length:Nat)-1)))
   (some (⟨.agg (au.enc (N.iH (N.gy s q).1 (IntKind.wrap .i64 (((N.gy s q).1.rows.length:Nat)-1)) l.1)),[[.str (N.bV z (N.gy s q).2).s,.int .i64 (N.bV z (N.gy s q).2).err]],[]⟩:aH)) none)
   (some (⟨.agg (au.enc (N.gy s q).1),[[.str (N.bV z (N.gy s q).2).s,.int .i64 (N.bV z (N.gy s q).2).err]],[]⟩:aH)) =
   some (⟨.agg (au.enc (N.zD s q l.1 z).1),[[.str (N.zD s q l.1 z).2.s,.int .i64 (N.zD s q l.1 z).2.err]],[]⟩:aH):=fun z=>by
  unfold N.zD
  cases hc:(N.bV z (N.gy s q).2).err==0 with
  | false=>rfl
  | true =>
   have hm:=aln (nK (aY hc)).2
   have hm2:(N.gy s q).1.rows.length<=9:=by
    have:=alo s q
    omega
   rw [dY (by omega) (by omega)]
   have gw:ni (N.gy s q).1 (((N.gy s q).1.rows.length:Nat)-1)=true:=by
    unfold ni pW
    rw [dN (by omega),dX (by omega),dK (by omega)]; rfl
   rw [gw]; rfl
 unfold N.vk
 cases aZ q.most (l.1.length:Int) with
 | true=>exact fin _
 | false=>cases bU 0 (N.bP s q.name)<;>exact fin _
end Go.Ev

namespace Go.Ev
open Go Go.Proofs
set_option maxRecDepth 100000
theorem aeh {i:eH} (h:(N.dL i).2.err=0):N.fH (N.dL i).1=true:=by
 refine aiI (QN i) ?_
 revert h
 unfold N.dL
 simp only
 unfold N.DR
 generalize (⟨_,_,_,_,_,_,_⟩:ay)=m
 generalize (N.aN (N.aN _ 8).2 1).2=j
 intro h
 by_cases hj:j.err=0
 .rw [hj] at h ⊢
  have h:(cond ((N.bV j (N.aV m)).err != 0) (gJ,N.bV j (N.aV m)) (m,N.bV j (N.aV m)):ay × eH).2.err=0:=h
  have h0:(N.bV j (N.aV m)).err=0:=by
   cases hc:(N.bV j (N.aV m)).err != 0 with
   | true=>rw [hc] at h; exact h
   | false=>simpa using hc
  show N.aV (cond ((N.bV j (N.aV m)).err != 0) (gJ,N.bV j (N.aV m)) (m,N.bV j (N.aV m)):ay × eH).1=0
  rw [Xl h0]
  exact (nK h0).2
 .rw [AO hj,cond_false,Xk hj] at h
  exact absurd h hj
theorem aoM:∀ (k:Nat) (i:eH) (acc:List ay),acc.all N.fH=true->(N.fC k i acc).2.err=0->(N.fC k i acc).1.all N.fH=true
 | 0,_,_,h,_=>h
 | k+1,i,acc,h,he=>by
  have e:N.fC (k+1) i acc=cond (i.err==0) (N.fC k (N.dL i).2 (acc++[(N.dL i).1])) (acc,i):=rfl
  rw [e] at he ⊢
  cases hc:i.err==0 with
  | false=>exact h
  | true =>
   rw [hc] at he
   have he:(N.fC k (N.dL i).2 (acc++[(N.dL i).1])).2.err=0:=he
   have hm:(N.dL i).2.err=0:=Classical.byContradiction fun hn=>aa6 k _ _ hn he
   exact aoM k _ _ (by rw [List.all_append,h,List.all_cons,aeh hm]; rfl) he
theorem aei (i:eH):fJ (N.iw i).1=true∧N.KQ (N.iw i).1=true:=by
 have hN:=BX (N.aN i 8).2
 have hT:=Jv i
 have hN:0<=(N.Ef i).1∧(N.Ef i).1<256:=hN
 have hs:=aiH CO (N.Ef i).1.toNat (N.QM i) [] rfl
 have hl:=aiG (N.Ef i).1.toNat (N.QM i) []
 have he:=aa6 (N.Ef i).1.toNat (N.QM i) []
 have hk:=aoM (N.Ef i).1.toNat (N.QM i) [] rfl
 show fJ (N.rrE (N.aN i 8).1 (N.fC (N.Ef i).1.toNat (N.QM i) [])).1=true∧N.KQ (N.rrE (N.aN i 8).1 (N.fC (N.Ef i).1.toNat (N.QM i) [])).1=true
 unfold N.rrE
 cases hc:(N.fC (N.Ef i).1.toNat (N.QM i) []).2.err != 0 with
 | true=>exact ⟨rfl,rfl⟩
 | false =>
  have hz:(N.fC (N.Ef i).1.toNat (N.QM i) []).2.err=0:=by simpa using hc
  have hl:=hl hz
  have hk:=hk hz
  have hi:(N.QM i).err=0:=Classical.byContradiction fun e=>he e hz
  have hlen:(N.Ef i).1<=16∧(N.Ef i).1=cond (aZ 16 (N.aN i 8).1) 16 (N.aN i 8).1:=by
   revert hi
   unfold N.QM
   cases h0:(N.Ef i).2.err != 0 with
   | true =>
    intro hi
    rw [show (N.Ef i).2.err=0 from hi] at h0
    cases h0
   | false =>
    cases h1:aZ 16 (N.Ef i).1 with
    | true=>intro hi; exact absurd (nK hi).2 (by decide)
    | false =>
     have h1:=fD h1
     cases h2:(N.Ef i).1 != cond (aZ 16 (N.aN i 8).1) 16 (N.aN i 8).1 with
     | true=>intro hi; exact absurd (nK hi).2 (by decide)
     | false=>exact fun _=>⟨h1,by simpa using h2⟩
  simp only [List.length_nil,Nat.zero_add] at hl
  have h16:(N.fC (N.Ef i).1.toNat (N.QM i) []).1.length<=16:=by omega
  refine ⟨?_,?_⟩
  .show cond (cond (cond (bU 0 (N.aN i 8).1) (bU (N.aN i 8).1 18446744073709551615) false) (cond (Nat.ble (N.fC (N.Ef i).1.toNat (N.QM i) []).1.length 16) ((N.fC (N.Ef i).1.toNat (N.QM i) []).1.all dA) false) false) ((N.fC (N.Ef i).1.toNat (N.QM i) []).1.all N.fH) false=true
   rw [hs,hk,dX hT.1,dX (by omega),dN h16]; rfl
  .show (((N.fC (N.Ef i).1.toNat (N.QM i) []).1.length:Nat):Int)==cond (aZ 16 (N.aN i 8).1) 16 (N.aN i 8).1
   rw [<- hlen.2,hl]
   exact Gw (by omega)
theorem ags {nx:Int} {i:eH} (h:(N.kM nx i).2.err=0):N.fH (N.kM nx i).1.aQ=true∧(nx=0∨(N.kM nx i).1.aQ.id<nx)∧N.Az nx (N.aN i 1).1 (N.dL (N.aN i 1).2).1=false:=by
 unfold N.kM at h ⊢
 cases hb:N.Az nx (N.aN i 1).1 (N.dL (N.aN i 1).2).1 with
 | true=>rw [hb] at h; exact absurd (nK h).2 (by decide)
 | false =>
  rw [hb] at h
  refine ⟨aeh h,?_,rfl⟩
  unfold N.Az at hb
  cases h3:aZ 3 (N.aN i 1).1 with
  | true=>rw [h3] at hb; cases hb
  | false =>
   rw [h3,cond_false] at hb
   cases hn:nx != 0 with
   | false=>exact .inl (by simpa using hn)
   | true=>rw [hn] at hb; exact .inr (lW hb)
theorem ab8 (nx:Int):∀ (k:Nat) (i:eH) (acc:List aG),i.err ≠ 0->(N.gV nx k i acc).2.err ≠ 0
 | 0,_,_,h=>h
 | k+1,i,acc,h=>by
  unfold N.gV
  rw [AO h]; exact h
theorem ZN (nx:Int):∀ (k:Nat) (i:eH) (acc:List aG),(∀ x∈acc,N.fH x.aQ=true∧(nx=0∨x.aQ.id<nx))->(N.gV nx k i acc).2.err=0 ->
  ∀ x∈(N.gV nx k i acc).1,N.fH x.aQ=true∧(nx=0∨x.aQ.id<nx)
 | 0,_,_,h,_=>h
 | k+1,i,acc,h,he=>by
  have e:N.gV nx (k+1) i acc=cond (i.err==0) (N.gV nx k (N.kM nx i).2 (acc++[(N.kM nx i).1])) (acc,i):=rfl
  rw [e] at he ⊢
  cases hc:i.err==0 with
  | false=>exact h
  | true =>
   rw [hc] at he
   have he:(N.gV nx k (N.kM nx i).2 (acc++[(N.kM nx i).1])).2.err=0:=he
   have hm:(N.kM nx i).2.err=0:=Classical.byContradiction fun hn=>ab8 nx k _ _ hn he
   have h1:=ags hm
   exact ZN nx k _ _ (fun x hx=>by
    rcases List.mem_append.1 hx with hx | hx
    .exact h x hx
    .rw [List.mem_singleton.1 hx]; exact ⟨h1.1,h1.2.1⟩) he
theorem ZO {n:Int} {rows:List dW} {rs:dG aC} (hf:rows.length<=8) (hr:∀ x∈rows,tV n x) (hk:rs.list.all fJ=true):N.bY rows+N.dP rs.list<=60000000:=by
 have h1:=uQ rows (List.all_eq_true.2 fun x hx=>(Qc (Qj (hr x hx).line (hr x hx).fine):jf x=true))
 have h2:=vS rs.list (List.all_eq_true.2 fun x hx=>(aP (List.all_eq_true.1 hk x hx)).1)
 rw [dG.jE] at h2
 omega
theorem Wh {n b:Int} {rows:List dW} {rs:dG aC} (h0:0<=n) (h1:n<18446744073709551616) (hf:rows.length<=8) (hr:∀ x∈rows,tV n x) (hn:(rows.map fun x=>x.q.name).Nodup) (hk:rs.list.all fJ=true) :
  gW (N.wide ⟨n,b,rows,rs⟩) :=
 ⟨h0,h1,show (0:Int)<=9223372036854775807 by omega,Int.le_refl _,hf,hr,hn,hk,Int.le_trans (ZO hf hr hk) (show (60000000:Int)<=9223372036854775807 by decide)⟩
theorem agt (s:aF) (q:dZ):N.wide (N.gy s q).1=(N.gy (N.wide s) q).1:=by
 unfold N.gy
 have ea:N.bP (N.wide s) q.name=N.bP s q.name:=rfl
 have eb:N.dn (N.wide s) (N.bP s q.name)=N.dn s (N.bP s q.name):=rfl
 rw [ea,eb]
 cases N.jq q != 0<;>cases bU 0 (N.bP s q.name)<;>cases N.YF (N.dn s (N.bP s q.name)).q q<;>cases h:bU 8 (s.rows.length:Int)<;>(try (have h' : bU 8 ((N.wide s).rows.length:Int)=_:=h; rw [h']))<;>rfl
theorem agu {s:aF} {q:dZ} (hn:N.bP s q.name<0) (h:(N.gy s q).2=0):N.jq q=0∧s.rows.length<8:=by
 revert h
 unfold N.gy
 cases hc:N.jq q != 0 with
 | true=>intro h; have h:N.jq q=0:=h; rw [h] at hc; cases hc
 | false =>
  rw [BK hn]
  cases h8:bU 8 (s.rows.length:Int) with
  | true=>intro h; cases h
  | false=>exact fun _=>⟨by simpa using hc,by have:=lW h8; omega⟩
theorem alp (i:eH):N.u64 (N.aN i 8).1=true:=by
 have h:=Jv i
 unfold N.u64
 rw [dX h.1,dK h.2]; rfl
theorem alq {s:aF} {q:dZ} {l:List aG × Int} {i:eH} (he:(N.zD s q l.1 (N.vk s q l i)).2.err=0) :
  i.err=0∧l.2=0∧(l.1.length:Int)<=q.most∧N.bP s q.name<0∧N.jq q=0∧s.rows.length<8∧N.zD s q l.1 (N.vk s q l i)=(⟨s.next,s.bytes,s.rows++[⟨q,l.1⟩],s.rises⟩,i):=by
 have h1:=nK (show (N.bV (N.vk s q l i) (N.gy s q).2).err=0 from he)
 have h2:cond (aZ q.most l.1.length) true (bU 0 (N.bP s q.name))=false:=by
  cases hc:cond (aZ q.most l.1.length) true (bU 0 (N.bP s q.name)) with
  | false=>rfl
  | true =>
   have h3:=h1.1
   unfold N.vk at h3
   rw [hc] at h3
   exact absurd (nK h3).2 (by decide)
 have h3:N.vk s q l i=N.bV i l.2:=by unfold N.vk; rw [h2]; rfl
 rw [h3] at h1
 have h4:=nK h1.1
 have ha:aZ q.most (l.1.length:Int)=false:=by
  cases hc:aZ q.most (l.1.length:Int) with
  | false=>rfl
  | true=>rw [hc] at h2; cases h2
 rw [ha,cond_false] at h2
 have hn:=lW h2
 obtain ⟨hq,hf⟩:=agu hn h1.2
 have hi:N.bV i 0=i:=by unfold N.bV; rw [h4.1]; rfl
 refine ⟨h4.1,h4.2,fD ha,hn,hq,hf,?_⟩
 unfold N.zD
 rw [h3,h4.2,hi,Ud hq hn hf,hi,h4.1]
 show (N.iH ⟨s.next,s.bytes,s.rows++[⟨q,[]⟩],s.rises⟩ (((s.rows++[(⟨q,[]⟩:dW)]).length:Nat)-1) l.1,i)=_
 have ek:((((s.rows++[(⟨q,[]⟩:dW)]).length:Nat):Int)-1).toNat=s.rows.length:=by
  rw [List.length_append,List.length_singleton]; omega
 show ((⟨s.next,s.bytes,(s.rows++[(⟨q,[]⟩:dW)]).set ((((s.rows++[(⟨q,[]⟩:dW)]).length:Nat):Int)-1).toNat ⟨((s.rows++[(⟨q,[]⟩:dW)]).getD ((((s.rows++[(⟨q,[]⟩:dW)]).length:Nat):Int)-1).toNat row0).q,l.1⟩,s.rises⟩:aF),i)=_
 rw [ek,List.set_append_right _ _ (Nat.le_refl _),Nat.sub_self,List.getD_eq_getElem?_getD,List.getElem?_append_right (Nat.le_refl _),Nat.sub_self]
 try rfl
theorem Qv {s:aF} (h:gW (N.wide s)) (i:eH):gW (N.wide (N.oh s i).1):=by
 show gW (N.wide (N.zD s (N.QX i).1 (N.yS [] (N.gV s.next (N.aN (N.QX i).2 1).1.toNat (N.aN (N.QX i).2 1).2 []).1).1
  (N.vk s (N.QX i).1 (N.yS [] (N.gV s.next (N.aN (N.QX i).2 1).1.toNat (N.aN (N.QX i).2 1).2 []).1) (N.gV s.next (N.aN (N.QX i).2 1).1.toNat (N.aN (N.QX i).2 1).2 []).2)).1)
 have aoN:N.u64 (N.QX i).1.life=true:=alp _
 have hsm:=yO s.next (N.aN (N.QX i).2 1).1.toNat (N.aN (N.QX i).2 1).2 [] rfl
 have hok:=ZN s.next (N.aN (N.QX i).2 1).1.toNat (N.aN (N.QX i).2 1).2 [] (fun _ hx=>by cases hx)
 generalize N.gV s.next (N.aN (N.QX i).2 1).1.toNat (N.aN (N.QX i).2 1).2 []=w at *
 generalize (N.QX i).1=q at *
 by_cases he:(N.zD s q (N.yS [] w.1).1 (N.vk s q (N.yS [] w.1) w.2)).2.err=0
 .obtain ⟨e1,e2,e3,e4,e5,e6,e7⟩:=alq he
  rw [e7]
  have hl:(N.yS [] w.1).1=w.1:=by rw [aiM w.1 [] e2,List.nil_append]
  have hok:=hok e1
  have ar0:allM N.fH (N.yS [] w.1).1=true:=by
   rw [hl]
   exact List.all_eq_true.2 fun x hx=>(hok x hx).1
  have hlow:s.next=0∨∀ y∈(N.yS [] w.1).1,y.aQ.id<s.next:=by
   rw [hl]
   by_cases hz:s.next=0
   .exact .inl hz
   .exact .inr fun y hy=>((hok y hy).2.resolve_left hz)
  have hrow:tV s.next ⟨q,(N.yS [] w.1).1⟩:=⟨OV w.1 [] ac8 hsm,ar0,e3,e5,aoN,hlow⟩
  refine Wh h.wO h.xQ (by rw [List.length_append,List.length_singleton]; omega) (fun x hx=>?_) ?_ h.rise
  .rcases List.mem_append.1 hx with hx | hx
   .exact h.row x hx
   .rw [List.mem_singleton.1 hx]; exact hrow
  .rw [List.map_append,List.nodup_append]
   refine ⟨h.names,by simp,fun a ha b hb=>?_⟩
   rw [List.mem_singleton.1 (show b∈[q.name] from hb)]
   intro e
   obtain ⟨x,hx,rfl⟩:=List.mem_map.1 ha
   exact aec (BK e4) x hx e
 .have he:((N.bV (N.vk s q (N.yS [] w.1) w.2) (N.gy s q).2).err==0)=false:=AO he
  unfold N.zD
  rw [he,cond_false,agt]
  exact Zm h aoN
theorem Dn:∀ (k:Nat) {s:aF} (i:eH),gW (N.wide s)->gW (N.wide (N.iZ k s i).1)
 | 0,_,_,h=>h
 | k+1,s,i,h=>by
  unfold N.iZ
  cases i.err==0 with
  | true=>exact Dn k _ (Qv h i)
  | false=>exact h
theorem JJ {p:aC->Bool} {a:dG aC} (h:a.list.all p=true) {x:aC} (hx:p x=true) (k:Nat):(a.set k x).list.all p=true:=by
 rw [dG.zo,List.all_eq_true]
 intro y hy
 rcases List.mem_or_eq_of_mem_set hy with hy | hy
 .exact List.all_eq_true.1 h y hy
 .rw [hy]; exact hx
theorem IJ {s:aF} (h:gW (N.wide s)) (p:Int) (i:eH):gW (N.wide (N.IG s p (N.iw i).1)) :=
 Wh h.wO h.xQ h.few h.row h.names (JJ h.rise (aei i).1 _)
theorem IK:∀ (k:Nat) {s:aF} (i:eH),gW (N.wide s)->gW (N.wide (N.iM k s i).1)
 | 0,_,_,h=>h
 | k+1,s,i,h=>by
  unfold N.iM
  cases i.err==0 with
  | true =>
   cases bU 16 (N.aN i 1).1 with
   | true=>exact h
   | false=>exact IK k _ (IJ h _ _)
  | false=>exact h
theorem ZP (s:aF) (i:eH):(N.oh s i).1.rises=s.rises∧(N.oh s i).1.bytes=s.bytes∧(N.oh s i).1.next=s.next:=by
 have hm:∀ q,(N.gy s q).1.rises=s.rises∧(N.gy s q).1.bytes=s.bytes∧(N.gy s q).1.next=s.next:=fun q=>by
  unfold N.gy
  cases N.jq q != 0<;>cases bU 0 (N.bP s q.name)<;>cases N.YF (N.dn s (N.bP s q.name)).q q<;>cases bU 8 (s.rows.length:Int)<;>exact ⟨rfl,rfl,rfl⟩
 unfold N.oh N.Zp N.zD
 cases (N.bV _ _).err==0<;>exact hm _
theorem IL:∀ (k:Nat) (s:aF) (i:eH),(N.iZ k s i).1.rises=s.rises∧(N.iZ k s i).1.bytes=s.bytes∧(N.iZ k s i).1.next=s.next
 | 0,_,_=>⟨rfl,rfl,rfl⟩
 | k+1,s,i=>by
  unfold N.iZ
  cases i.err==0 with
  | true =>
   have h1:=ZP s i
   have h2:=IL k (N.oh s i).1 (N.oh s i).2
   exact ⟨h2.1.trans h1.1,h2.2.1.trans h1.2.1,h2.2.2.trans h1.2.2⟩
  | false=>exact ⟨rfl,rfl,rfl⟩
theorem IQ:∀ (k:Nat) (s:aF) (i:eH),N.uT s=true->N.uT (N.iM k s i).1=true∧(N.iM k s i).1.bytes=s.bytes
 | 0,_,_,h=>⟨h,rfl⟩
 | k+1,s,i,h=>by
  unfold N.iM
  cases i.err==0 with
  | true =>
   cases bU 16 (N.aN i 1).1 with
   | true=>exact ⟨h,rfl⟩
   | false=>exact IQ k _ _ (JJ h (aei _).2 _)
  | false=>exact ⟨h,rfl⟩
theorem ZQ {n:Int} (h0:0<=n) (h1:n<18446744073709551616) (b:Int):gW (N.wide (N.sNew n b)) :=
 Wh h0 h1 (Nat.zero_le _) (fun _ hx=>by cases hx) List.nodup_nil rfl
theorem Wi (t:Bytes) (b:Int):gW (N.wide (N.su t b).1):=by
 have h:=Jv ⟨t,0⟩
 exact IK _ _ (Dn _ _ (ZQ h.1 h.2 b))
theorem Wj (t:Bytes) (b:Int):N.uT (N.su t b).1=true∧(N.su t b).1.bytes=cond (aZ 0 b) b 0:=by
 have h1:=IL (N.aN (N.aN ⟨t,0⟩ 8).2 1).1.toNat (N.sNew (N.aN ⟨t,0⟩ 8).1 b) (N.aN (N.aN ⟨t,0⟩ 8).2 1).2
 have h2:N.uT (N.iZ (N.aN (N.aN ⟨t,0⟩ 8).2 1).1.toNat (N.sNew (N.aN ⟨t,0⟩ 8).1 b) (N.aN (N.aN ⟨t,0⟩ 8).2 1).2).1=true:=by
  unfold N.uT
  rw [h1.1]; rfl
 have h3:=IQ (N.aN (N.iZ (N.aN (N.aN ⟨t,0⟩ 8).2 1).1.toNat (N.sNew (N.aN ⟨t,0⟩ 8).1 b) (N.aN (N.aN ⟨t,0⟩ 8).2 1).2).2 1).1.toNat _ (N.aN (N.iZ (N.aN (N.aN ⟨t,0⟩ 8).2 1).1.toNat (N.sNew (N.aN ⟨t,0⟩ 8).1 b) (N.aN (N.aN ⟨t,0⟩ 8).2 1).2).2 1).2 h2
 exact ⟨h3.1,h3.2.trans h1.2.1⟩
end Go.Ev

namespace Go.Ev
open Go Go.Proofs
set_option maxRecDepth 100000
-- FOLD2
open Classical in
noncomputable def vX (c:List V):Bool:=decide (∃ s:aF,gW (N.wide s)∧au.enc s=aB aA 0 c)
open Classical in
theorem IU {c:List V} (h:vX c=true):∃ s:aF,gW (N.wide s)∧au.enc s=aB aA 0 c:=of_decide_eq_true h
open Classical in
theorem Lc {s:aF} (h:gW (N.wide s)):vX (au.enc s)=true:=decide_eq_true ⟨s,h,rfl⟩
def ar1:Den:=den (aO fV (aW (cu .i64))) dw (nP (aO (bg au) (aW (cu .i64)))) (fun a _=>bU a.2 9223372036854775807) fun a _=>(N.xR a.1 a.2,())
def anX:fP:={ fr:=[(0,.str),(4,.ptr 10000 0 0),(6,.ptr 10001 0 0),(7,.ptr 10002 0 0),(8,.int .u64)],tab:=[(10000,.row [] aA),(10001,.var [.str,.int .i64]),(10002,.row [] aA)] }
noncomputable def aoO:List Leaf->(Ex->St->Option R)->Option R
 | [.s s0,.i i8,.c cZ,.s rX,.i oL,.c La],K=>cond (bU 0 i8) (cond (bU i8 255) (cond (vX La) (K (.exit 0) { fr:=[(0,.str s0),(4,.ptr 10000 0 0 0),(6,.ptr 10001 0 0 0),(7,.ptr 10002 0 0 0)],tab:=[(10000,.var (aB aA 0 cZ)),(10001,.var [.str (N.iZ i8.toNat (au.dec La) ⟨rX,oL⟩).2.s,.int .i64 (N.iZ i8.toNat (au.dec La) ⟨rX,oL⟩).2.err]),(10002,.var (au.enc (N.iZ i8.toNat (au.dec La) ⟨rX,oL⟩).1))] }) none) none) none
 | _,_=>none
def anY:fP:={ fr:=[(0,.str),(4,.ptr 10000 0 0),(6,.ptr 10001 0 0),(7,.ptr 10002 0 0),(9,.int .u64)],tab:=[(10000,.row [] aA),(10001,.var [.str,.int .i64]),(10002,.row [] aA)] }
noncomputable def aoP:List Leaf->(Ex->St->Option R)->Option R
 | [.s s0,.i i9,.c cZ,.s rX,.i oL,.c La],K=>cond (bU 0 i9) (cond (bU i9 255) (cond (vX La) (K (.exit 2) { fr:=[(0,.str s0),(4,.ptr 10000 0 0 0),(6,.ptr 10001 0 0 0),(7,.ptr 10002 0 0 0)],tab:=[(10000,.var (aB aA 0 cZ)),(10001,.var [.str (N.iM i9.toNat (au.dec La) ⟨rX,oL⟩).2.s,.int .i64 (N.iM i9.toNat (au.dec La) ⟨rX,oL⟩).2.err]),(10002,.var (au.enc (N.iM i9.toNat (au.dec La) ⟨rX,oL⟩).1))] }) none) none) none
 | _,_=>none
noncomputable def Q7:Env:={ env Tryz.prog [(73,dNew),(74,U3),(10,Tm),(75,EW),(76,ZJ),(77,SL),(78,Gz),(79,ahC),(20,VO),(33,Iq)] [(8,dJ anY aoP),(4,dJ anX aoO)] [(4,[(0,[0,4,6,7,8]),(1,[0,4,6,7]),(1000,[4,5])]),(8,[(0,[0,4,6,7,9]),(3,[0,4,6,7]),(1000,[4,5])])] with fz:=true }
theorem ar2 (t:Bytes) (b:Int):type_of% (by
  have h:bM Q7 27 ((aO fV (aW (cu .i64))).enc (t,b)) ([]) some =(
   let z4:=(N.aN {s:=t,err:=0:eH} 8);let z5:=(N.aN z4.2 1);let z0:=(N.iZ (Int.toNat z5.1) (ah.dec au (ah.enc au (N.sNew z4.1 b))) z5.2);let z1:=(some {v:=.fE [V.agg [V.int .u64 0,.int .i64 0,.slc yR [],.int .u64 0,.slc yM [],.int .u64 0,.slc yM [],.int .u64 0,.slc yM [],.int .u64 0,.slc yM [],.int .u64 0,.slc yM [],.int .u64 0,.slc yM [],.int .u64 0,.slc yM [],.int .u64 0,.slc yM [],.int .u64 0,.slc yM [],.int .u64 0,.slc yM [],.int .u64 0,.slc yM [],.int .u64 0,.slc yM [],.int .u64 0,.slc yM [],.int .u64 0,.slc yM [],.int .u64 0,.slc yM [],.int .u64 0,.slc yM []],.int .i64 4],bx:=[]:aH});let z6:=(N.aN z0.2 1);let z2:=(N.iM (Int.toNat z6.1) (ah.dec au (ah.enc au z0.1)) z6.2);let z3:=(ah.dec au (ah.enc au z2.1));cond (bU 0 z5.1) (cond (bU z5.1 255) (cond (vX (ah.enc au (N.sNew z4.1 b))) (cond (bU 0 z6.1) (cond (bU z6.1 255) (cond (vX (ah.enc au z0.1)) (cond ((bif eH.err z2.2==0 then bif aZ 0 (↑(List.length (eH.s z2.2)):Int) then 4 else 0 else eH.err z2.2) != 0) z1 (cond (vH z3) (cond (aZ (N.l9 z3) 0) z1 (cond (nU z3) (cond (!N.tK z3==t) z1 (some {v:=.fE [V.agg (ah.enc au z2.1),.int .i64 0],bx:=[]:aH})) none)) none)) none) none) none) none) none) none):=by kernel_rfl
  dsimp only at h;exact h):=by kernel_rfl
theorem anZ (s0:Bytes) (i8:Int) (cZ:List V) (rX:Bytes) (oL:Int) (s:aF) (K:Ex->St->Option R):bI Q7 27 4 { fr:=[(0,.str s0),(4,.ptr 10000 0 0 0),(6,.ptr 10001 0 0 0),(7,.ptr 10002 0 0 0),(8,.int .u64 i8)],tab:=[(10000,.var (aB aA 0 cZ)),(10001,.var [.str rX,.int .i64 oL]),(10002,.var (au.enc s))] } K =
 cond (aZ 0 i8) (cond (oL==0) (cond (Dl (ah.dec au (ah.enc au s))) (K .normal {fr:=[(0,.str s0),(4,.ptr 10000 0 0 0),(6,.ptr 10001 0 0 0),(7,.ptr 10002 0 0 0),(8,.int .u64 (IntKind.wrap .u64 (i8-1)))],tab:=[(10000,.var (aB aA 0 cZ)),(10001,.var [V.str (eH.s (Prod.snd (N.oh (ah.dec au (ah.enc au s)) {s:=rX,err:=oL:eH}))),.int .i64 (eH.err (Prod.snd (N.oh (ah.dec au (ah.enc au s)) {s:=rX,err:=oL:eH})))]),(10002,.var (ah.enc au (Prod.fst (N.oh (ah.dec au (ah.enc au s)) {s:=rX,err:=oL:eH}))))]:St}) none) (K (.exit 0) {fr:=[(0,.str s0),(4,.ptr 10000 0 0 0),(6,.ptr 10001 0 0 0),(7,.ptr 10002 0 0 0)],tab:=[(10000,.var (aB aA 0 cZ)),(10001,.var [V.str rX,.int .i64 oL]),(10002,.var (ah.enc au s))]:St})) (K (.exit 0) {fr:=[(0,.str s0),(4,.ptr 10000 0 0 0),(6,.ptr 10001 0 0 0),(7,.ptr 10002 0 0 0)],tab:=[(10000,.var (aB aA 0 cZ)),(10001,.var [V.str rX,.int .i64 oL]),(10002,.var (ah.enc au s))]:St}):=by kernel_rfl
theorem an0 (s0:Bytes) (i9:Int) (cZ:List V) (rX:Bytes) (oL:Int) (s:aF) (K:Ex->St->Option R):type_of% (by
  have h:bI Q7 27 8 { fr:=[(0,.str s0),(4,.ptr 10000 0 0 0),(6,.ptr 10001 0 0 0),(7,.ptr 10002 0 0 0),(9,.int .u64 i9)],tab:=[(10000,.var (aB aA 0 cZ)),(10001,.var [.str rX,.int .i64 oL]),(10002,.var (au.enc s))] } K =(
   let z0:=(N.aN {s:=rX,err:=oL:eH} 1);let z1:=(K (.exit 2) {fr:=[(0,.str s0),(4,.ptr 10000 0 0 0),(6,.ptr 10001 0 0 0),(7,.ptr 10002 0 0 0)],tab:=[(10000,.var (aB aA 0 cZ)),(10001,.var [V.str rX,.int .i64 oL]),(10002,.var (ah.enc au s))]:St});let z2:=(Prod.snd (N.iw z0.2));cond (aZ 0 i9) (cond (oL==0) (cond (bU 16 z0.1) (K (.exit 2) {fr:=[(0,.str s0),(4,.ptr 10000 0 0 0),(6,.ptr 10001 0 0 0),(7,.ptr 10002 0 0 0)],tab:=[(10000,.var (aB aA 0 cZ)),(10001,.var [V.str (eH.s (N.bV z2 4)),.int .i64 (eH.err (N.bV z2 4))]),(10002,.var (ah.enc au s))]:St}) (cond (decide (0<=Prod.fst z0∧Prod.fst z0<(↑(16:Nat):Int))) (K .normal {fr:=[(0,.str s0),(4,.ptr 10000 0 0 0),(6,.ptr 10001 0 0 0),(7,.ptr 10002 0 0 0),(9,.int .u64 (IntKind.wrap .u64 (i9-1)))],tab:=[(10000,.var (aB aA 0 cZ)),(10001,.var [V.str z2.s,.int .i64 z2.err]),(10002,.var (V.int .u64 s.next::V.int .i64 s.bytes::V.slc yR (List.map (ah.enc aS) s.rows)::setCells s.rises (Int.toNat z0.1) (Prod.fst (N.iw z0.2))))]:St}) none)) z1) z1):=by kernel_rfl
  dsimp only at h;exact h):=by kernel_rfl
theorem alr:dB Q7 27 4:=by
 refine bf rfl fun l K q h=>?_
 unfold aoO at h
 split at h
 .rename_i s0 i8 cZ rX oL La
  replace h:=Lm h;obtain ⟨h1,h2,h3,h⟩:=h
  have h1:=bQ h1
  have h2:=bQ h2
  obtain ⟨n,rfl⟩:=Int.eq_ofNat_of_zero_le h1
  obtain ⟨s1,g1,g2⟩:=IU h3
  have gd:=wR g2
  rw [gd] at h
  show ∃ n',qB Q7 27 4 n' { fr:=[(0,.str s0),(4,.ptr 10000 0 0 0),(6,.ptr 10001 0 0 0),(7,.ptr 10002 0 0 0),(8,.int .u64 (n:Int))],tab:=[(10000,.var (aB aA 0 cZ)),(10001,.var [.str (⟨rX,oL⟩:eH).s,.int .i64 (⟨rX,oL⟩:eH).err]),(10002,.var (aB aA 0 La))] } K=some q
  rw [<- g2]
  have main:=dD (E:=Q7) (f:=27) (id:=4) (σ:=Nat × aF × eH) (fun x=>{ fr:=[(0,.str s0),(4,.ptr 10000 0 0 0),(6,.ptr 10001 0 0 0),(7,.ptr 10002 0 0 0),(8,.int .u64 (x.1:Int))],tab:=[(10000,.var (aB aA 0 cZ)),(10001,.var [.str x.2.2.s,.int .i64 x.2.2.err]),(10002,.var (au.enc x.2.1))] })
   (fun x=>x.1<=255∧gW (N.wide x.2.1)) (fun x=>x.1) (fun x K=>K (.exit 0) { fr:=[(0,.str s0),(4,.ptr 10000 0 0 0),(6,.ptr 10001 0 0 0),(7,.ptr 10002 0 0 0)],tab:=[(10000,.var (aB aA 0 cZ)),(10001,.var [.str (N.iZ x.1 x.2.1 x.2.2).2.s,.int .i64 (N.iZ x.1 x.2.1 x.2.2).2.err]),(10002,.var (au.enc (N.iZ x.1 x.2.1 x.2.2).1))] }) (fun x hx=>?_) (n,s1,⟨rX,oL⟩) ⟨by show n<=255; omega,g1⟩ K q h
  .exact main
  .obtain ⟨n,s,i⟩:=x
   obtain ⟨hx,hs⟩:=hx
   have hx:n<=255:=hx
   have hs:gW (N.wide s):=hs
   have hn:=fun K=>anZ s0 (n:Int) cZ i.s i.err s K
   have ei:(⟨i.s,i.err⟩:eH)=i:=rfl
   simp only [ei,au.de] at hn
   cases n with
   | zero =>
    refine .inr ⟨.exit 0,{ fr:=[(0,.str s0),(4,.ptr 10000 0 0 0),(6,.ptr 10001 0 0 0),(7,.ptr 10002 0 0 0)],tab:=[(10000,.var (aB aA 0 cZ)),(10001,.var [.str ((s,i):aF × eH).2.s,.int .i64 ((s,i):aF × eH).2.err]),(10002,.var (au.enc ((s,i):aF × eH).1))] },by simp,fun K=>?_,fun K=>rfl⟩
    exact hn K
   | succ k =>
    have t1:aZ (0:Int) ((k+1:Nat):Int)=true:=dK (by omega)
    have t2:IntKind.wrap .u64 (((k+1:Nat):Int)-1)=(k:Int):=by rw [kC (by omega) (by omega)]; omega
    simp only [t1,t2,cond_true] at hn
    have t4:=ab6 hs
    have er:N.iZ (k+1) s i=cond (i.err==0) (N.iZ k (N.oh s i).1 (N.oh s i).2) (s,i):=rfl
    cases he:i.err==0 with
    | true =>
     refine .inl ⟨(k,(N.oh s i).1,(N.oh s i).2),⟨by show k<=255; omega,Qv hs i⟩,by show k<k+1; omega,fun K=>?_,fun K=>?_⟩
     .refine (hn K).trans ?_
      rw [he,t4]; rfl
     .show K _ { fr:=[(0,.str s0),(4,.ptr 10000 0 0 0),(6,.ptr 10001 0 0 0),(7,.ptr 10002 0 0 0)],tab:=[(10000,.var (aB aA 0 cZ)),(10001,.var [.str (N.iZ (k+1) s i).2.s,.int .i64 (N.iZ (k+1) s i).2.err]),(10002,.var (au.enc (N.iZ (k+1) s i).1))] }=_
      rw [er,he]; rfl
    | false =>
     refine .inr ⟨.exit 0,{ fr:=[(0,.str s0),(4,.ptr 10000 0 0 0),(6,.ptr 10001 0 0 0),(7,.ptr 10002 0 0 0)],tab:=[(10000,.var (aB aA 0 cZ)),(10001,.var [.str ((s,i):aF × eH).2.s,.int .i64 ((s,i):aF × eH).2.err]),(10002,.var (au.enc ((s,i):aF × eH).1))] },by simp,fun K=>?_,fun K=>?_⟩
     .refine (hn K).trans ?_
      rw [he]; rfl
     .show K _ { fr:=[(0,.str s0),(4,.ptr 10000 0 0 0),(6,.ptr 10001 0 0 0),(7,.ptr 10002 0 0 0)],tab:=[(10000,.var (aB aA 0 cZ)),(10001,.var [.str (N.iZ (k+1) s i).2.s,.int .i64 (N.iZ (k+1) s i).2.err]),(10002,.var (au.enc (N.iZ (k+1) s i).1))] }=_
      rw [er,he]; rfl
 .cases h
theorem als:dB Q7 27 8:=by
 refine bf rfl fun l K q h=>?_
 unfold aoP at h
 split at h
 .rename_i s0 i9 cZ rX oL La
  replace h:=Lm h;obtain ⟨h1,h2,h3,h⟩:=h
  have h1:=bQ h1
  have h2:=bQ h2
  obtain ⟨n,rfl⟩:=Int.eq_ofNat_of_zero_le h1
  obtain ⟨s1,g1,g2⟩:=IU h3
  have gd:=wR g2
  rw [gd] at h
  show ∃ n',qB Q7 27 8 n' { fr:=[(0,.str s0),(4,.ptr 10000 0 0 0),(6,.ptr 10001 0 0 0),(7,.ptr 10002 0 0 0),(9,.int .u64 (n:Int))],tab:=[(10000,.var (aB aA 0 cZ)),(10001,.var [.str (⟨rX,oL⟩:eH).s,.int .i64 (⟨rX,oL⟩:eH).err]),(10002,.var (aB aA 0 La))] } K=some q
  rw [<- g2]
  have main:=dD (E:=Q7) (f:=27) (id:=8) (σ:=Nat × aF × eH) (fun x=>{ fr:=[(0,.str s0),(4,.ptr 10000 0 0 0),(6,.ptr 10001 0 0 0),(7,.ptr 10002 0 0 0),(9,.int .u64 (x.1:Int))],tab:=[(10000,.var (aB aA 0 cZ)),(10001,.var [.str x.2.2.s,.int .i64 x.2.2.err]),(10002,.var (au.enc x.2.1))] })
   (fun x=>x.1<=255∧gW (N.wide x.2.1)) (fun x=>x.1) (fun x K=>K (.exit 2) { fr:=[(0,.str s0),(4,.ptr 10000 0 0 0),(6,.ptr 10001 0 0 0),(7,.ptr 10002 0 0 0)],tab:=[(10000,.var (aB aA 0 cZ)),(10001,.var [.str (N.iM x.1 x.2.1 x.2.2).2.s,.int .i64 (N.iM x.1 x.2.1 x.2.2).2.err]),(10002,.var (au.enc (N.iM x.1 x.2.1 x.2.2).1))] }) (fun x hx=>?_) (n,s1,⟨rX,oL⟩) ⟨by show n<=255; omega,g1⟩ K q h
  .exact main
  .obtain ⟨n,s,i⟩:=x
   obtain ⟨hx,hs⟩:=hx
   have hx:n<=255:=hx
   have hs:gW (N.wide s):=hs
   have hn:=fun K=>an0 s0 (n:Int) cZ i.s i.err s K
   have ei:(⟨i.s,i.err⟩:eH)=i:=rfl
   simp only [ei,au.de] at hn
   cases n with
   | zero =>
    refine .inr ⟨.exit 2,{ fr:=[(0,.str s0),(4,.ptr 10000 0 0 0),(6,.ptr 10001 0 0 0),(7,.ptr 10002 0 0 0)],tab:=[(10000,.var (aB aA 0 cZ)),(10001,.var [.str ((s,i):aF × eH).2.s,.int .i64 ((s,i):aF × eH).2.err]),(10002,.var (au.enc ((s,i):aF × eH).1))] },by simp,fun K=>?_,fun K=>rfl⟩
    exact hn K
   | succ k =>
    have t1:aZ (0:Int) ((k+1:Nat):Int)=true:=dK (by omega)
    have t2:IntKind.wrap .u64 (((k+1:Nat):Int)-1)=(k:Int):=by rw [kC (by omega) (by omega)]; omega
    simp only [t1,t2,cond_true] at hn
    have hN:=BX i
    have er:N.iM (k+1) s i=cond (i.err==0) (cond (bU 16 (N.aN i 1).1) (s,N.bV (N.iw (N.aN i 1).2).2 4) (N.iM k (N.IG s (N.aN i 1).1 (N.iw (N.aN i 1).2).1) (N.iw (N.aN i 1).2).2)) (s,i):=rfl
    cases he:i.err==0 with
    | true =>
     cases h16:bU 16 (N.aN i 1).1 with
     | true =>
      refine .inr ⟨.exit 2,{ fr:=[(0,.str s0),(4,.ptr 10000 0 0 0),(6,.ptr 10001 0 0 0),(7,.ptr 10002 0 0 0)],tab:=[(10000,.var (aB aA 0 cZ)),(10001,.var [.str ((s,N.bV (N.iw (N.aN i 1).2).2 4):aF × eH).2.s,.int .i64 ((s,N.bV (N.iw (N.aN i 1).2).2 4):aF × eH).2.err]),(10002,.var (au.enc ((s,N.bV (N.iw (N.aN i 1).2).2 4):aF × eH).1))] },by simp,fun K=>?_,fun K=>?_⟩
      .refine (hn K).trans ?_
       rw [he,h16]; rfl
      .show K _ { fr:=[(0,.str s0),(4,.ptr 10000 0 0 0),(6,.ptr 10001 0 0 0),(7,.ptr 10002 0 0 0)],tab:=[(10000,.var (aB aA 0 cZ)),(10001,.var [.str (N.iM (k+1) s i).2.s,.int .i64 (N.iM (k+1) s i).2.err]),(10002,.var (au.enc (N.iM (k+1) s i).1))] }=_
       rw [er,he,h16]; rfl
     | false =>
      have atl:=lW h16
      have t5:decide ((0:Int)<=(N.aN i 1).1∧(N.aN i 1).1<((16:Nat):Int))=true:=decide_eq_true (by omega)
      refine .inl ⟨(k,N.IG s (N.aN i 1).1 (N.iw (N.aN i 1).2).1,(N.iw (N.aN i 1).2).2),⟨by show k<=255; omega,IJ hs _ _⟩,by show k<k+1; omega,fun K=>?_,fun K=>?_⟩
      .refine (hn K).trans ?_
       rw [he,h16,t5]
       have e:=setCells_eq s.rises (N.aN i 1).1.toNat (N.iw (N.aN i 1).2).1
       show K .normal _=K .normal { fr:=[(0,.str s0),(4,.ptr 10000 0 0 0),(6,.ptr 10001 0 0 0),(7,.ptr 10002 0 0 0),(9,.int .u64 (k:Int))],tab:=[(10000,.var (aB aA 0 cZ)),(10001,.var [.str (N.iw (N.aN i 1).2).2.s,.int .i64 (N.iw (N.aN i 1).2).2.err]),(10002,.var (V.int .u64 s.next::V.int .i64 s.bytes::V.slc CP (s.rows.map aS.enc)::eU (s.rises.set (N.aN i 1).1.toNat (N.iw (N.aN i 1).2).1)))] }
       rw [<- e]
       try rfl
      .show K _ { fr:=[(0,.str s0),(4,.ptr 10000 0 0 0),(6,.ptr 10001 0 0 0),(7,.ptr 10002 0 0 0)],tab:=[(10000,.var (aB aA 0 cZ)),(10001,.var [.str (N.iM (k+1) s i).2.s,.int .i64 (N.iM (k+1) s i).2.err]),(10002,.var (au.enc (N.iM (k+1) s i).1))] }=_
       rw [er,he,h16]; rfl
    | false =>
     refine .inr ⟨.exit 2,{ fr:=[(0,.str s0),(4,.ptr 10000 0 0 0),(6,.ptr 10001 0 0 0),(7,.ptr 10002 0 0 0)],tab:=[(10000,.var (aB aA 0 cZ)),(10001,.var [.str ((s,i):aF × eH).2.s,.int .i64 ((s,i):aF × eH).2.err]),(10002,.var (au.enc ((s,i):aF × eH).1))] },by simp,fun K=>?_,fun K=>?_⟩
     .refine (hn K).trans ?_
      rw [he]; rfl
     .show K _ { fr:=[(0,.str s0),(4,.ptr 10000 0 0 0),(6,.ptr 10001 0 0 0),(7,.ptr 10002 0 0 0)],tab:=[(10000,.var (aB aA 0 cZ)),(10001,.var [.str (N.iM (k+1) s i).2.s,.int .i64 (N.iM (k+1) s i).2.err]),(10002,.var (au.enc (N.iM (k+1) s i).1))] }=_
      rw [er,he]; rfl
 .cases h
theorem aqs (hN:bH Tryz.prog 95 fZ):bH Tryz.prog 27 ar1:=by
 refine aK (aT (((((((((((fK.nil _).cons (Uc hN)).cons (PN hN)).cons ah7).cons xG).cons Ya).cons ZM).cons zi).cons VL).cons BQ).cons ahW)) (E:=Q7) Tryz.func27 [4,8] (by kernel_rfl) (Lp alr als) fun a b hp=>?_
 obtain ⟨t,n⟩:=a
 have hb:n<=9223372036854775807:=bQ hp
 refine (ar2 t n).trans ?_
 simp only [au.de]
 have h8:=Jv ⟨t,0⟩
 have e1:=BX (N.aN ⟨t,0⟩ 8).2
 have n1:=ZQ h8.1 h8.2 n
 have w1:=Lc n1
 have w2:=Lc (Dn (N.aN (N.aN ⟨t,0⟩ 8).2 1).1.toNat (N.aN (N.aN ⟨t,0⟩ 8).2 1).2 n1)
 have e2:=BX (N.iZ (N.aN (N.aN ⟨t,0⟩ 8).2 1).1.toNat (N.sNew (N.aN ⟨t,0⟩ 8).1 n) (N.aN (N.aN ⟨t,0⟩ 8).2 1).2).2
 rw [dX e1.1,dX (Int.le_of_lt_add_one e1.2),w1,dX e2.1,dX (Int.le_of_lt_add_one e2.2),w2]
 simp only [cond_true]
 have hw:=Wi t n
 have hf:=Wj t n
 show _=some (⟨.fE [.agg (au.enc (N.xR t n).1),.int .i64 (N.xR t n).2],[],[]⟩:aH)
 unfold N.xR
 have ez:N.iM (N.aN (N.iZ (N.aN (N.aN ⟨t,0⟩ 8).2 1).1.toNat (N.sNew (N.aN ⟨t,0⟩ 8).1 n) (N.aN (N.aN ⟨t,0⟩ 8).2 1).2).2 1).1.toNat (N.iZ (N.aN (N.aN ⟨t,0⟩ 8).2 1).1.toNat (N.sNew (N.aN ⟨t,0⟩ 8).1 n) (N.aN (N.aN ⟨t,0⟩ 8).2 1).2).1 (N.aN (N.iZ (N.aN (N.aN ⟨t,0⟩ 8).2 1).1.toNat (N.sNew (N.aN ⟨t,0⟩ 8).1 n) (N.aN (N.aN ⟨t,0⟩ 8).2 1).2).2 1).2=N.su t n:=rfl
 rw [ez]
 generalize N.su t n=z at *
 have hb0:0<=cond (aZ 0 n) n 0∧cond (aZ 0 n) n 0<=9223372036854775807:=by
  cases hc:aZ 0 n with
  | true=>have:=jZ hc; exact ⟨by show 0<=n; omega,hb⟩
  | false=>exact ⟨Int.le_refl 0,show (0:Int)<=9223372036854775807 by omega⟩
 have gb:vH z.1=true:=by
  unfold vH
  rw [show jG z.1=true from hw.jG,hf.2,dX hb0.1,dX hb0.2]; rfl
 have gk:nU z.1=true:=hw.TV
 have hE:N.alh z.2=cond (z.2.err==0) (cond (aZ 0 (z.2.s.length:Int)) 4 0) z.2.err:=rfl
 rw [gb,gk,<- hE]
 cases N.alh z.2 != 0<;>cases aZ (N.l9 z.1) 0<;>cases N.tK z.1==t<;>rfl
end Go.Ev

namespace Go.Ev
open Go Go.Proofs
set_option maxRecDepth 100000
-- FOLD2
theorem Wn {x:aC} (hg:fJ x=true) (h:N.KQ x=true) (m:ay):N.KQ (N.dH x m).1=true:=by
 unfold N.dH
 cases N.aV m != 0 with
 | true=>exact h
 | false =>
  cases ht:x.total==18446744073709551615 with
  | true=>exact h
  | false =>
   have h0:0<=x.total:=bQ (aP (aP (aP hg).1).1).1
   have h:(x.kept.length:Int)=cond (aZ 16 x.total) 16 x.total:=aY h
   show ((((x.kept++[m]).drop (x.kept.length+1-16)).length:Nat):Int)==cond (aZ 16 (x.total+1)) 16 (x.total+1)
   refine Gw ?_
   rw [List.length_drop,List.length_append,List.length_singleton]
   by_cases h1:16<x.total
   .rw [dK h1,cond_true] at h
    rw [dK (by omega),cond_true]; omega
   .rw [iG (by omega),cond_false] at h
    by_cases h2:16<x.total+1
    .rw [dK h2,cond_true]; omega
    .rw [iG (by omega),cond_false]; omega
theorem ab9 {s:aF} (h:gW s) (hf:N.uT s=true) (p:Int) (m:ay):N.uT (N.qo s p m).1=true:=by
 unfold N.qo
 cases hp:cond (aZ p 0) true (bU 16 p) with
 | true=>exact hf
 | false =>
  have hk:p.toNat<s.rises.list.length:=by
   rw [dG.jE]
   cases h0:aZ p 0 with
   | true=>rw [h0] at hp; cases hp
   | false =>
    rw [h0] at hp
    have:=lW hp
    have:=fD h0
    omega
  cases (N.dH (N.kS s p) m).2 != 0 with
  | true=>exact hf
  | false =>
   cases aZ s.bytes (N.jv s-N.bZ (N.kS s p).kept+N.bZ (N.dH (N.kS s p) m).1.kept) with
   | true=>exact hf
   | false =>
    have hx:=getD_mem iC hk
    exact JJ hf (Wn (List.all_eq_true.1 h.rise _ hx) (List.all_eq_true.1 hf _ hx) m) _
theorem agv {s:aF} (h:gW s) (hf:N.uT s=true) (a:lI) (q:aF):N.uT (N.oI s q a).1=true:=by
 unfold N.oI
 cases Int.tmod a.op 10==3 with
 | true =>
  show N.uT (N.gy s a.q).1=true
  unfold N.gy
  cases N.jq a.q != 0<;>cases bU 0 (N.bP s a.q.name)<;>cases N.YF (N.dn s (N.bP s a.q.name)).q a.q<;>cases bU 8 (s.rows.length:Int)<;>exact hf
 | false =>
 cases Int.tmod a.op 10==4 with
 | true =>
  show N.uT (N.vG s a.name).1=true
  unfold N.vG
  cases aZ (N.bP s a.name) 0<;>exact hf
 | false =>
 cases Int.tmod a.op 10==5 with
 | true =>
  show N.uT (N.mZ s a.name).1=true
  unfold N.mZ
  cases aZ (N.bP s a.name) 0<;>exact hf
 | false =>
 cases Int.tmod a.op 10==6 with
 | true =>
  show N.uT (N.qE s a.name a.id).1=true
  unfold N.qE
  cases aZ (N.bP s a.name) 0<;>exact hf
 | false =>
 cases Int.tmod a.op 10==7 with
 | true =>
  show N.uT (N.iY s a.name a.id).1=true
  unfold N.iY
  cases aZ (N.bP s a.name) 0<;>exact hf
 | false =>
 cases Int.tmod a.op 10==8 with
 | true=>exact ab9 h hf a.place a.aQ
 | false =>
 cases Int.tmod a.op 10==9 with
 | true=>exact hf
 | false =>
  show N.uT (N.oN s a.name a.aQ).1=true
  unfold N.oN N.zx
  cases aZ (N.bP s a.name) 0<;>cases N.aV a.aQ != 0<;>cases s.next==0<;>cases bU (N.dn s (N.bP s a.name)).q.most (N.dn s (N.bP s a.name)).line.length<;>cases (N.fF (N.dn s (N.bP s a.name)).line).2<;>simp only [cond_true,cond_false]<;>first
   | exact hf
   | (cases aZ _ (N.bJ _)<;>cases (N.l7 _ _).2 != 0<;>exact hf)
structure vT (b:Int) (s:aF):Prop where
 inv:gW s
 full:N.uT s=true
 bytes:s.bytes=cond (aZ 0 b) b 0
theorem Um {b:Int} {s:aF} (h:vT b s) {a:lI} (ha:uD a=true):vT b (N.oI s iW a).1 :=
 ⟨ala h.inv ha iW,agv h.inv h.full a iW,(abV s iW a h.inv ha).trans h.bytes⟩
theorem Un {b:Int}:∀ (l:List lI) {s:aF},vT b s->l.all uD=true->vT b (N.Zo s l)
 | [],_,h,_=>h
 | a::r,s,h,hl=>by
  rw [List.all_cons,Bool.and_eq_true] at hl
  exact Un r (Um h hl.1) hl.2
open Classical in
noncomputable def Eb (b:Int) (c d:List V):Bool:=decide (∃ s:aF,vT b s∧au.enc s=aB aA 0 c∧au.enc s=aB aA 0 d)
open Classical in
theorem Wp {b:Int} {c d:List V} (h:Eb b c d=true):∃ s:aF,vT b s∧au.enc s=aB aA 0 c∧au.enc s=aB aA 0 d:=of_decide_eq_true h
open Classical in
theorem ZR {b:Int} {s:aF} (h:vT b s):Eb b (au.enc s) (au.enc s)=true:=decide_eq_true ⟨s,h,rfl,rfl⟩
def an1:Den:=den (aO (cu .u64) (aO (cu .i64) (aO (jY fU) (aW (cu .u64))))) dw (oV iF) (fun a _=>cond (cond (bU 0 a.1) (aZ a.1 18446744073709551616) false) (cond (bU a.2.1 9223372036854775807) (cond (Nat.ble a.2.2.1.length 9223372036854775807) (a.2.2.1.all wP) false) false) false) fun _ _=>(true,())
def agw:fP:={ fr:=[(1,.int .i64),(3,.int .u64),(9,.ptr 10000 0 0),(10,.ptr 10001 0 0),(30,.slc [.int .u8,.str,.str,.int .u64,.int .u64,.str,.int .u64,.str,.str,.slc yP,.str,.int .u64,.int .u8,.int .u64,.int .i64]),(31,.int .i64),(32,.int .i64)],tab:=[(10000,.row [] aA),(10001,.row [] aA)] }
noncomputable def aej:List Leaf->(Ex->St->Option R)->Option R
 | [.i i1,.i i3,.r Ld,.i i31,.i i32,.c cZ,.c iT],K=>cond (i31==Ld.length) (cond (i32==0) (cond (Nat.ble Ld.length 60) (cond (Eb i1 cZ iT) (cond ((Ld.map fU.dec).all uD) (K (.exit 0) { fr:=[(1,.int .i64 i1),(9,.ptr 10000 0 0 0),(10,.ptr 10001 0 0 0)],tab:=[(10000,.var (au.enc (N.Zo (au.dec cZ) (Ld.map fU.dec)))),(10001,.var (au.enc (N.Zo (au.dec cZ) (Ld.map fU.dec))))] }) none) none) none) none) none
 | _,_=>none
noncomputable def Ec:Env:=env Tryz.prog [(8,nI),(18,Zi),(10,Tm),(31,Tm),(19,aea),(32,aef),(30,alj),(29,PW),(23,PW),(33,Iq),(27,ar1),(34,Iq)] [(7,dJ agw aej)] [(7,[(0,[1,3,9,10,30,31,32]),(1,[1,9,10]),(1000,[8])])]
theorem alu (base bytes:Int) (l:List lI) (tick:Int):type_of% (by
  have h:bM Ec 7 ((aO (cu .u64) (aO (cu .i64) (aO (jY fU) (aW (cu .u64))))).enc (base,bytes,l,tick)) ([]) some =(
   let z4:=(ah.enc au (N.sNew base bytes));let z1:=(List.map (ah.dec fU) (List.map (ah.enc fU) l));let z0:=(ah.dec au (ah.enc au (N.Zo (ah.dec au z4) z1)));let z2:=(List.length (List.map (ah.enc fU) l));let z3:=(ah.dec au (ah.enc au (Prod.fst (N.xR (N.tK z0) bytes))));cond (Nat.ble (List.length z1) 9223372036854775807) (cond (!bif N.og z1 then bU (↑(List.length z1):Int) 60 else false) (some {v:=.bool true,bx:=[]:aH}) (cond ((↑z2:Int)==(↑z2:Int)) (cond (Nat.ble z2 60) (cond (Eb bytes z4 z4) (cond (List.all z1 uD) (cond (nU z0) (cond (bU bytes 9223372036854775807) (cond (nU z0) (cond (N.tK z0==N.tK z0) (cond (Prod.snd (N.xR (N.tK z0) bytes)==0) (cond (bif jG z0 then jG z3 else false) (some {v:=.bool (N.AP z0 z3),bx:=[]:aH}) none) (some {v:=.bool false,bx:=[]:aH})) (some {v:=.bool false,bx:=[]:aH})) none) none) none) none) none) none) none)) none):=by kernel_rfl
  dsimp only at h;exact h):=by kernel_rfl
theorem Uo (i1:Int) (i3:Int) (Ld:List (List V)) (i31:Int) (i32:Int) (a b:aF) (K:Ex->St->Option R):type_of% (by
  have h:bI Ec 7 7 { fr:=[(1,.int .i64 i1),(3,.int .u64 i3),(9,.ptr 10000 0 0 0),(10,.ptr 10001 0 0 0),(30,.slc [.int .u8,.str,.str,.int .u64,.int .u64,.str,.int .u64,.str,.str,.slc yP,.str,.int .u64,.int .u8,.int .u64,.int .i64] Ld),(31,.int .i64 i31),(32,.int .i64 i32)],tab:=[(10000,.var (au.enc a)),(10001,.var (au.enc b))] } K =(
   let z19:=(ah.dec au (ah.enc au a));let z1:=(ah.dec au (ah.enc au b));let z0:=(N.oI z19 z1 (ah.dec fU (List.getD Ld (Int.toNat i32) [])));let z2:=(List.map (ah.enc ak) (List.map (ah.dec ak) (List.map (ah.enc ak) (aC.kept (dG.a10 a.rises)))));let z3:=(List.map (ah.enc ak) (List.map (ah.dec ak) (List.map (ah.enc ak) (aC.kept (dG.a11 a.rises)))));let z4:=(List.map (ah.enc ak) (List.map (ah.dec ak) (List.map (ah.enc ak) (aC.kept (dG.a12 a.rises)))));let z5:=(List.map (ah.enc ak) (List.map (ah.dec ak) (List.map (ah.enc ak) (aC.kept (dG.Hu a.rises)))));let z6:=(List.map (ah.enc ak) (List.map (ah.dec ak) (List.map (ah.enc ak) (aC.kept (dG.Hw a.rises)))));let z7:=(List.map (ah.enc ak) (List.map (ah.dec ak) (List.map (ah.enc ak) (aC.kept (dG.Hy a.rises)))));let z8:=(List.map (ah.enc ak) (List.map (ah.dec ak) (List.map (ah.enc ak) (aC.kept (dG.a0 a.rises)))));let z9:=(List.map (ah.enc ak) (List.map (ah.dec ak) (List.map (ah.enc ak) (aC.kept (dG.a1 a.rises)))));let z10:=(List.map (ah.enc ak) (List.map (ah.dec ak) (List.map (ah.enc ak) (aC.kept (dG.a2 a.rises)))));let z11:=(List.map (ah.enc ak) (List.map (ah.dec ak) (List.map (ah.enc ak) (aC.kept (dG.a3 a.rises)))));let z12:=(List.map (ah.enc ak) (List.map (ah.dec ak) (List.map (ah.enc ak) (aC.kept (dG.a4 a.rises)))));let z13:=(List.map (ah.enc ak) (List.map (ah.dec ak) (List.map (ah.enc ak) (aC.kept (dG.a5 a.rises)))));let z14:=(List.map (ah.enc ak) (List.map (ah.dec ak) (List.map (ah.enc ak) (aC.kept (dG.a6 a.rises)))));let z15:=(List.map (ah.enc ak) (List.map (ah.dec ak) (List.map (ah.enc ak) (aC.kept (dG.a7 a.rises)))));let z16:=(List.map (ah.enc ak) (List.map (ah.dec ak) (List.map (ah.enc ak) (aC.kept (dG.a8 a.rises)))));let z17:=(List.map (ah.enc ak) (List.map (ah.dec ak) (List.map (ah.enc ak) (aC.kept (dG.a9 a.rises)))));let z18:=(ah.enc au (Prod.fst z0.2));let z20:=(K .ret {fr:=[(8,.bool false)],tab:=[]:St});let z21:=(List.map (ah.enc aS) (List.map (ah.dec aS) (List.map (ah.enc aS) a.rows)));let z22:=(ah.dec au (ah.enc au z0.1));cond (aZ i32 i31) (cond (decide (0<=i32∧i32<(↑(List.length Ld):Int))) (cond (bif wJ z19 then bif qx z1 then Dh (ah.dec fU (List.getD Ld (Int.toNat i32) [])) else false else false) (cond (!Prod.snd z0.2) z20 (cond (Dk z22 (ah.dec au z18)) (cond (zF z19) (cond (bif jG {next:=aF.next a,bytes:=aF.bytes a,rows:=List.map (ah.dec aS) z21,rises:={a0:={total:=aC.total (dG.a0 a.rises),kept:=List.map (ah.dec ak) z8:aC},a1:={total:=aC.total (dG.a1 a.rises),kept:=List.map (ah.dec ak) z9:aC},a2:={total:=aC.total (dG.a2 a.rises),kept:=List.map (ah.dec ak) z10:aC},a3:={total:=aC.total (dG.a3 a.rises),kept:=List.map (ah.dec ak) z11:aC},a4:={total:=aC.total (dG.a4 a.rises),kept:=List.map (ah.dec ak) z12:aC},a5:={total:=aC.total (dG.a5 a.rises),kept:=List.map (ah.dec ak) z13:aC},a6:={total:=aC.total (dG.a6 a.rises),kept:=List.map (ah.dec ak) z14:aC},a7:={total:=aC.total (dG.a7 a.rises),kept:=List.map (ah.dec ak) z15:aC},a8:={total:=aC.total (dG.a8 a.rises),kept:=List.map (ah.dec ak) z16:aC},a9:={total:=aC.total (dG.a9 a.rises),kept:=List.map (ah.dec ak) z17:aC},a10:={total:=aC.total (dG.a10 a.rises),kept:=List.map (ah.dec ak) z2:aC},a11:={total:=aC.total (dG.a11 a.rises),kept:=List.map (ah.dec ak) z3:aC},a12:={total:=aC.total (dG.a12 a.rises),kept:=List.map (ah.dec ak) z4:aC},Hu:={total:=aC.total (dG.Hu a.rises),kept:=List.map (ah.dec ak) z5:aC},Hw:={total:=aC.total (dG.Hw a.rises),kept:=List.map (ah.dec ak) z6:aC},Hy:={total:=aC.total (dG.Hy a.rises),kept:=List.map (ah.dec ak) z7:aC}:dG aC}:aF} then jG z1 else false) (cond (!N.AP {next:=aF.next a,bytes:=aF.bytes a,rows:=List.map (ah.dec aS) z21,rises:={a0:={total:=aC.total (dG.a0 a.rises),kept:=List.map (ah.dec ak) z8:aC},a1:={total:=aC.total (dG.a1 a.rises),kept:=List.map (ah.dec ak) z9:aC},a2:={total:=aC.total (dG.a2 a.rises),kept:=List.map (ah.dec ak) z10:aC},a3:={total:=aC.total (dG.a3 a.rises),kept:=List.map (ah.dec ak) z11:aC},a4:={total:=aC.total (dG.a4 a.rises),kept:=List.map (ah.dec ak) z12:aC},a5:={total:=aC.total (dG.a5 a.rises),kept:=List.map (ah.dec ak) z13:aC},a6:={total:=aC.total (dG.a6 a.rises),kept:=List.map (ah.dec ak) z14:aC},a7:={total:=aC.total (dG.a7 a.rises),kept:=List.map (ah.dec ak) z15:aC},a8:={total:=aC.total (dG.a8 a.rises),kept:=List.map (ah.dec ak) z16:aC},a9:={total:=aC.total (dG.a9 a.rises),kept:=List.map (ah.dec ak) z17:aC},a10:={total:=aC.total (dG.a10 a.rises),kept:=List.map (ah.dec ak) z2:aC},a11:={total:=aC.total (dG.a11 a.rises),kept:=List.map (ah.dec ak) z3:aC},a12:={total:=aC.total (dG.a12 a.rises),kept:=List.map (ah.dec ak) z4:aC},Hu:={total:=aC.total (dG.Hu a.rises),kept:=List.map (ah.dec ak) z5:aC},Hw:={total:=aC.total (dG.Hw a.rises),kept:=List.map (ah.dec ak) z6:aC},Hy:={total:=aC.total (dG.Hy a.rises),kept:=List.map (ah.dec ak) z7:aC}:dG aC}:aF} z1) z20 (cond (bif jG z19 then jG z22 else false) (cond (bif jG z1 then jG (ah.dec au z18) else false) (cond (!N.AP z19 z22==N.AP z1 (ah.dec au z18)) z20 (K .normal {fr:=[(1,.int .i64 i1),(3,.int .u64 i3),(9,.ptr 10000 0 0 0),(10,.ptr 10001 0 0 0),(30,.slc [.int .u8,.str,.str,.int .u64,.int .u64,.str,.int .u64,.str,.str,.slc yP,.str,.int .u64,.int .u8,.int .u64,.int .i64] Ld),(31,.int .i64 i31),(32,.int .i64 (IntKind.wrap .i64 (i32+1)))],tab:=[(10000,.var (ah.enc au z0.1)),(10001,.var z18)]:St})) none) none)) none) none) none)) none) none) (K (.exit 0) {fr:=[(1,.int .i64 i1),(9,.ptr 10000 0 0 0),(10,.ptr 10001 0 0 0)],tab:=[(10000,.var (ah.enc au a)),(10001,.var (ah.enc au b))]:St})):=by kernel_rfl
  dsimp only at h;exact h):=by kernel_rfl
theorem ZT:dB Ec 7 7:=by
 refine bf rfl fun l K q h=>?_
 unfold aej at h
 split at h
 .rename_i i1 i3 Ld i31 i32 cZ iT
  replace h:=Ed h;obtain ⟨h1,h2,h3,h4,h5,h⟩:=h
  have e1:=aY h1
  have e2:=aY h2
  subst e1 e2
  have h3:Ld.length<=60:=aX h3
  obtain ⟨s0,g1,g2,g3⟩:=Wp h4
  rw [wR g2] at h
  show ∃ n,qB Ec 7 7 n { fr:=[(1,.int .i64 i1),(3,.int .u64 i3),(9,.ptr 10000 0 0 0),(10,.ptr 10001 0 0 0),(30,.slc [.int .u8,.str,.str,.int .u64,.int .u64,.str,.int .u64,.str,.str,.slc yP,.str,.int .u64,.int .u8,.int .u64,.int .i64] Ld),(31,.int .i64 Ld.length),(32,.int .i64 0)],tab:=[(10000,.var (aB aA 0 cZ)),(10001,.var (aB aA 0 iT))] } K=some q
  rw [<- g2,<- g3]
  have main:=dh (E:=Ec) (f:=7) (id:=7) (A:=aF) Ld (fun a i=>{ fr:=[(1,.int .i64 i1),(3,.int .u64 i3),(9,.ptr 10000 0 0 0),(10,.ptr 10001 0 0 0),(30,.slc [.int .u8,.str,.str,.int .u64,.int .u64,.str,.int .u64,.str,.str,.slc yP,.str,.int .u64,.int .u8,.int .u64,.int .i64] Ld),(31,.int .i64 Ld.length),(32,.int .i64 i)],tab:=[(10000,.var (aB aA 0 (au.enc a))),(10001,.var (aB aA 0 (au.enc a)))] }) (fun a _=>vT i1 a)
   (fun a rows K=>K (.exit 0) { fr:=[(1,.int .i64 i1),(9,.ptr 10000 0 0 0),(10,.ptr 10001 0 0 0)],tab:=[(10000,.var (au.enc (N.Zo a (rows.map fU.dec)))),(10001,.var (au.enc (N.Zo a (rows.map fU.dec))))] }) (fun a i ha hi=>?_) (fun a ha=>?_) s0 0 (Int.le_refl _) (by omega) g1 K q (by assumption)
  .exact main
  .have hq:=fun K=>Uo i1 i3 Ld Ld.length (i:Int) a a K
   have t1:aZ (i:Int) Ld.length=true:=dK (by omega)
   have t2:decide ((0:Int)<=i∧(i:Int)<Ld.length)=true:=decide_eq_true (by omega)
   have t3:IntKind.wrap .i64 ((i:Int)+1)=(i:Int)+1:=dY (by omega) (by omega)
   have hg:uD (fU.dec (Ld.getD i []))=true:=jF h5 hi
   have hp:=Um ha hg
   have e:=Zn ha.inv hg
   have p1:=ab4 hp.inv
   have p2:=Qp ha.inv
   simp only [Int.toNat_natCast,au.de,bn,FK] at hq
   simp only [t1,t2,t3,ha.inv.wJ,ha.inv.qx,(aP hg).1,e,p1,p2,ha.inv.jG,hp.inv.jG,FI,cond_true,cond_false,Bool.not_true,beq_self_eq_true] at hq
   exact .inl ⟨_,hp,fun K=>hq K,fun K=>rfl⟩
  .refine ⟨.exit 0,{ fr:=[(1,.int .i64 i1),(9,.ptr 10000 0 0 0),(10,.ptr 10001 0 0 0)],tab:=[(10000,.var (au.enc a)),(10001,.var (au.enc a))] },by simp,fun K=>?_,fun K=>rfl⟩
   have hq:=Uo i1 i3 Ld Ld.length Ld.length a a K
   rw [iG (by omega)] at hq
   exact hq
 .cases h
theorem agx (hN:bH Tryz.prog 95 fZ):bH Tryz.prog 7 an1:=by
 refine aK (aT (((((((((((((fK.nil _).cons ab3).cons (aqs hN)).cons (Uc hN)).cons akG).cons Ui).cons (Qr hN)).cons (agr hN)).cons (abN hN)).cons akI).cons VL).cons af6).cons (anU hN))) (E:=Ec) Tryz.func7 [7] (by kernel_rfl) (one1 ZT) fun a b hp=>?_
 obtain ⟨base,n,l,tick⟩:=a
 obtain ⟨hb,hp⟩:=aP (show cond (cond (bU 0 base) (aZ base 18446744073709551616) false) (cond (bU n 9223372036854775807) (cond (Nat.ble l.length 9223372036854775807) (l.all wP) false) false) false=true from hp)
 obtain ⟨hb0,hb1⟩:=aP hb
 obtain ⟨hn,hp⟩:=aP hp
 obtain ⟨hl0,hl⟩:=aP hp
 have i0:vT n (N.sNew base n):=⟨anR base n (bQ hb0) (jZ hb1) (bQ hn),rfl,rfl⟩
 refine (alu base n l tick).trans ?_
 simp only [bn,au.de,List.length_map,hl0,beq_self_eq_true,ZR i0,cond_true]
 cases h5:N.og l with
 | false=>rfl
 | true =>
  have hl:=Ua h5 hl
  cases h4:bU (l.length:Int) 60 with
  | false=>rfl
  | true =>
   have is:=Un l i0 hl
   rw [dN (show l.length<=60 by have:=bQ h4; omega),hl]
   generalize N.Zo (N.sNew base n) l=s at *
   have hs:=ab1 is.inv is.full is.bytes
   simp only [is.inv.TV,hn,hs,is.inv.jG,FI,beq_self_eq_true,cond_true,cond_false,Bool.not_true]
   try rfl
end Go.Ev

namespace Go.Ev
open Go Go.Proofs Go.RowKit Go.Shelf
theorem aoQ:(Tryz.prog.info? 223).map (·.size)=some 2:=by kernel_rfl
theorem ar4:liesAt Tryz.prog Tryz.prog.depth 223 (2 / Tryz.prog.cellsOf 223) 0 223 1=true:=by kernel_rfl
theorem bByte:(Tryz.prog.info? 5).map (fun i=>(i.zero,i.size,i.bytes))=some (some (.int .u8 0),1,1):=by kernel_rfl
set_option maxHeartbeats 1000000 in
set_option maxRecDepth 100000 in
theorem an2 (b : Nat) (w : World) (h0 : w.cell? ⟨b, 0, none⟩ = some (.pointer (some ⟨b, 0, none⟩))) :
    Calls Tryz.prog 190 #[.pointer (some ⟨b, 0, none⟩)] w fun e w' => e = .returned (.tuple #[]) ∧ w' = w := by
  obtain ⟨j, hj, _⟩ := Option.map_eq_some_iff.1 aoQ
  go_enter Tryz.func190, Tryz.ntmps190
  go_wp2
  rw [Lib.run_neq_ptr_same w _ Tryz.underlying221 hj]
  go_wp2
  go_end0
  exact ⟨rfl, rfl⟩
set_option maxHeartbeats 1000000 in
set_option maxRecDepth 100000 in
theorem alv (b : Nat) (w : World) (h0 : w.cell? ⟨b, 0, none⟩ = some (.pointer none)) (hsh : w.shape? b = some (223, 2)) (hfz : w.frozen? ⟨b, 0, none⟩ = false) :
    Calls Tryz.prog 190 #[.pointer (some ⟨b, 0, none⟩)] w fun e w' => e = .returned (.tuple #[]) ∧ w' = w.setCell ⟨b, 0, none⟩ (.pointer (some ⟨b, 0, none⟩)) := by
  obtain ⟨j, hj, hjs⟩ := Option.map_eq_some_iff.1 aoQ
  go_enter Tryz.func190, Tryz.ntmps190
  go_wp2
  rw [Lib.run_to_unsafe w ⟨b, 0, none⟩ Tryz.underlying221 Tryz.underlying256 hj (by rw [hjs]; decide) hsh (Nat.zero_lt_succ 1)]
  simp only [Result.andThen]
  rw [Oper.upon_value]
  go_wp2
  rw [run_callFunc_extern Tryz.func198 (by kernel_rfl) (by kernel_rfl) (by kernel_rfl) (e := Extern.AbiNoEscape.same) (by kernel_rfl)]
  rw [Lib.run_noEscape]
  simp only [Result.andThen]
  rw [Oper.upon_value]
  go_wp2
  rw [Lib.run_from_unsafe w ⟨b, 0, none⟩ Tryz.underlying256 Tryz.underlying221 hj hsh ar4]
  simp only [Result.andThen]
  rw [Oper.upon_value]
  go_wp2
  go_end0
  exact ⟨rfl, rfl⟩
theorem cc (B b:Nat) (bs:List Value) (w:World) (h:Lib.IsBuilder 223 5 B b bs w) :
  Calls Tryz.prog 190 #[.pointer (some ⟨b,0,none⟩)] w fun e w'=>e = .returned (.tuple #[])∧(Lib.BuilderAt 223 5 B b (.pointer (some ⟨b,0,none⟩)) bs w'∧Below B w w'):=by
 rcases h with h | h
 .refine (alv b w h.cell0 h.shape h.frozen0).mono ?_
  rintro e w' ⟨rfl,rfl⟩
  exact ⟨rfl,h.used _,(Below.refl B w).setCell (p:=⟨b,0,none⟩) h.1 _⟩
 .refine (an2 b w h.cell0).mono ?_
  rintro e w' ⟨rfl,rfl⟩
  exact ⟨rfl,h,Below.refl B _⟩
set_option maxHeartbeats 2000000 in
set_option maxRecDepth 100000 in
theorem writeByte (B b : Nat) (bs : List Value) (c : Int) (w : World) (h : Lib.IsBuilder 223 5 B b bs w) (hlen : bs.length + 1 <= 140737488355328) (hBw : B <= w.heap.size) :
    Calls Tryz.prog 161 #[.pointer (some ⟨b, 0, none⟩), .int .u8 c] w fun e w' => e = .returned .nilIface ∧ (Lib.BuilderAt 223 5 B b (.pointer (some ⟨b, 0, none⟩)) (bs ++ [.int .u8 c]) w' ∧ Below B w w') := by
  obtain ⟨i0, hi, hz0, hz1, hz2⟩ := info_parts bByte
  go_enter Tryz.func161, Tryz.ntmps161
  go_wp2_with (go_at_call 190; refine (cc B b bs _ h).mono ?_)
  rintro e w1 ⟨rfl, h1, hb1⟩
  obtain ⟨hB, v, hbk, hown, hne⟩ := h1
  have c0 : w1.cell? ⟨b, 0, none⟩ = some (.pointer (some ⟨b, 0, none⟩)) := by rw [Lib.cell_of_heap hbk]; rfl
  have c1 : w1.cell? ⟨b, 1, none⟩ = some v := by rw [Lib.cell_of_heap hbk]; rfl
  go_wp2_with (at_builtin; refine wpList_append_own _ rfl _ _ 208 rfl B 5 i0 (.int .u8 0) 1 1 Tryz.underlying208 hi hz0 hz1 hz2 rfl (by decide) _ _ _ rfl (hown.alloc _) ⟨w1.heap.size, 0, none⟩ 1 1 [.int .u8 c] rfl rfl ?c1 ?c2 ?c3 ?c4 ?c5 ?_)
  case c1 =>
    intro j u hj
    match j, hj with
    | 0, hj => simp at hj; subst hj; simp [Addr.add]
  case c2 => intro u hu; simp at hu; subst hu; rfl
  case c3 => unfold maxLen; omega
  case c4 => omega
  case c5 => have := hb1.size; simp; omega
  intro v' w2 hown' hgrow _
  have hlt : b < w1.heap.size := by
    rcases Nat.lt_or_ge b w1.heap.size with h' | h'
    . exact h'
    . simp [Array.getElem?_eq_none h'] at hbk
  have hb2 : w2.heap[b]? = some (.cells #[.pointer (some ⟨b, 0, none⟩), v] 223 (0, 0)) := by
    rw [hgrow.block b (by simp; omega) (fun e => hne e.symm), Lib.alloc_old w1 _ b hlt]
    exact hbk
  have d0 : w2.cell? ⟨b, 0, none⟩ = some (.pointer (some ⟨b, 0, none⟩)) := by rw [Lib.cell_of_heap hb2]; rfl
  have d1 : w2.cell? ⟨b, 1, none⟩ = some v := by rw [Lib.cell_of_heap hb2]; rfl
  have f1 : w2.frozen? ⟨b, 1, none⟩ = false := Lib.frozen_of_heap hb2 1
  obtain ⟨g, cap, rfl⟩ : ∃ g cap, v' = .slice (some ⟨g, 0, none⟩) (bs.length + 1) cap := by
    rcases hown'.2 with ⟨_, h0⟩ | ⟨g, cap, cur, hv, _⟩
    . omega
    . exact ⟨g, cap, hv⟩
  go_wp2
  go_ret
  refine ⟨rfl, ?_, ?_⟩
  . exact Lib.BuilderAt.put (T := 223) (e := 5) hB hb2 (bs' := bs ++ [.int .u8 c]) (by simpa using hown') (by decide)
  . exact ((hb1.alloc (by have := hb1.size; omega) _).grown hgrow (by have := hb1.size; simp; omega) (fun k hk => (hown.lt k hk).1)).setCell (p := ⟨b, 1, none⟩) hB _
def lays169_ren:Go.Shelf.Ren:=⟨fun | 169=>162 | n=>n,fun | 70=>221 | 9=>9 | 0=>0 | 72=>223 | 37=>208 | 127=>249 | 3=>3 | 5=>5 | n=>n,fun | n=>n⟩
theorem lays169:Go.Proofs.Lays.n169 Tryz.prog lays169_ren:={
 mixed:=by kernel_rfl
 f169:=Tryz.func162.trans (congrArg some (by kernel_rfl))
 t0:=Tryz.underlying0
 a0:=Tryz.isAgg0
 z0:=Tryz.sizeOf0
 v0:=Tryz.zeroValue0
 t3:=Tryz.underlying3
 a3:=Tryz.isAgg3
 z3:=Tryz.sizeOf3
 v3:=Tryz.zeroValue3
 t9:=Tryz.underlying9
 a9:=Tryz.isAgg9
 z9:=Tryz.sizeOf9
 v9:=Tryz.zeroValue9
 t37:=Tryz.underlying208
 a37:=Tryz.isAgg208
 z37:=Tryz.sizeOf208
 v37:=Tryz.zeroValue208
 t70:=Tryz.underlying221
 a70:=Tryz.isAgg221
 z70:=Tryz.sizeOf221
 v70:=Tryz.zeroValue221
 t72:=Tryz.underlying223
 a72:=Tryz.isAgg223
 z72:=Tryz.sizeOf223
 v72:=Tryz.zeroValue223
 t127:=Tryz.underlying249
 a127:=Tryz.isAgg249
 z127:=Tryz.sizeOf249
 v127:=Tryz.zeroValue249 }
theorem alx:Builder.Extra Tryz.prog lays169_ren:={
 sizeBuilder:=by kernel_rfl
 liesBuilder:=by kernel_rfl
 t5:=Tryz.underlying5
 a5:=Tryz.isAgg5
 z5:=Tryz.sizeOf5
 v5:=Tryz.zeroValue5
 infoByte:=by kernel_rfl
 cellsByte:=by kernel_rfl
 sizeByte:=by kernel_rfl
 neB5:=by decide }
theorem an3 (B b:Nat) (l:List UInt8) (w:World) (h:Lib.IsBuilder 223 5 B b (Lib.byteCells l) w) (hBw:B<=w.heap.size) :
  Calls Tryz.prog 162 #[.pointer (some ⟨b,0,none⟩)] w fun e w'=>e = .returned (.string ⟨l.toArray⟩)∧Below B w w':=Any.Builder_String_any lays169 alx B b l w h hBw
end Go.Ev

namespace Go.Ev
open Go Go.Proofs Go.RowKit Go.Shelf
theorem aly {bytes:Int}:min (max bytes 0) 8=(N.clamp bytes:Int)∧N.clamp bytes<=8:=by
 unfold N.clamp
 rw [lD,lD]
 by_cases h1:0<bytes
 .by_cases h2:8<bytes
  .simp [h1,h2]; omega
  .simp [h1,h2]; omega
 .simp [h1]; omega
theorem acd {w wr:World} {o1 o2:Obj} (h:Below (w.heap.size+1+1) ((w.alloc o1).alloc o2) wr):wr.heap[w.heap.size]? = some o1∧wr.heap[w.heap.size+1]? = some o2:=by
 have e:(w.alloc o1).heap.size=w.heap.size+1:=by simp
 refine ⟨?_,?_⟩
 .rw [h.block _ (by omega),Below.heap_alloc _ _ _ (by omega)]; exact Go.heap_alloc_new w o1
 .rw [h.block _ (by omega),<- e]; exact Go.heap_alloc_new _ o2
set_option maxHeartbeats 4000000 in
set_option maxRecDepth 1000000 in
theorem ZU (s : ByteArray) (er n bytes : Int) (w : World) (hs : (s.size : Int) <= 9223372036854775799) :
    Calls Tryz.prog 95 #[.agg #[.string s, .int .i64 er], .int .u64 n, .int .i64 bytes] w fun e w' =>
      e = .returned (.agg #[.string ⟨(s.data.toList ++ N.bW n (N.clamp bytes)).toArray⟩, .int .i64 er]) ∧ Below w.heap.size w w' := by
  go_enter Tryz.func95, Tryz.ntmps95
  go_wp2
  go_loopw [8] (fun i wr => ∃ (k : Int) (acc : List UInt8), i = .int .i64 k ∧ Lib.IsBuilder 223 5 (w.heap.size + 1 + 1) (w.heap.size + 1 + 1) (Lib.byteCells acc) wr ∧
      Below (w.heap.size + 1 + 1) ((w.alloc (Obj.cells #[Value.string s, Value.int IntKind.i64 er] 154)).alloc (Obj.cells #[Value.string { data := #[] }, Value.int IntKind.i64 0] 154)) wr ∧
      -1 <= k ∧ acc ++ N.bW n (k + 1).toNat = N.bW n (N.clamp bytes) ∧ acc.length + (k + 1).toNat <= 8) (fun i _ => (intOf i + 1).toNat)
  case atStart =>
    obtain ⟨hcl, hc8⟩ := aly (bytes := bytes)
    have hf := Lib.fresh_isBuilder 223 5 ((w.alloc (Obj.cells #[Value.string s, Value.int IntKind.i64 er] 154)).alloc (Obj.cells #[Value.string { data := #[] }, Value.int IntKind.i64 0] 154))
    have e0 : ((w.alloc (Obj.cells #[Value.string s, Value.int IntKind.i64 er] 154)).alloc (Obj.cells #[Value.string { data := #[] }, Value.int IntKind.i64 0] 154)).heap.size = w.heap.size + 1 + 1 := by simp
    rw [e0] at hf
    refine ⟨(N.clamp bytes : Int) - 1, [], by rw [hcl], hf, (Below.refl _ _).alloc (by simp) _, by omega, ?_, ?_⟩
    . rw [show ((N.clamp bytes : Int) - 1 + 1).toNat = N.clamp bytes by omega]; rfl
    . simp only [List.length_nil]; omega
  case round =>
    obtain ⟨k, acc, rfl, hI, hB, hk, hacc, hal⟩ := hrel
    by_cases hk0 : 0 <= k
    . go_wp2_with (go_at_call 161; refine (writeByte (w.heap.size + 1 + 1) (w.heap.size + 1 + 1) _ _ _ hI (by rw [Lib.byteCells_length]; omega) (by have := hB.size; simp at this; omega)).mono ?_)
      rintro e w1 ⟨rfl, h1, b1⟩
      go_wp2
      go_roundw
      case rel =>
        have e1 : N.bW n (k + 1).toNat = UInt8.ofNat ((n / 2 ^ (8 * k.toNat)) % 256).toNat :: N.bW n k.toNat := by
          rw [show (k + 1).toNat = k.toNat + 1 by omega]; rfl
        have e2 : ((UInt8.ofNat ((n / 2 ^ (8 * k.toNat)) % 256).toNat).toNat : Int) = n / 2 ^ (8 * k).toNat % 256 := by
          rw [show (8 * k).toNat = 8 * k.toNat by omega]
          have h0 : 0 <= (n / 2 ^ (8 * k.toNat)) % 256 := Int.emod_nonneg _ (by decide)
          have h1 : (n / 2 ^ (8 * k.toNat)) % 256 < 256 := Int.emod_lt_of_pos _ (by decide)
          have h2 : (UInt8.ofNat ((n / 2 ^ (8 * k.toNat)) % 256).toNat).toNat = ((n / 2 ^ (8 * k.toNat)) % 256).toNat := UInt8.toNat_ofNat_of_lt' (by
            show ((n / 2 ^ (8 * k.toNat)) % 256).toNat < 256
            omega)
          rw [h2]; omega
        refine ⟨k - 1, acc ++ [UInt8.ofNat ((n / 2 ^ (8 * k.toNat)) % 256).toNat], rfl, ?_, hB.trans b1, by omega, ?_, ?_⟩
        . rw [Lib.byteCells_append]
          have e3 : Lib.byteCells [UInt8.ofNat ((n / 2 ^ (8 * k.toNat)) % 256).toNat] = [Value.int .u8 (n / 2 ^ (8 * k).toNat % 256)] := by
            rw [<- e2]; rfl
          rw [e3]; exact Or.inr h1
        . rw [e1] at hacc
          rw [<- hacc, show (k - 1 + 1).toNat = k.toNat by omega, List.append_assoc]; rfl
        . rw [List.length_append]; simp only [List.length_cons, List.length_nil]; omega
      case measure => simp [intOf]; omega
    . have hk1 : k = -1 := by omega
      subst hk1
      have hfin : N.bW n (N.clamp bytes) = acc := by rw [<- hacc]; show acc ++ [] = acc; simp
      have hal : acc.length <= 8 := by omega
      clear hacc
      rw [hfin]
      obtain ⟨hb0, hb1⟩ := acd hB
      have c0 : wr.cell? ⟨w.heap.size, 0, none⟩ = some (.string s) := by rw [Lib.cell_of_heap hb0]; rfl
      have c1 : wr.cell? ⟨w.heap.size, 1, none⟩ = some (.int .i64 er) := by rw [Lib.cell_of_heap hb0]; rfl
      have c2 : wr.cell? ⟨w.heap.size + 1, 0, none⟩ = some (.string ⟨#[]⟩) := by rw [Lib.cell_of_heap hb1]; rfl
      have c3 : wr.cell? ⟨w.heap.size + 1, 1, none⟩ = some (.int .i64 0) := by rw [Lib.cell_of_heap hb1]; rfl
      have f0 : wr.frozen? ⟨w.heap.size, 0, none⟩ = false := Lib.frozen_of_heap hb0 0
      have f1 : wr.frozen? ⟨w.heap.size, 1, none⟩ = false := Lib.frozen_of_heap hb0 1
      have f2 : wr.frozen? ⟨w.heap.size + 1, 0, none⟩ = false := Lib.frozen_of_heap hb1 0
      have f3 : wr.frozen? ⟨w.heap.size + 1, 1, none⟩ = false := Lib.frozen_of_heap hb1 1
      have hBw : w.heap.size + 1 + 1 <= wr.heap.size := by have := hB.size; simp at this; omega
      have hadd : ¬ 9223372036854775807 < s.size + acc.length := by omega
      have aoR : ¬ 9223372036854775807 < s.size + (⟨acc.toArray⟩ : ByteArray).size := by
        show ¬ 9223372036854775807 < s.size + acc.toArray.size
        rw [List.size_toArray]; exact hadd
      have asT : ¬ (s.size + (⟨acc.toArray⟩ : ByteArray).size > 9223372036854775807) := aoR
      have asU : s.size + (⟨acc.toArray⟩ : ByteArray).size <= 9223372036854775807 := Nat.not_lt.1 aoR
      have asW : s.size + acc.length <= 9223372036854775807 := Nat.not_lt.1 hadd
      go_wp2
      go_region_with (go_at_call 162; refine (an3 (w.heap.size + 1 + 1) (w.heap.size + 1 + 1) acc _ (by exact hI) (by exact hBw)).mono ?_; rintro e w2 ⟨rfl, b2⟩
                      have d0 : w2.cell? ⟨w.heap.size, 0, none⟩ = some (.string s) := by rw [b2.cell (by show w.heap.size < w.heap.size + 1 + 1; omega)]; exact c0
                      have d1 : w2.cell? ⟨w.heap.size, 1, none⟩ = some (.int .i64 er) := by rw [b2.cell (by show w.heap.size < w.heap.size + 1 + 1; omega)]; exact c1
                      have d2 : w2.cell? ⟨w.heap.size + 1, 0, none⟩ = some (.string ⟨#[]⟩) := by rw [b2.cell (by show w.heap.size + 1 < w.heap.size + 1 + 1; omega)]; exact c2
                      have d3 : w2.cell? ⟨w.heap.size + 1, 1, none⟩ = some (.int .i64 0) := by rw [b2.cell (by show w.heap.size + 1 < w.heap.size + 1 + 1; omega)]; exact c3
                      have e0 : w2.frozen? ⟨w.heap.size, 0, none⟩ = false := by rw [b2.frozen (by show w.heap.size < w.heap.size + 1 + 1; omega)]; exact f0
                      have e1 : w2.frozen? ⟨w.heap.size, 1, none⟩ = false := by rw [b2.frozen (by show w.heap.size < w.heap.size + 1 + 1; omega)]; exact f1
                      have e2 : w2.frozen? ⟨w.heap.size + 1, 0, none⟩ = false := by rw [b2.frozen (by show w.heap.size + 1 < w.heap.size + 1 + 1; omega)]; exact f2
                      have e3 : w2.frozen? ⟨w.heap.size + 1, 1, none⟩ = false := by rw [b2.frozen (by show w.heap.size + 1 < w.heap.size + 1 + 1; omega)]; exact f3)
      all_goals go_wp2
      all_goals
        refine ⟨rfl, .agg #[.string (s ++ ⟨acc.toArray⟩), .int .i64 er], ?_, ?_, ?_⟩
        . simp [results, Tryz.results95, go_sem, d2, d3]
        . rw [hfin, <- bytes_append]
        . have b0 : Below w.heap.size w wr := (((Below.refl _ w).alloc (Nat.le_refl _) _).alloc (by simp) _).trans (hB.mono (by omega))
          exact (((b0.drew.trans (b2.mono (by omega))).setCell (p := ⟨w.heap.size, 0, none⟩) (Nat.le_refl _) _).setCell (p := ⟨w.heap.size + 1, 0, none⟩) (Nat.le_succ _) _).setCell (p := ⟨w.heap.size + 1, 1, none⟩) (Nat.le_succ _) _
theorem ZV {w w' : World} (X:Nat->Nat->Prop) (h:Below w.heap.size w w'):Keeps X w w' :=
 ⟨h.os,h.tape,h.output,h.size,fun b hb=>nX.same (h.block b hb)⟩
theorem agy:bH Tryz.prog 95 fZ:=by
 refine UZ fun a b hp=>?_
 obtain ⟨o,n,bytes⟩:=a
 intro x y hxy w J gq xs hlen hJ hx _ _ _
 have hxy:x=(aO (bg cOut) (aO (cu .u64) (aW (cu .i64)))).enc (o,n,bytes)∧y=dw.enc b:=by simpa using hxy
 obtain ⟨rfl,rfl⟩:=hxy
 have hlen:gq=[]:=List.eq_nil_of_length_eq_zero hlen
 subst hlen
 obtain ⟨hp1,hp⟩:=aP hp
 obtain ⟨hp2,hp3⟩:=aP hp
 have hp3:o.s.length<=9223372036854775799:=Nat.le_of_ble_eq_true hp3
 obtain ⟨x0,xs1,rfl,hx0,hx⟩:=hx.qK
 obtain ⟨x1,xs2,rfl,hx1,hx⟩:=hx.qK
 obtain ⟨x2,rfl,hx2⟩:=hx.one
 obtain ⟨cs,rfl,hc1,hc2⟩:=Rv.pK (show Rv w J _ (.agg [.str o.s,.int .i64 o.err]) x0 from hx0)
 have hx1:=Rv.iE (show Rv w J _ (.int .u64 n) x1 from hx1)
 have hx2:=Rv.iE (show Rv w J _ (.int .i64 bytes) x2 from hx2)
 subst hx1 hx2
 match cs,hc1,hc2 with
 | [c0,c1],_,hc2 =>
  have h0:=Rv.rE (show Rv w J _ (.str o.s) c0 from hc2 0 (by simp))
  have h1:=Rv.iE (show Rv w J _ (.int .i64 o.err) c1 from hc2 1 (by simp))
  subst h0 h1
  refine .inl ⟨?_,?_⟩
  .have hnm : ¬ (Tryz.f95).name = "runtime.NumGoroutine" := by
    intro e
    have : ((Tryz.f95).name == "runtime.NumGoroutine") = false := by kernel_rfl
    rw [e] at this; cases this
   obtain ⟨c,hc⟩:=Option.isSome_iff_exists.1 (show (Tryz.f95).body.isSome=true by kernel_rfl)
   simp [callFunc,Tryz.func95,hnm,hc]
  .refine (ZU ⟨o.s.toArray⟩ o.err n bytes w (by rw [sK]; omega)).mono fun e w' ⟨he,hb⟩=>⟨_,he,J,?_⟩
   refine ⟨ZV _ hb,fun _ _ h=>h,fun b o' h=>Nat.lt_of_lt_of_le (hJ b o' h) hb.size,fun _ _ h _=>h,rfl,(fun j cs cs' p hj=>by cases hj),.inl ⟨rfl,?_⟩⟩
   refine .agg [.str (N.jl o n bytes).s,.int .i64 (N.jl o n bytes).err] [.string ⟨(o.s++N.bW n (N.clamp bytes)).toArray⟩,.int .i64 o.err] rfl fun i hi=>?_
   match i,hi with
   | 0,_=>exact .dat (.str _)
   | 1,_=>exact .dat (.int _ _)
end Go.Ev
