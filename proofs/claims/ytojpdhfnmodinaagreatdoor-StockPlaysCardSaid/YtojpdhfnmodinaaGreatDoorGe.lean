/- What a claim needs: definitions and lemmas, no condition. -/
import Derived.Test.YtojpdhfnmodinaaGreatDoorGd
namespace Go.Ev
open Go Go.Proofs
set_option maxRecDepth 100000
-- FOLD
def abm:Den:=den (aO (jY aj) (aW (cu .u64))) dw (oV (cu .i64)) (fun a _=>Nat.ble a.1.length 1000) fun a _=>(N.ix (N.isId a.2) a.1 0,())
def Ph:Den:=den (aO (jY aj) (aO (cu .i64) (aW (bg aj)))) dw (oV (jY aj)) (fun a _=>o9 a.1 a.2.1) fun a _=>(a.1.set a.2.1.toNat a.2.2,())
def ajE:Den:=den (aW (jY aj)) dw (nP (aO (jY aj) (aO (bg aj) (aW iF)))) (fun l _=>Nat.ble l.length 1000) fun l _=>(N.o7 l,())
def ajF:Den:=den (aO (jY aj) (aW (cu .u64))) dw (nP (aO (jY aj) (aW (cu .i64)))) (fun a _=>Nat.ble a.1.length 1000) fun a _=>(N.uO a.1 a.2,())
def Pj:Den:=den (aO (jY aj) (aW (cu .u64))) dw (nP (aO (jY aj) (aO (bg aj) (aW (cu .i64))))) (fun a _=>Nat.ble a.1.length 1000) fun a _=>(N.eP a.1 a.2,())
def ajG:Den:=den (aW (jY aj)) dw (oV (jY aj)) (fun l _=>Nat.ble l.length 1000) fun l _=>(N.mX l,())
def aoE:Den:=den (aO (jY aj) (aW (bg ak))) dw (nP (aO (jY aj) (aW (cu .i64)))) (fun a _=>Nat.ble a.1.length 1000) fun a _=>(N.rU a.1 ⟨a.2,false,false⟩,())
def ajH:fP:={ fr:=[(1,.int .u64),(7,.slc yI),(8,.int .i64),(9,.int .i64)],tab:=[] }
def ajI:List Leaf->(Ex->St->Option R)->Option R
 | [.i id,.r r,.i n,.i i],K=>cond (n==r.length) (cond (i==0) (cond (Nat.ble r.length 1000) (cond (bU 0 (N.ix (N.isId id) (r.map aj.dec) 0)) (K .ret { fr:=[(4,.int .i64 (N.ix (N.isId id) (r.map aj.dec) 0))],tab:=[] }) (K (.exit 0) { fr:=[],tab:=[] })) none) none) none
 | _,_=>none
noncomputable def VF:Env:=env Tryz.prog [] [(2,dJ ajH ajI)] [(2,[(0,[1,7,8,9]),(1,[]),(1000,[4])])]
theorem ani (l:List aG) (id:Int):bM VF 179 ((aO (jY aj) (aW (cu .u64))).enc (l,id)) ([]) some =
 cond ((↑(List.length (List.map (ah.enc aj) l)):Int)==(↑(List.length (List.map (ah.enc aj) l)):Int)) (cond (Nat.ble (List.length (List.map (ah.enc aj) l)) 1000) (cond (bU 0 (N.ix (N.isId id) (List.map (ah.dec aj) (List.map (ah.enc aj) l)) 0)) (some {v:=.int .i64 (N.ix (N.isId id) (List.map (ah.dec aj) (List.map (ah.enc aj) l)) 0),bx:=[]:aH}) (some {v:=.int .i64 (-1:Int),bx:=[]:aH})) none) none:=by kernel_rfl
theorem Pm (id:Int) (r:List (List V)) (n i:Int) (K:Ex->St->Option R):bI VF 179 2 { fr:=[(1,.int .u64 id),(7,.slc yI r),(8,.int .i64 n),(9,.int .i64 i)],tab:=[] } K =
 cond (aZ i n) (cond (decide (0<=i∧i<(↑(List.length r):Int))) (cond (V.toInt (List.getD (List.getD r (Int.toNat i) []) 0 V.undef)==id) (K .ret {fr:=[(4,.int .i64 i)],tab:=[]:St}) (K .normal {fr:=[(1,.int .u64 id),(7,.slc yI r),(8,.int .i64 n),(9,.int .i64 (IntKind.wrap .i64 (i+1)))],tab:=[]:St})) none) (K (.exit 0) {fr:=[],tab:=[]:St}):=by kernel_rfl
theorem Yv:bH Tryz.prog 179 abm:=by
 refine aK (aT (fK.nil _)) (E:=VF) Tryz.func179 [2] (by kernel_rfl) (one1 (bf rfl fun l K q h=>?_)) fun a _ hp=>?_
 .unfold ajI at h
  split at h
  .rename_i id r n i
   replace h:=Lm h;obtain ⟨h1,h2,h3,h⟩:=h
   have e1:=aY h1
   have e2:=aY h2
   subst e1 e2
   have h3:r.length<=1000:=aX h3
   have main:=dD (E:=VF) (f:=179) (id:=2) (σ:=Nat) (fun i=>{ fr:=[(1,.int .u64 id),(7,.slc yI r),(8,.int .i64 r.length),(9,.int .i64 (i:Int))],tab:=[] }) (fun i=>i<=r.length) (fun i=>r.length-i)
    (fun i K=>cond (bU 0 (N.ix (N.isId id) ((r.drop i).map aj.dec) i)) (K .ret { fr:=[(4,.int .i64 (N.ix (N.isId id) ((r.drop i).map aj.dec) i))],tab:=[] }) (K (.exit 0) { fr:=[],tab:=[] })) (fun i hi=>?_) 0 (Nat.zero_le _) K q (by assumption)
   .exact main
   .by_cases hl:i<r.length
    .rw [oz hl,Ht]
     have hm:V.toInt (List.getD (List.getD r i []) 0 V.undef)=(aj.dec (r.getD i [])).aQ.id:=rfl
     cases hc:N.isId id (aj.dec (r.getD i [])) with
     | true =>
      have hc' : ((aj.dec (r.getD i [])).aQ.id==id)=true:=hc
      refine .inr ⟨.ret,{ fr:=[(4,.int .i64 (i:Int))],tab:=[] },by simp,fun K=>?_,fun K=>?_⟩
      .rw [Pm]
       simp (disch:=omega) only [evs,Int.toNat_natCast,hm,hc']
      .simp only [cond_true]
       rw [dX (by omega)]; rfl
     | false =>
      have hc' : ((aj.dec (r.getD i [])).aQ.id==id)=false:=hc
      refine .inl ⟨i+1,hl,by omega,fun K=>?_,fun K=>rfl⟩
      rw [Pm]
      simp (disch:=omega) only [evs,Int.toNat_natCast,hm,hc']
      try rfl
    .refine .inr ⟨.exit 0,{ fr:=[],tab:=[] },by simp,fun K=>?_,fun K=>?_⟩
     .rw [Pm]
      simp (disch:=omega) only [evs]
     .rw [List.drop_eq_nil_of_le (by omega)]; rfl
  .cases h
 .obtain ⟨l,id⟩:=a
  have hp:Nat.ble l.length 1000=true:=hp
  refine (ani l id).trans ?_
  simp only [List.length_map,bn,hp,beq_self_eq_true,cond_true]
  show _=some (⟨.int .i64 (N.ix (N.isId id) l 0),[],[]⟩:aH)
  cases hc:bU 0 (N.ix (N.isId id) l 0) with
  | true=>rfl
  | false=>rw [Vx hc]; rfl
def N.iR (k:Int) (x:List V):List (List V)->Int->List (List V)
 | [],_=>[]
 | r::rs,i=>cond (i==k) x (qN r)::N.iR k x rs (i+1)
theorem H6 (k:Nat) (x:aG):∀ (l:List aG) (i:Nat),N.iR (((i+k:Nat):Int)) (aj.enc x) (l.map aj.enc) i=(l.set k x).map aj.enc
 | [],_=>rfl
 | y::r,i=>by
  show cond ((i:Int)==((i+k:Nat):Int)) (aj.enc x) (qN (aj.enc y))::N.iR (((i+k:Nat):Int)) (aj.enc x) (r.map aj.enc) ((i:Int)+1)=_
  cases k with
  | zero =>
   have hne:∀ (l:List aG) (j:Nat),i<j->N.iR (((i+0:Nat):Int)) (aj.enc x) (l.map aj.enc) j=l.map aj.enc:=fun l=>by
    induction l with
    | nil=>intro j _; rfl
    | cons z r ih =>
     intro j hj
     show cond ((j:Int)==((i+0:Nat):Int)) (aj.enc x) (qN (aj.enc z))::N.iR _ _ (r.map aj.enc) ((j:Int)+1)=_
     rw [AO (by omega)]
     have:=ih (j+1) (by omega)
     rw [show ((j:Int)+1)=((j+1:Nat):Int) from rfl,this]
     try rfl
   rw [show ((i:Int)==((i+0:Nat):Int))=true from Gw (by omega)]
   rw [show ((i:Int)+1)=((i+1:Nat):Int) from rfl,hne r (i+1) (by omega)]
   try rfl
  | succ k =>
   rw [AO (show (i:Int) ≠ ((i+(k+1):Nat):Int) by omega)]
   have ih:=H6 k x r (i+1)
   rw [show i+1+k=i+(k+1) by omega] at ih
   rw [show ((i:Int)+1)=((i+1:Nat):Int) from rfl,ih]
   try rfl
theorem H7 (k:Int) (x:List V):∀ (r:List (List V)) (i:Int),(N.iR k x r i).length=r.length
 | [],_=>rfl
 | _::rs,i=>by
  show (N.iR k x rs (i+1)).length+1=rs.length+1
  rw [H7 k x rs]
def abn:fP:={ fr:=[(1,.int .i64),(5,.ptr 10000 0 0),(7,.own 10001),(10,.slc yI),(11,.int .i64),(12,.int .i64)],tab:=[(10000,.var [.int .u64,.str,.str,.slc yP,.str,.int .u64,.int .u8,.bool,.bool]),(10001,.sl yI)] }
def Yw:List Leaf->(Ex->St->Option R)->Option R
 | [.i k,.r r,.i n,.i i,.i id,.s s1,.s s2,.r hd,.s s3,.i due,.i hops,.b b1,.b b2,.r a],K=>cond (n==r.length) (cond (i==0) (cond (Nat.beq a.length 0) (cond (Nat.ble r.length 1000)
   (K (.exit 0) { fr:=[(7,.own 10000 0)],tab:=[(10000,.sl yI (N.iR k [V.int .u64 id,.str s1,.str s2,.slc yP hd,.str s3,.int .u64 due,.int .u8 hops,.bool b1,.bool b2] r 0) 0)] }) none) none) none) none
 | _,_=>none
noncomputable def H8:Env:=env Tryz.prog [] [(3,dJ abn Yw)] [(3,[(0,[1,5,7,10,11,12]),(1,[7]),(1000,[6])])]
theorem afq (l:List aG) (k:Int) (x:aG):bM H8 178 ((aO (jY aj) (aO (cu .i64) (aW (bg aj)))).enc (l,k,x)) ([]) some =
 cond ((↑(List.length (List.map (ah.enc aj) l)):Int)==(↑(List.length (List.map (ah.enc aj) l)):Int)) (cond (Nat.ble (List.length (List.map (ah.enc aj) l)) 1000) (some {v:=.slc yI (N.iR k [V.int .u64 (ay.id x.aQ),.str (ay.bT x.aQ),.str (ay.key x.aQ),.slc yP (List.map yE (ay.head x.aQ)),.str (ay.body x.aQ),.int .u64 (ay.due x.aQ),.int .u8 (ay.hops x.aQ),.bool x.eF,.bool x.again] (List.map (ah.enc aj) l) 0),bx:=[]:aH}) none) none:=by kernel_rfl
theorem Po (k:Int) (r:List (List V)) (n i:Int) (id:Int) (s1 s2:Bytes) (hd:List (List V)) (s3:Bytes) (due hops:Int) (b1 b2:Bool) (a:List (List V)) (K:Ex->St->Option R):bI H8 178 3 { fr:=[(1,.int .i64 k),(5,.ptr 10000 0 0 0),(7,.own 10001 0),(10,.slc yI r),(11,.int .i64 n),(12,.int .i64 i)],tab:=[(10000,.var [.int .u64 id,.str s1,.str s2,.slc yP hd,.str s3,.int .u64 due,.int .u8 hops,.bool b1,.bool b2]),(10001,.sl yI a 0)] } K =
 cond (aZ i n) (cond (decide (0<=i∧i<(↑(List.length r):Int))) (cond (i==k) (cond (decide ((List.length a+1)*104<=140737488355328)) (K .normal {fr:=[(1,.int .i64 k),(5,.ptr 10000 0 0 0),(7,.own 10001 0),(10,.slc yI r),(11,.int .i64 n),(12,.int .i64 (IntKind.wrap .i64 (i+1)))],tab:=[(10000,.var [V.int .u64 id,.str s1,.str s2,.slc yP hd,.str s3,.int .u64 due,.int .u8 hops,.bool b1,.bool b2]),(10001,.sl yI (a++[[V.int .u64 id,.str s1,.str s2,.slc yP hd,.str s3,.int .u64 due,.int .u8 hops,.bool b1,.bool b2]]) 0)]:St}) none) (cond (decide ((List.length a+1)*104<=140737488355328)) (K .normal {fr:=[(1,.int .i64 k),(5,.ptr 10000 0 0 0),(7,.own 10001 0),(10,.slc yI r),(11,.int .i64 n),(12,.int .i64 (IntKind.wrap .i64 (i+1)))],tab:=[(10000,.var [V.int .u64 id,.str s1,.str s2,.slc yP hd,.str s3,.int .u64 due,.int .u8 hops,.bool b1,.bool b2]),(10001,.sl yI (a++[[V.int .u64 (V.toInt (List.getD (List.getD r (Int.toNat i) []) 0 V.undef)),.str (V.toStr (List.getD (List.getD r (Int.toNat i) []) 1 V.undef)),.str (V.toStr (List.getD (List.getD r (Int.toNat i) []) 2 V.undef)),.slc yP (V.toRows (List.getD (List.getD r (Int.toNat i) []) 3 V.undef)),.str (V.toStr (List.getD (List.getD r (Int.toNat i) []) 4 V.undef)),.int .u64 (V.toInt (List.getD (List.getD r (Int.toNat i) []) 5 V.undef)),.int .u8 (V.toInt (List.getD (List.getD r (Int.toNat i) []) 6 V.undef)),.bool (V.toBool (List.getD (List.getD r (Int.toNat i) []) 7 V.undef)),.bool (V.toBool (List.getD (List.getD r (Int.toNat i) []) 8 V.undef))]]) 0)]:St}) none)) none) (K (.exit 0) {fr:=[(7,.own 10000 0)],tab:=[(10000,.sl yI a 0)]:St}):=by kernel_rfl
def jV (r:List V):List V:=[V.int .u64 (V.toInt (List.getD r 0 .undef)),V.str (V.toStr (List.getD r 1 .undef)),V.str (V.toStr (List.getD r 2 .undef)),V.slc yP (V.toRows (List.getD r 3 .undef)),V.str (V.toStr (List.getD r 4 .undef)),V.int .u64 (V.toInt (List.getD r 5 .undef)),V.int .u8 (V.toInt (List.getD r 6 .undef)),V.bool false,V.bool (cond (V.toBool (List.getD r 8 .undef)) true (V.toBool (List.getD r 7 .undef)))]
def N.mY (r:List (List V)):List (List V):=r.map jV
theorem VG (l:List aG):N.mY (l.map aj.enc)=(N.mX l).map aj.enc:=by
 unfold N.mY N.mX
 rw [List.map_map,List.map_map]
 refine List.map_congr_left fun x _=>?_
 show jV (aj.enc x)=aj.enc (N.KC x)
 obtain ⟨m,a,b⟩:=x
 cases a<;>cases b<;>rfl
theorem QS {r:List (List V)} {i:Nat} (h:i<r.length):N.mY (r.take (i+1))=N.mY (r.take i)++[jV (r.getD i [])]:=by
 unfold N.mY
 rw [List.take_add_one,List.getD_eq_getElem?_getD,List.getElem?_eq_getElem h]
 simp only [Option.toList_some,List.map_append,List.map_cons,List.map_nil,Option.getD_some]
def ajJ:fP:={ fr:=[(3,.own 10000),(6,.slc yI),(7,.int .i64),(8,.int .i64)],tab:=[(10000,.sl yI)] }
def ajK:List Leaf->(Ex->St->Option R)->Option R
 | [.r r,.i n,.i i,.r a],K=>cond (n==r.length) (cond (i==0) (cond (Nat.beq a.length 0) (cond (Nat.ble r.length 1000)
   (K (.exit 0) { fr:=[(3,.own 10000 0)],tab:=[(10000,.sl yI (N.mY r) 0)] }) none) none) none) none
 | _,_=>none
noncomputable def VH:Env:=env Tryz.prog [] [(3,dJ ajJ ajK)] [(3,[(0,[3,6,7,8]),(1,[3]),(1000,[2])])]
theorem anj (l:List aG):bM VH 139 ((aW (jY aj)).enc l) ([]) some =
 cond ((↑(List.length (List.map (ah.enc aj) l)):Int)==(↑(List.length (List.map (ah.enc aj) l)):Int)) (cond (Nat.ble (List.length (List.map (ah.enc aj) l)) 1000) (some {v:=.slc yI (N.mY (List.map (ah.enc aj) l)),bx:=[]:aH}) none) none:=by kernel_rfl
theorem Yx (r:List (List V)) (n i:Int) (a:List (List V)) (K:Ex->St->Option R):type_of% (by
  have h:bI VH 139 3 { fr:=[(3,.own 10000 0),(6,.slc yI r),(7,.int .i64 n),(8,.int .i64 i)],tab:=[(10000,.sl yI a 0)] } K =(
   let z0:=(List.getD r (Int.toNat i) []);cond (aZ i n) (cond (decide (0<=i∧i<(↑(List.length r):Int))) (cond (V.toBool (z0.getD 8 .undef)) (cond (decide ((List.length a+1)*104<=140737488355328)) (K .normal {fr:=[(3,.own 10000 0),(6,.slc yI r),(7,.int .i64 n),(8,.int .i64 (IntKind.wrap .i64 (i+1)))],tab:=[(10000,.sl yI (a++[[V.int .u64 (V.toInt (z0.getD 0 .undef)),.str (V.toStr (z0.getD 1 .undef)),.str (V.toStr (z0.getD 2 .undef)),.slc yP (V.toRows (z0.getD 3 .undef)),.str (V.toStr (z0.getD 4 .undef)),.int .u64 (V.toInt (z0.getD 5 .undef)),.int .u8 (V.toInt (z0.getD 6 .undef)),.bool false,.bool true]]) 0)]:St}) none) (cond (decide ((List.length a+1)*104<=140737488355328)) (K .normal {fr:=[(3,.own 10000 0),(6,.slc yI r),(7,.int .i64 n),(8,.int .i64 (IntKind.wrap .i64 (i+1)))],tab:=[(10000,.sl yI (a++[[V.int .u64 (V.toInt (z0.getD 0 .undef)),.str (V.toStr (z0.getD 1 .undef)),.str (V.toStr (z0.getD 2 .undef)),.slc yP (V.toRows (z0.getD 3 .undef)),.str (V.toStr (z0.getD 4 .undef)),.int .u64 (V.toInt (z0.getD 5 .undef)),.int .u8 (V.toInt (z0.getD 6 .undef)),.bool false,.bool (V.toBool (z0.getD 7 .undef))]]) 0)]:St}) none)) none) (K (.exit 0) {fr:=[(3,.own 10000 0)],tab:=[(10000,.sl yI a 0)]:St})):=by kernel_rfl
  dsimp only at h;exact h):=by kernel_rfl
noncomputable def aoF:Env:=env Tryz.prog [(187,aoB)] [] []
theorem aqg (l:List aG) (m:ay):bM aoF 183 ((aO (jY aj) (aW (bg ak))).enc (l,m)) ([]) some =
 cond (Nat.ble (List.length (List.map (ah.dec aj) (List.map (ah.enc aj) l))) 1000) (some {v:=.fE [V.slc yI (List.map (ah.enc aj) (Prod.fst (N.rU (List.map (ah.dec aj) (List.map (ah.enc aj) l)) {aQ:={id:=ay.id m,bT:=ay.bT m,key:=ay.key m,head:=List.map yD (List.map yE m.head),body:=ay.body m,due:=ay.due m,hops:=ay.hops m:ay},eF:=false,again:=false:aG}))),.int .i64 (Prod.snd (N.rU (List.map (ah.dec aj) (List.map (ah.enc aj) l)) {aQ:={id:=ay.id m,bT:=ay.bT m,key:=ay.key m,head:=List.map yD (List.map yE m.head),body:=ay.body m,due:=ay.due m,hops:=ay.hops m:ay},eF:=false,again:=false:aG}))],bx:=[]:aH}) none:=by kernel_rfl
noncomputable def ajL:Env:=env Tryz.prog [(179,abm),(178,Ph)] [] []
theorem ank (l:List aG) (id:Int):type_of% (by
  have h:bM ajL 134 ((aO (jY aj) (aW (cu .u64))).enc (l,id)) ([]) some =(
   let z4:=(List.map (ah.enc aj) l);let z1:=(List.map (ah.dec aj) z4);let z3:=(N.ix (N.isId id) z1 0);let z0:=(List.getD z4 (Int.toNat z3) []);let z2:=(decide (0<=N.ix (N.isId id) z1 0∧N.ix (N.isId id) z1 0<(↑(List.length z4):Int)));cond (Nat.ble (List.length z1) 1000) (cond (aZ z3 0) (some {v:=.fE [V.slc yI z4,.int .i64 10],bx:=[]:aH}) (cond z2 (cond (!V.toBool (z0.getD 7 .undef)) (some {v:=.fE [V.slc yI z4,.int .i64 13],bx:=[]:aH}) (cond z2 (cond (o9 z1 z3) (some {v:=.fE [V.slc yI (List.map (ah.enc aj) (List.set z1 (Int.toNat z3) {aQ:=(ak.dec z0),eF:=false,again:=true:aG})),.int .i64 0],bx:=[]:aH}) none) none)) none)) none):=by kernel_rfl
  dsimp only at h;exact h):=by kernel_rfl
def VI (r:List V):List V:=[V.int .u64 (V.toInt (List.getD r 0 .undef)),V.str (V.toStr (List.getD r 1 .undef)),V.str (V.toStr (List.getD r 2 .undef)),V.slc yP (V.toRows (List.getD r 3 .undef)),V.str (V.toStr (List.getD r 4 .undef)),V.int .u64 (V.toInt (List.getD r 5 .undef)),V.int .u8 (V.toInt (List.getD r 6 .undef)),V.bool true,V.bool (V.toBool (List.getD r 8 .undef))]
def ajM:fP:={ fr:=[(0,.slc yI),(3,.ptr 10000 0 0),(7,.slc yI),(8,.int .i64),(9,.int .i64)],tab:=[(10000,.var [.int .u64,.str,.str,.slc yP,.str,.int .u64,.int .u8,.bool,.bool])] }
def ajN:List Leaf->(Ex->St->Option R)->Option R
 | [.r l0,.r r,.i n,.i i,.i id,.s s1,.s s2,.r hd,.s s3,.i due,.i hops,.b b1,.b b2],K=>cond (n==r.length) (cond (i==0) (cond (Nat.beq l0.length r.length) (cond (Nat.ble r.length 1000)
   (cond (bU 0 (N.ix N.isReady (r.map aj.dec) 0)) (K .ret { fr:=[(2,.slc yI (((l0.map aj.dec).set (N.ix N.isReady (r.map aj.dec) 0).toNat (N.vF (aj.dec (r.getD (N.ix N.isReady (r.map aj.dec) 0).toNat [])))).map aj.enc)),(3,.ptr 10000 0 0 0),(4,.bool true)],tab:=[(10000,.var (Go.Ev.VI (r.getD (N.ix N.isReady (r.map aj.dec) 0).toNat [])))] })
    (K (.exit 0) { fr:=[(0,.slc yI l0),(3,.ptr 10000 0 0 0)],tab:=[(10000,.var [.int .u64 id,.str s1,.str s2,.slc yP hd,.str s3,.int .u64 due,.int .u8 hops,.bool b1,.bool b2])] })) none) none) none) none
 | _,_=>none
noncomputable def VJ:Env:={ env Tryz.prog [(178,Ph)] [(2,dJ ajM ajN)] [(2,[(0,[0,3,7,8,9]),(1,[0,3]),(1000,[2,3,4])])] with fz:=true }
theorem anl (l:List aG):type_of% (by
  have h:bM VJ 132 ((aW (jY aj)).enc l) ([]) some =(
   let z1:=(List.map (ah.enc aj) l);let z2:=(List.map (ah.dec aj) z1);let z0:=(List.getD z1 (Int.toNat (N.ix N.isReady z2 0)) []);cond ((↑(List.length z1):Int)==(↑(List.length z1):Int)) (cond (Nat.beq (List.length z1) (List.length z1)) (cond (Nat.ble (List.length z1) 1000) (cond (bU 0 (N.ix N.isReady z2 0)) (some {v:=.fE [V.slc yI (List.map (ah.enc aj) (List.set z2 (Int.toNat (N.ix N.isReady z2 0)) (N.vF (aj.dec z0)))),.agg [V.int .u64 (V.toInt (z0.getD 0 .undef)),.str (V.toStr (z0.getD 1 .undef)),.str (V.toStr (z0.getD 2 .undef)),.slc yP (V.toRows (z0.getD 3 .undef)),.str (V.toStr (z0.getD 4 .undef)),.int .u64 (V.toInt (z0.getD 5 .undef)),.int .u8 (V.toInt (z0.getD 6 .undef)),.bool true,.bool (V.toBool (z0.getD 8 .undef))],.bool true],bx:=[]:aH}) (some {v:=.fE [V.slc yI z1,.agg [V.int .u64 0,.str [],.str [],.slc yP [],.str [],.int .u64 0,.int .u8 0,.bool false,.bool false],.bool false],bx:=[]:aH})) none) none) none):=by kernel_rfl
  dsimp only at h;exact h):=by kernel_rfl
theorem Pq (l0 r:List (List V)) (n i:Int) (id:Int) (s1 s2:Bytes) (hd:List (List V)) (s3:Bytes) (due hops:Int) (b1 b2:Bool) (K:Ex->St->Option R):bI VJ 132 2 { fr:=[(0,.slc yI l0),(3,.ptr 10000 0 0 0),(7,.slc yI r),(8,.int .i64 n),(9,.int .i64 i)],tab:=[(10000,.var [.int .u64 id,.str s1,.str s2,.slc yP hd,.str s3,.int .u64 due,.int .u8 hops,.bool b1,.bool b2])] } K =
 cond (aZ i n) (cond (decide (0<=i∧i<(↑(List.length r):Int))) (cond (!V.toBool (List.getD (List.getD r (Int.toNat i) []) 7 V.undef)) (cond (o9 (List.map (ah.dec aj) l0) i) (K .ret {fr:=[(2,.slc yI (List.map (ah.enc aj) (List.set (List.map (ah.dec aj) l0) (Int.toNat i) {aQ:=(ak.dec (List.getD r (Int.toNat i) [])),eF:=true,again:=V.toBool (List.getD (List.getD r (Int.toNat i) []) 8 V.undef):aG}))),(3,.ptr 10000 0 0 0),(4,.bool true)],tab:=[(10000,.var [V.int .u64 (V.toInt (List.getD (List.getD r (Int.toNat i) []) 0 V.undef)),.str (V.toStr (List.getD (List.getD r (Int.toNat i) []) 1 V.undef)),.str (V.toStr (List.getD (List.getD r (Int.toNat i) []) 2 V.undef)),.slc yP (V.toRows (List.getD (List.getD r (Int.toNat i) []) 3 V.undef)),.str (V.toStr (List.getD (List.getD r (Int.toNat i) []) 4 V.undef)),.int .u64 (V.toInt (List.getD (List.getD r (Int.toNat i) []) 5 V.undef)),.int .u8 (V.toInt (List.getD (List.getD r (Int.toNat i) []) 6 V.undef)),.bool true,.bool (V.toBool (List.getD (List.getD r (Int.toNat i) []) 8 V.undef))])]:St}) none) (K .normal {fr:=[(0,.slc yI l0),(3,.ptr 10000 0 0 0),(7,.slc yI r),(8,.int .i64 n),(9,.int .i64 (IntKind.wrap .i64 (i+1)))],tab:=[(10000,.var [V.int .u64 id,.str s1,.str s2,.slc yP hd,.str s3,.int .u64 due,.int .u8 hops,.bool b1,.bool b2])]:St})) none) (K (.exit 0) {fr:=[(0,.slc yI l0),(3,.ptr 10000 0 0 0)],tab:=[(10000,.var [V.int .u64 id,.str s1,.str s2,.slc yP hd,.str s3,.int .u64 due,.int .u8 hops,.bool b1,.bool b2])]:St}):=by kernel_rfl
def N.iL (k:Int):List (List V)->Int->List (List V)
 | [],_=>[]
 | r::rs,i=>cond (i==k) (N.iL k rs (i+1)) (qN r::N.iL k rs (i+1))
def abo:fP:={ fr:=[(0,.slc yI),(5,.ptr 10000 0 0),(7,.int .i64),(8,.own 10001),(18,.slc yI),(19,.int .i64),(20,.int .i64)],tab:=[(10000,.var [.int .u64,.str,.str,.slc yP,.str,.int .u64,.int .u8,.bool,.bool]),(10001,.sl yI)] }
def Yy:List Leaf->(Ex->St->Option R)->Option R
 | [.r l0,.i k,.r r,.i n,.i i,.i id,.s s1,.s s2,.r hd,.s s3,.i due,.i hops,.b b1,.b b2,.r a],K=>cond (n==r.length) (cond (i==0) (cond (Nat.beq a.length 0) (cond (Nat.ble r.length 1000)
   (K (.exit 0) { fr:=[(0,.slc yI l0),(5,.ptr 10000 0 0 0),(7,.int .i64 k),(8,.own 10001 0)],tab:=[(10000,.var [.int .u64 id,.str s1,.str s2,.slc yP hd,.str s3,.int .u64 due,.int .u8 hops,.bool b1,.bool b2]),(10001,.sl yI (N.iL k r 0) 0)] }) none) none) none) none
 | _,_=>none
noncomputable def H9:Env:={ env Tryz.prog [(179,abm)] [(6,dJ abo Yy)] [(6,[(0,[0,5,7,8,18,19,20]),(1,[0,5,7,8]),(1000,[4,5,6])])] with fz:=true }
theorem afr (l:List aG) (id:Int):type_of% (by
  have h:bM H9 135 ((aO (jY aj) (aW (cu .u64))).enc (l,id)) ([]) some =(
   let z1:=(List.map (ah.enc aj) l);let z2:=(List.map (ah.dec aj) z1);let z3:=(N.ix (N.isId id) z2 0);let z0:=(List.getD z1 (Int.toNat z3) []);cond (Nat.ble (List.length z2) 1000) (cond (aZ z3 0) (some {v:=.fE [V.slc yI z1,.agg [V.int .u64 0,.str [],.str [],.slc yP [],.str [],.int .u64 0,.int .u8 0,.bool false,.bool false],.int .i64 10],bx:=[]:aH}) (cond ((↑(List.length z1):Int)==(↑(List.length z1):Int)) (cond (Nat.ble (List.length z1) 1000) (cond (decide (0<=N.ix (N.isId id) z2 0∧N.ix (N.isId id) z2 0<(↑(List.length z1):Int))) (some {v:=.fE [V.slc yI (N.iL z3 z1 0),.agg [V.int .u64 (V.toInt (z0.getD 0 .undef)),.str (V.toStr (z0.getD 1 .undef)),.str (V.toStr (z0.getD 2 .undef)),.slc yP (V.toRows (z0.getD 3 .undef)),.str (V.toStr (z0.getD 4 .undef)),.int .u64 (V.toInt (z0.getD 5 .undef)),.int .u8 (V.toInt (z0.getD 6 .undef)),.bool (V.toBool (z0.getD 7 .undef)),.bool (V.toBool (z0.getD 8 .undef))],.int .i64 0],bx:=[]:aH}) none) none) none)) none):=by kernel_rfl
  dsimp only at h;exact h):=by kernel_rfl
theorem Pv (l0:List (List V)) (k:Int) (r:List (List V)) (n i:Int) (id:Int) (s1 s2:Bytes) (hd:List (List V)) (s3:Bytes) (due hops:Int) (b1 b2:Bool) (a:List (List V)) (K:Ex->St->Option R):bI H9 135 6 { fr:=[(0,.slc yI l0),(5,.ptr 10000 0 0 0),(7,.int .i64 k),(8,.own 10001 0),(18,.slc yI r),(19,.int .i64 n),(20,.int .i64 i)],tab:=[(10000,.var [.int .u64 id,.str s1,.str s2,.slc yP hd,.str s3,.int .u64 due,.int .u8 hops,.bool b1,.bool b2]),(10001,.sl yI a 0)] } K =
 cond (aZ i n) (cond (decide (0<=i∧i<(↑(List.length r):Int))) (cond (i != k) (cond (decide ((List.length a+1)*104<=140737488355328)) (K .normal {fr:=[(0,.slc yI l0),(5,.ptr 10000 0 0 0),(7,.int .i64 k),(8,.own 10001 0),(18,.slc yI r),(19,.int .i64 n),(20,.int .i64 (IntKind.wrap .i64 (i+1)))],tab:=[(10000,.var [V.int .u64 id,.str s1,.str s2,.slc yP hd,.str s3,.int .u64 due,.int .u8 hops,.bool b1,.bool b2]),(10001,.sl yI (a++[[V.int .u64 (V.toInt (List.getD (List.getD r (Int.toNat i) []) 0 V.undef)),.str (V.toStr (List.getD (List.getD r (Int.toNat i) []) 1 V.undef)),.str (V.toStr (List.getD (List.getD r (Int.toNat i) []) 2 V.undef)),.slc yP (V.toRows (List.getD (List.getD r (Int.toNat i) []) 3 V.undef)),.str (V.toStr (List.getD (List.getD r (Int.toNat i) []) 4 V.undef)),.int .u64 (V.toInt (List.getD (List.getD r (Int.toNat i) []) 5 V.undef)),.int .u8 (V.toInt (List.getD (List.getD r (Int.toNat i) []) 6 V.undef)),.bool (V.toBool (List.getD (List.getD r (Int.toNat i) []) 7 V.undef)),.bool (V.toBool (List.getD (List.getD r (Int.toNat i) []) 8 V.undef))]]) 0)]:St}) none) (K .normal {fr:=[(0,.slc yI l0),(5,.ptr 10000 0 0 0),(7,.int .i64 k),(8,.own 10001 0),(18,.slc yI r),(19,.int .i64 n),(20,.int .i64 (IntKind.wrap .i64 (i+1)))],tab:=[(10000,.var [V.int .u64 id,.str s1,.str s2,.slc yP hd,.str s3,.int .u64 due,.int .u8 hops,.bool b1,.bool b2]),(10001,.sl yI a 0)]:St})) none) (K (.exit 0) {fr:=[(0,.slc yI l0),(5,.ptr 10000 0 0 0),(7,.int .i64 k),(8,.own 10001 0)],tab:=[(10000,.var [V.int .u64 id,.str s1,.str s2,.slc yP hd,.str s3,.int .u64 due,.int .u8 hops,.bool b1,.bool b2]),(10001,.sl yI a 0)]:St}):=by kernel_rfl
theorem Ia (k:Int) (x:List V):∀ (a b:List (List V)) (i:Int),N.iR k x (a++b) i=N.iR k x a i++N.iR k x b (i+a.length)
 | [],b,i=>by
  show N.iR k x b i=N.iR k x b (i+((0:Nat):Int))
  rw [show i+((0:Nat):Int)=i by omega]
 | r::a,b,i=>by
  show cond (i==k) x (qN r)::N.iR k x (a++b) (i+1)=cond (i==k) x (qN r)::(N.iR k x a (i+1)++N.iR k x b (i+((a.length+1:Nat):Int)))
  rw [Ia k x a b (i+1),show i+1+(a.length:Int)=i+((a.length+1:Nat):Int) by omega]
theorem take_succ {r:List (List V)} {i:Nat} (h:i<r.length):r.take (i+1)=r.take i++[r.getD i []]:=by
 rw [List.take_add_one,List.getD_eq_getElem?_getD,List.getElem?_eq_getElem h]; rfl
theorem QT (k:Int) (x:List V) {r:List (List V)} {i:Nat} (h:i<r.length):N.iR k x (r.take (i+1)) 0=N.iR k x (r.take i) 0++[cond ((i:Int)==k) x (qN (r.getD i []))]:=by
 rw [take_succ h,Ia,List.length_take,show (0:Int)+((min i r.length:Nat):Int)=i by omega]
 try rfl
theorem Px:bH Tryz.prog 178 Ph:=by
 refine aK (aT (fK.nil _)) (E:=H8) Tryz.func178 [3] (by kernel_rfl) (one1 (bf rfl fun l K q h=>?_)) fun a _ hp=>?_
 .unfold Yw at h
  split at h
  .rename_i k r n i id s1 s2 hd s3 due hops b1 b2 a
   replace h:=UG h;obtain ⟨h1,h2,h3,h4,h⟩:=h
   have e1:=aY h1
   have e2:=aY h2
   have e3:=List.eq_nil_of_length_eq_zero (jk h3)
   subst e1 e2 e3
   have h4:r.length<=1000:=aX h4
   have main:=dD (E:=H8) (f:=178) (id:=3) (σ:=Nat) (fun i=>{ fr:=[(1,.int .i64 k),(5,.ptr 10000 0 0 0),(7,.own 10001 0),(10,.slc yI r),(11,.int .i64 r.length),(12,.int .i64 (i:Int))],tab:=[(10000,.var [.int .u64 id,.str s1,.str s2,.slc yP hd,.str s3,.int .u64 due,.int .u8 hops,.bool b1,.bool b2]),(10001,.sl yI (N.iR k [V.int .u64 id,.str s1,.str s2,.slc yP hd,.str s3,.int .u64 due,.int .u8 hops,.bool b1,.bool b2] (r.take i) 0) 0)] }) (fun i=>i<=r.length) (fun i=>r.length-i)
    (fun _ K=>K (.exit 0) { fr:=[(7,.own 10000 0)],tab:=[(10000,.sl yI (N.iR k [V.int .u64 id,.str s1,.str s2,.slc yP hd,.str s3,.int .u64 due,.int .u8 hops,.bool b1,.bool b2] r 0) 0)] }) (fun i hi=>?_) 0 (Nat.zero_le _) K q (by assumption)
   .exact main
   .by_cases hl:i<r.length
    .have hln:(N.iR k [V.int .u64 id,.str s1,.str s2,.slc yP hd,.str s3,.int .u64 due,.int .u8 hops,.bool b1,.bool b2] (r.take i) 0).length=i:=by rw [H7,List.length_take]; omega
     have ht:=QT k [V.int .u64 id,.str s1,.str s2,.slc yP hd,.str s3,.int .u64 due,.int .u8 hops,.bool b1,.bool b2] hl
     refine .inl ⟨i+1,hl,by omega,fun K=>?_,fun K=>rfl⟩
     rw [Po]
     cases hc:(i:Int)==k with
     | true =>
      rw [hc] at ht
      simp (disch:=omega) only [evs,Int.toNat_natCast,hc,hln]
      rw [ht]
      try rfl
     | false =>
      rw [hc] at ht
      simp (disch:=omega) only [evs,Int.toNat_natCast,hc,hln,xO]
      rw [ht]
      try rfl
    .have ei:i=r.length:=by omega
     subst ei
     refine .inr ⟨.exit 0,{ fr:=[(7,.own 10000 0)],tab:=[(10000,.sl yI (N.iR k [V.int .u64 id,.str s1,.str s2,.slc yP hd,.str s3,.int .u64 due,.int .u8 hops,.bool b1,.bool b2] r 0) 0)] },by simp,fun K=>?_,fun K=>rfl⟩
     rw [Po]
     simp (disch:=omega) only [evs,List.take_length]
  .cases h
 .obtain ⟨l,k,x⟩:=a
  obtain ⟨h1,h2⟩:=aP hp
  obtain ⟨h2,h3⟩:=aP h2
  have h1:0<=k:=bQ h1
  have h2:k<l.length:=jZ h2
  have h3:Nat.ble l.length 1000=true:=h3
  refine (afq l k x).trans ?_
  have e:=H6 k.toNat x l 0
  rw [show ((0+k.toNat:Nat):Int)=k by omega] at e
  simp only [List.length_map,h3,beq_self_eq_true,cond_true,o8]
  show _=some (⟨.slc yI ((l.set k.toNat x).map aj.enc),[],[]⟩:aH)
  rw [<- e]
  try rfl
theorem ajO:bH Tryz.prog 139 ajG:=by
 refine aK (aT (fK.nil _)) (E:=VH) Tryz.func139 [3] (by kernel_rfl) (one1 (bf rfl fun l K q h=>?_)) fun l _ hp=>?_
 .unfold ajK at h
  split at h
  .rename_i r n i o
   replace h:=UG h;obtain ⟨h1,h2,h3,h4,h⟩:=h
   have e1:=aY h1
   have e2:=aY h2
   have e3:=List.eq_nil_of_length_eq_zero (jk h3)
   subst e1 e2 e3
   have h4:r.length<=1000:=aX h4
   have main:=dh (E:=VH) (f:=139) (id:=3) (A:=Unit) r (fun _ i=>{ fr:=[(3,.own 10000 0),(6,.slc yI r),(7,.int .i64 r.length),(8,.int .i64 i)],tab:=[(10000,.sl yI (N.mY (r.take i.toNat)) 0)] }) (fun _ _=>True)
    (fun _ _ K=>K (.exit 0) { fr:=[(3,.own 10000 0)],tab:=[(10000,.sl yI (N.mY r) 0)] }) (fun _ i _ hi=>?_) (fun _ _=>?_) () 0 (Int.le_refl _) (by omega) trivial K q (by assumption)
   .exact main
   .refine .inl ⟨(),trivial,fun K=>?_,fun K=>rfl⟩
    rw [Yx]
    have hl:(N.mY (r.take i)).length=i:=by unfold N.mY; simp; omega
    have ht:=QS hi
    unfold jV at ht
    cases hc:V.toBool (List.getD (List.getD r i []) 8 V.undef) with
    | true =>
     rw [hc] at ht
     simp (disch:=omega) only [evs,Int.toNat_natCast,hl,hc]
     show K .normal { fr:=_,tab:=[(10000,.sl yI _ 0)] }=K .normal { fr:=_,tab:=[(10000,.sl yI (N.mY (r.take (i+1))) 0)] }
     rw [ht]
     try rfl
    | false =>
     rw [hc] at ht
     simp (disch:=omega) only [evs,Int.toNat_natCast,hl,hc]
     show K .normal { fr:=_,tab:=[(10000,.sl yI _ 0)] }=K .normal { fr:=_,tab:=[(10000,.sl yI (N.mY (r.take (i+1))) 0)] }
     rw [ht]
     try rfl
   .refine ⟨.exit 0,_,by simp,fun K=>?_,fun K=>rfl⟩
    rw [Yx]
    simp (disch:=omega) only [evs,Int.toNat_natCast,List.take_length]
  .cases h
 .refine (anj l).trans ?_
  have hp:Nat.ble l.length 1000=true:=hp
  simp only [List.length_map,beq_self_eq_true,cond_true,hp,VG]
  try rfl
theorem anm:bH Tryz.prog 183 aoE:=by
 refine aK (aT ((fK.nil _).cons ane)) (E:=aoF) Tryz.func183 [] (by kernel_rfl) none0 fun a _ h=>?_
 obtain ⟨l,m⟩:=a
 have h1:Nat.ble l.length 1000=true:=h
 refine (aqg l m).trans ?_
 simp only [bn,um,h1,cond_true]
 try rfl
theorem ajP:bH Tryz.prog 134 ajF:=by
 refine aK (aT (((fK.nil _).cons Px).cons Yv)) (E:=ajL) Tryz.func134 [] (by kernel_rfl) none0 fun a _ h=>?_
 obtain ⟨l,id⟩:=a
 have h2:Nat.ble l.length 1000=true:=h
 have h1:l.length<=1000:=aX h2
 refine (ank l id).trans ?_
 show _=some (⟨.fE [.slc yI ((N.uO l id).1.map aj.enc),.int .i64 (N.uO l id).2],[],[]⟩:aH)
 unfold N.uO
 simp only [bn]
 rcases nS (N.isId id) l 0 (Int.le_refl _) with ⟨e,_⟩ | ⟨k,e,hk,_⟩
 .rw [e]
  simp (disch:=omega) only [evs,h2]
 .rw [Int.zero_add] at e
  have hg:=lX aj l k fA hk
  have ga:o9 l k=true:=by unfold o9; rw [dX (by omega),dK (by omega),h2]; rfl
  rw [e]
  simp (disch:=omega) only [evs,h2,ga,Int.toNat_natCast,hg,kG,SQ,aj.de]
  show cond (!(l.getD k fA).eF) _ _=_
  cases (l.getD k fA).eF<;>rfl
theorem CS (k:Int):∀ (a b:List (List V)) (i:Int),N.iL k (a++b) i=N.iL k a i++N.iL k b (i+a.length)
 | [],b,i=>by
  show N.iL k b i=N.iL k b (i+((0:Nat):Int))
  rw [show i+((0:Nat):Int)=i by omega]
 | r::a,b,i=>by
  show cond (i==k) (N.iL k (a++b) (i+1)) (qN r::N.iL k (a++b) (i+1))=cond (i==k) (N.iL k a (i+1)) (qN r::N.iL k a (i+1))++N.iL k b (i+((a.length+1:Nat):Int))
  rw [CS k a b (i+1),show i+1+(a.length:Int)=i+((a.length+1:Nat):Int) by omega]
  cases i==k<;>rfl
theorem VK (k:Int) {r:List (List V)} {i:Nat} (h:i<r.length):N.iL k (r.take (i+1)) 0=N.iL k (r.take i) 0++cond ((i:Int)==k) [] [qN (r.getD i [])]:=by
 rw [take_succ h,CS,List.length_take,show (0:Int)+((min i r.length:Nat):Int)=i by omega]
 try rfl
theorem KF (k:Int):∀ (r:List (List V)) (i:Int),(N.iL k r i).length<=r.length
 | [],_=>Nat.le_refl _
 | r::rs,i=>by
  have ih:=KF k rs (i+1)
  show (cond (i==k) (N.iL k rs (i+1)) (qN r::N.iL k rs (i+1))).length<=rs.length+1
  cases i==k with
  | true=>exact Nat.le_succ_of_le ih
  | false=>exact Nat.succ_le_succ ih
theorem CU (k:Int):∀ (l:List aG) (i:Int),(k<i∨i+l.length<=k)->N.iL k (l.map aj.enc) i=l.map aj.enc
 | [],_,_=>rfl
 | x::r,i,h=>by
  rw [List.length_cons] at h
  show cond (i==k) _ (qN (aj.enc x)::N.iL k (r.map aj.enc) (i+1))=_
  rw [AO (by omega),CU k r (i+1) (by omega)]
  try rfl
theorem Yz {l:List aG} {k:Nat} (h:k<l.length):N.iL k (l.map aj.enc) 0=(N.cutAt l k).map aj.enc:=by
 have e:=Yu h
 have hl:(l.take k).length=k:=by rw [List.length_take]; omega
 have e2:l.map aj.enc=(l.take k).map aj.enc++(l.getD k fA::l.drop (k+1)).map aj.enc:=by rw [<- List.map_append,<- e]
 rw [e2,CS,List.length_map,hl,CU k (l.take k) 0 (by rw [hl]; omega)]
 have e3:N.iL k ((l.getD k fA::l.drop (k+1)).map aj.enc) (0+(k:Int))=(l.drop (k+1)).map aj.enc:=by
  show cond ((0+(k:Int))==(k:Int)) (N.iL k ((l.drop (k+1)).map aj.enc) (0+(k:Int)+1)) _=_
  rw [Gw (by omega),cond_true,CU k _ _ (by omega)]
 rw [e3]
 unfold N.cutAt
 rw [List.map_append]
theorem Py:bH Tryz.prog 135 Pj:=by
 refine aK (aT ((fK.nil _).cons Yv)) (E:=H9) Tryz.func135 [6] (by kernel_rfl) (one1 (bf rfl fun l K q h=>?_)) fun a _ hp=>?_
 .unfold Yy at h
  split at h
  .rename_i l0 k r n i id s1 s2 hd s3 due hops b1 b2 a
   replace h:=UG h;obtain ⟨h1,h2,h3,h4,h⟩:=h
   have e1:=aY h1
   have e2:=aY h2
   have e3:=List.eq_nil_of_length_eq_zero (jk h3)
   subst e1 e2 e3
   have h4:r.length<=1000:=aX h4
   have main:=dD (E:=H9) (f:=135) (id:=6) (σ:=Nat) (fun i=>{ fr:=[(0,.slc yI l0),(5,.ptr 10000 0 0 0),(7,.int .i64 k),(8,.own 10001 0),(18,.slc yI r),(19,.int .i64 r.length),(20,.int .i64 (i:Int))],tab:=[(10000,.var [.int .u64 id,.str s1,.str s2,.slc yP hd,.str s3,.int .u64 due,.int .u8 hops,.bool b1,.bool b2]),(10001,.sl yI (N.iL k (r.take i) 0) 0)] }) (fun i=>i<=r.length) (fun i=>r.length-i)
    (fun _ K=>K (.exit 0) { fr:=[(0,.slc yI l0),(5,.ptr 10000 0 0 0),(7,.int .i64 k),(8,.own 10001 0)],tab:=[(10000,.var [.int .u64 id,.str s1,.str s2,.slc yP hd,.str s3,.int .u64 due,.int .u8 hops,.bool b1,.bool b2]),(10001,.sl yI (N.iL k r 0) 0)] }) (fun i hi=>?_) 0 (Nat.zero_le _) K q (by assumption)
   .exact main
   .by_cases hl:i<r.length
    .have hln:(N.iL k (r.take i) 0).length<=i:=by have:=KF k (r.take i) 0; rw [List.length_take] at this; omega
     have ht:=VK k hl
     refine .inl ⟨i+1,hl,by omega,fun K=>?_,fun K=>rfl⟩
     rw [Pv]
     by_cases hc:(i:Int)=k
     .rw [Gw hc,cond_true,List.append_nil] at ht
      simp (disch:=omega) only [evs,Int.toNat_natCast]
      rw [ht]
      try rfl
     .rw [AO hc,cond_false] at ht
      simp (disch:=omega) only [evs,Int.toNat_natCast,xO]
      rw [ht]
      try rfl
    .have ei:i=r.length:=by omega
     subst ei
     refine .inr ⟨.exit 0,{ fr:=[(0,.slc yI l0),(5,.ptr 10000 0 0 0),(7,.int .i64 k),(8,.own 10001 0)],tab:=[(10000,.var [.int .u64 id,.str s1,.str s2,.slc yP hd,.str s3,.int .u64 due,.int .u8 hops,.bool b1,.bool b2]),(10001,.sl yI (N.iL k r 0) 0)] },by simp,fun K=>?_,fun K=>rfl⟩
     rw [Pv]
     simp (disch:=omega) only [evs,List.take_length]
  .cases h
 .obtain ⟨l,id⟩:=a
  have h2:Nat.ble l.length 1000=true:=hp
  have h1:l.length<=1000:=aX h2
  refine (afr l id).trans ?_
  show _=some (⟨.fE [.slc yI ((N.eP l id).1.map aj.enc),.agg (aj.enc (N.eP l id).2.1),.int .i64 (N.eP l id).2.2],[],[]⟩:aH)
  unfold N.eP
  simp only [bn]
  rcases nS (N.isId id) l 0 (Int.le_refl _) with ⟨e,_⟩ | ⟨k,e,hk,_⟩
  .rw [e]
   simp (disch:=omega) only [evs,h2]
   try rfl
  .rw [Int.zero_add] at e
   have hg:=lX aj l k fA hk
   have hcut:=Yz hk
   rw [e]
   simp (disch:=omega) only [evs,h2,Int.toNat_natCast,hg,hcut,xO]
   try rfl
theorem ajQ:bH Tryz.prog 132 ajE:=by
 refine aK (aT ((fK.nil _).cons Px)) (E:=VJ) Tryz.func132 [2] (by kernel_rfl) (one1 (bf rfl fun l K q h=>?_)) fun l _ hp=>?_
 .unfold ajN at h
  split at h
  .rename_i l0 r n i id s1 s2 hd s3 due hops b1 b2
   replace h:=UG h;obtain ⟨h1,h2,h3,h4,h⟩:=h
   have e1:=aY h1
   have e2:=aY h2
   have e3:=jk h3
   subst e1 e2
   have h4:r.length<=1000:=aX h4
   have main:=dD (E:=VJ) (f:=132) (id:=2) (σ:=Nat) (fun i=>{ fr:=[(0,.slc yI l0),(3,.ptr 10000 0 0 0),(7,.slc yI r),(8,.int .i64 r.length),(9,.int .i64 (i:Int))],tab:=[(10000,.var [.int .u64 id,.str s1,.str s2,.slc yP hd,.str s3,.int .u64 due,.int .u8 hops,.bool b1,.bool b2])] }) (fun i=>i<=r.length) (fun i=>r.length-i)
    (fun i K=>cond (bU 0 (N.ix N.isReady ((r.drop i).map aj.dec) i)) (K .ret { fr:=[(2,.slc yI (((l0.map aj.dec).set (N.ix N.isReady ((r.drop i).map aj.dec) i).toNat (N.vF (aj.dec (r.getD (N.ix N.isReady ((r.drop i).map aj.dec) i).toNat [])))).map aj.enc)),(3,.ptr 10000 0 0 0),(4,.bool true)],tab:=[(10000,.var (VI (r.getD (N.ix N.isReady ((r.drop i).map aj.dec) i).toNat [])))] })
     (K (.exit 0) { fr:=[(0,.slc yI l0),(3,.ptr 10000 0 0 0)],tab:=[(10000,.var [.int .u64 id,.str s1,.str s2,.slc yP hd,.str s3,.int .u64 due,.int .u8 hops,.bool b1,.bool b2])] })) (fun i hi=>?_) 0 (Nat.zero_le _) K q (by assumption)
   .exact main
   .by_cases hl:i<r.length
    .rw [oz hl,Ht]
     have hm:V.toBool (List.getD (List.getD r i []) 7 V.undef)=(aj.dec (r.getD i [])).eF:=rfl
     have ga:o9 (l0.map aj.dec) i=true:=by
      unfold o9
      rw [List.length_map,dX (by omega),dK (by omega),dN (by omega)]; rfl
     cases hc:(aj.dec (r.getD i [])).eF with
     | false =>
      have hr:N.isReady (aj.dec (r.getD i []))=true:=by unfold N.isReady; rw [hc]; rfl
      refine .inr ⟨.ret,{ fr:=[(2,.slc yI (((l0.map aj.dec).set i (N.vF (aj.dec (r.getD i [])))).map aj.enc)),(3,.ptr 10000 0 0 0),(4,.bool true)],tab:=[(10000,.var (VI (r.getD i [])))] },by simp,fun K=>?_,fun K=>?_⟩
      .rw [Pq]
       simp (disch:=omega) only [evs,Int.toNat_natCast,hm,hc,Bool.not_false,ga,kG]
       try rfl
      .rw [hr]
       simp only [cond_true]
       rw [dX (by omega),Int.toNat_natCast]; rfl
     | true =>
      have hr:N.isReady (aj.dec (r.getD i []))=false:=by unfold N.isReady; rw [hc]; rfl
      refine .inl ⟨i+1,hl,by omega,fun K=>?_,fun K=>by rw [hr]; rfl⟩
      rw [Pq]
      simp (disch:=omega) only [evs,Int.toNat_natCast,hm,hc,Bool.not_true]
      try rfl
    .refine .inr ⟨.exit 0,{ fr:=[(0,.slc yI l0),(3,.ptr 10000 0 0 0)],tab:=[(10000,.var [.int .u64 id,.str s1,.str s2,.slc yP hd,.str s3,.int .u64 due,.int .u8 hops,.bool b1,.bool b2])] },by simp,fun K=>?_,fun K=>?_⟩
     .rw [Pq]
      simp (disch:=omega) only [evs]
     .rw [List.drop_eq_nil_of_le (by omega)]; rfl
  .cases h
 .have h2:Nat.ble l.length 1000=true:=hp
  refine (anl l).trans ?_
  show _=some (⟨.fE [.slc yI ((N.o7 l).1.map aj.enc),.agg (aj.enc (N.o7 l).2.1),.bool (N.o7 l).2.2],[],[]⟩:aH)
  unfold N.o7
  simp only [bn,List.length_map,h2,beq_self_eq_true,Nat.beq_refl,cond_true]
  rcases nS N.isReady l 0 (Int.le_refl _) with ⟨e,_⟩ | ⟨k,e,hk,_⟩
  .rw [e]; rfl
  .rw [Int.zero_add] at e
   have hg:=lX aj l k fA hk
   rw [e]
   simp (disch:=omega) only [evs,Int.toNat_natCast,hg,iU,aj.de]
   try rfl
end Go.Ev

namespace Go.Ev
open Go Go.Proofs
set_option maxRecDepth 100000
-- FOLD
namespace N
end N
end Go.Ev

namespace Go.Ev
open Go Go.Proofs
set_option maxRecDepth 100000
-- FOLD
end Go.Ev

namespace Go.Ev
open Go
set_option maxRecDepth 100000
def allM (p:ay->Bool) (l:List aG):Bool:=l.all fun x=>p x.aQ
theorem ano {p:ay->Bool} {l l' : List aG} (h:l'.map aG.aQ=l.map aG.aQ) (hs:allM p l=true):allM p l' = true:=by
 have e:∀ l:List aG,allM p l=(l.map aG.aQ).all p:=fun l=>by unfold allM; rw [List.all_map]; rfl
 rw [e,h,<- e]; exact hs
theorem ajR {m:ay} (h:N.iJ m=true):0<=m.due:=by
 have h1:N.vC m=true:=(aP h).1
 exact bQ (aP (aP (aP h1).2).1).1
theorem aoG {p:aG->Bool} {y:aG} {r:List aG} (hy:p y=true):∀ (l:List aG) (i:Int),l.any p=false->N.ix p (l++y::r) i=i+l.length
 | [],i,_=>by
  show N.ix p (y::r) i=_
  unfold N.ix; rw [hy]; simp
 | x::l,i,h=>by
  rw [List.any_cons,Bool.or_eq_false_iff] at h
  show N.ix p (x::(l++y::r)) i=_
  unfold N.ix
  rw [h.1,cond_false,aoG hy l (i+1) h.2]
  simp; omega
theorem anp {p:aG->Bool} {y:aG} {r l:List aG} (hy:p y=true) (hl:l.any p=false):N.lS (l++y::r) (N.ix p (l++y::r) 0)=(y.aQ,true):=by
 rw [aoG hy l 0 hl]
 unfold N.lS
 rw [iG (by omega)]
 have e:(0+(l.length:Int)).toNat=l.length:=by omega
 rw [e]
 simp [List.getD_eq_getElem?_getD]
theorem told_none {p:aG->Bool} {l:List aG} (hl:l.any p=false):N.lS l (N.ix p l 0)=(gJ,false):=by
 have e:∀ (l:List aG) (i:Int),l.any p=false->N.ix p l i = -1:=fun l=>by
  induction l with
  | nil=>intro i _; rfl
  | cons x r ih =>
   intro i h
   rw [List.any_cons,Bool.or_eq_false_iff] at h
   unfold N.ix
   rw [h.1,cond_false]; exact ih (i+1) h.2
 rw [e l 0 hl]; rfl
end Go.Ev

namespace Go.Ev
open Go Go.Proofs
set_option maxRecDepth 100000
-- FOLD
def lU (r:List V):List V:=[V.int .u64 (V.toInt (List.getD r 0 .undef)),V.str (V.toStr (List.getD r 1 .undef)),V.str (V.toStr (List.getD r 2 .undef)),V.slc yP (V.toRows (List.getD r 3 .undef)),V.str (V.toStr (List.getD r 4 .undef)),V.int .u64 (V.toInt (List.getD r 5 .undef)),V.int .u8 (V.toInt (List.getD r 6 .undef))]
theorem Ak (r:List V):[V.int .u64 (V.toInt (List.getD r 0 .undef)),V.str (V.toStr (List.getD r 1 .undef)),V.str (V.toStr (List.getD r 2 .undef)),V.slc yP (V.toRows (List.getD r 3 .undef)),V.str (V.toStr (List.getD r 4 .undef)),V.int .u64 (V.toInt (List.getD r 5 .undef)),V.int .u8 (V.toInt (List.getD r 6 .undef))]=lU r:=rfl
theorem afs (x:aG):lU (aj.enc x)=ak.enc x.aQ:=rfl
def N.fRow (p:aG->Bool):List (List V)->List V
 | []=>[]
 | r::rs=>cond (p (aj.dec r)) r (N.fRow p rs)
theorem YA {p:aG->Bool} {l:List aG} (h:l.any p=true):lU (N.fRow p (l.map aj.enc))=ak.enc (N.lS l (N.ix p l 0)).1∧(N.lS l (N.ix p l 0)).2=true:=by
 have main:∀ (r pre:List aG),l=pre++r->pre.any p=false->lU (N.fRow p (r.map aj.enc))=ak.enc (N.lS l (N.ix p l 0)).1∧(N.lS l (N.ix p l 0)).2=true:=fun r=>by
  induction r with
  | nil=>intro pre hl hp; rw [List.append_nil] at hl; subst hl; rw [hp] at h; cases h
  | cons x r ih =>
   intro pre hl hp
   rw [List.map_cons]
   unfold N.fRow
   rw [aj.de x]
   cases hx:p x with
   | true =>
    have:=anp (r:=r) hx hp
    rw [<- hl] at this
    rw [this]
    exact ⟨afs x,rfl⟩
   | false =>
    rw [cond_false]
    exact ih (pre++[x]) (by rw [hl]; simp) (by rw [List.any_append,hp,List.any_cons,hx]; rfl)
 exact main l [] rfl rfl
def N.je (t:Int) (x:aG):Bool:=cond x.eF false (cond (aZ 0 x.aQ.due) (bU x.aQ.due t) false)
theorem abp {t:Int} {x:aG} (h:0<=x.aQ.due):N.je t x=N.kX t x:=by
 unfold N.je N.kX
 by_cases h0:x.aQ.due=0
 .rw [h0]; rfl
 .rw [dK (by omega),Xk h0]
theorem YB {t:Int}:∀ (l:List aG) (i:Int),allM N.iJ l=true->N.ix (N.je t) l i=N.ix (N.kX t) l i
 | [],_,_=>rfl
 | x::r,i,h=>by
  have h:(N.iJ x.aQ && r.all fun x=>N.iJ x.aQ)=true:=h
  rw [Bool.and_eq_true] at h
  unfold N.ix
  rw [abp (ajR h.1),YB r (i+1) h.2]
def ady:Den:=den (aW (jY aj)) dw (nP (aO (bg ak) (aW iF))) (fun l _=>Nat.ble l.length 1000) fun l _=>(N.fF l,())
def aft:fP:={ fr:=[(2,.ptr 10000 0 0),(6,.slc yI),(7,.int .i64),(8,.int .i64)],tab:=[(10000,.var [.int .u64,.str,.str,.slc yP,.str,.int .u64,.int .u8])] }
def adz:List Leaf->(Ex->St->Option R)->Option R
 | [.r r,.i n,.i i,.i f0,.s f1,.s f2,.r f3,.s f4,.i f5,.i f6],K=>cond (n==r.length) (cond (i==0) (cond (Nat.ble r.length 1000) (cond ((r.map aj.dec).any N.isReady) (K .ret { fr:=[(2,.ptr 10000 0 0 0),(3,.bool true)],tab:=[(10000,.var (lU (N.fRow N.isReady r)))] }) (K (.exit 0) { fr:=[(2,.ptr 10000 0 0 0)],tab:=[(10000,.var [.int .u64 f0,.str f1,.str f2,.slc yP f3,.str f4,.int .u64 f5,.int .u8 f6])] })) none) none) none
 | _,_=>none
noncomputable def Ib:Env:={ env Tryz.prog [] [(2,dJ aft adz)] [(2,[(0,[2,6,7,8]),(1,[2]),(1000,[2,3])])] with fz:=true }
theorem ajS (l:List aG):bM Ib 182 ((aW (jY aj)).enc l) ([]) some =
 cond ((↑(List.length (List.map (ah.enc aj) l)):Int)==(↑(List.length (List.map (ah.enc aj) l)):Int)) (cond (Nat.ble (List.length (List.map (ah.enc aj) l)) 1000) (cond (List.any (List.map (ah.dec aj) (List.map (ah.enc aj) l)) N.isReady) (some {v:=.fE [V.agg [V.int .u64 (V.toInt (List.getD (N.fRow N.isReady (List.map (ah.enc aj) l)) 0 V.undef)),.str (V.toStr (List.getD (N.fRow N.isReady (List.map (ah.enc aj) l)) 1 V.undef)),.str (V.toStr (List.getD (N.fRow N.isReady (List.map (ah.enc aj) l)) 2 V.undef)),.slc yP (V.toRows (List.getD (N.fRow N.isReady (List.map (ah.enc aj) l)) 3 V.undef)),.str (V.toStr (List.getD (N.fRow N.isReady (List.map (ah.enc aj) l)) 4 V.undef)),.int .u64 (V.toInt (List.getD (N.fRow N.isReady (List.map (ah.enc aj) l)) 5 V.undef)),.int .u8 (V.toInt (List.getD (N.fRow N.isReady (List.map (ah.enc aj) l)) 6 V.undef))],.bool true],bx:=[]:aH}) (some {v:=.fE [V.agg [V.int .u64 0,.str [],.str [],.slc yP [],.str [],.int .u64 0,.int .u8 0],.bool false],bx:=[]:aH})) none) none:=by kernel_rfl
theorem Tc (r:List (List V)) (n i:Int) (f0:Int) (f1 f2:Bytes) (f3:List (List V)) (f4:Bytes) (f5 f6:Int) (K:Ex->St->Option R):bI Ib 182 2 { fr:=[(2,.ptr 10000 0 0 0),(6,.slc yI r),(7,.int .i64 n),(8,.int .i64 i)],tab:=[(10000,.var [.int .u64 f0,.str f1,.str f2,.slc yP f3,.str f4,.int .u64 f5,.int .u8 f6])] } K =
 cond (aZ i n) (cond (decide (0<=i∧i<(↑(List.length r):Int))) (cond (!V.toBool (List.getD (List.getD r (Int.toNat i) []) 7 V.undef)) (K .ret {fr:=[(2,.ptr 10000 0 0 0),(3,.bool true)],tab:=[(10000,.var [V.int .u64 (V.toInt (List.getD (List.getD r (Int.toNat i) []) 0 V.undef)),.str (V.toStr (List.getD (List.getD r (Int.toNat i) []) 1 V.undef)),.str (V.toStr (List.getD (List.getD r (Int.toNat i) []) 2 V.undef)),.slc yP (V.toRows (List.getD (List.getD r (Int.toNat i) []) 3 V.undef)),.str (V.toStr (List.getD (List.getD r (Int.toNat i) []) 4 V.undef)),.int .u64 (V.toInt (List.getD (List.getD r (Int.toNat i) []) 5 V.undef)),.int .u8 (V.toInt (List.getD (List.getD r (Int.toNat i) []) 6 V.undef))])]:St}) (K .normal {fr:=[(2,.ptr 10000 0 0 0),(6,.slc yI r),(7,.int .i64 n),(8,.int .i64 (IntKind.wrap .i64 (i+1)))],tab:=[(10000,.var [V.int .u64 f0,.str f1,.str f2,.slc yP f3,.str f4,.int .u64 f5,.int .u8 f6])]:St})) none) (K (.exit 0) {fr:=[(2,.ptr 10000 0 0 0)],tab:=[(10000,.var [V.int .u64 f0,.str f1,.str f2,.slc yP f3,.str f4,.int .u64 f5,.int .u8 f6])]:St}):=by kernel_rfl
theorem YC:dB Ib 182 2:=by
 refine bf rfl fun l K q h=>?_
 unfold adz at h
 split at h
 .rename_i r n i f0 f1 f2 f3 f4 f5 f6
  replace h:=Lm h;obtain ⟨h1,h2,h3,h⟩:=h
  have e1:=aY h1
  have e2:=aY h2
  subst e1 e2
  have h3:r.length<=1000:=aX h3
  have main:=dh (E:=Ib) (f:=182) (id:=2) (A:=Unit) r (fun _ i=>{ fr:=[(2,.ptr 10000 0 0 0),(6,.slc yI r),(7,.int .i64 r.length),(8,.int .i64 i)],tab:=[(10000,.var [.int .u64 f0,.str f1,.str f2,.slc yP f3,.str f4,.int .u64 f5,.int .u8 f6])] }) (fun _ _=>True)
   (fun _ rows K=>cond ((rows.map aj.dec).any N.isReady) (K .ret { fr:=[(2,.ptr 10000 0 0 0),(3,.bool true)],tab:=[(10000,.var (lU (N.fRow N.isReady rows)))] }) (K (.exit 0) { fr:=[(2,.ptr 10000 0 0 0)],tab:=[(10000,.var [.int .u64 f0,.str f1,.str f2,.slc yP f3,.str f4,.int .u64 f5,.int .u8 f6])] })) (fun a i ha hi=>?_) (fun a ha=>?_) () 0 (Int.le_refl _) (by omega) trivial K q (by assumption)
  .exact main
  .rw [List.map_cons,List.any_cons]
   have hl:V.toBool (List.getD (List.getD r i []) 7 V.undef)=(aj.dec (r.getD i [])).eF:=rfl
   have hq:=fun K=>Tc r r.length i f0 f1 f2 f3 f4 f5 f6 K
   have t1:aZ (i:Int) r.length=true:=dK (by omega)
   have t2:decide ((0:Int)<=i∧(i:Int)<r.length)=true:=decide_eq_true (by omega)
   have t3:IntKind.wrap .i64 ((i:Int)+1)=(i:Int)+1:=dY (by omega) (by omega)
   simp only [Int.toNat_natCast,Ak] at hq
   simp only [hl,t1,t2,t3,cond_true] at hq
   cases hc:N.isReady (aj.dec (r.getD i [])) with
   | true =>
    refine .inr ⟨.ret,{ fr:=[(2,.ptr 10000 0 0 0),(3,.bool true)],tab:=[(10000,.var (lU (r.getD i [])))] },by simp,fun K=>?_,fun K=>by rw [Bool.true_or]; show K _ { fr:=_,tab:=[(10000,.var (lU (cond (N.isReady (aj.dec (r.getD i []))) _ _)))] }=_; rw [hc]; rfl⟩
    rw [hq]
    have hc:cond (aj.dec (r.getD i [])).eF false true=true:=hc
    cases hL:(aj.dec (r.getD i [])).eF with
    | true=>rw [hL] at hc; cases hc
    | false=>rfl
   | false =>
    refine .inl ⟨(),trivial,fun K=>?_,fun K=>by rw [Bool.false_or]; simp only [N.fRow,hc,cond_false]⟩
    rw [hq]
    have hc:cond (aj.dec (r.getD i [])).eF false true=false:=hc
    cases hL:(aj.dec (r.getD i [])).eF with
    | true=>rfl
    | false=>rw [hL] at hc; cases hc
  .refine ⟨.exit 0,_,by simp,fun K=>?_,fun K=>rfl⟩
   rw [Tc]
   simp (disch:=omega) only [evs]
 .cases h
theorem afu:bH Tryz.prog 182 ady:=by
 refine aK (aT (fK.nil _)) (E:=Ib) Tryz.func182 [2] (by kernel_rfl) (one1 YC) fun l _ hp=>?_
 have hp:Nat.ble l.length 1000=true:=hp
 refine (ajS l).trans ?_
 show _=some (⟨.fE [.agg (ak.enc (N.lS l (N.ix N.isReady l 0)).1),.bool (N.lS l (N.ix N.isReady l 0)).2],[],[]⟩:aH)
 simp only [List.length_map,bn,hp,beq_self_eq_true,cond_true]
 cases hc:l.any N.isReady with
 | true =>
  obtain ⟨h1,h2⟩:=YA hc
  simp only [Ak,h1,h2,cond_true]
 | false =>
  rw [told_none hc]
  try rfl
def adA:Den:=den (aO (jY aj) (aW (cu .u64))) dw (nP (aO (bg ak) (aW iF))) (fun a _=>Nat.ble a.1.length 1000) fun a _=>(N.lS a.1 (N.ix (N.je a.2) a.1 0),())
def afv:fP:={ fr:=[(1,.int .u64),(4,.ptr 10000 0 0),(8,.slc yI),(9,.int .i64),(10,.int .i64)],tab:=[(10000,.var [.int .u64,.str,.str,.slc yP,.str,.int .u64,.int .u8])] }
def adB:List Leaf->(Ex->St->Option R)->Option R
 | [.i t,.r r,.i n,.i i,.i f0,.s f1,.s f2,.r f3,.s f4,.i f5,.i f6],K=>cond (n==r.length) (cond (i==0) (cond (Nat.ble r.length 1000) (cond ((r.map aj.dec).any (N.je t)) (K .ret { fr:=[(4,.ptr 10000 0 0 0),(5,.bool true)],tab:=[(10000,.var (lU (N.fRow (N.je t) r)))] }) (K (.exit 0) { fr:=[(4,.ptr 10000 0 0 0)],tab:=[(10000,.var [.int .u64 f0,.str f1,.str f2,.slc yP f3,.str f4,.int .u64 f5,.int .u8 f6])] })) none) none) none
 | _,_=>none
noncomputable def Ic:Env:={ env Tryz.prog [] [(2,dJ afv adB)] [(2,[(0,[1,4,8,9,10]),(1,[4]),(1000,[4,5])])] with fz:=true }
theorem ajT (l:List aG) (t:Int):bM Ic 158 ((aO (jY aj) (aW (cu .u64))).enc (l,t)) ([]) some =
 cond ((↑(List.length (List.map (ah.enc aj) l)):Int)==(↑(List.length (List.map (ah.enc aj) l)):Int)) (cond (Nat.ble (List.length (List.map (ah.enc aj) l)) 1000) (cond (List.any (List.map (ah.dec aj) (List.map (ah.enc aj) l)) (N.je t)) (some {v:=.fE [V.agg [V.int .u64 (V.toInt (List.getD (N.fRow (N.je t) (List.map (ah.enc aj) l)) 0 V.undef)),.str (V.toStr (List.getD (N.fRow (N.je t) (List.map (ah.enc aj) l)) 1 V.undef)),.str (V.toStr (List.getD (N.fRow (N.je t) (List.map (ah.enc aj) l)) 2 V.undef)),.slc yP (V.toRows (List.getD (N.fRow (N.je t) (List.map (ah.enc aj) l)) 3 V.undef)),.str (V.toStr (List.getD (N.fRow (N.je t) (List.map (ah.enc aj) l)) 4 V.undef)),.int .u64 (V.toInt (List.getD (N.fRow (N.je t) (List.map (ah.enc aj) l)) 5 V.undef)),.int .u8 (V.toInt (List.getD (N.fRow (N.je t) (List.map (ah.enc aj) l)) 6 V.undef))],.bool true],bx:=[]:aH}) (some {v:=.fE [V.agg [V.int .u64 0,.str [],.str [],.slc yP [],.str [],.int .u64 0,.int .u8 0],.bool false],bx:=[]:aH})) none) none:=by kernel_rfl
theorem Td (t:Int) (r:List (List V)) (n i:Int) (f0:Int) (f1 f2:Bytes) (f3:List (List V)) (f4:Bytes) (f5 f6:Int) (K:Ex->St->Option R):type_of% (by
  have h:bI Ic 158 2 { fr:=[(1,.int .u64 t),(4,.ptr 10000 0 0 0),(8,.slc yI r),(9,.int .i64 n),(10,.int .i64 i)],tab:=[(10000,.var [.int .u64 f0,.str f1,.str f2,.slc yP f3,.str f4,.int .u64 f5,.int .u8 f6])] } K =(
   let z0:=(K .normal {fr:=[(1,.int .u64 t),(4,.ptr 10000 0 0 0),(8,.slc yI r),(9,.int .i64 n),(10,.int .i64 (IntKind.wrap .i64 (i+1)))],tab:=[(10000,.var [V.int .u64 f0,.str f1,.str f2,.slc yP f3,.str f4,.int .u64 f5,.int .u8 f6])]:St});let z1:=(List.getD r (Int.toNat i) []);let z2:=(V.toInt (z1.getD 5 .undef));cond (aZ i n) (cond (decide (0<=i∧i<(↑(List.length r):Int))) (cond (!V.toBool (z1.getD 7 .undef)) (cond (aZ 0 z2) (cond (bU z2 t) (K .ret {fr:=[(4,.ptr 10000 0 0 0),(5,.bool true)],tab:=[(10000,.var [V.int .u64 (V.toInt (z1.getD 0 .undef)),.str (V.toStr (z1.getD 1 .undef)),.str (V.toStr (z1.getD 2 .undef)),.slc yP (V.toRows (z1.getD 3 .undef)),.str (V.toStr (z1.getD 4 .undef)),.int .u64 z2,.int .u8 (V.toInt (z1.getD 6 .undef))])]:St}) z0) z0) z0) none) (K (.exit 0) {fr:=[(4,.ptr 10000 0 0 0)],tab:=[(10000,.var [V.int .u64 f0,.str f1,.str f2,.slc yP f3,.str f4,.int .u64 f5,.int .u8 f6])]:St})):=by kernel_rfl
  dsimp only at h;exact h):=by kernel_rfl
theorem YD:dB Ic 158 2:=by
 refine bf rfl fun l K q h=>?_
 unfold adB at h
 split at h
 .rename_i t r n i f0 f1 f2 f3 f4 f5 f6
  replace h:=Lm h;obtain ⟨h1,h2,h3,h⟩:=h
  have e1:=aY h1
  have e2:=aY h2
  subst e1 e2
  have h3:r.length<=1000:=aX h3
  have main:=dh (E:=Ic) (f:=158) (id:=2) (A:=Unit) r (fun _ i=>{ fr:=[(1,.int .u64 t),(4,.ptr 10000 0 0 0),(8,.slc yI r),(9,.int .i64 r.length),(10,.int .i64 i)],tab:=[(10000,.var [.int .u64 f0,.str f1,.str f2,.slc yP f3,.str f4,.int .u64 f5,.int .u8 f6])] }) (fun _ _=>True)
   (fun _ rows K=>cond ((rows.map aj.dec).any (N.je t)) (K .ret { fr:=[(4,.ptr 10000 0 0 0),(5,.bool true)],tab:=[(10000,.var (lU (N.fRow (N.je t) rows)))] }) (K (.exit 0) { fr:=[(4,.ptr 10000 0 0 0)],tab:=[(10000,.var [.int .u64 f0,.str f1,.str f2,.slc yP f3,.str f4,.int .u64 f5,.int .u8 f6])] })) (fun a i ha hi=>?_) (fun a ha=>?_) () 0 (Int.le_refl _) (by omega) trivial K q (by assumption)
  .exact main
  .rw [List.map_cons,List.any_cons]
   have hl:V.toBool (List.getD (List.getD r i []) 7 V.undef)=(aj.dec (r.getD i [])).eF:=rfl
   have hd:V.toInt (List.getD (List.getD r i []) 5 V.undef)=(aj.dec (r.getD i [])).aQ.due:=rfl
   have hq:=fun K=>Td t r r.length i f0 f1 f2 f3 f4 f5 f6 K
   have t1:aZ (i:Int) r.length=true:=dK (by omega)
   have t2:decide ((0:Int)<=i∧(i:Int)<r.length)=true:=decide_eq_true (by omega)
   have t3:IntKind.wrap .i64 ((i:Int)+1)=(i:Int)+1:=dY (by omega) (by omega)
   simp only [Int.toNat_natCast,Ak] at hq
   simp only [hl,hd,t1,t2,t3,cond_true] at hq
   cases hc:(N.je t) (aj.dec (r.getD i [])) with
   | true =>
    refine .inr ⟨.ret,{ fr:=[(4,.ptr 10000 0 0 0),(5,.bool true)],tab:=[(10000,.var (lU (r.getD i [])))] },by simp,fun K=>?_,fun K=>by rw [Bool.true_or]; show K _ { fr:=_,tab:=[(10000,.var (lU (cond ((N.je t) (aj.dec (r.getD i []))) _ _)))] }=_; rw [hc]; rfl⟩
    rw [hq]
    have hc:cond (aj.dec (r.getD i [])).eF false (cond (aZ 0 (aj.dec (r.getD i [])).aQ.due) (bU (aj.dec (r.getD i [])).aQ.due t) false)=true:=hc
    generalize (aj.dec (r.getD i [])).eF=b1 at *
    generalize aZ 0 (aj.dec (r.getD i [])).aQ.due=b2 at *
    generalize bU (aj.dec (r.getD i [])).aQ.due t=b3 at *
    cases b1<;>cases b2<;>cases b3<;>first | rfl | exact absurd hc (by decide)
   | false =>
    refine .inl ⟨(),trivial,fun K=>?_,fun K=>by rw [Bool.false_or]; simp only [N.fRow,hc,cond_false]⟩
    rw [hq]
    have hc:cond (aj.dec (r.getD i [])).eF false (cond (aZ 0 (aj.dec (r.getD i [])).aQ.due) (bU (aj.dec (r.getD i [])).aQ.due t) false)=false:=hc
    generalize (aj.dec (r.getD i [])).eF=b1 at *
    generalize aZ 0 (aj.dec (r.getD i [])).aQ.due=b2 at *
    generalize bU (aj.dec (r.getD i [])).aQ.due t=b3 at *
    cases b1<;>cases b2<;>cases b3<;>first | rfl | exact absurd hc (by decide)
  .refine ⟨.exit 0,_,by simp,fun K=>?_,fun K=>rfl⟩
   rw [Td]
   simp (disch:=omega) only [evs]
 .cases h
theorem afw:bH Tryz.prog 158 adA:=by
 refine aK (aT (fK.nil _)) (E:=Ic) Tryz.func158 [2] (by kernel_rfl) (one1 YD) fun l _ hp=>?_
 obtain ⟨l,t⟩:=l
 have hp:Nat.ble l.length 1000=true:=hp
 refine (ajT l t).trans ?_
 show _=some (⟨.fE [.agg (ak.enc (N.lS l (N.ix (N.je t) l 0)).1),.bool (N.lS l (N.ix (N.je t) l 0)).2],[],[]⟩:aH)
 simp only [List.length_map,bn,hp,beq_self_eq_true,cond_true]
 cases hc:l.any (N.je t) with
 | true =>
  obtain ⟨h1,h2⟩:=YA hc
  simp only [Ak,h1,h2,cond_true]
 | false =>
  rw [told_none hc]
  try rfl
def adC:Den:=den (aW (jY aj)) dw (oV (cu .i64)) (fun l _=>cond (Nat.ble l.length 1000) (allM N.iJ l) false) fun l _=>(N.fM l,())
def afx:fP:={ fr:=[(3,.int .i64),(6,.slc yI),(7,.int .i64),(8,.int .i64)],tab:=[] }
def adD:List Leaf->(Ex->St->Option R)->Option R
 | [.i a,.r r,.i n,.i i],K=>cond (n==r.length) (cond (i==0) (cond (a==0) (cond (Nat.ble r.length 1000) (cond (allM N.iJ (r.map aj.dec))
   (K (.exit 0) { fr:=[(3,.int .i64 (N.fM (r.map aj.dec)))],tab:=[] }) none) none) none) none) none
 | _,_=>none
noncomputable def L8:Env:=env Tryz.prog [(189,EX)] [(3,dJ afx adD)] [(3,[(0,[3,6,7,8]),(1,[3]),(1000,[2])])]
theorem ajU (l:List aG):bM L8 159 ((aW (jY aj)).enc l) ([]) some =
 cond ((↑(List.length (List.map (ah.enc aj) l)):Int)==(↑(List.length (List.map (ah.enc aj) l)):Int)) (cond (Nat.ble (List.length (List.map (ah.enc aj) l)) 1000) (cond (List.all (List.map (ah.dec aj) (List.map (ah.enc aj) l)) fun x=>N.iJ x.aQ) (some {v:=.int .i64 (N.fM (List.map (ah.dec aj) (List.map (ah.enc aj) l))),bx:=[]:aH}) none) none) none:=by kernel_rfl
theorem Tf (a:Int) (r:List (List V)) (n i:Int) (K:Ex->St->Option R):bI L8 159 3 { fr:=[(3,.int .i64 a),(6,.slc yI r),(7,.int .i64 n),(8,.int .i64 i)],tab:=[] } K =
 cond (aZ i n) (cond (decide (0<=i∧i<(↑(List.length r):Int))) (cond (bif N.vC (ak.dec (List.getD r (Int.toNat i) [])) then List.all (List.map yD (V.toRows (List.getD (List.getD r (Int.toNat i) []) 3 V.undef))) N.Ob else false) (K .normal {fr:=[(3,.int .i64 (IntKind.wrap .i64 (a+N.bJ (ak.dec (List.getD r (Int.toNat i) []))))),(6,.slc yI r),(7,.int .i64 n),(8,.int .i64 (IntKind.wrap .i64 (i+1)))],tab:=[]:St}) none) none) (K (.exit 0) {fr:=[(3,.int .i64 a)],tab:=[]:St}):=by kernel_rfl
theorem afy:bH Tryz.prog 159 adC:=by
 refine aK (aT ((fK.nil _).cons CG)) (E:=L8) Tryz.func159 [3] (by kernel_rfl) (one1 (bf rfl fun l K q h=>?_)) fun l _ hp=>?_
 .unfold adD at h
  split at h
  .rename_i a r n i
   replace h:=Ed h;obtain ⟨h1,h2,h3,h4,h5,h⟩:=h
   have e1:=aY h1
   have e2:=aY h2
   have e3:=aY h3
   subst e1 e2 e3
   have h4:r.length<=1000:=aX h4
   have main:=dh (E:=L8) (f:=159) (id:=3) (A:=Int) r (fun a i=>{ fr:=[(3,.int .i64 a),(6,.slc yI r),(7,.int .i64 r.length),(8,.int .i64 i)],tab:=[] }) (fun a i=>0<=a∧a<=1570*i)
    (fun a rows K=>K (.exit 0) { fr:=[(3,.int .i64 (a+N.fM (rows.map aj.dec)))],tab:=[] }) (fun a i ha hi=>?_) (fun a _=>?_) 0 0 (Int.le_refl _) (by omega) ⟨Int.le_refl _,by decide⟩ K q (by rw [Int.zero_add]; exact h)
   .exact main
   .have hb:=lZ (aj.dec (r.getD i [])).aQ
    have hm:ak.dec (r.getD i [])=(aj.dec (r.getD i [])).aQ:=rfl
    have hs:N.iJ (aj.dec (r.getD i [])).aQ=true:=List.all_eq_true.1 h5 _ (List.mem_map_of_mem (by rw [List.getD_eq_getElem?_getD,List.getElem?_eq_getElem hi]; exact List.getElem_mem hi))
    refine .inl ⟨a+N.bJ (aj.dec (r.getD i [])).aQ,⟨by omega,by omega⟩,fun K=>?_,fun K=>?_⟩
    .rw [Tf]
     simp (disch:=omega) only [evs,Int.toNat_natCast,kG,hm]
     show cond (N.iJ (aj.dec (r.getD i [])).aQ) _ _=_
     rw [hs]; rfl
    .show K _ { fr:=[(3,.int .i64 (a+(N.bJ (aj.dec (r.getD i [])).aQ+N.fM ((r.drop (i+1)).map aj.dec))))],tab:=[] }=_
     rw [Int.add_assoc]
   .refine ⟨.exit 0,_,by simp,fun K=>?_,fun K=>rfl⟩
    rw [Tf]
    simp (disch:=omega) only [evs,List.map_nil]
    show _=K _ { fr:=[(3,.int .i64 (a+0))],tab:=[] }
    rw [Int.add_zero]
  .cases h
 .obtain ⟨h1,h2⟩:=aP hp
  refine (ajU l).trans ?_
  show _=some (⟨.int .i64 (N.fM l),[],[]⟩:aH)
  have h2:_=true:=h2
  unfold allM at h2
  simp only [List.length_map,bn,beq_self_eq_true,cond_true,h1,h2]
def adE:Den:=den (aW (bg gu)) dw (oV (cu .i64)) (fun l _=>cond (Nat.ble l.length 1000) (allM N.vC l) false) fun l _=>(N.fM l,())
def afz:fP:={ fr:=[(3,.int .i64),(7,.slc yI),(8,.int .i64),(9,.int .i64)],tab:=[] }
def adF:List Leaf->(Ex->St->Option R)->Option R
 | [.i a,.r r,.i n,.i i],K=>cond (n==r.length) (cond (i==0) (cond (a==0) (cond (Nat.ble r.length 1000) (cond (allM N.vC (r.map aj.dec))
   (K (.exit 0) { fr:=[(3,.int .i64 (N.fM (r.map aj.dec)))],tab:=[] }) none) none) none) none) none
 | _,_=>none
noncomputable def L9:Env:=env Tryz.prog [(48,DT)] [(3,dJ afz adF)] [(3,[(0,[3,7,8,9]),(1,[3]),(1000,[2])])]
theorem ajV (l:List aG):bM L9 65 ((aW (bg gu)).enc l) ([]) some =
 cond ((↑(List.length (List.map (ah.enc aj) l)):Int)==(↑(List.length (List.map (ah.enc aj) l)):Int)) (cond (Nat.ble (List.length (List.map (ah.enc aj) l)) 1000) (cond (List.all (List.map (ah.dec aj) (List.map (ah.enc aj) l)) fun x=>N.vC x.aQ) (some {v:=.int .i64 (N.fM (List.map (ah.dec aj) (List.map (ah.enc aj) l))),bx:=[]:aH}) none) none) none:=by kernel_rfl
theorem Ti (a:Int) (r:List (List V)) (n i:Int) (K:Ex->St->Option R):bI L9 65 3 { fr:=[(3,.int .i64 a),(7,.slc yI r),(8,.int .i64 n),(9,.int .i64 i)],tab:=[] } K =
 cond (aZ i n) (cond (decide (0<=i∧i<(↑(List.length r):Int))) (cond (N.vC (ak.dec (List.getD r (Int.toNat i) []))) (K .normal {fr:=[(3,.int .i64 (IntKind.wrap .i64 (a+N.bJ (ak.dec (List.getD r (Int.toNat i) []))))),(7,.slc yI r),(8,.int .i64 n),(9,.int .i64 (IntKind.wrap .i64 (i+1)))],tab:=[]:St}) none) none) (K (.exit 0) {fr:=[(3,.int .i64 a)],tab:=[]:St}):=by kernel_rfl
theorem afA (hN:bH Tryz.prog 95 fZ):bH Tryz.prog 65 adE:=by
 refine aK (aT ((fK.nil _).cons (Cc hN))) (E:=L9) Tryz.func65 [3] (by kernel_rfl) (one1 (bf rfl fun l K q h=>?_)) fun l _ hp=>?_
 .unfold adF at h
  split at h
  .rename_i a r n i
   replace h:=Ed h;obtain ⟨h1,h2,h3,h4,h5,h⟩:=h
   have e1:=aY h1
   have e2:=aY h2
   have e3:=aY h3
   subst e1 e2 e3
   have h4:r.length<=1000:=aX h4
   have main:=dh (E:=L9) (f:=65) (id:=3) (A:=Int) r (fun a i=>{ fr:=[(3,.int .i64 a),(7,.slc yI r),(8,.int .i64 r.length),(9,.int .i64 i)],tab:=[] }) (fun a i=>0<=a∧a<=1570*i)
    (fun a rows K=>K (.exit 0) { fr:=[(3,.int .i64 (a+N.fM (rows.map aj.dec)))],tab:=[] }) (fun a i ha hi=>?_) (fun a _=>?_) 0 0 (Int.le_refl _) (by omega) ⟨Int.le_refl _,by decide⟩ K q (by rw [Int.zero_add]; exact h)
   .exact main
   .have hb:=lZ (aj.dec (r.getD i [])).aQ
    have hm:ak.dec (r.getD i [])=(aj.dec (r.getD i [])).aQ:=rfl
    have hs:N.vC (aj.dec (r.getD i [])).aQ=true:=List.all_eq_true.1 h5 _ (List.mem_map_of_mem (by rw [List.getD_eq_getElem?_getD,List.getElem?_eq_getElem hi]; exact List.getElem_mem hi))
    refine .inl ⟨a+N.bJ (aj.dec (r.getD i [])).aQ,⟨by omega,by omega⟩,fun K=>?_,fun K=>?_⟩
    .rw [Ti]
     simp (disch:=omega) only [evs,Int.toNat_natCast,kG,hm,hs]
     try rfl
    .show K _ { fr:=[(3,.int .i64 (a+(N.bJ (aj.dec (r.getD i [])).aQ+N.fM ((r.drop (i+1)).map aj.dec))))],tab:=[] }=_
     rw [Int.add_assoc]
   .refine ⟨.exit 0,_,by simp,fun K=>?_,fun K=>rfl⟩
    rw [Ti]
    simp (disch:=omega) only [evs,List.map_nil]
    show _=K _ { fr:=[(3,.int .i64 (a+0))],tab:=[] }
    rw [Int.add_zero]
  .cases h
 .obtain ⟨h1,h2⟩:=aP hp
  refine (ajV l).trans ?_
  show _=some (⟨.int .i64 (N.fM l),[],[]⟩:aH)
  have h2:_=true:=h2
  unfold allM at h2
  simp only [List.length_map,bn,beq_self_eq_true,cond_true,h1,h2]
end Go.Ev

namespace Go.Ev
open Go
set_option maxRecDepth 100000
def N.FM {α:Type} (p:α->Bool):List α->Int->Int
 | [],_=>-1
 | x::r,i=>cond (p x) i (N.FM p r (i+1))
theorem YE {α:Type} (p:α->Bool) (x:α) (r:List α) (i:Int):N.FM p (x::r) i=cond (p x) i (N.FM p r (i+1)):=rfl
theorem zu {α:Type} (p:α->Bool):∀ (l:List α) (i:Int),(N.FM p l i = -1∧l.any p=false)∨∃ (a:List α) (x:α) (b:List α),l=a++x::b∧N.FM p l i=i+a.length∧p x=true∧a.any p=false∧l.any p=true
 | [],i=>.inl ⟨rfl,rfl⟩
 | x::r,i=>by
  unfold N.FM
  rw [List.any_cons]
  cases hc:p x with
  | true=>exact .inr ⟨[],x,r,rfl,by simp,hc,rfl,rfl⟩
  | false =>
   rcases zu p r (i+1) with ⟨h1,h2⟩ | ⟨a,y,b,h1,h2,h3,h4,h5⟩
   .exact .inl ⟨h1,by rw [h2]; rfl⟩
   .exact .inr ⟨x::a,y,b,by rw [h1]; rfl,by rw [cond_false,h2]; simp; omega,h3,by rw [List.any_cons,hc,h4]; rfl,by rw [h5]; rfl⟩
theorem adG {α:Type} {p:α->Bool} {l:List α} (h:bU 0 (N.FM p l 0)=false):N.FM p l 0 = -1:=by
 rcases zu p l 0 with ⟨h1,_⟩ | ⟨a,x,b,_,h1,_⟩
 .exact h1
 .rw [h1,dX (by omega)] at h; cases h
theorem ajW {α:Type} (p:α->Bool) (l:List α):bU 0 (N.FM p l 0)=l.any p:=by
 rcases zu p l 0 with ⟨h1,h2⟩ | ⟨a,x,b,_,h1,_,_,h5⟩
 .rw [h1,h2]; rfl
 .rw [h1,h5,dX (by omega)]
theorem aqh {α:Type} (p:α->Bool) (l:List α):aZ (N.FM p l 0) 0 = !l.any p:=by
 show (!bU 0 (N.FM p l 0))=_
 rw [ajW]
def ajX:dZ:=⟨[],0,0,[]⟩
def row0:dW:=⟨ajX,[]⟩
namespace N
def jq (q:dZ):Int:=cond (name q.name != 0) (name q.name) (cond (cond (aZ q.most 1) true (aZ 64 q.most)) 7 (cond (q.dead==[]) 0 (name q.dead)))
def isRow (n:Bytes) (x:dW):Bool:=x.q.name==n
def bP (s:aF) (n:Bytes):Int:=FM (isRow n) s.rows 0
def dn (s:aF) (k:Int):dW:=s.rows.getD k.toNat row0
def YF (a b:dZ):Bool:=cond (a.name==b.name) (cond (a.most==b.most) (cond (a.life==b.life) (a.dead==b.dead) false) false) false
def abq {α:Type} (l:List α) (k:Nat):List α:=l.take k++l.drop (k+1)
def sNew (base bytes:Int):aF:=⟨base,cond (aZ 0 bytes) bytes 0,[],iW.rises⟩
def gy (s:aF) (q:dZ):aF × Int :=
 cond (jq q != 0) (s,jq q) (cond (bU 0 (bP s q.name)) (cond (YF (dn s (bP s q.name)).q q) (s,0) (s,9)) (cond (bU 8 s.rows.length) (s,12) (⟨s.next,s.bytes,s.rows++[⟨q,[]⟩],s.rises⟩,0)))
def vG (s:aF) (n:Bytes):aF × Int:=cond (aZ (bP s n) 0) (s,10) (⟨s.next,s.bytes,abq s.rows (bP s n).toNat,s.rises⟩,0)
def JA (s:aF) (n:Bytes):dZ × Bool:=cond (aZ (bP s n) 0) (ajX,false) ((dn s (bP s n)).q,true)
def CV (s:aF) (n:Bytes):List aG:=cond (aZ (bP s n) 0) [] (dn s (bP s n)).line
def KG (s:aF) (p:Int):aC:=cond (aZ p 0) iC (cond (bU 16 p) iC (s.rises.list.getD p.toNat iC))
def iH (s:aF) (k:Int) (l:List aG):aF:=⟨s.next,s.bytes,s.rows.set k.toNat ⟨(s.rows.getD k.toNat row0).q,l⟩,s.rises⟩
def bY:List dW->Int
 | []=>0
 | x::r=>fM x.line+bY r
def dP:List aC->Int
 | []=>0
 | x::r=>bZ x.kept+dP r
def jv (s:aF):Int:=bY s.rows+dP s.rises.list
def l9 (s:aF):Int:=s.bytes-jv s
def kL (m:ay) (n:Int):ay:=⟨n,m.bT,m.key,m.head,m.body,m.due,m.hops⟩
def zx (s:aF) (k:Int) (m out:ay) (l:List aG):aF × Int × ay × Int :=
 cond (aZ (l9 s+bJ out) (bJ (kL m s.next))) (s,0,gJ,12)
  (cond ((l7 l ⟨kL m s.next,false,false⟩).2 != 0) (s,0,gJ,(l7 l ⟨kL m s.next,false,false⟩).2)
   (⟨IntKind.wrap .u64 (s.next+1),s.bytes,(iH s k (l7 l ⟨kL m s.next,false,false⟩).1).rows,s.rises⟩,s.next,out,0))
def oN (s:aF) (n:Bytes) (m:ay):aF × Int × ay × Int :=
 cond (aZ (bP s n) 0) (s,0,gJ,10) (cond (aV m != 0) (s,0,gJ,aV m) (cond (s.next==0) (s,0,gJ,18)
  (cond (bU (dn s (bP s n)).q.most (dn s (bP s n)).line.length)
   (cond (fF (dn s (bP s n)).line).2 (zx s (bP s n) m (fF (dn s (bP s n)).line).1 (eP (dn s (bP s n)).line (fF (dn s (bP s n)).line).1.id).1) (s,0,gJ,12))
   (zx s (bP s n) m gJ (dn s (bP s n)).line))))
def mZ (s:aF) (n:Bytes):aF × aG × Bool:=cond (aZ (bP s n) 0) (s,fA,false) (iH s (bP s n) (o7 (dn s (bP s n)).line).1,(o7 (dn s (bP s n)).line).2)
def qE (s:aF) (n:Bytes) (id:Int):aF × Int:=cond (aZ (bP s n) 0) (s,10) (iH s (bP s n) (uO (dn s (bP s n)).line id).1,(uO (dn s (bP s n)).line id).2)
def iY (s:aF) (n:Bytes) (id:Int):aF × aG × Int:=cond (aZ (bP s n) 0) (s,fA,10) (iH s (bP s n) (eP (dn s (bP s n)).line id).1,(eP (dn s (bP s n)).line id).2)
def kS (s:aF) (p:Int):aC:=s.rises.list.getD p.toNat iC
def qo (s:aF) (p:Int) (m:ay):aF × Int :=
 cond (cond (aZ p 0) true (bU 16 p)) (s,7) (cond ((dH (kS s p) m).2 != 0) (s,(dH (kS s p) m).2)
  (cond (aZ s.bytes (jv s-bZ (kS s p).kept+bZ (dH (kS s p) m).1.kept)) (s,12) (⟨s.next,s.bytes,s.rows,s.rises.set p.toNat (dH (kS s p) m).1⟩,0)))
def iy (t:Int):List dW->Bytes × ay × Bool
 | []=>([],gJ,false)
 | x::r=>cond (wH x.line t).2 (x.q.name,(wH x.line t).1,true) (iy t r)
def jV (x:dW):dW:=⟨x.q,mX x.line⟩
def KH (s:aF):aF:=⟨s.next,s.bytes,s.rows.map jV,s.rises⟩
def sameRow (a b:dW):Bool:=cond (YF a.q b.q) (nJ a.line b.line) false
def jw:List dW->List dW->Bool
 | [],[]=>true
 | a::x,b::y=>cond (sameRow a b) (jw x y) false
 | _,_=>false
def rW:List aC->List aC->Bool
 | [],[]=>true
 | a::x,b::y=>cond (xK a b) (rW x y) false
 | _,_=>false
def AP (a b:aF):Bool:=cond (a.next==b.next) (cond (a.bytes==b.bytes) (cond (jw a.rows b.rows) (rW a.rises.list b.rises.list) false) false) false
def qp (x:aG):Int:=cond x.again (cond x.eF 3 2) (cond x.eF 1 0)
end N
def pq (l:List aG):Bool:=cond (Nat.ble l.length 300) (cond (l.all dR) (allM N.vC l) false) false
def jf (x:dW):Bool:=pq x.line
def pW (s:aF):Bool:=Nat.ble s.rows.length 100
def eY (s:aF):Bool:=cond (Nat.ble s.rows.length 100) (s.rows.all jf) false
def Tj (s:aF):Bool:=s.rises.list.all lY
theorem YG (m:ay) (n:Int):(⟨n,m.bT,m.key,m.head,m.body,m.due,m.hops⟩:ay)=N.kL m n:=rfl
end Go.Ev

namespace Go.Ev
open Go Go.Proofs
set_option maxRecDepth 100000
-- FOLD
theorem ajY (r:List V):({ q:={ name:=V.toStr (List.getD r 0 .undef),most:=V.toInt (List.getD r 1 .undef),life:=V.toInt (List.getD r 2 .undef),dead:=V.toStr (List.getD r 3 .undef) },line:=List.map aj.dec (V.toRows (List.getD r 4 .undef)) }:dW)=aS.dec r:=rfl
noncomputable def yF:Env:=env Tryz.prog [] [] []
def Tm:Den:=den (aO (cu .u64) (aW (cu .i64))) dw (oV (bg au)) (fun _ _=>true) fun a _=>(N.sNew a.1 a.2,())
theorem aqi (b n:Int):bM yF 10 ((aO (cu .u64) (aW (cu .i64))).enc (b,n)) ([]) some =
 some {v:=.agg [V.int .u64 b,.int .i64 (bif aZ 0 n then n else 0),.slc yR [],.int .u64 0,.slc yM [],.int .u64 0,.slc yM [],.int .u64 0,.slc yM [],.int .u64 0,.slc yM [],.int .u64 0,.slc yM [],.int .u64 0,.slc yM [],.int .u64 0,.slc yM [],.int .u64 0,.slc yM [],.int .u64 0,.slc yM [],.int .u64 0,.slc yM [],.int .u64 0,.slc yM [],.int .u64 0,.slc yM [],.int .u64 0,.slc yM [],.int .u64 0,.slc yM [],.int .u64 0,.slc yM [],.int .u64 0,.slc yM []],bx:=[]:aH}:=by kernel_rfl
theorem VL:bH Tryz.prog 10 Tm:=by
 refine aK (aT (fK.nil _)) (E:=yF) Tryz.func10 [] (by kernel_rfl) none0 fun a _ _=>?_
 exact aqi a.1 a.2
def Mc:Den:=den (aW (bg lT)) dw (oV (cu .i64)) (fun _ _=>true) fun q _=>(N.jq q,())
noncomputable def adH:Env:=env Tryz.prog [(112,GK)] [] []
theorem ajZ (q:dZ):bM adH 39 ((aW (bg lT)).enc q) ([]) some =
 cond (N.name q.name != 0) (some {v:=.int .i64 (N.name q.name),bx:=[]:aH}) (cond (aZ q.most 1) (some {v:=.int .i64 7,bx:=[]:aH}) (cond (aZ 64 q.most) (some {v:=.int .i64 7,bx:=[]:aH}) (cond (!dZ.dead q==[]) (some {v:=.int .i64 (N.name q.dead),bx:=[]:aH}) (some {v:=.int .i64 0,bx:=[]:aH})))):=by kernel_rfl
theorem afB:bH Tryz.prog 39 Mc:=by
 refine aK (aT ((fK.nil _).cons LX)) (E:=adH) Tryz.func39 [] (by kernel_rfl) none0 fun q _ _=>?_
 refine (ajZ q).trans ?_
 show _=some (⟨.int .i64 (N.jq q),[],[]⟩:aH)
 unfold N.jq
 cases h1:N.name q.name != 0 with
 | true=>rfl
 | false =>
  cases h2:aZ q.most 1<;>cases h3:aZ 64 q.most<;>first | rfl | (cases h4:q.dead==[]<;>rfl)
def arU:Den:=den (aO (bg aS) (aW (nY 0))) (nC qA) (oV iF) (fun _ _=>true) fun a n=>(N.isRow n a.1,n)
theorem arV (x:dW) (n:Bytes):bM yF 114 ((aO (bg aS) (aW (nY 0))).enc (x,())) ((nC qA).enc n) some =
 some {v:=.bool (dZ.name x.q==n),bx:=[[V.str n]]:aH}:=by kernel_rfl
theorem aqj:bH Tryz.prog 114 arU:=aK (aT (fK.nil _)) (E:=yF) Tryz.func114 [] (by kernel_rfl) none0 fun a n _=>arV a.1 n
def aj0:Den:=den (aO (jY aS) (aW (vFn 114 0))) (nC qA) (oV (cu .i64)) (fun a _=>Nat.ble a.1.length 1000) fun a n=>(N.FM (N.isRow n) a.1 0,n)
def aj1:fP:={ fr:=[(0,.slc yR),(1,.fn 114 [] [.ptr 0 0 0]),(7,.int .i64),(8,.int .i64)],tab:=[(0,.var [.str])] }
def aj2:List Leaf->(Ex->St->Option R)->Option R
 | [.r r,.i n,.i i,.s s],K=>cond (n==r.length) (cond (i==0) (cond (Nat.ble r.length 1000) (cond (bU 0 (N.FM (N.isRow s) (r.map aS.dec) 0)) (K .ret { fr:=[(4,.int .i64 (N.FM (N.isRow s) (r.map aS.dec) 0))],tab:=[(0,.var [.str s])] }) (K (.exit 0) { fr:=[],tab:=[(0,.var [.str s])] })) none) none) none
 | _,_=>none
noncomputable def PD:Env:=env Tryz.prog [(114,arU)] [(2,dJ aj1 aj2)] [(2,[(0,[0,1,7,8]),(1,[]),(1000,[4])])]
theorem anq (l:List dW) (s:Bytes):bM PD 113 ((aO (jY aS) (aW (vFn 114 0))).enc (l,())) ((nC qA).enc s) some =
 cond ((↑(List.length (List.map (ah.enc aS) l)):Int)==(↑(List.length (List.map (ah.enc aS) l)):Int)) (cond (Nat.ble (List.length (List.map (ah.enc aS) l)) 1000) (cond (bU 0 (N.FM (N.isRow s) (List.map (ah.dec aS) (List.map (ah.enc aS) l)) 0)) (some {v:=.int .i64 (N.FM (N.isRow s) (List.map (ah.dec aS) (List.map (ah.enc aS) l)) 0),bx:=[[V.str s]]:aH}) (some {v:=.int .i64 (-1:Int),bx:=[[V.str s]]:aH})) none) none:=by kernel_rfl
theorem YH (r:List (List V)) (n i:Int) (s:Bytes) (K:Ex->St->Option R):bI PD 113 2 { fr:=[(0,.slc yR r),(1,.fn 114 [] [.ptr 0 0 0 0]),(7,.int .i64 n),(8,.int .i64 i)],tab:=[(0,.var [.str s])] } K =
 cond (aZ i n) (cond (decide (0<=i∧i<(↑(List.length r):Int))) (cond (N.isRow s {q:={name:=V.toStr (List.getD (List.getD r (Int.toNat i) []) 0 V.undef),most:=V.toInt (List.getD (List.getD r (Int.toNat i) []) 1 V.undef),life:=V.toInt (List.getD (List.getD r (Int.toNat i) []) 2 V.undef),dead:=V.toStr (List.getD (List.getD r (Int.toNat i) []) 3 V.undef):dZ},line:=List.map (ah.dec aj) (V.toRows (List.getD (List.getD r (Int.toNat i) []) 4 V.undef)):dW}) (K .ret {fr:=[(4,.int .i64 i)],tab:=[(0,.var [V.str s])]:St}) (K .normal {fr:=[(0,.slc yR r),(1,.fn 114 [] [V.ptr 0 0 0 0]),(7,.int .i64 n),(8,.int .i64 (IntKind.wrap .i64 (i+1)))],tab:=[(0,.var [V.str s])]:St})) none) (K (.exit 0) {fr:=[],tab:=[(0,.var [V.str s])]:St}):=by kernel_rfl
theorem abr:dB PD 113 2:=by
 refine bf rfl fun l K q h=>?_
 unfold aj2 at h
 split at h
 .rename_i r n i s
  replace h:=Lm h;obtain ⟨h1,h2,h3,h⟩:=h
  have e1:=aY h1
  have e2:=aY h2
  subst e1 e2
  have h3:r.length<=1000:=aX h3
  have main:=dD (E:=PD) (f:=113) (id:=2) (σ:=Nat) (fun i=>{ fr:=[(0,.slc yR r),(1,.fn 114 [] [.ptr 0 0 0 0]),(7,.int .i64 r.length),(8,.int .i64 (i:Int))],tab:=[(0,.var [.str s])] }) (fun i=>i<=r.length) (fun i=>r.length-i)
   (fun i K=>cond (bU 0 (N.FM (N.isRow s) ((r.drop i).map aS.dec) i)) (K .ret { fr:=[(4,.int .i64 (N.FM (N.isRow s) ((r.drop i).map aS.dec) i))],tab:=[(0,.var [.str s])] }) (K (.exit 0) { fr:=[],tab:=[(0,.var [.str s])] })) (fun i hi=>?_) 0 (Nat.zero_le _) K q (by assumption)
  .exact main
  .by_cases hl:i<r.length
   .rw [jP hl,List.map_cons,YE]
    have hq:=fun K=>YH r r.length i s K
    have t1:aZ (i:Int) r.length=true:=dK (by omega)
    have t2:decide ((0:Int)<=i∧(i:Int)<r.length)=true:=decide_eq_true (by omega)
    have t3:IntKind.wrap .i64 ((i:Int)+1)=(i:Int)+1:=dY (by omega) (by omega)
    simp only [Int.toNat_natCast,ajY] at hq
    simp only [t1,t2,t3,cond_true] at hq
    cases hc:(N.isRow s) (aS.dec (r.getD i [])) with
    | true =>
     refine .inr ⟨.ret,{ fr:=[(4,.int .i64 (i:Int))],tab:=[(0,.var [.str s])] },by simp,fun K=>?_,fun K=>?_⟩
     .rw [hq,hc]; rfl
     .simp only [cond_true]
      rw [dX (by omega)]; rfl
    | false =>
     refine .inl ⟨i+1,hl,by omega,fun K=>?_,fun K=>rfl⟩
     rw [hq,hc]
     try rfl
   .refine .inr ⟨.exit 0,{ fr:=[],tab:=[(0,.var [.str s])] },by simp,fun K=>?_,fun K=>?_⟩
    .rw [YH]
     simp (disch:=omega) only [evs]
    .rw [List.drop_eq_nil_of_le (by omega)]; rfl
 .cases h
theorem aj3:bH Tryz.prog 113 aj0:=by
 refine aK (aT ((fK.nil _).cons aqj)) (E:=PD) Tryz.func113 [2] (by kernel_rfl) (one1 abr) fun a b hp=>?_
 obtain ⟨l,⟨⟩⟩:=a
 refine (anq l b).trans ?_
 have hp:Nat.ble l.length 1000=true:=hp
 simp only [List.length_map,bn,hp,beq_self_eq_true,cond_true]
 show _=some (⟨.int .i64 (N.FM (N.isRow b) l 0),[[.str b]],[]⟩:aH)
 cases hc:bU 0 (N.FM (N.isRow b) l 0) with
 | true=>rfl
 | false=>rw [adG hc]; rfl
def CW:Den:=den (aO (bg au) (aW fV)) dw (oV (cu .i64)) (fun a _=>pW a.1) fun a _=>(N.bP a.1 a.2,())
noncomputable def arW:Env:=env Tryz.prog [(113,aj0)] [] []
theorem arX (s:aF) (n:Bytes):bM arW 40 ((aO (bg au) (aW fV)).enc (s,n)) ([]) some =
 cond (Nat.ble (List.length (List.map (ah.dec aS) (List.map (ah.enc aS) s.rows))) 1000) (some {v:=.int .i64 (N.FM (N.isRow n) (List.map (ah.dec aS) (List.map (ah.enc aS) s.rows)) 0),bx:=[]:aH}) none:=by kernel_rfl
theorem yG {s:aF} (h:pW s=true):s.rows.length<=100:=aX h
theorem Am:bH Tryz.prog 40 CW:=by
 refine aK (aT ((fK.nil _).cons aj3)) (E:=arW) Tryz.func40 [] (by kernel_rfl) none0 fun a _ h=>?_
 obtain ⟨s,n⟩:=a
 have h:s.rows.length<=100:=yG h
 refine (arX s n).trans ?_
 simp only [bn]
 rw [dN (show s.rows.length<=1000 by omega)]
 try rfl
noncomputable def adI:Env:=env Tryz.prog [] [] [] [128]
theorem aj6 (l:List dW):bM adI 128 ((aW (jY aS)).enc l) ([]) some =
 cond (!Nat.beq (List.length (List.map (ah.enc aS) l)) 0) (cond (Nat.beq (List.length (List.map (ah.enc aS) l)) 0) (some {v:=.slc yR [],bx:=[]:aH}) (cond (decide (List.length (List.map (ah.enc aS) l)*72<=140737488355328)) (some {v:=.own 1000 0,bx:=[],nb:=[Box.sl yR (List.map (ah.enc aS) l) 0]:aH}) none)) none:=by kernel_rfl
def adJ:Den:=den (aW (jY aS)) dw (ape aS) (fun l _=>cond (Nat.beq l.length 0) false (Nat.ble l.length 1000)) fun l _=>(l,())
theorem afC:bH Tryz.prog 128 adJ:=by
 refine aK (aT (fK.nil _)) (E:=adI) Tryz.func128 [] (by kernel_rfl) none0 fun l _ h=>?_
 cases hl:l with
 | nil=>subst hl; cases h
 | cons p r =>
  rw [hl] at h
  have h:(p::r).length<=1000:=aX h
  refine (aj6 (p::r)).trans ?_
  simp only [List.length_map]
  rw [show Nat.beq (p::r).length 0=false from rfl,decide_eq_true (show _ from by omega)]
  try rfl
def ni (s:aF) (k:Int):Bool:=cond (pW s) (cond (bU 0 k) (aZ k s.rows.length) false) false
theorem PE {s:aF} {k:Int} (h:ni s k=true):s.rows.length<=100∧0<=k∧k<s.rows.length:=by
 obtain ⟨h1,h2⟩:=aP h
 obtain ⟨h2,h3⟩:=aP h2
 exact ⟨yG h1,bQ h2,jZ h3⟩
def FB:Den:=den (aO (bg au) (aO (cu .i64) (aW (bg gu)))) dw (oV (bg au)) (fun a _=>ni a.1 a.2.1) fun a _=>(N.iH a.1 a.2.1 a.2.2,())
noncomputable def aj7:Env:=env Tryz.prog [(128,adJ)] [] []
theorem anr (s:aF) (k:Int) (l:List aG):type_of% (by
  have h:bM aj7 50 ((aO (bg au) (aO (cu .i64) (aW (bg gu)))).enc (s,k,l)) ([]) some =(
   let z3:=(List.map (ah.dec aS) (List.map (ah.enc aS) s.rows));let z0:=(List.map (ah.enc aS) z3);let z1:=(List.getD z0 (Int.toNat k) []);let z2:=(List.length z3);cond (bif Nat.beq z2 0 then false else Nat.ble z2 1000) (cond (decide (0<=k∧k<(↑(List.length z0):Int))) (some {v:=.agg [V.int .u64 s.next,.int .i64 s.bytes,.slc yR (List.set z0 (Int.toNat k) [V.str (V.toStr (z1.getD 0 .undef)),.int .u64 (V.toInt (z1.getD 1 .undef)),.int .u64 (V.toInt (z1.getD 2 .undef)),.str (V.toStr (z1.getD 3 .undef)),.slc yI (List.map (ah.enc aj) l)]),.int .u64 (aC.total (dG.a0 s.rises)),.slc yM (List.map (ah.enc ak) (aC.kept (dG.a0 s.rises))),.int .u64 (aC.total (dG.a1 s.rises)),.slc yM (List.map (ah.enc ak) (aC.kept (dG.a1 s.rises))),.int .u64 (aC.total (dG.a2 s.rises)),.slc yM (List.map (ah.enc ak) (aC.kept (dG.a2 s.rises))),.int .u64 (aC.total (dG.a3 s.rises)),.slc yM (List.map (ah.enc ak) (aC.kept (dG.a3 s.rises))),.int .u64 (aC.total (dG.a4 s.rises)),.slc yM (List.map (ah.enc ak) (aC.kept (dG.a4 s.rises))),.int .u64 (aC.total (dG.a5 s.rises)),.slc yM (List.map (ah.enc ak) (aC.kept (dG.a5 s.rises))),.int .u64 (aC.total (dG.a6 s.rises)),.slc yM (List.map (ah.enc ak) (aC.kept (dG.a6 s.rises))),.int .u64 (aC.total (dG.a7 s.rises)),.slc yM (List.map (ah.enc ak) (aC.kept (dG.a7 s.rises))),.int .u64 (aC.total (dG.a8 s.rises)),.slc yM (List.map (ah.enc ak) (aC.kept (dG.a8 s.rises))),.int .u64 (aC.total (dG.a9 s.rises)),.slc yM (List.map (ah.enc ak) (aC.kept (dG.a9 s.rises))),.int .u64 (aC.total (dG.a10 s.rises)),.slc yM (List.map (ah.enc ak) (aC.kept (dG.a10 s.rises))),.int .u64 (aC.total (dG.a11 s.rises)),.slc yM (List.map (ah.enc ak) (aC.kept (dG.a11 s.rises))),.int .u64 (aC.total (dG.a12 s.rises)),.slc yM (List.map (ah.enc ak) (aC.kept (dG.a12 s.rises))),.int .u64 (aC.total (dG.Hu s.rises)),.slc yM (List.map (ah.enc ak) (aC.kept (dG.Hu s.rises))),.int .u64 (aC.total (dG.Hw s.rises)),.slc yM (List.map (ah.enc ak) (aC.kept (dG.Hw s.rises))),.int .u64 (aC.total (dG.Hy s.rises)),.slc yM (List.map (ah.enc ak) (aC.kept (dG.Hy s.rises)))],bx:=[]:aH}) none) none):=by kernel_rfl
  dsimp only at h;exact h):=by kernel_rfl
theorem aj8 {s:aF} {k:Int} (h:ni s k=true):Nat.beq s.rows.length 0=false:=by
 obtain ⟨_,h2,h3⟩:=PE h
 cases hl:s.rows with
 | nil=>rw [hl] at h3; simp at h3; omega
 | cons _ _=>rfl
theorem pX (s:aF) (k:Nat) (hk:k<s.rows.length):(s.rows.map aS.enc).getD k []=aS.enc (s.rows.getD k row0):=by
 simp [List.getD_eq_getElem?_getD,List.getElem?_eq_getElem hk]
theorem zy:bH Tryz.prog 50 FB:=by
 refine aK (aT ((fK.nil _).cons afC)) (E:=aj7) Tryz.func50 [] (by kernel_rfl) none0 fun a _ h=>?_
 obtain ⟨s,k,l⟩:=a
 have h:ni s k=true:=h
 obtain ⟨h1,h2,h3⟩:=PE h
 have h4:=aj8 h
 have hk:k.toNat<s.rows.length:=by omega
 refine (anr s k l).trans ?_
 simp only [bn,List.length_map,h4,cond_false,dN (show s.rows.length<=1000 by omega),decide_eq_true (show 0<=k∧k<(s.rows.length:Int) from ⟨h2,h3⟩),cond_true,pX s _ hk]
 show _=some (⟨.agg (au.enc (N.iH s k l)),[],[]⟩:aH)
 unfold N.iH
 rw [show au.enc (⟨s.next,s.bytes,s.rows.set k.toNat ⟨(s.rows.getD k.toNat row0).q,l⟩,s.rises⟩:aF)=V.int .u64 s.next::V.int .i64 s.bytes::V.slc aS.sh ((s.rows.set k.toNat ⟨(s.rows.getD k.toNat row0).q,l⟩).map aS.enc)::(au.enc s).drop 3 from rfl,List.map_set]
 try rfl
end Go.Ev

namespace Go.Ev
open Go Go.Proofs
set_option maxRecDepth 100000
-- FOLD2
theorem mD {s:aF} {n:Bytes} (h:bU 0 (N.bP s n)=true):0<=N.bP s n∧N.bP s n<s.rows.length∧N.bP s n=(N.bP s n).toNat∧(N.bP s n).toNat<s.rows.length:=by
 have h0:=bQ h
 rcases zu (N.isRow n) s.rows 0 with ⟨h1,_⟩ | ⟨a,x,b,h1,h2,_⟩
 .have:N.bP s n = -1:=h1
  omega
 .have h2:N.bP s n=0+(a.length:Int):=h2
  have h3:s.rows.length=a.length+(b.length+1):=by rw [h1]; simp
  omega
theorem oH {x:Int} (h:aZ x 0=false):bU 0 x=true:=dX (fD h)
def JB:Den:=den (aO (bg au) (aW (bg lT))) dw (nP (aO (bg au) (aW (cu .i64)))) (fun a _=>pW a.1) fun a _=>(N.gy a.1 a.2,())
noncomputable def aj9:Env:=env Tryz.prog [(39,Mc),(40,CW),(41,xJ aS)] [] []
theorem ant (s:aF) (q:dZ):type_of% (by
  have h:bM aj9 11 ((aO (bg au) (aW (bg lT))).enc (s,q)) ([]) some =(
   let z2:=(ah.dec au (ah.enc au s));let z3:=(List.map (ah.enc aS) s.rows);let z0:=(cond (bU 0 (N.bP z2 q.name)) (some {v:=.fE [V.agg (ah.enc au s),.int .i64 9],bx:=[]:aH}) (cond (bU 8 (↑(List.length z3):Int)) (some {v:=.fE [V.agg (ah.enc au s),.int .i64 12],bx:=[]:aH}) (cond (Nat.ble (List.length (List.map (ah.dec aS) z3)+1) 100000) (some {v:=.fE [V.agg (V.int .u64 s.next::V.int .i64 s.bytes::V.slc yR (List.map (ah.enc aS) (N.flat [List.map (ah.dec aS) z3,List.map (ah.dec aS) [[V.str q.name,.int .u64 q.most,.int .u64 q.life,.str q.dead,.jO yI]]]))::eU s.rises),.int .i64 0],bx:=[]:aH}) none)));let z1:=(List.getD z3 (Int.toNat (N.bP z2 q.name)) []);cond (N.jq q != 0) (some {v:=.fE [V.agg (ah.enc au s),.int .i64 (N.jq q)],bx:=[]:aH}) (cond (Nat.ble (List.length (List.map (ah.dec aS) z3)) 100) (cond (bU 0 (N.bP z2 q.name)) (cond (decide (0<=N.bP z2 q.name∧N.bP z2 q.name<(↑(List.length z3):Int))) (cond (V.toStr (z1.getD 0 .undef)==dZ.name q && (V.toInt (z1.getD 1 .undef)==dZ.most q && (V.toInt (z1.getD 2 .undef)==dZ.life q && (V.toStr (z1.getD 3 .undef)==dZ.dead q && true)))) (some {v:=.fE [V.agg (ah.enc au s),.int .i64 0],bx:=[]:aH}) z0) none) z0) none)):=by kernel_rfl
  dsimp only at h;exact h):=by kernel_rfl
theorem Md (a b:dZ):(a.name==b.name && (a.most==b.most && (a.life==b.life && (a.dead==b.dead && true))))=N.YF a b:=by
 unfold N.YF
 cases a.name==b.name<;>cases a.most==b.most<;>cases a.life==b.life<;>cases a.dead==b.dead<;>rfl
theorem PG:bH Tryz.prog 11 JB:=by
 refine aK (aT (((fK.nil _).cons O8).cons Am |>.cons afB)) (E:=aj9) Tryz.func11 [] (by kernel_rfl) none0 fun a _ h=>?_
 obtain ⟨s,q⟩:=a
 have h:s.rows.length<=100:=yG h
 refine (ant s q).trans ?_
 simp only [bn,au.de,List.length_map,dN h,cond_true,dN (show s.rows.length+1<=100000 by omega)]
 show _=some (⟨.fE [.agg (au.enc (N.gy s q).1),.int .i64 (N.gy s q).2],[],[]⟩:aH)
 unfold N.gy
 cases h1:N.jq q != 0 with
 | true=>rfl
 | false =>
  have asB:∀ x:List V,aS.dec x=(⟨q,[]⟩:dW)->(N.flat [s.rows,List.map aS.dec [x]]).map aS.enc=(s.rows++[(⟨q,[]⟩:dW)]).map aS.enc:=fun x hx=>by
   rw [Cj,List.map_cons,List.map_nil,hx]
  cases h2:bU 0 (N.bP s q.name) with
  | true =>
   obtain ⟨g1,g2,g3,g4⟩:=mD h2
   simp only [decide_eq_true (show 0<=N.bP s q.name∧N.bP s q.name<(s.rows.length:Int) from ⟨g1,g2⟩),cond_true,cond_false,pX s _ g4]
   have e:=Md (N.dn s (N.bP s q.name)).q q
   cases h3:N.YF (N.dn s (N.bP s q.name)).q q with
   | true =>
    rw [h3] at e
    show cond ((N.dn s (N.bP s q.name)).q.name==q.name && _) _ _=_
    rw [show (V.toInt (List.getD (ah.enc aS (s.rows.getD (N.bP s q.name).toNat row0)) 1 V.undef)==q.most && (V.toInt (List.getD (ah.enc aS (s.rows.getD (N.bP s q.name).toNat row0)) 2 V.undef)==q.life && (V.toStr (List.getD (ah.enc aS (s.rows.getD (N.bP s q.name).toNat row0)) 3 V.undef)==q.dead && true)))=((N.dn s (N.bP s q.name)).q.most==q.most && ((N.dn s (N.bP s q.name)).q.life==q.life && ((N.dn s (N.bP s q.name)).q.dead==q.dead && true))) from rfl,e]
    try rfl
   | false =>
    rw [h3] at e
    show cond ((N.dn s (N.bP s q.name)).q.name==q.name && _) _ _=_
    rw [show (V.toInt (List.getD (ah.enc aS (s.rows.getD (N.bP s q.name).toNat row0)) 1 V.undef)==q.most && (V.toInt (List.getD (ah.enc aS (s.rows.getD (N.bP s q.name).toNat row0)) 2 V.undef)==q.life && (V.toStr (List.getD (ah.enc aS (s.rows.getD (N.bP s q.name).toNat row0)) 3 V.undef)==q.dead && true)))=((N.dn s (N.bP s q.name)).q.most==q.most && ((N.dn s (N.bP s q.name)).q.life==q.life && ((N.dn s (N.bP s q.name)).q.dead==q.dead && true))) from rfl,e]
    try rfl
  | false =>
   simp only [cond_false]
   cases h3:bU 8 s.rows.length with
   | true=>rfl
   | false =>
    simp only [cond_false]
    rw [asB]
    .rfl
    .rfl
def akb:Den:=den (aO (bg au) (aW fV)) dw (nP (aO (bg au) (aW (cu .i64)))) (fun a _=>pW a.1) fun a _=>(N.vG a.1 a.2,())
noncomputable def akc:Env:=env Tryz.prog [(40,CW),(41,xJ aS)] [] []
theorem anu (s:aF) (n:Bytes):type_of% (by
  have h:bM akc 53 ((aO (bg au) (aW fV)).enc (s,n)) ([]) some =(
   let z0:=(List.map (ah.enc aS) s.rows);let z1:=(ah.dec au (ah.enc au s));let z2:=(List.drop (Int.toNat (IntKind.wrap .i64 (N.bP z1 n+1))) (List.take (List.length z0) z0));cond (Nat.ble (List.length (List.map (ah.dec aS) z0)) 100) (cond (aZ (N.bP z1 n) 0) (some {v:=.fE [V.agg (ah.enc au s),.int .i64 10],bx:=[]:aH}) (cond (decide (0<=N.bP z1 n∧N.bP z1 n<=(↑(List.length z0):Int))) (cond (decide (0<=IntKind.wrap .i64 (N.bP z1 n+1)∧IntKind.wrap .i64 (N.bP z1 n+1)<=(↑(List.length z0):Int))) (cond (Nat.ble (List.length (List.map (ah.dec aS) (List.drop 0 (List.take (Int.toNat (N.bP z1 n)) z0)))+(List.length (List.map (ah.dec aS) z2)+0)) 100000) (some {v:=.fE [V.agg (V.int .u64 s.next::V.int .i64 s.bytes::V.slc yR (List.map (ah.enc aS) (N.flat [List.map (ah.dec aS) (List.drop 0 (List.take (Int.toNat (N.bP z1 n)) z0)),List.map (ah.dec aS) z2]))::eU s.rises),.int .i64 0],bx:=[]:aH}) none) none) none)) none):=by kernel_rfl
  dsimp only at h;exact h):=by kernel_rfl
theorem akd:bH Tryz.prog 53 akb:=by
 refine aK (aT (((fK.nil _).cons O8).cons Am)) (E:=akc) Tryz.func53 [] (by kernel_rfl) none0 fun a _ h=>?_
 obtain ⟨s,n⟩:=a
 have h:s.rows.length<=100:=yG h
 refine (anu s n).trans ?_
 simp only [bn,au.de,List.length_map,dN h,cond_true]
 show _=some (⟨.fE [.agg (au.enc (N.vG s n).1),.int .i64 (N.vG s n).2],[],[]⟩:aH)
 unfold N.vG
 cases h1:aZ (N.bP s n) 0 with
 | true=>rfl
 | false =>
  obtain ⟨g1,g2,g3,g4⟩:=mD (oH h1)
  have w:IntKind.wrap .i64 (N.bP s n+1)=N.bP s n+1:=dY (by omega) (by omega)
  have e1:(s.rows.map aS.enc).take s.rows.length=s.rows.map aS.enc:=List.take_of_length_le (by simp)
  have e2:(N.bP s n+1).toNat=(N.bP s n).toNat+1:=by omega
  simp only [w,decide_eq_true (show 0<=N.bP s n∧N.bP s n<=(s.rows.length:Int) from ⟨g1,by omega⟩),decide_eq_true (show 0<=N.bP s n+1∧N.bP s n+1<=(s.rows.length:Int) from ⟨by omega,by omega⟩),
   List.drop_zero,e1,e2,<- List.map_take,<- List.map_drop,bn,Cj,cond_true,cond_false]
  rw [dN (by rw [List.length_map,List.length_map,List.length_take,List.length_drop]; omega)]
  try rfl
def adK:Den:=den (aO (bg au) (aW fV)) dw (nP (aO (bg lT) (aW iF))) (fun a _=>pW a.1) fun a _=>(N.JA a.1 a.2,())
noncomputable def adL:Env:=env Tryz.prog [(40,CW)] [] []
theorem ake (s:aF) (n:Bytes):bM adL 92 ((aO (bg au) (aW fV)).enc (s,n)) ([]) some =
 cond (Nat.ble (List.length (List.map (ah.dec aS) (List.map (ah.enc aS) s.rows))) 100) (cond (aZ (N.bP (ah.dec au (ah.enc au s)) n) 0) (some {v:=.fE [V.agg [V.str [],.int .u64 0,.int .u64 0,.str []],.bool false],bx:=[]:aH}) (cond (decide (0<=N.bP (ah.dec au (ah.enc au s)) n∧N.bP (ah.dec au (ah.enc au s)) n<(↑(List.length (List.map (ah.enc aS) s.rows)):Int))) (some {v:=.fE [V.agg (aB nT 0 (List.getD (List.map (ah.enc aS) s.rows) (Int.toNat (N.bP (ah.dec au (ah.enc au s)) n)) [])),.bool true],bx:=[]:aH}) none)) none:=by kernel_rfl
theorem afD:bH Tryz.prog 92 adK:=by
 refine aK (aT ((fK.nil _).cons Am)) (E:=adL) Tryz.func92 [] (by kernel_rfl) none0 fun a _ h=>?_
 obtain ⟨s,n⟩:=a
 have h:s.rows.length<=100:=yG h
 refine (ake s n).trans ?_
 simp only [bn,au.de,List.length_map,dN h,cond_true]
 show _=some (⟨.fE [.agg (lT.enc (N.JA s n).1),.bool (N.JA s n).2],[],[]⟩:aH)
 unfold N.JA
 cases h1:aZ (N.bP s n) 0 with
 | true=>rfl
 | false =>
  obtain ⟨g1,g2,g3,g4⟩:=mD (oH h1)
  simp only [decide_eq_true (show 0<=N.bP s n∧N.bP s n<(s.rows.length:Int) from ⟨g1,g2⟩),cond_true,cond_false,pX s _ g4]
  try rfl
def akf:Den:=den (aO (bg au) (aW fV)) dw (oV (bg gu)) (fun a _=>pW a.1) fun a _=>(N.CV a.1 a.2,())
theorem anv (s:aF) (n:Bytes):bM adL 14 ((aO (bg au) (aW fV)).enc (s,n)) ([]) some =
 cond (Nat.ble (List.length (List.map (ah.dec aS) (List.map (ah.enc aS) s.rows))) 100) (cond (aZ (N.bP (ah.dec au (ah.enc au s)) n) 0) (some {v:=.agg [V.slc yI []],bx:=[]:aH}) (cond (decide (0<=N.bP (ah.dec au (ah.enc au s)) n∧N.bP (ah.dec au (ah.enc au s)) n<(↑(List.length (List.map (ah.enc aS) s.rows)):Int))) (some {v:=.agg [V.slc yI (V.toRows (List.getD (List.getD (List.map (ah.enc aS) s.rows) (Int.toNat (N.bP (ah.dec au (ah.enc au s)) n)) []) 4 V.undef))],bx:=[]:aH}) none)) none:=by kernel_rfl
theorem akg:bH Tryz.prog 14 akf:=by
 refine aK (aT ((fK.nil _).cons Am)) (E:=adL) Tryz.func14 [] (by kernel_rfl) none0 fun a _ h=>?_
 obtain ⟨s,n⟩:=a
 have h:s.rows.length<=100:=yG h
 refine (anv s n).trans ?_
 simp only [bn,au.de,List.length_map,dN h,cond_true]
 show _=some (⟨.agg (gu.enc (N.CV s n)),[],[]⟩:aH)
 unfold N.CV
 cases h1:aZ (N.bP s n) 0 with
 | true=>rfl
 | false =>
  obtain ⟨g1,g2,g3,g4⟩:=mD (oH h1)
  simp only [decide_eq_true (show 0<=N.bP s n∧N.bP s n<(s.rows.length:Int) from ⟨g1,g2⟩),cond_true,cond_false,pX s _ g4]
  try rfl
def akh:Den:=den (aW (bg au)) dw (oV (cu .u64)) (fun _ _=>true) fun s _=>(s.next,())
theorem anw (s:aF):bM yF 26 ((aW (bg au)).enc s) ([]) some =
 some {v:=.int .u64 s.next,bx:=[]:aH}:=by kernel_rfl
theorem aki:bH Tryz.prog 26 akh:=aK (aT (fK.nil _)) (E:=yF) Tryz.func26 [] (by kernel_rfl) none0 fun s _ _=>anw s
def akj:Den:=den (aO (bg au) (aW (cu .i64))) dw (oV (bg bD)) (fun _ _=>true) fun a _=>(N.KG a.1 a.2,())
theorem anx (s:aF) (p:Int):bM yF 89 ((aO (bg au) (aW (cu .i64))).enc (s,p)) ([]) some =
 cond (aZ p 0) (some {v:=.agg [V.int .u64 0,.slc yM []],bx:=[]:aH}) (cond (bU 16 p) (some {v:=.agg [V.int .u64 0,.slc yM []],bx:=[]:aH}) (cond (decide (0<=p∧p<(↑(16:Nat):Int))) (some {v:=.agg [V.int .u64 (V.toInt (List.getD (List.getD (iV s.rises) (Int.toNat p) []) 0 V.undef)),.slc yM (V.toRows (List.getD (List.getD (iV s.rises) (Int.toNat p) []) 1 V.undef))],bx:=[]:aH}) none)):=by kernel_rfl
theorem mg (a:dG aC):iV a=a.list.map bD.enc:=rfl
theorem PI (a:dG aC) (k:Nat) (hk:k<16):(iV a).getD k []=bD.enc (a.list.getD k iC):=by
 rw [mg]
 simp [List.getD_eq_getElem?_getD,List.getElem?_eq_getElem (show k<a.list.length from hk)]
theorem akk:bH Tryz.prog 89 akj:=by
 refine aK (aT (fK.nil _)) (E:=yF) Tryz.func89 [] (by kernel_rfl) none0 fun a _ _=>?_
 obtain ⟨s,p⟩:=a
 refine (anx s p).trans ?_
 show _=some (⟨.agg (bD.enc (N.KG s p)),[],[]⟩:aH)
 unfold N.KG
 cases h1:aZ p 0 with
 | true=>rfl
 | false =>
  cases h2:bU 16 p with
  | true=>rfl
  | false =>
   have g1:=fD h1
   have g2:=lW h2
   simp only [cond_false,decide_eq_true (show 0<=p∧p<((16:Nat):Int) from ⟨g1,by omega⟩),cond_true,PI s.rises p.toNat (by omega)]
   try rfl
def YI:Den:=den (aW (bg au)) dw (oV (jY lT)) (fun s _=>pW s) fun s _=>(s.rows.map dW.q,())
end Go.Ev

namespace Go.Ev
open Go Go.Proofs
set_option maxRecDepth 100000
-- FOLD2
theorem jF {α:Type} {f:List V->α} {p:α->Bool} {r:List (List V)} (h:(r.map f).all p=true) {i:Nat} (hi:i<r.length):p (f (r.getD i []))=true :=
 List.all_eq_true.1 h _ (List.mem_map_of_mem (by rw [List.getD_eq_getElem?_getD,List.getElem?_eq_getElem hi]; exact List.getElem_mem hi))
theorem gX (r:List V):List.map aj.dec (V.toRows (List.getD r 4 V.undef))=(aS.dec r).line:=rfl
theorem CX (r:List V):List.map ak.dec (V.toRows (List.getD r 1 V.undef))=(bD.dec r).kept:=rfl
theorem jK {l:List aG} (h:pq l=true):l.length<=300∧l.all dR=true∧(l.all fun x=>N.vC x.aQ)=true:=by
 obtain ⟨h1,h2⟩:=aP h
 obtain ⟨h2,h3⟩:=aP h2
 exact ⟨aX h1,h2,h3⟩
theorem uP:∀ l:List aG,0<=N.fM l∧N.fM l<=1570*l.length
 | []=>⟨Int.le_refl _,Int.le_refl _⟩
 | x::r=>by
  have h1:=lZ x.aQ
  have h2:=uP r
  simp only [N.fM,List.length_cons]
  omega
theorem uQ:∀ l:List dW,l.all jf=true->0<=N.bY l∧N.bY l<=471000*l.length
 | [],_=>⟨Int.le_refl _,Int.le_refl _⟩
 | x::r,h=>by
  rw [List.all_cons,Bool.and_eq_true] at h
  have h1:=uP x.line
  have h2:=uQ r h.2
  have h3:=(jK h.1).1
  simp only [N.bY,List.length_cons]
  omega
theorem zA {x:aC} (h:dQ x=true):x.kept.length<=16:=by
 obtain ⟨_,h2⟩:=aP h
 obtain ⟨h2,_⟩:=aP h2
 exact aX h2
theorem vS:∀ l:List aC,l.all dQ=true->0<=N.dP l∧N.dP l<=25120*l.length
 | [],_=>⟨Int.le_refl _,Int.le_refl _⟩
 | x::r,h=>by
  rw [List.all_cons,Bool.and_eq_true] at h
  have h1:=qW x.kept
  have h2:=vS r h.2
  have h3:=zA h.1
  simp only [N.dP,List.length_cons]
  omega
def abt:fP:={ fr:=[(3,.own 10000),(7,.slc yR),(8,.int .i64),(9,.int .i64)],tab:=[(10000,.sl yQ)] }
def YJ:List Leaf->(Ex->St->Option R)->Option R
 | [.r r7,.i i8,.i i9,.r oW],K=>cond (i8==r7.length) (cond (i9==0) (cond (Nat.ble r7.length 1000) (cond (Nat.beq oW.length 0) (K (.exit 0) { fr:=[(3,.own 10000 0)],tab:=[(10000,.sl yQ ([]++(r7).map (aB nT 0)) 0)] }) none) none) none) none
 | _,_=>none
noncomputable def CY:Env:=env Tryz.prog [] [(3,dJ abt YJ)] [(3,[(0,[3,7,8,9]),(1,[3]),(1000,[2])])]
theorem afE (s:aF):bM CY 22 ((aW (bg au)).enc s) ([]) some =
 cond ((↑(List.length (List.map (ah.enc aS) s.rows)):Int)==(↑(List.length (List.map (ah.enc aS) s.rows)):Int)) (cond (Nat.ble (List.length (List.map (ah.enc aS) s.rows)) 1000) (some {v:=.slc yQ ([]++List.map (aB yQ 0) (List.map (ah.enc aS) s.rows)),bx:=[]:aH}) none) none:=by kernel_rfl
theorem PK (r7:List (List V)) (i8:Int) (i9:Int) (oW:List (List V)) (K:Ex->St->Option R):bI CY 22 3 { fr:=[(3,.own 10000 0),(7,.slc yR r7),(8,.int .i64 i8),(9,.int .i64 i9)],tab:=[(10000,.sl yQ oW 0)] } K =
 cond (aZ i9 i8) (cond (decide (0<=i9∧i9<(↑(List.length r7):Int))) (cond (decide ((List.length oW+1)*48<=140737488355328)) (K .normal {fr:=[(3,.own 10000 0),(7,.slc yR r7),(8,.int .i64 i8),(9,.int .i64 (IntKind.wrap .i64 (i9+1)))],tab:=[(10000,.sl yQ (oW++[aB nT 0 (List.getD r7 (Int.toNat i9) [])]) 0)]:St}) none) none) (K (.exit 0) {fr:=[(3,.own 10000 0)],tab:=[(10000,.sl yQ oW 0)]:St}):=by kernel_rfl
theorem VN:dB CY 22 3:=by
 refine bf rfl fun l K q h=>?_
 unfold YJ at h
 split at h
 .rename_i r7 i8 i9 oW
  replace h:=UG h;obtain ⟨h1,h2,h3,h4,h⟩:=h
  have e1:=aY h1
  have e2:=aY h2
  subst e1 e2
  have h3:r7.length<=1000:=aX h3
  have e3:=List.eq_nil_of_length_eq_zero (jk h4)
  subst e3
  have main:=dh (E:=CY) (f:=22) (id:=3) (A:=List (List V)) (r7) (fun a i=>{ fr:=[(3,.own 10000 0),(7,.slc yR r7),(8,.int .i64 r7.length),(9,.int .i64 i)],tab:=[(10000,.sl yQ a 0)] }) (fun a i=>a.length<=i)
   (fun a rows K=>K (.exit 0) { fr:=[(3,.own 10000 0)],tab:=[(10000,.sl yQ (a++(rows).map (aB nT 0)) 0)] }) (fun a i ha hi=>?_) (fun a ha=>?_) ([]) 0 (Int.le_refl _) (by omega) (Nat.zero_le _) K q (by assumption)
  .exact main
  .have hq:=fun K=>PK (r7) (r7.length) ((i:Int)) (a) K
   have t1:aZ (i:Int) r7.length=true:=dK (by omega)
   have t2:decide ((0:Int)<=i∧(i:Int)<r7.length)=true:=decide_eq_true (by omega)
   have t3:IntKind.wrap .i64 ((i:Int)+1)=(i:Int)+1:=dY (by omega) (by omega)
   simp only [Int.toNat_natCast] at hq
   simp only [t1,t2,t3,cond_true] at hq
   refine .inl ⟨a++[aB nT 0 (r7.getD i [])],by rw [List.length_append]; simp only [List.length_cons,List.length_nil]; omega,fun K=>?_,fun K=>?_⟩
   .rw [hq]
    have t5:decide ((a.length+1)*48<=140737488355328)=true:=decide_eq_true (by omega)
    simp only [cond_true,t5]
    try rfl
   .simp only [List.map_cons,List.append_assoc,List.singleton_append]
  .refine ⟨.exit 0,_,by simp,fun K=>?_,fun K=>by simp only [List.map_nil,List.append_nil]; rfl⟩
   rw [PK]
   simp (disch:=omega) only [evs]
   try rfl
 .cases h
theorem abu:bH Tryz.prog 22 YI:=by
 refine aK (aT (fK.nil _)) (E:=CY) Tryz.func22 [3] (by kernel_rfl) (one1 VN) fun a b hp=>?_
 have hp:a.rows.length<=100:=yG hp
 refine (afE a).trans ?_
 simp only [List.length_map,dN (show a.rows.length<=1000 by omega),beq_self_eq_true,cond_true,List.nil_append]
 show _=some (⟨.slc lT.sh ((a.rows.map dW.q).map lT.enc),[],[]⟩:aH)
 rw [List.map_map,List.map_map]
 try rfl
def jG (s:aF):Bool:=cond (eY s) (Tj s) false
def PL:Den:=den (aW (bg au)) dw (oV (cu .i64)) (fun s _=>jG s) fun s _=>(N.jv s,())
def afF:fP:={ fr:=[(1,.ptr 10000 0 0),(3,.int .i64),(9,.slc yR),(10,.int .i64),(11,.int .i64)],tab:=[(10000,.row [] aA)] }
def adM:List Leaf->(Ex->St->Option R)->Option R
 | [.i i3,.r r9,.i i10,.i i11,.c cZ],K=>cond (i10==r9.length) (cond (i11==0) (cond (Nat.ble r9.length 100) (cond (i3==0) (cond ((r9.map aS.dec).all jf) (K (.exit 0) { fr:=[(1,.ptr 10000 0 0 0),(3,.int .i64 (0+N.bY ((r9).map aS.dec)))],tab:=[(10000,.var (aB aA 0 cZ))] }) none) none) none) none) none
 | _,_=>none
def afG:fP:={ fr:=[(3,.int .i64),(22,.rowA jD),(23,.int .i64)],tab:=[] }
def adN:List Leaf->(Ex->St->Option R)->Option R
 | [.i i3,.c AV,.i i23],K=>cond (i23==0) (cond (bU 0 i3) (cond (bU i3 100000000) (cond (((bF AV 0).map bD.dec).all lY) (K (.exit 2) { fr:=[(3,.int .i64 (i3+N.dP (((bF AV 0)).map bD.dec)))],tab:=[] }) none) none) none) none
 | _,_=>none
noncomputable def CZ:Env:=env Tryz.prog [(65,adE),(66,Ju)] [(8,dJ afG adN),(3,dJ afF adM)] [(3,[(0,[1,3,9,10,11]),(1,[1,3]),(1000,[2])]),(8,[(0,[3,22,23]),(3,[3]),(1000,[2])])]
theorem anz (s:aF):bM CZ 21 ((aW (bg au)).enc s) ([]) some =
 cond ((↑(List.length (List.map (ah.enc aS) s.rows)):Int)==(↑(List.length (List.map (ah.enc aS) s.rows)):Int)) (cond (Nat.ble (List.length (List.map (ah.enc aS) s.rows)) 100) (cond (List.all (List.map (ah.dec aS) (List.map (ah.enc aS) s.rows)) jf) (cond (bU 0 (0+N.bY (List.map (ah.dec aS) (List.map (ah.enc aS) s.rows)))) (cond (bU (0+N.bY (List.map (ah.dec aS) (List.map (ah.enc aS) s.rows))) 100000000) (cond (List.all (List.map (ah.dec bD) (iV s.rises)) lY) (some {v:=.int .i64 (0+N.bY (List.map (ah.dec aS) (List.map (ah.enc aS) s.rows))+N.dP (List.map (ah.dec bD) (iV s.rises))),bx:=[]:aH}) none) none) none) none) none) none:=by kernel_rfl
theorem Tn (i3:Int) (r9:List (List V)) (i10:Int) (i11:Int) (cZ:List V) (K:Ex->St->Option R):bI CZ 21 3 { fr:=[(1,.ptr 10000 0 0 0),(3,.int .i64 i3),(9,.slc yR r9),(10,.int .i64 i10),(11,.int .i64 i11)],tab:=[(10000,.var (aB aA 0 cZ))] } K =
 cond (aZ i11 i10) (cond (decide (0<=i11∧i11<(↑(List.length r9):Int))) (cond (bif Nat.ble (List.length (List.map (ah.dec aj) (V.toRows (List.getD (List.getD r9 (Int.toNat i11) []) 4 V.undef)))) 1000 then List.all (List.map (ah.dec aj) (V.toRows (List.getD (List.getD r9 (Int.toNat i11) []) 4 V.undef))) fun x=>N.vC x.aQ else false) (K .normal {fr:=[(1,.ptr 10000 0 0 0),(3,.int .i64 (IntKind.wrap .i64 (i3+N.fM (List.map (ah.dec aj) (V.toRows (List.getD (List.getD r9 (Int.toNat i11) []) 4 V.undef)))))),(9,.slc yR r9),(10,.int .i64 i10),(11,.int .i64 (IntKind.wrap .i64 (i11+1)))],tab:=[(10000,.var (aB aA 0 cZ))]:St}) none) none) (K (.exit 0) {fr:=[(1,.ptr 10000 0 0 0),(3,.int .i64 i3)],tab:=[(10000,.var (aB aA 0 cZ))]:St}):=by kernel_rfl
theorem Tq (i3:Int) (AV:List V) (i23:Int) (K:Ex->St->Option R):bI CZ 21 8 { fr:=[(3,.int .i64 i3),(22,.agg (aB jD 0 AV)),(23,.int .i64 i23)],tab:=[] } K =
 cond (aZ i23 16) (cond (decide (0<=i23∧i23<(↑(16:Nat):Int))) (cond (lY (ah.dec bD (List.getD (bF AV 0) (Int.toNat i23) []))) (K .normal {fr:=[(3,.int .i64 (IntKind.wrap .i64 (i3+N.bZ (List.map (ah.dec ak) (V.toRows (List.getD (List.getD (bF AV 0) (Int.toNat i23) []) 1 V.undef)))))),(22,.agg (aB jD 0 AV)),(23,.int .i64 (IntKind.wrap .i64 (i23+1)))],tab:=[]:St}) none) none) (K (.exit 2) {fr:=[(3,.int .i64 i3)],tab:=[]:St}):=by kernel_rfl
theorem abv:dB CZ 21 3:=by
 refine bf rfl fun l K q h=>?_
 unfold adM at h
 split at h
 .rename_i i3 r9 i10 i11 cZ
  replace h:=Ed h;obtain ⟨h1,h2,h3,h4,h5,h⟩:=h
  have e1:=aY h1
  have e2:=aY h2
  subst e1 e2
  have h3:r9.length<=100:=aX h3
  have e3:=aY h4
  subst e3
  have main:=dh (E:=CZ) (f:=21) (id:=3) (A:=Int) (r9) (fun a i=>{ fr:=[(1,.ptr 10000 0 0 0),(3,.int .i64 a),(9,.slc yR r9),(10,.int .i64 r9.length),(11,.int .i64 i)],tab:=[(10000,.var (aB aA 0 cZ))] }) (fun a i=>0<=a∧a<=471000*i)
   (fun a rows K=>K (.exit 0) { fr:=[(1,.ptr 10000 0 0 0),(3,.int .i64 (a+N.bY ((rows).map aS.dec)))],tab:=[(10000,.var (aB aA 0 cZ))] }) (fun a i ha hi=>?_) (fun a ha=>?_) (0) 0 (Int.le_refl _) (by omega) ⟨Int.le_refl _,by decide⟩ K q (by assumption)
  .exact main
  .have hq:=fun K=>Tn (a) (r9) (r9.length) ((i:Int)) (cZ) K
   have t1:aZ (i:Int) r9.length=true:=dK (by omega)
   have t2:decide ((0:Int)<=i∧(i:Int)<r9.length)=true:=decide_eq_true (by omega)
   have t3:IntKind.wrap .i64 ((i:Int)+1)=(i:Int)+1:=dY (by omega) (by omega)
   have hr:pq (aS.dec (r9.getD i [])).line=true:=jF h5 hi
   obtain ⟨hr1,_,hr3⟩:=jK hr
   have hb:=uP (aS.dec (r9.getD i [])).line
   have hb2:1570*((aS.dec (r9.getD i [])).line.length:Int)<=471000:=by omega
   simp only [Int.toNat_natCast,gX] at hq
   simp only [t1,t2,t3,cond_true] at hq
   refine .inl ⟨a+N.fM (aS.dec (r9.getD i [])).line,⟨by omega,by omega⟩,fun K=>?_,fun K=>?_⟩
   .rw [hq,dN (show (aS.dec (r9.getD i [])).line.length<=1000 by omega),hr3,dY (n:=a+_) (by omega) (by omega)]
    try rfl
   .show K _ { fr:=[(1,.ptr 10000 0 0 0),(3,.int .i64 (a+(N.fM (aS.dec (r9.getD i [])).line+N.bY ((r9.drop (i+1)).map aS.dec))))],tab:=_ }=_
    rw [Int.add_assoc]
  .refine ⟨.exit 0,_,by simp,fun K=>?_,fun K=>rfl⟩
   rw [Tn]
   simp (disch:=omega) only [evs,List.map_nil]
   show _=K _ { fr:=[(1,.ptr 10000 0 0 0),(3,.int .i64 (a+0))],tab:=_ }
   rw [Int.add_zero]
   try rfl
 .cases h
theorem abw:dB CZ 21 8:=by
 refine bf rfl fun l K q h=>?_
 unfold adN at h
 split at h
 .rename_i i3 AV i23
  replace h:=UG h;obtain ⟨h2,h4,h5,h6,h⟩:=h
  have e2:=aY h2
  subst e2
  have main:=dh (E:=CZ) (f:=21) (id:=8) (A:=Int) ((bF AV 0)) (fun a i=>{ fr:=[(3,.int .i64 a),(22,.agg (aB jD 0 AV)),(23,.int .i64 i)],tab:=[] }) (fun a i=>0<=a∧a<=100000000+25120*i)
   (fun a rows K=>K (.exit 2) { fr:=[(3,.int .i64 (a+N.dP ((rows).map bD.dec)))],tab:=[] }) (fun a i ha hi=>?_) (fun a ha=>?_) (i3) 0 (Int.le_refl _) (by omega) ⟨bQ h4,by have:=bQ h5; omega⟩ K q (by assumption)
  .exact main
  .have hq:=fun K=>Tq (a) (AV) ((i:Int)) K
   have hi:i<16:=hi
   have t1:aZ (i:Int) (16:Int)=true:=dK (by omega)
   have t2:decide ((0:Int)<=i∧(i:Int)<((16:Nat):Int))=true:=decide_eq_true (by omega)
   have t3:IntKind.wrap .i64 ((i:Int)+1)=(i:Int)+1:=dY (by omega) (by omega)
   have hr:lY (bD.dec ((bF AV 0).getD i []))=true:=jF h6 hi
   have hr2:=zA (aP hr).1
   have hb:=qW (bD.dec ((bF AV 0).getD i [])).kept
   simp only [Int.toNat_natCast,CX] at hq
   simp only [t1,t2,t3,cond_true] at hq
   refine .inl ⟨a+N.bZ (bD.dec ((bF AV 0).getD i [])).kept,⟨by omega,by omega⟩,fun K=>?_,fun K=>?_⟩
   .rw [hq]
    show cond (lY (bD.dec ((bF AV 0).getD i []))) _ _=_
    rw [hr,dY (n:=a+_) (by omega) (by omega)]
    try rfl
   .show K _ { fr:=[(3,.int .i64 (a+(N.bZ (bD.dec ((bF AV 0).getD i [])).kept+N.dP (((bF AV 0).drop (i+1)).map bD.dec))))],tab:=[] }=_
    rw [Int.add_assoc]
  .refine ⟨.exit 2,{ fr:=[(3,.int .i64 a)],tab:=[] },by simp,fun K=>Tq a AV 16 K,fun K=>?_⟩
   show K _ { fr:=[(3,.int .i64 (a+0))],tab:=[] }=_
   rw [Int.add_zero]
 .cases h
theorem Ie (hN:bH Tryz.prog 95 fZ):bH Tryz.prog 21 PL:=by
 refine aK (aT (((fK.nil _).cons (Ky hN)).cons (afA hN))) (E:=CZ) Tryz.func21 [3,8] (by kernel_rfl) (Lp abv abw) fun a b hp=>?_
 obtain ⟨hp,h3⟩:=aP hp
 obtain ⟨h1,h2⟩:=aP hp
 have h3:a.rises.list.all lY=true:=h3
 have h4:=uQ a.rows h2
 have h5:=aX h1
 refine (anz a).trans ?_
 simp only [bn,mg,List.length_map,Int.zero_add,beq_self_eq_true,cond_true,h1,h2,h3,dX h4.1,dX (show N.bY a.rows<=100000000 by omega)]
 try rfl
theorem Ig {s:aF} (h:jG s=true):0<=N.jv s∧N.jv s<=60000000:=by
 obtain ⟨hp,h3⟩:=aP h
 obtain ⟨h1,h2⟩:=aP hp
 have h4:=uQ s.rows h2
 have h5:=aX h1
 have h6:=vS s.rises.list (List.all_eq_true.2 fun x hx=>(aP (List.all_eq_true.1 h3 x hx)).1)
 rw [dG.jE] at h6
 unfold N.jv
 omega
def vH (s:aF):Bool:=cond (jG s) (cond (bU 0 s.bytes) (bU s.bytes 9223372036854775807) false) false
theorem C9 {s:aF} (h:vH s=true):jG s=true∧0<=s.bytes∧s.bytes<=9223372036854775807:=by
 obtain ⟨h1,h2⟩:=aP h
 obtain ⟨h2,h3⟩:=aP h2
 exact ⟨h1,bQ h2,bQ h3⟩
def VO:Den:=den (aW (bg au)) dw (oV (cu .i64)) (fun s _=>vH s) fun s _=>(N.l9 s,())
noncomputable def akl:Env:=env Tryz.prog [(21,PL)] [] []
theorem anA (s:aF):bM akl 20 ((aW (bg au)).enc s) ([]) some =
 cond (jG (ah.dec au (ah.enc au s))) (some {v:=.int .i64 (IntKind.wrap .i64 (aF.bytes s-N.jv (ah.dec au (ah.enc au s)))),bx:=[]:aH}) none:=by kernel_rfl
theorem PN (hN:bH Tryz.prog 95 fZ):bH Tryz.prog 20 VO:=by
 refine aK (aT ((fK.nil _).cons (Ie hN))) (E:=akl) Tryz.func20 [] (by kernel_rfl) none0 fun s _ hp=>?_
 obtain ⟨h1,h2,h3⟩:=C9 hp
 have h4:=Ig h1
 refine (anA s).trans ?_
 simp only [au.de,h1,cond_true]
 rw [dY (by omega) (by omega)]
 try rfl
end Go.Ev

namespace Go.Ev
open Go Go.Proofs
set_option maxRecDepth 100000
-- FOLD2
theorem getD_mem {α:Type} {l:List α} {k:Nat} (d:α) (h:k<l.length):l.getD k d∈l:=by
 rw [List.getD_eq_getElem?_getD,List.getElem?_eq_getElem h]; exact List.getElem_mem h
theorem qZ {s:aF} (h:s.rows.all jf=true) {k:Nat} (hk:k<s.rows.length):pq (s.rows.getD k row0).line=true:=List.all_eq_true.1 h _ (getD_mem row0 hk)
theorem pz {l:List aG} (h:pq l=true):ig l=true:=by
 obtain ⟨h1,h2,_⟩:=jK h
 unfold ig
 rw [dN (show l.length<=1000 by omega),h2]; rfl
theorem uo {s:aF} {k:Int} (h:s.rows.length<=100) (h1:0<=k) (h2:k<s.rows.length):ni s k=true:=by
 unfold ni pW
 rw [dN h,dX h1,dK h2]; rfl
theorem PO {k:Int} {n:Nat} (h1:0<=k) (h2:k<n):decide (0<=k∧k<(n:Int))=true:=decide_eq_true ⟨h1,h2⟩
theorem YK (b:Bool) (x y:aC):cond b (aC.total x) (aC.total y)=aC.total (cond b x y):=by cases b<;>rfl
theorem Tt (b:Bool) (x y:aC):cond b (List.map (ah.enc ak) (aC.kept x)) (List.map (ah.enc ak) (aC.kept y))=List.map (ah.enc ak) (aC.kept (cond b x y)):=by cases b<;>rfl
theorem setCells_eq (a:dG aC) (i:Nat) (v:aC):setCells a i v=eU (a.set i v):=by
 unfold setCells eU dG.set
 simp only [YK,Tt]
 try rfl
theorem anB (a:dG aC) (i:Nat) (v:aC):am4 a i v=a.set i v:=by
 unfold am4 dG.set
 simp only [Tt,YK,bn]
theorem adO {x:aC} (h:lY x=true) {m:ay} (hm:N.vC m=true) (hs:dA m=true):lY (N.dH x m).1=true:=by
 unfold N.dH
 cases N.aV m != 0 with
 | true=>exact h
 | false =>
  cases ht:x.total==18446744073709551615 with
  | true=>exact h
  | false =>
   have ht:x.total ≠ 18446744073709551615:=fun e=>by rw [e] at ht; cases ht
   obtain ⟨h1,h2⟩:=aP h
   obtain ⟨h3,h4⟩:=aP h1
   obtain ⟨h3,h5⟩:=aP h3
   obtain ⟨h4,h6⟩:=aP h4
   have h3:=bQ h3
   have h5:=bQ h5
   have h4:=aX h4
   have a1:∀ p:ay->Bool,x.kept.all p=true->p m=true->((x.kept++[m]).drop (x.kept.length+1-16)).all p=true:=fun p hp hq =>
    List.all_eq_true.2 fun y hy=>by
     rcases List.mem_append.1 (List.mem_of_mem_drop hy) with hy | hy
     .exact List.all_eq_true.1 hp y hy
     .rw [List.mem_singleton.1 hy]; exact hq
   simp only [cond_false]
   unfold lY dQ
   simp only
   rw [a1 dA h6 hs,a1 N.vC h2 hm,dX (show 0<=x.total+1 by omega),dX (show x.total+1<=18446744073709551615 by omega),dN (by rw [List.length_drop,List.length_append]; simp only [List.length_cons,List.length_nil]; omega)]
   try rfl
theorem JC (l:List aG):(N.fF l).1=gJ∨∃ x∈l,(N.fF l).1=x.aQ:=by
 unfold N.fF N.lS
 rcases nS N.isReady l 0 (Int.le_refl _) with ⟨h1,_⟩ | ⟨k,h1,h2,_⟩
 .rw [h1]; exact .inl rfl
 .rw [h1,iG (by omega)]
  exact .inr ⟨_,getD_mem fA (show (0+(k:Int)).toNat<l.length by omega),rfl⟩
theorem akm {l:List aG} (h:(l.all fun x=>N.vC x.aQ)=true):N.vC (N.fF l).1=true:=by
 rcases JC l with e | ⟨x,hx,e⟩
 .rw [e]; rfl
 .rw [e]; exact List.all_eq_true.1 h x hx
theorem Ih:∀ {l:List aG} {x:aG},x∈l->N.bJ x.aQ<=N.fM l
 | y::r,x,h=>by
  have h1:=uP r
  have h2:=lZ y.aQ
  simp only [N.fM]
  rcases List.mem_cons.1 h with rfl | h
  .omega
  .have:=Ih h
   omega
theorem Ii:∀ {l:List dW} {x:dW},x∈l->N.fM x.line<=N.bY l
 | y::r,x,h=>by
  have h0:∀ l:List dW,0<=N.bY l:=fun l=>by
   induction l with
   | nil=>exact Int.le_refl _
   | cons z t ih=>have:=uP z.line; simp only [N.bY]; omega
  have h1:=h0 r
  have h2:=uP y.line
  simp only [N.bY]
  rcases List.mem_cons.1 h with rfl | h
  .omega
  .have:=Ii h
   omega
theorem akn {s:aF} {k:Nat} (hk:k<s.rows.length) (hg:jG s=true):N.bJ (N.fF (s.rows.getD k row0).line).1<=N.jv s:=by
 obtain ⟨hp,h3⟩:=aP hg
 have h6:=vS s.rises.list (List.all_eq_true.2 fun x hx=>(aP (List.all_eq_true.1 h3 x hx)).1)
 have h7:=(Ig hg).1
 rcases JC (s.rows.getD k row0).line with e | ⟨x,hx,e⟩
 .rw [e]; exact h7
 .rw [e]
  have h1:=Ih hx
  have h2:=Ii (getD_mem row0 hk)
  unfold N.jv
  omega
theorem FC (l:List aG) (id:Int):(N.eP l id).1.length<=l.length:=by
 unfold N.eP
 cases aZ (N.ix (N.isId id) l 0) 0 with
 | true=>exact Nat.le_refl _
 | false =>
  show (N.cutAt l _).length<=_
  unfold N.cutAt
  rw [List.length_append,List.length_take,List.length_drop]
  omega
theorem adP {m:ay} {n:Int} (h:N.vC m=true) (h1:0<=n) (h2:n<18446744073709551616):N.vC (N.kL m n)=true:=by
 unfold N.vC at h ⊢
 obtain ⟨_,h⟩:=aP h
 show cond (cond (bU 0 n) (aZ n _) false) _ false=true
 rw [dX h1,dK h2]; exact h
def VP:Den:=den (aO (bg au) (aW fV)) dw (nP (aO (bg au) (aO (bg aj) (aW iF)))) (fun a _=>eY a.1) fun a _=>(N.mZ a.1 a.2,())
noncomputable def ako:Env:=env Tryz.prog [(40,CW),(51,aa9),(50,FB)] [] []
theorem anC (s:aF) (n:Bytes):type_of% (by
  have h:bM ako 16 ((aO (bg au) (aW fV)).enc (s,n)) ([]) some =(
   let z2:=(List.map (ah.enc aS) s.rows);let z1:=(ah.dec au (ah.enc au s));let z0:=(List.map (ah.dec aj) (V.toRows (List.getD (List.getD z2 (Int.toNat (N.bP z1 n)) []) 4 V.undef)));cond (Nat.ble (List.length (List.map (ah.dec aS) z2)) 100) (cond (aZ (N.bP z1 n) 0) (some {v:=.fE [V.agg (ah.enc au s),.agg [V.int .u64 0,.str [],.str [],.slc yP [],.str [],.int .u64 0,.int .u8 0,.bool false,.bool false],.bool false],bx:=[]:aH}) (cond (decide (0<=N.bP z1 n∧N.bP z1 n<(↑(List.length z2):Int))) (cond (ig z0) (cond (ni z1 (N.bP z1 n)) (some {v:=.fE [V.agg (ah.enc au (N.iH z1 (N.bP z1 n) (List.map (ah.dec aj) (List.map (ah.enc aj) (Prod.fst (N.o7 z0)))))),.agg (ah.enc aj (Prod.fst (Prod.snd (N.o7 z0)))),.bool (Prod.snd (Prod.snd (N.o7 z0)))],bx:=[]:aH}) none) none) none)) none):=by kernel_rfl
  dsimp only at h;exact h):=by kernel_rfl
theorem akp:bH Tryz.prog 16 VP:=by
 refine aK (aT ((((fK.nil _).cons zy).cons Yi).cons Am)) (E:=ako) Tryz.func16 [] (by kernel_rfl) (none0) fun a b hp=>?_
 obtain ⟨s,n⟩:=a
 obtain ⟨hp,hr⟩:=aP (show eY s=true from hp)
 have hp':=aX hp
 refine (anC s n).trans ?_
 simp only [gX,bn,au.de,List.length_map,hp,cond_true]
 show _=some (⟨.fE [.agg (au.enc (N.mZ s n).1),.agg (aj.enc (N.mZ s n).2.1),.bool (N.mZ s n).2.2],[],[]⟩:aH)
 unfold N.mZ
 cases h1:aZ (N.bP s n) 0 with
 | true=>rfl
 | false =>
  obtain ⟨g1,g2,g3,g4⟩:=mD (oH h1)
  have hl:=qZ hr g4
  simp only [PO g1 g2,pX s _ g4,aS.de,pz hl,uo hp' g1 g2,cond_true,cond_false]
  try rfl
def VQ:Den:=den (aO (bg au) (aO fV (aW (cu .u64)))) dw (nP (aO (bg au) (aW (cu .i64)))) (fun a _=>eY a.1) fun a _=>(N.qE a.1 a.2.1 a.2.2,())
noncomputable def akq:Env:=env Tryz.prog [(40,CW),(71,abb),(50,FB)] [] []
theorem anD (s:aF) (n:Bytes) (id:Int):bM akq 24 ((aO (bg au) (aO fV (aW (cu .u64)))).enc (s,n,id)) ([]) some =
 cond (Nat.ble (List.length (List.map (ah.dec aS) (List.map (ah.enc aS) s.rows))) 100) (cond (aZ (N.bP (ah.dec au (ah.enc au s)) n) 0) (some {v:=.fE [V.agg (ah.enc au s),.int .i64 10],bx:=[]:aH}) (cond (decide (0<=N.bP (ah.dec au (ah.enc au s)) n∧N.bP (ah.dec au (ah.enc au s)) n<(↑(List.length (List.map (ah.enc aS) s.rows)):Int))) (cond (ig (List.map (ah.dec aj) (V.toRows (List.getD (List.getD (List.map (ah.enc aS) s.rows) (Int.toNat (N.bP (ah.dec au (ah.enc au s)) n)) []) 4 V.undef)))) (cond (ni (ah.dec au (ah.enc au s)) (N.bP (ah.dec au (ah.enc au s)) n)) (some {v:=.fE [V.agg (ah.enc au (N.iH (ah.dec au (ah.enc au s)) (N.bP (ah.dec au (ah.enc au s)) n) (List.map (ah.dec aj) (List.map (ah.enc aj) (Prod.fst (N.uO (List.map (ah.dec aj) (V.toRows (List.getD (List.getD (List.map (ah.enc aS) s.rows) (Int.toNat (N.bP (ah.dec au (ah.enc au s)) n)) []) 4 V.undef))) id)))))),.int .i64 (Prod.snd (N.uO (List.map (ah.dec aj) (V.toRows (List.getD (List.getD (List.map (ah.enc aS) s.rows) (Int.toNat (N.bP (ah.dec au (ah.enc au s)) n)) []) 4 V.undef))) id))],bx:=[]:aH}) none) none) none)) none:=by kernel_rfl
theorem akr:bH Tryz.prog 24 VQ:=by
 refine aK (aT ((((fK.nil _).cons zy).cons Yj).cons Am)) (E:=akq) Tryz.func24 [] (by kernel_rfl) (none0) fun a b hp=>?_
 obtain ⟨s,n,id⟩:=a
 obtain ⟨hp,hr⟩:=aP (show eY s=true from hp)
 have hp':=aX hp
 refine (anD s n id).trans ?_
 simp only [gX,bn,au.de,List.length_map,hp,cond_true]
 show _=some (⟨.fE [.agg (au.enc (N.qE s n id).1),.int .i64 (N.qE s n id).2],[],[]⟩:aH)
 unfold N.qE
 cases h1:aZ (N.bP s n) 0 with
 | true=>rfl
 | false =>
  obtain ⟨g1,g2,g3,g4⟩:=mD (oH h1)
  have hl:=qZ hr g4
  simp only [PO g1 g2,pX s _ g4,aS.de,pz hl,uo hp' g1 g2,cond_true,cond_false]
  try rfl
def Ij:Den:=den (aO (bg au) (aO fV (aW (cu .u64)))) dw (nP (aO (bg au) (aO (bg aj) (aW (cu .i64))))) (fun a _=>eY a.1) fun a _=>(N.iY a.1 a.2.1 a.2.2,())
noncomputable def YL:Env:=env Tryz.prog [(40,CW),(47,O1),(50,FB)] [] []
theorem afH (s:aF) (n:Bytes) (id:Int):type_of% (by
  have h:bM YL 58 ((aO (bg au) (aO fV (aW (cu .u64)))).enc (s,n,id)) ([]) some =(
   let z2:=(List.map (ah.enc aS) s.rows);let z1:=(ah.dec au (ah.enc au s));let z0:=(List.map (ah.dec aj) (V.toRows (List.getD (List.getD z2 (Int.toNat (N.bP z1 n)) []) 4 V.undef)));cond (Nat.ble (List.length (List.map (ah.dec aS) z2)) 100) (cond (aZ (N.bP z1 n) 0) (some {v:=.fE [V.agg (ah.enc au s),.agg [V.int .u64 0,.str [],.str [],.slc yP [],.str [],.int .u64 0,.int .u8 0,.bool false,.bool false],.int .i64 10],bx:=[]:aH}) (cond (decide (0<=N.bP z1 n∧N.bP z1 n<(↑(List.length z2):Int))) (cond (ig z0) (cond (ni z1 (N.bP z1 n)) (some {v:=.fE [V.agg (ah.enc au (N.iH z1 (N.bP z1 n) (List.map (ah.dec aj) (List.map (ah.enc aj) (Prod.fst (N.eP z0 id)))))),.agg (ah.enc aj (Prod.fst (Prod.snd (N.eP z0 id)))),.int .i64 (Prod.snd (Prod.snd (N.eP z0 id)))],bx:=[]:aH}) none) none) none)) none):=by kernel_rfl
  dsimp only at h;exact h):=by kernel_rfl
theorem abx:bH Tryz.prog 58 Ij:=by
 refine aK (aT ((((fK.nil _).cons zy).cons O6).cons Am)) (E:=YL) Tryz.func58 [] (by kernel_rfl) (none0) fun a b hp=>?_
 obtain ⟨s,n,id⟩:=a
 obtain ⟨hp,hr⟩:=aP (show eY s=true from hp)
 have hp':=aX hp
 refine (afH s n id).trans ?_
 simp only [gX,bn,au.de,List.length_map,hp,cond_true]
 show _=some (⟨.fE [.agg (au.enc (N.iY s n id).1),.agg (aj.enc (N.iY s n id).2.1),.int .i64 (N.iY s n id).2.2],[],[]⟩:aH)
 unfold N.iY
 cases h1:aZ (N.bP s n) 0 with
 | true=>rfl
 | false =>
  obtain ⟨g1,g2,g3,g4⟩:=mD (oH h1)
  have hl:=qZ hr g4
  simp only [PO g1 g2,pX s _ g4,aS.de,pz hl,uo hp' g1 g2,cond_true,cond_false]
  try rfl
def adQ:Den:=den (aO (bg au) (aO (cu .i64) (aW (bg ak)))) dw (nP (aO (bg au) (aW (cu .i64)))) (fun a _=>cond (vH a.1) (cond (N.vC a.2.2) (dA a.2.2) false) false) fun a _=>(N.qo a.1 a.2.1 a.2.2,())
noncomputable def adR:Env:=env Tryz.prog [(136,Ci),(21,PL),(66,Ju)] [] []
theorem aks (s:aF) (p:Int) (m:ay):type_of% (by
  have h:bM adR 60 ((aO (bg au) (aO (cu .i64) (aW (bg ak)))).enc (s,p,m)) ([]) some =(
   let z1:=(List.getD (iV s.rises) (Int.toNat p) []);let z0:=(N.dH (ah.dec bD z1) (ah.dec ak (ah.enc ak m)));let z2:=(decide (0<=p∧p<(↑(16:Nat):Int)));let z3:=(some {v:=.fE [V.agg (ah.enc au s),.int .i64 7],bx:=[]:aH});cond (aZ p 0) z3 (cond (bU 16 p) z3 (cond z2 (cond (bif dQ (ah.dec bD z1) then dA (ah.dec ak (ah.enc ak m)) else false) (cond (Prod.snd z0 != 0) (some {v:=.fE [V.agg (ah.enc au s),.int .i64 z0.2],bx:=[]:aH}) (cond z2 (cond (jG (ah.dec au (ah.enc au s))) (cond (lY (ah.dec bD z1)) (cond (lY (ah.dec bD (ah.enc bD z0.1))) (cond (aZ s.bytes (IntKind.wrap .i64 (IntKind.wrap .i64 (N.jv (ah.dec au (ah.enc au s))-N.bZ (List.map (ah.dec ak) (V.toRows (z1.getD 1 .undef))))+N.bZ (List.map (ah.dec ak) (List.map (ah.enc ak) (aC.kept z0.1)))))) (some {v:=.fE [V.agg (ah.enc au s),.int .i64 12],bx:=[]:aH}) (cond z2 (some {v:=.fE [V.agg (V.int .u64 s.next::V.int .i64 s.bytes::V.slc yR (List.map (ah.enc aS) s.rows)::setCells s.rises (Int.toNat p) z0.1),.int .i64 0],bx:=[]:aH}) none)) none) none) none) none)) none) none))):=by kernel_rfl
  dsimp only at h;exact h):=by kernel_rfl
theorem afI (hN:bH Tryz.prog 95 fZ):bH Tryz.prog 60 adQ:=by
 refine aK (aT ((((fK.nil _).cons (Ky hN)).cons (Ie hN)).cons OB)) (E:=adR) Tryz.func60 [] (by kernel_rfl) (none0) fun a b hp=>?_
 obtain ⟨s,p,m⟩:=a
 obtain ⟨hg,hm⟩:=aP (show cond (vH s) (cond (N.vC m) (dA m) false) false=true from hp)
 obtain ⟨hm1,hm2⟩:=aP hm
 obtain ⟨hs,hb1,hb2⟩:=C9 hg
 have hz:=Ig hs
 refine (aks s p m).trans ?_
 simp only [CX,bn,au.de,ak.de,bD.de,hs,hm2,cond_true]
 show _=some (⟨.fE [.agg (au.enc (N.qo s p m).1),.int .i64 (N.qo s p m).2],[],[]⟩:aH)
 unfold N.qo
 cases h1:aZ p 0 with
 | true=>rfl
 | false =>
  cases h2:bU 16 p with
  | true=>rfl
  | false =>
   have g1:=fD h1
   have g2:=lW h2
   have hk:lY (s.rises.list.getD p.toNat iC)=true:=List.all_eq_true.1 (aP hs).2 _ (getD_mem iC (show p.toNat<s.rises.list.length by rw [dG.jE]; omega))
   obtain ⟨hk1,hk2⟩:=aP hk
   simp only [PO g1 (show p<((16:Nat):Int) by omega),PI s.rises p.toNat (by omega),bD.de,hk,hk1,cond_true,cond_false]
   cases h3:(N.dH (N.kS s p) m).2 != 0 with
   | true =>
    have h3:((N.dH (s.rises.list.getD p.toNat iC) m).2 != 0)=true:=h3
    rw [h3]; rfl
   | false =>
    have h3' : ((N.dH (s.rises.list.getD p.toNat iC) m).2 != 0)=false:=h3
    have hx:lY (N.dH (s.rises.list.getD p.toNat iC) m).1=true:=adO hk hm1 hm2
    have e1:=qW (s.rises.list.getD p.toNat iC).kept
    have e2:=zA hk1
    have e3:=qW (N.dH (s.rises.list.getD p.toNat iC) m).1.kept
    have e4:=zA (aP hx).1
    rw [h3',hx,dY (n:=N.jv s-_) (by omega) (by omega),dY (by omega) (by omega)]
    simp only [cond_true,cond_false]
    show cond (aZ s.bytes (N.jv s-N.bZ (N.kS s p).kept+N.bZ (N.dH (N.kS s p) m).1.kept)) _ _=_
    cases h4:aZ s.bytes (N.jv s-N.bZ (N.kS s p).kept+N.bZ (N.dH (N.kS s p) m).1.kept) with
    | true=>rfl
    | false =>
     simp only [cond_false,setCells_eq]
     try rfl
def wJ (s:aF):Bool:=cond (vH s) (cond (bU 0 s.next) (aZ s.next 18446744073709551616) false) false
def akt:Den:=den (aO (bg au) (aO fV (aW (bg ak)))) dw (nP (aO (bg au) (aO (cu .u64) (aO (bg ak) (aW (cu .i64)))))) (fun a _=>cond (wJ a.1) (cond (N.vC a.2.2) (dA a.2.2) false) false) fun a _=>(N.oN a.1 a.2.1 a.2.2,())
noncomputable def aoH:Env:=env Tryz.prog [(40,CW),(45,lG),(15,adl),(46,Vy),(47,O1),(48,DT),(20,VO),(49,aiP),(50,FB)] [] []
theorem aqk (s:aF) (n:Bytes) (m:ay):type_of% (by
  have h:bM aoH 13 ((aO (bg au) (aO fV (aW (bg ak)))).enc (s,n,m)) ([]) some =(
   let z10:=(List.map (ah.enc aS) s.rows);let z3:=(ah.dec au (ah.enc au s));let z2:=(List.map (ah.dec aj) (V.toRows (List.getD (List.getD z10 (Int.toNat (N.bP z3 n)) []) 4 V.undef)));let z13:=(List.map (ah.dec aj) (List.map (ah.enc aj) (Prod.fst (N.eP z2 (ay.id (Prod.fst (N.fF z2)))))));let z4:=(List.map yE m.head);let z0:=(N.l7 z13 {aQ:={id:=aF.next s,bT:=ay.bT m,key:=ay.key m,head:=List.map yD z4,body:=ay.body m,due:=ay.due m,hops:=ay.hops m:ay},eF:=false,again:=false:aG});let z1:=(N.l7 z2 {aQ:={id:=aF.next s,bT:=ay.bT m,key:=ay.key m,head:=List.map yD z4,body:=ay.body m,due:=ay.due m,hops:=ay.hops m:ay},eF:=false,again:=false:aG});let z5:=(some {v:=.fE [V.agg (ah.enc au s),.int .u64 0,.agg [V.int .u64 0,.str [],.str [],.slc yP [],.str [],.int .u64 0,.int .u8 0],.int .i64 12],bx:=[]:aH});let z6:=(N.bJ {id:=aF.next s,bT:=ay.bT m,key:=ay.key m,head:=List.map yD z4,body:=ay.body m,due:=ay.due m,hops:=ay.hops m:ay});let z7:=(N.vC {id:=aF.next s,bT:=ay.bT m,key:=ay.key m,head:=List.map yD z4,body:=ay.body m,due:=ay.due m,hops:=ay.hops m:ay});let z8:=(N.iH z3 (N.bP z3 n) (List.map (ah.dec aj) (List.map (ah.enc aj) z0.1)));let z9:=(N.iH z3 (N.bP z3 n) (List.map (ah.dec aj) (List.map (ah.enc aj) z1.1)));let z11:=(ah.enc ak (Prod.fst (N.fF z2)));let z12:=(decide (0<=N.bP z3 n∧N.bP z3 n<(↑(List.length z10):Int)));cond (Nat.ble (List.length (List.map (ah.dec aS) z10)) 100) (cond (aZ (N.bP z3 n) 0) (some {v:=.fE [V.agg (ah.enc au s),.int .u64 0,.agg [V.int .u64 0,.str [],.str [],.slc yP [],.str [],.int .u64 0,.int .u8 0],.int .i64 10],bx:=[]:aH}) (cond (N.aV (ah.dec ak (ah.enc ak m)) != 0) (some {v:=.fE [V.agg (ah.enc au s),.int .u64 0,.agg [V.int .u64 0,.str [],.str [],.slc yP [],.str [],.int .u64 0,.int .u8 0],.int .i64 (N.aV (ah.dec ak (ah.enc ak m)))],bx:=[]:aH}) (cond (aF.next s==0) (some {v:=.fE [V.agg (ah.enc au s),.int .u64 0,.agg [V.int .u64 0,.str [],.str [],.slc yP [],.str [],.int .u64 0,.int .u8 0],.int .i64 18],bx:=[]:aH}) (cond z12 (cond z12 (cond (bU (V.toInt (List.getD (List.getD z10 (Int.toNat (N.bP z3 n)) []) 1 V.undef)) (IntKind.wrap .u64 (↑(List.length z2):Int))) (cond (ig z2) (cond (!Prod.snd (N.fF z2)) z5 (cond (ig z2) (cond z7 (cond (vH z3) (cond (N.vC (ah.dec ak z11)) (cond (aZ (IntKind.wrap .i64 (N.l9 z3+N.bJ (ah.dec ak z11))) z6) z5 (cond (bif Nat.ble (List.length z13) 1000 then dA {id:=aF.next s,bT:=ay.bT m,key:=ay.key m,head:=List.map yD z4,body:=ay.body m,due:=ay.due m,hops:=ay.hops m:ay} else false) (cond (Prod.snd z0 != 0) (some {v:=.fE [V.agg (ah.enc au s),.int .u64 0,.agg [V.int .u64 0,.str [],.str [],.slc yP [],.str [],.int .u64 0,.int .u8 0],.int .i64 z0.2],bx:=[]:aH}) (cond (ni z3 (N.bP z3 n)) (some {v:=.fE [V.agg (V.int .u64 (IntKind.wrap .u64 (aF.next z8+1))::V.int .i64 z8.bytes::V.slc yR (List.map (ah.enc aS) z8.rows)::eU z8.rises),.int .u64 s.next,.agg z11,.int .i64 0],bx:=[]:aH}) none)) none)) none) none) none) none)) none) (cond z7 (cond (vH z3) (cond (aZ (IntKind.wrap .i64 (N.l9 z3+N.bJ {id:=0,bT:=[],key:=[],head:=List.map yD [],body:=[],due:=0,hops:=0:ay})) z6) z5 (cond (bif Nat.ble (List.length z2) 1000 then dA {id:=aF.next s,bT:=ay.bT m,key:=ay.key m,head:=List.map yD z4,body:=ay.body m,due:=ay.due m,hops:=ay.hops m:ay} else false) (cond (Prod.snd z1 != 0) (some {v:=.fE [V.agg (ah.enc au s),.int .u64 0,.agg [V.int .u64 0,.str [],.str [],.slc yP [],.str [],.int .u64 0,.int .u8 0],.int .i64 z1.2],bx:=[]:aH}) (cond (ni z3 (N.bP z3 n)) (some {v:=.fE [V.agg (V.int .u64 (IntKind.wrap .u64 (aF.next z9+1))::V.int .i64 z9.bytes::V.slc yR (List.map (ah.enc aS) z9.rows)::eU z9.rises),.int .u64 s.next,.agg [V.int .u64 0,.str [],.str [],.slc yP [],.str [],.int .u64 0,.int .u8 0],.int .i64 0],bx:=[]:aH}) none)) none)) none) none)) none) none)))) none):=by kernel_rfl
  dsimp only at h;exact h):=by kernel_rfl
theorem adS (hN:bH Tryz.prog 95 fZ):bH Tryz.prog 13 akt:=by
 refine aK (aT ((((((((((fK.nil _).cons zy).cons adp).cons (PN hN)).cons (Cc hN)).cons O6).cons SX).cons Vz).cons rP).cons Am)) (E:=aoH) Tryz.func13 [] (by kernel_rfl) (none0) fun a b hp=>?_
 obtain ⟨s,n,m⟩:=a
 obtain ⟨hg,hm⟩:=aP (show cond (wJ s) (cond (N.vC m) (dA m) false) false=true from hp)
 obtain ⟨hg,hn⟩:=aP hg
 obtain ⟨hn1,hn2⟩:=aP hn
 have hn1:=bQ hn1
 have hn2:=jZ hn2
 obtain ⟨hm1,hm2⟩:=aP hm
 obtain ⟨hs,hb1,hb2⟩:=C9 hg
 have hz:=Ig hs
 obtain ⟨hp1,hr⟩:=aP (aP hs).1
 have hp':=aX hp1
 have hmn:=adP hm1 hn1 hn2
 have hsm:dA (N.kL m s.next)=true:=hm2
 refine (aqk s n m).trans ?_
 simp only [gX,fO,bn,au.de,ak.de,List.length_map,hp1,cond_true,YG,hmn,hsm,hg]
 show _=some (⟨.fE [.agg (au.enc (N.oN s n m).1),.int .u64 (N.oN s n m).2.1,.agg (ak.enc (N.oN s n m).2.2.1),.int .i64 (N.oN s n m).2.2.2],[],[]⟩:aH)
 unfold N.oN
 cases h1:aZ (N.bP s n) 0 with
 | true=>rfl
 | false =>
 cases h2:N.aV m != 0 with
 | true=>rfl
 | false =>
 cases h3:s.next==0 with
 | true=>rfl
 | false =>
  obtain ⟨g1,g2,g3,g4⟩:=mD (oH h1)
  have hl:=qZ hr g4
  obtain ⟨hl1,hl2,hl3⟩:=jK hl
  have hw:=uo hp' g1 g2
  have hf:=akn g4 hs
  have hfo:=akm hl3
  have hf0:=(lZ (N.fF (s.rows.getD (N.bP s n).toNat row0).line).1).1
  have hlen:=FC (s.rows.getD (N.bP s n).toNat row0).line (N.fF (s.rows.getD (N.bP s n).toNat row0).line).1.id
  have wl:IntKind.wrap .u64 ((s.rows.getD (N.bP s n).toNat row0).line.length:Int)=(s.rows.getD (N.bP s n).toNat row0).line.length:=kC (by omega) (by omega)
  have wr:∀ z:Int,0<=z->z<=N.jv s->IntKind.wrap .i64 (N.l9 s+z)=N.l9 s+z:=fun z z1 z2=>by
   unfold N.l9; exact dY (by omega) (by omega)
  simp only [PO g1 g2,pX s _ g4,aS.de,pz hl,wl,hfo,hw,dN (show (s.rows.getD (N.bP s n).toNat row0).line.length<=1000 by omega),dN (show (N.eP (s.rows.getD (N.bP s n).toNat row0).line (N.fF (s.rows.getD (N.bP s n).toNat row0).line).1.id).1.length<=1000 by omega),wr _ hf0 hf,cond_true,cond_false]
  show cond (bU (N.dn s (N.bP s n)).q.most (N.dn s (N.bP s n)).line.length) _ _=_
  cases h4:bU (N.dn s (N.bP s n)).q.most (N.dn s (N.bP s n)).line.length with
  | true =>
   simp only [cond_true]
   show cond (!(N.fF (N.dn s (N.bP s n)).line).2) _ _=_
   cases h5:(N.fF (N.dn s (N.bP s n)).line).2 with
   | false=>rfl
   | true =>
    simp only [Bool.not_true,cond_true,cond_false]
    unfold N.zx
    show cond (aZ (N.l9 s+N.bJ (N.fF (N.dn s (N.bP s n)).line).1) (N.bJ (N.kL m s.next))) _ _=_
    cases h6:aZ (N.l9 s+N.bJ (N.fF (N.dn s (N.bP s n)).line).1) (N.bJ (N.kL m s.next)) with
    | true=>rfl
    | false =>
     simp only [cond_false]
     show cond ((N.l7 (N.eP (N.dn s (N.bP s n)).line (N.fF (N.dn s (N.bP s n)).line).1.id).1 ⟨N.kL m s.next,false,false⟩).2 != 0) _ _=_
     cases h7:(N.l7 (N.eP (N.dn s (N.bP s n)).line (N.fF (N.dn s (N.bP s n)).line).1.id).1 ⟨N.kL m s.next,false,false⟩).2 != 0 with
     | true=>rfl
     | false=>rfl
  | false =>
   simp only [cond_false]
   unfold N.zx
   have e0:N.bJ gJ=0:=rfl
   have w0:=wr 0 (by omega) (by omega)
   show cond (aZ (IntKind.wrap .i64 (N.l9 s+N.bJ gJ)) (N.bJ (N.kL m s.next))) _ _=_
   rw [e0,w0]
   cases h6:aZ (N.l9 s+0) (N.bJ (N.kL m s.next)) with
   | true=>rfl
   | false =>
    simp only [cond_false]
    show cond ((N.l7 (N.dn s (N.bP s n)).line ⟨N.kL m s.next,false,false⟩).2 != 0) _ _=_
    cases h7:(N.l7 (N.dn s (N.bP s n)).line ⟨N.kL m s.next,false,false⟩).2 != 0 with
    | true=>rfl
    | false=>rfl
end Go.Ev

namespace Go.Ev
open Go Go.Proofs
set_option maxRecDepth 100000
-- FOLD2
def aku:Den:=den (aO (bg au) (aW (cu .u64))) dw (nP (aO fV (aO (bg ak) (aW iF)))) (fun a _=>eY a.1) fun a _=>(N.iy a.2 a.1.rows,())
theorem yH (t:Int) (x:dW) (r:List dW):N.iy t (x::r)=cond (N.wH x.line t).2 (x.q.name,(N.wH x.line t).1,true) (N.iy t r):=rfl
def akv:fP:={ fr:=[(1,.int .u64),(5,.ptr 10000 0 0),(12,.slc yR),(13,.int .i64),(14,.int .i64)],tab:=[(10000,.row [] dO)] }
def akw:List Leaf->(Ex->St->Option R)->Option R
 | [.i i1,.r r12,.i i13,.i i14,.c cZ],K=>cond (i13==r12.length) (cond (i14==0) (cond (Nat.ble r12.length 1000) (cond ((r12.map aS.dec).all jf) (cond (N.iy i1 ((r12).map aS.dec)).2.2 (K .ret { fr:=[(4,.str (N.iy i1 ((r12).map aS.dec)).1),(5,.ptr 10000 0 0 0),(6,.bool true)],tab:=[(10000,.var (ak.enc (N.iy i1 ((r12).map aS.dec)).2.1))] }) (K (.exit 0) { fr:=[(5,.ptr 10000 0 0 0)],tab:=[(10000,.var (aB dO 0 cZ))] })) none) none) none) none
 | _,_=>none
noncomputable def PU:Env:={ env Tryz.prog [(157,aje)] [(2,dJ akv akw)] [(2,[(0,[1,5,12,13,14]),(1,[5]),(1000,[4,5,6])])] with fz:=true }
theorem anE (s:aF) (t:Int):bM PU 90 ((aO (bg au) (aW (cu .u64))).enc (s,t)) ([]) some =
 cond ((↑(List.length (List.map (ah.enc aS) s.rows)):Int)==(↑(List.length (List.map (ah.enc aS) s.rows)):Int)) (cond (Nat.ble (List.length (List.map (ah.enc aS) s.rows)) 1000) (cond (List.all (List.map (ah.dec aS) (List.map (ah.enc aS) s.rows)) jf) (cond (Prod.snd (Prod.snd (N.iy t (List.map (ah.dec aS) (List.map (ah.enc aS) s.rows))))) (some {v:=.fE [V.str (Prod.fst (N.iy t (List.map (ah.dec aS) (List.map (ah.enc aS) s.rows)))),.agg (ah.enc ak (Prod.fst (Prod.snd (N.iy t (List.map (ah.dec aS) (List.map (ah.enc aS) s.rows)))))),.bool true],bx:=[]:aH}) (some {v:=.fE [V.str [],.agg [V.int .u64 0,.str [],.str [],.slc yP [],.str [],.int .u64 0,.int .u8 0],.bool false],bx:=[]:aH})) none) none) none:=by kernel_rfl
theorem YM (i1:Int) (r12:List (List V)) (i13:Int) (i14:Int) (cZ:List V) (K:Ex->St->Option R):bI PU 90 2 { fr:=[(1,.int .u64 i1),(5,.ptr 10000 0 0 0),(12,.slc yR r12),(13,.int .i64 i13),(14,.int .i64 i14)],tab:=[(10000,.var (aB dO 0 cZ))] } K =
 cond (aZ i14 i13) (cond (decide (0<=i14∧i14<(↑(List.length r12):Int))) (cond (ig (List.map (ah.dec aj) (V.toRows (List.getD (List.getD r12 (Int.toNat i14) []) 4 V.undef)))) (cond (Prod.snd (N.wH (List.map (ah.dec aj) (V.toRows (List.getD (List.getD r12 (Int.toNat i14) []) 4 V.undef))) i1)) (K .ret {fr:=[(4,.str (V.toStr (List.getD (List.getD r12 (Int.toNat i14) []) 0 V.undef))),(5,.ptr 10000 0 0 0),(6,.bool true)],tab:=[(10000,.var (ah.enc ak (Prod.fst (N.wH (List.map (ah.dec aj) (V.toRows (List.getD (List.getD r12 (Int.toNat i14) []) 4 V.undef))) i1))))]:St}) (K .normal {fr:=[(1,.int .u64 i1),(5,.ptr 10000 0 0 0),(12,.slc yR r12),(13,.int .i64 i13),(14,.int .i64 (IntKind.wrap .i64 (i14+1)))],tab:=[(10000,.var (aB dO 0 cZ))]:St})) none) none) (K (.exit 0) {fr:=[(5,.ptr 10000 0 0 0)],tab:=[(10000,.var (aB dO 0 cZ))]:St}):=by kernel_rfl
theorem aby:dB PU 90 2:=by
 refine bf rfl fun l K q h=>?_
 unfold akw at h
 split at h
 .rename_i i1 r12 i13 i14 cZ
  replace h:=UG h;obtain ⟨h1,h2,h3,h5,h⟩:=h
  have e1:=aY h1
  have e2:=aY h2
  subst e1 e2
  have h3:r12.length<=1000:=aX h3
  have main:=dh (E:=PU) (f:=90) (id:=2) (A:=Unit) (r12) (fun a i=>{ fr:=[(1,.int .u64 i1),(5,.ptr 10000 0 0 0),(12,.slc yR r12),(13,.int .i64 r12.length),(14,.int .i64 i)],tab:=[(10000,.var (aB dO 0 cZ))] }) (fun a i=>True)
   (fun a rows K=>cond (N.iy i1 ((rows).map aS.dec)).2.2 (K .ret { fr:=[(4,.str (N.iy i1 ((rows).map aS.dec)).1),(5,.ptr 10000 0 0 0),(6,.bool true)],tab:=[(10000,.var (ak.enc (N.iy i1 ((rows).map aS.dec)).2.1))] }) (K (.exit 0) { fr:=[(5,.ptr 10000 0 0 0)],tab:=[(10000,.var (aB dO 0 cZ))] })) (fun a i ha hi=>?_) (fun a ha=>?_) (()) 0 (Int.le_refl _) (by omega) trivial K q (by assumption)
  .exact main
  .have hq:=fun K=>YM (i1) (r12) (r12.length) ((i:Int)) (cZ) K
   have t1:aZ (i:Int) r12.length=true:=dK (by omega)
   have t2:decide ((0:Int)<=i∧(i:Int)<r12.length)=true:=decide_eq_true (by omega)
   have t3:IntKind.wrap .i64 ((i:Int)+1)=(i:Int)+1:=dY (by omega) (by omega)
   have hr:pq (aS.dec (r12.getD i [])).line=true:=jF h5 hi
   have hs:=pz hr
   simp only [Int.toNat_natCast,gX,bn] at hq
   simp only [t1,t2,t3,cond_true,hs] at hq
   simp only [List.map_cons,yH]
   cases hc:(N.wH (aS.dec (r12.getD i [])).line i1).2 with
   | true =>
    refine .inr ⟨.ret,_,by simp,fun K=>?_,fun K=>rfl⟩
    rw [hq,hc]
    try rfl
   | false =>
    refine .inl ⟨(),trivial,fun K=>?_,fun K=>rfl⟩
    rw [hq,hc]
    try rfl
  .refine ⟨.exit 0,_,by simp,fun K=>?_,fun K=>rfl⟩
   rw [YM]
   simp (disch:=omega) only [evs]
   try rfl
 .cases h
theorem Tv {t:Int}:∀ {l:List dW},(N.iy t l).2.2=false->N.iy t l=([],gJ,false)
 | [],_=>rfl
 | x::r,h=>by
  unfold N.iy at h ⊢
  cases hc:(N.wH x.line t).2 with
  | true=>rw [hc] at h; cases h
  | false=>rw [hc] at h; exact Tv h
theorem akx:bH Tryz.prog 90 aku:=by
 refine aK (aT ((fK.nil _).cons aji)) (E:=PU) Tryz.func90 [2] (by kernel_rfl) (one1 aby) fun a b hp=>?_
 obtain ⟨s,t⟩:=a
 obtain ⟨h1,h2⟩:=aP (show eY s=true from hp)
 have h1:=aX h1
 refine (anE s t).trans ?_
 simp only [bn,List.length_map,beq_self_eq_true,cond_true,dN (show s.rows.length<=1000 by omega),h2]
 show _=some (⟨.fE [.str (N.iy t s.rows).1,.agg (ak.enc (N.iy t s.rows).2.1),.bool (N.iy t s.rows).2.2],[],[]⟩:aH)
 cases hc:(N.iy t s.rows).2.2 with
 | true=>rfl
 | false =>
  rw [Tv hc]; rfl
def N.Tz (c:List V):Nat->List (List V)->List V
 | _,[]=>c
 | i,r::rs=>N.Tz (au.enc (N.iH (au.dec c) i (N.mX (aS.dec r).line))) (i+1) rs
def N.TA (s:aF):Nat->List dW->aF
 | _,[]=>s
 | i,x::r=>N.TA (N.iH s i (N.mX x.line)) (i+1) r
theorem TB:∀ (l:List dW) (s:aF) (i:Nat),N.Tz (au.enc s) i (l.map aS.enc)=au.enc (N.TA s i l)
 | [],s,i=>rfl
 | x::r,s,i=>by
  simp only [List.map_cons,N.Tz,N.TA,au.de,aS.de]
  exact TB r _ (i+1)
theorem YN:∀ (l a:List dW) (s:aF),s.rows=a++l->N.TA s a.length l=⟨s.next,s.bytes,a++l.map N.jV,s.rises⟩
 | [],a,s,h=>by
  obtain ⟨n,b,rs,ri⟩:=s
  simp only at h
  subst h
  rfl
 | x::r,a,s,h=>by
  have e1:s.rows.getD a.length row0=x:=by rw [h]; simp [List.getD_eq_getElem?_getD]
  have e2:(N.iH s a.length (N.mX x.line)).rows=(a++[N.jV x])++r:=by
   show s.rows.set (Int.toNat (a.length:Int)) ⟨(s.rows.getD (Int.toNat (a.length:Int)) row0).q,_⟩=_
   rw [Int.toNat_natCast,e1,h]
   simp [N.jV]
  have ih:=YN r (a++[N.jV x]) (N.iH s a.length (N.mX x.line)) e2
  rw [List.length_append] at ih
  simp only [N.TA]
  rw [show a.length+1=a.length+[N.jV x].length from rfl,ih]
  simp only [List.append_assoc,List.map_cons,List.singleton_append]
  try rfl
def VR:Den:=den (aW (bg au)) dw (oV (bg au)) (fun s _=>eY s) fun s _=>(N.KH s,())
def aky:fP:={ fr:=[(1,.ptr 10000 0 0),(2,.ptr 10001 0 0),(6,.slc yR),(7,.int .i64),(8,.int .i64)],tab:=[(10000,.row [] aA),(10001,.row [] aA)] }
def akz:List Leaf->(Ex->St->Option R)->Option R
 | [.r r6,.i i7,.i i8,.c cZ,.c iT],K=>cond (i7==r6.length) (cond (i8==0) (cond (Nat.ble r6.length 100) (cond (Nat.beq (au.dec cZ).rows.length r6.length) (cond (r6.all fun r=>Nat.ble (aS.dec r).line.length 1000) (K (.exit 0) { fr:=[(1,.ptr 10000 0 0 0),(2,.ptr 10001 0 0 0)],tab:=[(10000,.var (aB aA 0 (N.Tz (cZ,0).1 (cZ,0).2 (r6)))),(10001,.var (aB aA 0 iT))] }) none) none) none) none) none
 | _,_=>none
noncomputable def PV:Env:={ env Tryz.prog [(138,ai3),(50,FB)] [(2,dJ aky akz)] [(2,[(0,[1,2,6,7,8]),(1,[1,2]),(1000,[2])])] with fz:=true }
theorem anF (s:aF):bM PV 62 ((aW (bg au)).enc s) ([]) some =
 cond ((↑(List.length (List.map (ah.enc aS) s.rows)):Int)==(↑(List.length (List.map (ah.enc aS) s.rows)):Int)) (cond (Nat.ble (List.length (List.map (ah.enc aS) s.rows)) 100) (cond (Nat.beq (List.length (List.map (ah.dec aS) (List.map (ah.enc aS) s.rows))) (List.length (List.map (ah.enc aS) s.rows))) (cond (List.all (List.map (ah.enc aS) s.rows) fun r=>Nat.ble (List.length (List.map (ah.dec aj) (V.toRows (r.getD 4 .undef)))) 1000) (some {v:=.agg (aB aA 0 (N.Tz (ah.enc au s) 0 (List.map (ah.enc aS) s.rows))),bx:=[]:aH}) none) none) none) none:=by kernel_rfl
theorem YO (r6:List (List V)) (i7:Int) (i8:Int) (cZ:List V) (iT:List V) (K:Ex->St->Option R):bI PV 62 2 { fr:=[(1,.ptr 10000 0 0 0),(2,.ptr 10001 0 0 0),(6,.slc yR r6),(7,.int .i64 i7),(8,.int .i64 i8)],tab:=[(10000,.var (aB aA 0 cZ)),(10001,.var (aB aA 0 iT))] } K =
 cond (aZ i8 i7) (cond (decide (0<=i8∧i8<(↑(List.length r6):Int))) (cond (Nat.ble (List.length (List.map (ah.dec aj) (V.toRows (List.getD (List.getD r6 (Int.toNat i8) []) 4 V.undef)))) 1000) (cond (ni (ah.dec au cZ) i8) (K .normal {fr:=[(1,.ptr 10000 0 0 0),(2,.ptr 10001 0 0 0),(6,.slc yR r6),(7,.int .i64 i7),(8,.int .i64 (IntKind.wrap .i64 (i8+1)))],tab:=[(10000,.var (ah.enc au (N.iH (ah.dec au cZ) i8 (List.map (ah.dec aj) (List.map (ah.enc aj) (N.mX (List.map (ah.dec aj) (V.toRows (List.getD (List.getD r6 (Int.toNat i8) []) 4 V.undef))))))))),(10001,.var (aB aA 0 iT))]:St}) none) none) none) (K (.exit 0) {fr:=[(1,.ptr 10000 0 0 0),(2,.ptr 10001 0 0 0)],tab:=[(10000,.var (aB aA 0 cZ)),(10001,.var (aB aA 0 iT))]:St}):=by kernel_rfl
theorem abz:dB PV 62 2:=by
 refine bf rfl fun l K q h=>?_
 unfold akz at h
 split at h
 .rename_i r6 i7 i8 cZ iT
  replace h:=Ed h;obtain ⟨h1,h2,h3,h4,h5,h⟩:=h
  have e1:=aY h1
  have e2:=aY h2
  subst e1 e2
  have h3:r6.length<=100:=aX h3
  have main:=dh (E:=PV) (f:=62) (id:=2) (A:=List V × Nat) (r6) (fun a i=>{ fr:=[(1,.ptr 10000 0 0 0),(2,.ptr 10001 0 0 0),(6,.slc yR r6),(7,.int .i64 r6.length),(8,.int .i64 i)],tab:=[(10000,.var (aB aA 0 a.1)),(10001,.var (aB aA 0 iT))] }) (fun a i=>a.2=i∧(au.dec a.1).rows.length=r6.length)
   (fun a rows K=>K (.exit 0) { fr:=[(1,.ptr 10000 0 0 0),(2,.ptr 10001 0 0 0)],tab:=[(10000,.var (aB aA 0 (N.Tz a.1 a.2 (rows)))),(10001,.var (aB aA 0 iT))] }) (fun a i ha hi=>?_) (fun a ha=>?_) ((cZ,0)) 0 (Int.le_refl _) (by omega) ⟨rfl,jk h4⟩ K q (by assumption)
  .exact main
  .have hq:=fun K=>YO (r6) (r6.length) ((i:Int)) (a.1) (iT) K
   have t1:aZ (i:Int) r6.length=true:=dK (by omega)
   have t2:decide ((0:Int)<=i∧(i:Int)<r6.length)=true:=decide_eq_true (by omega)
   have t3:IntKind.wrap .i64 ((i:Int)+1)=(i:Int)+1:=dY (by omega) (by omega)
   simp only [Int.toNat_natCast,gX,bn] at hq
   simp only [t1,t2,t3,cond_true] at hq
   obtain ⟨c,j⟩:=a
   obtain ⟨ha1,ha2⟩:=ha
   simp only at ha1 ha2 hq ⊢
   subst ha1
   have hw:ni (au.dec c) j=true:=uo (by omega) (by omega) (by omega)
   have h6:Nat.ble (aS.dec (r6.getD j [])).line.length 1000=true:=List.all_eq_true.1 h5 _ (getD_mem [] hi)
   refine .inl ⟨(au.enc (N.iH (au.dec c) j (N.mX (aS.dec (r6.getD j [])).line)),j+1),⟨rfl,?_⟩,fun K=>?_,fun K=>rfl⟩
   .rw [au.de]
    show (List.set _ _ _).length=_
    rw [List.length_set]; exact ha2
   .rw [hq]
    simp only [h6,hw,cond_true]
    try rfl
  .refine ⟨.exit 0,_,by simp,fun K=>?_,fun K=>rfl⟩
   rw [YO]
   simp (disch:=omega) only [evs]
   try rfl
 .cases h
theorem akA:bH Tryz.prog 62 VR:=by
 refine aK (aT (((fK.nil _).cons zy).cons ajo)) (E:=PV) Tryz.func62 [2] (by kernel_rfl) (one1 abz) fun a b hp=>?_
 obtain ⟨h1,h2⟩:=aP (show eY a=true from hp)
 have h1:=aX h1
 refine (anF a).trans ?_
 have h3:((a.rows.map aS.enc).all fun r=>Nat.ble (List.length (List.map (ah.dec aj) (V.toRows (List.getD r 4 V.undef)))) 1000)=true:=List.all_eq_true.2 fun r hr=>by
  obtain ⟨x,hx,rfl⟩:=List.mem_map.1 hr
  have hl:=(jK (List.all_eq_true.1 h2 x hx)).1
  show Nat.ble (List.map aj.dec (x.line.map aj.enc)).length 1000=true
  rw [bn]
  exact dN (by omega)
 rw [h3]
 simp only [bn,List.length_map,beq_self_eq_true,cond_true,dN (show a.rows.length<=100 by omega),Nat.beq_refl]
 rw [TB,show N.TA a 0 a.rows=N.KH a from YN a.rows [] a rfl]
 try rfl
end Go.Ev

namespace Go.Ev
open Go Go.Proofs
set_option maxRecDepth 100000
-- FOLD2
theorem uq (a b:dW) (x y:List dW):N.jw (a::x) (b::y)=cond (N.sameRow a b) (N.jw x y) false:=rfl
theorem Ik:∀ (a b:List dW),a.length ≠ b.length->N.jw a b=false
 | [],[],h=>absurd rfl h
 | [],_::_,_=>rfl
 | _::_,[],_=>rfl
 | a::x,b::y,h=>by
  rw [uq,Ik x y fun e=>h (by simp [e])]
  cases N.sameRow a b<;>rfl
theorem KI (a b:aC) (x y:List aC):N.rW (a::x) (b::y)=cond (N.xK a b) (N.rW x y) false:=rfl
def YP:Den:=den (aO (bg aS) (aW (bg aS))) dw (oV iF) (fun a _=>jf a.1) fun a _=>(N.sameRow a.1 a.2,())
noncomputable def YQ:Env:=env Tryz.prog [(69,ai4)] [] []
theorem afJ (x y:dW):bM YQ 68 ((aO (bg aS) (aW (bg aS))).enc (x,y)) ([]) some =
 cond (dZ.name x.q==dZ.name y.q && (dZ.most x.q==dZ.most y.q && (dZ.life x.q==dZ.life y.q && (dZ.dead x.q==dZ.dead y.q && true)))) (cond (ig (List.map (ah.dec aj) (List.map (ah.enc aj) x.line))) (some {v:=.bool (N.nJ (List.map (ah.dec aj) (List.map (ah.enc aj) x.line)) (List.map (ah.dec aj) (List.map (ah.enc aj) y.line))),bx:=[]:aH}) none) (some {v:=.bool false,bx:=[]:aH}):=by kernel_rfl
theorem abA:bH Tryz.prog 68 YP:=by
 refine aK (aT ((fK.nil _).cons ajt)) (E:=YQ) Tryz.func68 [] (by kernel_rfl) none0 fun a b hp=>?_
 obtain ⟨x,y⟩:=a
 have hp:jf x=true:=hp
 refine (afJ x y).trans ?_
 simp only [bn,pz hp,cond_true]
 show _=some (⟨.bool (N.sameRow x y),[],[]⟩:aH)
 unfold N.sameRow
 rw [<- Md x.q y.q]
 cases (x.q.name==y.q.name && (x.q.most==y.q.most && (x.q.life==y.q.life && (x.q.dead==y.q.dead && true))))<;>rfl
def VT (l:List dW):Bool:=cond (Nat.ble l.length 1000) (l.all jf) false
def adT:Den:=den (aO (jY aS) (aO (jY aS) (aW (Lr 68)))) dw (oV iF) (fun a _=>VT a.1) fun a _=>(N.jw a.1 a.2.1,())
def afK:fP:={ fr:=[(1,.slc yR),(2,.fn 68 [] []),(15,.slc yR),(16,.int .i64),(17,.int .i64)],tab:=[] }
def adU:List Leaf->(Ex->St->Option R)->Option R
 | [.r r1,.r r,.i n,.i i],K=>cond (n==r.length) (cond (i==0) (cond (Nat.beq r.length r1.length) (cond (Nat.ble r.length 1000) (cond ((r.map aS.dec).all jf)
   (cond (N.jw (r.map aS.dec) (r1.map aS.dec)) (K (.exit 0) { fr:=[],tab:=[] }) (K .ret { fr:=[(6,.bool false)],tab:=[] })) none) none) none) none) none
 | _,_=>none
noncomputable def Il:Env:=env Tryz.prog [(68,YP)] [(4,dJ afK adU)] [(4,[(0,[1,2,15,16,17]),(1,[]),(1000,[6])])]
theorem akB (a b:List dW):bM Il 67 ((aO (jY aS) (aO (jY aS) (aW (Lr 68)))).enc (a,b,())) ([]) some =
 cond ((↑(List.length (List.map (ah.enc aS) a)):Int) != (↑(List.length (List.map (ah.enc aS) b)):Int)) (some {v:=.bool false,bx:=[]:aH}) (cond ((↑(List.length (List.map (ah.enc aS) a)):Int)==(↑(List.length (List.map (ah.enc aS) a)):Int)) (cond (Nat.beq (List.length (List.map (ah.enc aS) a)) (List.length (List.map (ah.enc aS) b))) (cond (Nat.ble (List.length (List.map (ah.enc aS) a)) 1000) (cond (List.all (List.map (ah.dec aS) (List.map (ah.enc aS) a)) jf) (cond (N.jw (List.map (ah.dec aS) (List.map (ah.enc aS) a)) (List.map (ah.dec aS) (List.map (ah.enc aS) b))) (some {v:=.bool true,bx:=[]:aH}) (some {v:=.bool false,bx:=[]:aH})) none) none) none) none):=by kernel_rfl
theorem TD (n i:Int) (r r1:List (List V)) (K:Ex->St->Option R):bI Il 67 4 { fr:=[(1,.slc yR r1),(2,.fn 68 [] []),(15,.slc yR r),(16,.int .i64 n),(17,.int .i64 i)],tab:=[] } K =
 cond (aZ i n) (cond (decide (0<=i∧i<(↑(List.length r):Int))) (cond (decide (0<=i∧i<(↑(List.length r1):Int))) (cond (jf (ah.dec aS (List.getD r (Int.toNat i) []))) (cond (!N.sameRow (ah.dec aS (List.getD r (Int.toNat i) [])) (ah.dec aS (List.getD r1 (Int.toNat i) []))) (K .ret {fr:=[(6,.bool false)],tab:=[]:St}) (K .normal {fr:=[(1,.slc yR r1),(2,.fn 68 [] []),(15,.slc yR r),(16,.int .i64 n),(17,.int .i64 (IntKind.wrap .i64 (i+1)))],tab:=[]:St})) none) none) none) (K (.exit 0) {fr:=[],tab:=[]:St}):=by kernel_rfl
theorem abB:dB Il 67 4:=by
 refine bf rfl fun l K q h=>?_
 unfold adU at h
 split at h
 .rename_i r1 r n i
  replace h:=Ed h;obtain ⟨h1,h2,h3,h4,h5,h⟩:=h
  have e1:=aY h1
  have e2:=aY h2
  have e3:=jk h3
  subst e1 e2
  have h4:r.length<=1000:=aX h4
  refine dD (E:=Il) (f:=67) (id:=4) (σ:=Nat) (fun i=>{ fr:=[(1,.slc yR r1),(2,.fn 68 [] []),(15,.slc yR r),(16,.int .i64 r.length),(17,.int .i64 (i:Int))],tab:=[] }) (fun i=>i<=r.length) (fun i=>r.length-i)
   (fun i K=>cond (N.jw ((r.drop i).map aS.dec) ((r1.drop i).map aS.dec)) (K (.exit 0) { fr:=[],tab:=[] }) (K .ret { fr:=[(6,.bool false)],tab:=[] })) (fun i hi=>?_) 0 (Nat.zero_le _) K q (by assumption)
  by_cases hl:i<r.length
  .rw [jP hl,jP (show i<r1.length by omega),List.map_cons,List.map_cons,uq]
   have hs:jf (aS.dec (r.getD i []))=true:=List.all_eq_true.1 h5 _ (List.mem_map_of_mem (by rw [List.getD_eq_getElem?_getD,List.getElem?_eq_getElem hl]; exact List.getElem_mem hl))
   have hq:=fun K=>TD r.length i r r1 K
   have t1:aZ (i:Int) r.length=true:=dK (by omega)
   have t2:decide ((0:Int)<=i∧(i:Int)<r.length)=true:=decide_eq_true (by omega)
   have t4:decide ((0:Int)<=i∧(i:Int)<r1.length)=true:=decide_eq_true (by omega)
   have t3:IntKind.wrap .i64 ((i:Int)+1)=(i:Int)+1:=dY (by omega) (by omega)
   simp only [Int.toNat_natCast] at hq
   simp only [t1,t2,t3,t4,hs,cond_true] at hq
   cases hc:N.sameRow (aS.dec (r.getD i [])) (aS.dec (r1.getD i [])) with
   | true =>
    refine .inl ⟨i+1,hl,by omega,fun K=>?_,fun K=>rfl⟩
    rw [hq,hc]
    try rfl
   | false =>
    refine .inr ⟨.ret,{ fr:=[(6,.bool false)],tab:=[] },by simp,fun K=>?_,fun K=>rfl⟩
    rw [hq,hc]
    try rfl
  .refine .inr ⟨.exit 0,{ fr:=[],tab:=[] },by simp,fun K=>?_,fun K=>?_⟩
   .rw [TD]
    simp (disch:=omega) only [evs]
   .rw [List.drop_eq_nil_of_le (show r.length<=i by omega),List.drop_eq_nil_of_le (show r1.length<=i by omega)]; rfl
 .cases h
theorem afL:bH Tryz.prog 67 adT:=by
 refine aK (aT ((fK.nil _).cons abA)) (E:=Il) Tryz.func67 [4] (by kernel_rfl) (one1 abB) fun a _ h=>?_
 obtain ⟨a,b,⟨⟩⟩:=a
 obtain ⟨h1,h2⟩:=aP h
 have h1:Nat.ble a.length 1000=true:=h1
 have h2:a.all jf=true:=h2
 refine (akB a b).trans ?_
 show _=some (⟨.bool (N.jw a b),[],[]⟩:aH)
 simp only [bn,List.length_map,h1,h2,cond_true,beq_self_eq_true]
 by_cases hl:a.length=b.length
 .rw [hl,Nat.beq_refl,show (((b.length:Int)) != (b.length:Int))=false from bne_self_eq_false _]
  cases N.jw a b<;>rfl
 .rw [Ik _ _ hl,Xk (show ((a.length:Int)) ≠ (b.length:Int) by omega)]
  try rfl
def akC:Den:=den (aW (bg aj)) dw (oV (cu .u64)) (fun _ _=>true) fun x _=>(N.qp x,())
theorem anG (x:aG):bM yF 99 ((aW (bg aj)).enc x) ([]) some =
 cond x.eF (cond x.again (some {v:=.int .u64 (IntKind.wrap .u64 ((1 : Int)+2)),bx:=[]:aH}) (some {v:=.int .u64 1,bx:=[]:aH})) (cond x.again (some {v:=.int .u64 (IntKind.wrap .u64 ((0 : Int)+2)),bx:=[]:aH}) (some {v:=.int .u64 0,bx:=[]:aH})):=by kernel_rfl
theorem akD:bH Tryz.prog 99 akC:=by
 refine aK (aT (fK.nil _)) (E:=yF) Tryz.func99 [] (by kernel_rfl) none0 fun x b hp=>?_
 refine (anG x).trans ?_
 show _=some (⟨.int .u64 (N.qp x),[],[]⟩:aH)
 unfold N.qp
 cases x.again<;>cases x.eF<;>rfl
end Go.Ev

namespace Go.Ev
open Go Go.Proofs
set_option maxRecDepth 100000
-- FOLD2
def PW:Den:=den (aO (bg au) (aW (bg au))) dw (oV iF) (fun a _=>cond (jG a.1) (jG a.2) false) fun a _=>(N.AP a.1 a.2,())
def akE:fP:={ fr:=[(2,.ptr 10000 0 0),(3,.ptr 10001 0 0),(26,.int .i64)],tab:=[(10000,.row [] aA),(10001,.row [] aA)] }
def akF:List Leaf->(Ex->St->Option R)->Option R
 | [.i i26,.c cZ,.c iT],K=>cond (i26==0) (cond (((bF cZ 3).map bD.dec).all dQ) (cond (((bF iT 3).map bD.dec).all dQ) (cond (N.rW ((bF cZ 3).map bD.dec) ((bF iT 3).map bD.dec)) (K (.exit 0) { fr:=[],tab:=[] }) (K .ret { fr:=[(4,.bool false)],tab:=[] })) none) none) none
 | _,_=>none
noncomputable def PX:Env:=env Tryz.prog [(67,adT),(70,Vo)] [(4,dJ akE akF)] [(4,[(0,[2,3,26]),(1,[]),(1000,[4])])]
theorem anH (s t:aF):bM PX 23 ((aO (bg au) (aW (bg au))).enc (s,t)) ([]) some =
 cond (aF.next s != aF.next t) (some {v:=.bool false,bx:=[]:aH}) (cond (aF.bytes s != aF.bytes t) (some {v:=.bool false,bx:=[]:aH}) (cond (VT (List.map (ah.dec aS) (List.map (ah.enc aS) s.rows))) (cond (!N.jw (List.map (ah.dec aS) (List.map (ah.enc aS) s.rows)) (List.map (ah.dec aS) (List.map (ah.enc aS) t.rows))) (some {v:=.bool false,bx:=[]:aH}) (cond (List.all (List.map (ah.dec bD) (iV s.rises)) dQ) (cond (List.all (List.map (ah.dec bD) (iV t.rises)) dQ) (cond (N.rW (List.map (ah.dec bD) (iV s.rises)) (List.map (ah.dec bD) (iV t.rises))) (some {v:=.bool true,bx:=[]:aH}) (some {v:=.bool false,bx:=[]:aH})) none) none)) none)):=by kernel_rfl
theorem YR (i26:Int) (cZ:List V) (iT:List V) (K:Ex->St->Option R):bI PX 23 4 { fr:=[(2,.ptr 10000 0 0 0),(3,.ptr 10001 0 0 0),(26,.int .i64 i26)],tab:=[(10000,.var (aB aA 0 cZ)),(10001,.var (aB aA 0 iT))] } K =
 cond (aZ i26 16) (cond (decide (0<=i26∧i26<(↑(16:Nat):Int))) (cond (decide (0<=i26∧i26<(↑(16:Nat):Int))) (cond (bif dQ (ah.dec bD (List.getD (bF cZ 3) (Int.toNat i26) [])) then dQ (ah.dec bD (List.getD (bF iT 3) (Int.toNat i26) [])) else false) (cond (!N.xK (ah.dec bD (List.getD (bF cZ 3) (Int.toNat i26) [])) (ah.dec bD (List.getD (bF iT 3) (Int.toNat i26) []))) (K .ret {fr:=[(4,.bool false)],tab:=[]:St}) (K .normal {fr:=[(2,.ptr 10000 0 0 0),(3,.ptr 10001 0 0 0),(26,.int .i64 (IntKind.wrap .i64 (i26+1)))],tab:=[(10000,.var (aB aA 0 cZ)),(10001,.var (aB aA 0 iT))]:St})) none) none) none) (K (.exit 0) {fr:=[],tab:=[]:St}):=by kernel_rfl
theorem abC:dB PX 23 4:=by
 refine bf rfl fun l K q h=>?_
 unfold akF at h
 split at h
 .rename_i i26 cZ iT
  replace h:=Lm h;obtain ⟨h1,h2,h3,h⟩:=h
  have e1:=aY h1
  subst e1
  refine dD (E:=PX) (f:=23) (id:=4) (σ:=Nat) (fun i=>{ fr:=[(2,.ptr 10000 0 0 0),(3,.ptr 10001 0 0 0),(26,.int .i64 (i:Int))],tab:=[(10000,.var (aB aA 0 cZ)),(10001,.var (aB aA 0 iT))] }) (fun i=>i<=16) (fun i=>16-i)
   (fun i K=>cond (N.rW (((bF cZ 3).drop i).map bD.dec) (((bF iT 3).drop i).map bD.dec)) (K (.exit 0) { fr:=[],tab:=[] }) (K .ret { fr:=[(4,.bool false)],tab:=[] })) (fun i hi=>?_) 0 (Nat.zero_le _) K q (by assumption)
  by_cases hl:i<16
  .rw [jP (show i<(bF cZ 3).length from hl),jP (show i<(bF iT 3).length from hl),List.map_cons,List.map_cons,KI]
   have hq:=fun K=>YR i cZ iT K
   have t1:aZ (i:Int) 16=true:=dK (by omega)
   have t2:decide ((0:Int)<=i∧(i:Int)<((16:Nat):Int))=true:=decide_eq_true (by omega)
   have t3:IntKind.wrap .i64 ((i:Int)+1)=(i:Int)+1:=dY (by omega) (by omega)
   have g1:dQ (bD.dec ((bF cZ 3).getD i []))=true:=jF h2 hl
   have g2:dQ (bD.dec ((bF iT 3).getD i []))=true:=jF h3 hl
   simp only [Int.toNat_natCast] at hq
   simp only [t1,t2,t3,g1,g2,cond_true] at hq
   cases hc:N.xK (bD.dec ((bF cZ 3).getD i [])) (bD.dec ((bF iT 3).getD i [])) with
   | true =>
    refine .inl ⟨i+1,hl,by omega,fun K=>?_,fun K=>rfl⟩
    rw [hq,hc]
    try rfl
   | false =>
    refine .inr ⟨.ret,_,by simp,fun K=>?_,fun K=>rfl⟩
    rw [hq,hc]
    try rfl
  .obtain rfl:i=16:=by omega
   exact .inr ⟨.exit 0,{ fr:=[],tab:=[] },by simp,fun K=>YR 16 cZ iT K,fun K=>rfl⟩
 .cases h
theorem akG:bH Tryz.prog 23 PW:=by
 refine aK (aT (((fK.nil _).cons aiB).cons afL)) (E:=PX) Tryz.func23 [4] (by kernel_rfl) (one1 abC) fun a b hp=>?_
 obtain ⟨s,t⟩:=a
 obtain ⟨h1,h2⟩:=aP (show cond (jG s) (jG t) false=true from hp)
 have hR:∀ x:aF,jG x=true->((iV x.rises).map bD.dec).all dQ=true:=fun x hx=>by
  rw [mg,bn]
  exact List.all_eq_true.2 fun y hy=>(aP (List.all_eq_true.1 (aP hx).2 y hy)).1
 have g1:=hR s h1
 have g2:=hR t h2
 have g3:VT s.rows=true:=by
  obtain ⟨a1,a2⟩:=aP (aP h1).1
  have a1:=aX a1
  unfold VT
  rw [dN (by omega),a2]; rfl
 refine (anH s t).trans ?_
 simp only [bn,g3,cond_true]
 show _=some (⟨.bool (N.AP s t),[],[]⟩:aH)
 unfold N.AP
 cases h4:s.next==t.next with
 | false=>rw [bne,h4]; rfl
 | true =>
  cases h5:s.bytes==t.bytes with
  | false=>rw [bne,bne,h4,h5]; rfl
  | true =>
   rw [bne,bne,h4,h5]
   cases N.jw s.rows t.rows with
   | false=>rfl
   | true =>
    rw [g1,g2]
    simp only [mg,bn,cond_true]
    cases N.rW s.rises.list t.rises.list<;>rfl
end Go.Ev

namespace Go.Ev
open Go Go.Proofs
set_option maxRecDepth 100000
-- FOLD2
namespace N
def afM (k:Int) (l:List aG):Int->List dW->List dW
 | _,[]=>[]
 | i,x::r=>cond (i==k) ⟨x.q,l⟩ x::afM k l (i+1) r
def Ap (n:Bytes) (x:dW):Bool:=!isRow n x
def yJ (s:aF) (n:Bytes):aF × Int:=cond (aZ (bP s n) 0) (s,10) (⟨s.next,s.bytes,s.rows.filter (Ap n),s.rises⟩,0)
end N
theorem JD (k:Int) (l:List aG) (i:Int) (x:dW) (r:List dW):N.afM k l i (x::r)=cond (i==k) ⟨x.q,l⟩ x::N.afM k l (i+1) r:=rfl
theorem adV {k:Int} {l:List aG}:∀ (r:List dW) (i:Int),i<=k->k<i+r.length->N.afM k l i r=r.set (k-i).toNat ⟨(r.getD (k-i).toNat row0).q,l⟩
 | [],i,h1,h2=>by simp at h2; omega
 | x::r,i,h1,h2=>by
  rw [JD]
  by_cases e:i=k
  .subst e
   have h0:(i-i).toNat=0:=by omega
   have hs:∀ (r:List dW) (j:Int),i<j->N.afM i l j r=r:=fun r=>by
    induction r with
    | nil=>intro j _; rfl
    | cons y t ih =>
     intro j hj
     rw [JD,AO (by omega),ih (j+1) (by omega)]; rfl
   rw [h0,Gw rfl,hs r (i+1) (by omega)]; rfl
  .rw [AO e,adV r (i+1) (by omega) (by rw [List.length_cons] at h2; omega)]
   have h0:(k-i).toNat=(k-(i+1)).toNat+1:=by omega
   rw [h0]; rfl
noncomputable def akH:Env:=env Tryz.prog [] [] []
theorem anI (b n:Int):bM akH 31 ((aO (cu .u64) (aW (cu .i64))).enc (b,n)) ([]) some =
 some {v:=.agg [V.int .u64 b,.int .i64 (bif aZ n 0 then 0 else n),.slc yR [],.int .u64 0,.slc yM [],.int .u64 0,.slc yM [],.int .u64 0,.slc yM [],.int .u64 0,.slc yM [],.int .u64 0,.slc yM [],.int .u64 0,.slc yM [],.int .u64 0,.slc yM [],.int .u64 0,.slc yM [],.int .u64 0,.slc yM [],.int .u64 0,.slc yM [],.int .u64 0,.slc yM [],.int .u64 0,.slc yM [],.int .u64 0,.slc yM [],.int .u64 0,.slc yM [],.int .u64 0,.slc yM [],.int .u64 0,.slc yM []],bx:=[]:aH}:=by kernel_rfl
theorem akI:bH Tryz.prog 31 Tm:=by
 refine aK (aT (fK.nil _)) (E:=akH) Tryz.func31 [] (by kernel_rfl) (none0) fun a b hp=>?_
 refine (anI a.1 a.2).trans ?_
 show _=some (⟨.agg (au.enc (N.sNew a.1 a.2)),[],[]⟩:aH)
 unfold N.sNew
 cases h1:aZ 0 a.2 with
 | true =>
  have:=jZ h1
  rw [iG (by omega)]; rfl
 | false =>
  cases h2:aZ a.2 0 with
  | true=>rfl
  | false =>
   have e:a.2=0:=by have:=fD h1; have:=fD h2; omega
   rw [e]; rfl
noncomputable def YS:Env:=env Tryz.prog [(42,GK)] [] []
theorem afN (q:dZ):bM YS 131 ((aW (bg lT)).enc q) ([]) some =
 cond (N.name q.name==0) (cond (aZ q.most 1) (some {v:=.int .i64 7,bx:=[]:aH}) (cond (aZ 64 q.most) (some {v:=.int .i64 7,bx:=[]:aH}) (cond (N.name q.name==0) (cond (!dZ.dead q==[]) (some {v:=.int .i64 (N.name q.dead),bx:=[]:aH}) (some {v:=.int .i64 (N.name q.name),bx:=[]:aH})) (some {v:=.int .i64 (N.name q.name),bx:=[]:aH})))) (cond (N.name q.name==0) (cond (!dZ.dead q==[]) (some {v:=.int .i64 (N.name q.dead),bx:=[]:aH}) (some {v:=.int .i64 (N.name q.name),bx:=[]:aH})) (some {v:=.int .i64 (N.name q.name),bx:=[]:aH})):=by kernel_rfl
theorem abD:bH Tryz.prog 131 Mc:=by
 refine aK (aT ((fK.nil _).cons E8)) (E:=YS) Tryz.func131 [] (by kernel_rfl) (none0) fun a b hp=>?_
 refine (afN a).trans ?_
 show _=some (⟨.int .i64 (N.jq a),[],[]⟩:aH)
 unfold N.jq
 cases h1:N.name a.name==0 with
 | false=>rw [bne,h1]; rfl
 | true =>
  rw [bne,h1]
  have e:=aY h1
  cases aZ a.most 1<;>cases aZ 64 a.most<;>first | rfl | (cases a.dead==[]<;>first | rfl | (simp only [cond_true,cond_false,Bool.not_true]; rw [e]))
def afO:fP:={ fr:=[(1,.str),(8,.slc yR),(9,.int .i64),(10,.int .i64)],tab:=[] }
def adW:List Leaf->(Ex->St->Option R)->Option R
 | [.s s1,.r r8,.i i9,.i i10],K=>cond (i9==r8.length) (cond (i10==0) (cond (Nat.ble r8.length 1000) (cond (bU 0 (N.FM (N.isRow s1) ((r8).map aS.dec) ((r8.length:Int)-((r8).length:Int)))) (K .ret { fr:=[(4,.int .i64 (N.FM (N.isRow s1) ((r8).map aS.dec) ((r8.length:Int)-((r8).length:Int))))],tab:=[] }) (K (.exit 0) { fr:=[],tab:=[] })) none) none) none
 | _,_=>none
noncomputable def Io:Env:=env Tryz.prog [] [(2,dJ afO adW)] [(2,[(0,[1,8,9,10]),(1,[]),(1000,[4])])]
theorem akJ (s:aF) (n:Bytes):bM Io 93 ((aO (bg au) (aW fV)).enc (s,n)) ([]) some =
 cond ((↑(List.length (List.map (ah.enc aS) s.rows)):Int)==(↑(List.length (List.map (ah.enc aS) s.rows)):Int)) (cond (Nat.ble (List.length (List.map (ah.enc aS) s.rows)) 1000) (cond (bU 0 (N.FM (N.isRow n) (List.map (ah.dec aS) (List.map (ah.enc aS) s.rows)) ((↑(List.length (List.map (ah.enc aS) s.rows)):Int)-(↑(List.length (List.map (ah.enc aS) s.rows)):Int)))) (some {v:=.int .i64 (N.FM (N.isRow n) (List.map (ah.dec aS) (List.map (ah.enc aS) s.rows)) ((↑(List.length (List.map (ah.enc aS) s.rows)):Int)-(↑(List.length (List.map (ah.enc aS) s.rows)):Int))),bx:=[]:aH}) (some {v:=.int .i64 (-1:Int),bx:=[]:aH})) none) none:=by kernel_rfl
theorem TF (s1:Bytes) (r8:List (List V)) (i9:Int) (i10:Int) (K:Ex->St->Option R):bI Io 93 2 { fr:=[(1,.str s1),(8,.slc yR r8),(9,.int .i64 i9),(10,.int .i64 i10)],tab:=[] } K =
 cond (aZ i10 i9) (cond (decide (0<=i10∧i10<(↑(List.length r8):Int))) (cond (V.toStr (List.getD (List.getD r8 (Int.toNat i10) []) 0 V.undef)==s1) (K .ret {fr:=[(4,.int .i64 i10)],tab:=[]:St}) (K .normal {fr:=[(1,.str s1),(8,.slc yR r8),(9,.int .i64 i9),(10,.int .i64 (IntKind.wrap .i64 (i10+1)))],tab:=[]:St})) none) (K (.exit 0) {fr:=[],tab:=[]:St}):=by kernel_rfl
theorem YT:dB Io 93 2:=by
 refine bf rfl fun l K q h=>?_
 unfold adW at h
 split at h
 .rename_i s1 r8 i9 i10
  replace h:=Lm h;obtain ⟨h1,h2,h3,h⟩:=h
  have e1:=aY h1
  have e2:=aY h2
  subst e1 e2
  have h3:r8.length<=1000:=aX h3
  have main:=dh (E:=Io) (f:=93) (id:=2) (A:=Unit) (r8) (fun a i=>{ fr:=[(1,.str s1),(8,.slc yR r8),(9,.int .i64 r8.length),(10,.int .i64 i)],tab:=[] }) (fun a i=>True)
   (fun a rows K=>cond (bU 0 (N.FM (N.isRow s1) ((rows).map aS.dec) ((r8.length:Int)-((rows).length:Int)))) (K .ret { fr:=[(4,.int .i64 (N.FM (N.isRow s1) ((rows).map aS.dec) ((r8.length:Int)-((rows).length:Int))))],tab:=[] }) (K (.exit 0) { fr:=[],tab:=[] })) (fun a i ha hi=>?_) (fun a ha=>?_) (()) 0 (Int.le_refl _) (by omega) trivial K q (by assumption)
  .exact main
  .have hq:=fun K=>TF (s1) (r8) (r8.length) ((i:Int)) K
   have t1:aZ (i:Int) r8.length=true:=dK (by omega)
   have t2:decide ((0:Int)<=i∧(i:Int)<r8.length)=true:=decide_eq_true (by omega)
   have t3:IntKind.wrap .i64 ((i:Int)+1)=(i:Int)+1:=dY (by omega) (by omega)
   have hle:((r8.getD i []::r8.drop (i+1)).length:Int)=r8.length-i:=by rw [List.length_cons,List.length_drop]; omega
   have hle2:((r8.drop (i+1)).length:Int)=r8.length-(i+1):=by rw [List.length_drop]; omega
   simp only [Int.toNat_natCast] at hq
   simp only [t1,t2,t3,cond_true] at hq
   simp only [hle,hle2,List.map_cons,YE,show (r8.length:Int)-(r8.length-i)=i from by omega,show (r8.length:Int)-(r8.length-(i+1))=i+1 from by omega]
   cases hc:N.isRow s1 (aS.dec (r8.getD i [])) with
   | true =>
    have hc' : (V.toStr (List.getD (List.getD r8 i []) 0 V.undef)==s1)=true:=hc
    refine .inr ⟨.ret,{ fr:=[(4,.int .i64 (i:Int))],tab:=[] },by simp,fun K=>?_,fun K=>?_⟩
    .rw [hq,hc']; rfl
    .simp only [cond_true]
     rw [dX (by omega)]; rfl
   | false =>
    have hc' : (V.toStr (List.getD (List.getD r8 i []) 0 V.undef)==s1)=false:=hc
    refine .inl ⟨(),trivial,fun K=>?_,fun K=>rfl⟩
    rw [hq,hc']
    try rfl
  .refine ⟨.exit 0,_,by simp,fun K=>?_,fun K=>rfl⟩
   rw [TF]
   simp (disch:=omega) only [evs]
   try rfl
 .cases h
theorem tJ:bH Tryz.prog 93 CW:=by
 refine aK (aT (fK.nil _)) (E:=Io) Tryz.func93 [2] (by kernel_rfl) (one1 YT) fun a b hp=>?_
 obtain ⟨s,n⟩:=a
 have hp:s.rows.length<=100:=yG hp
 refine (akJ s n).trans ?_
 simp only [bn,List.length_map,beq_self_eq_true,cond_true,dN (show s.rows.length<=1000 by omega),Int.sub_self]
 show _=some (⟨.int .i64 (N.FM (N.isRow n) s.rows 0),[],[]⟩:aH)
 cases hc:bU 0 (N.FM (N.isRow n) s.rows 0) with
 | true=>rfl
 | false=>rw [adG hc]; rfl
def N.PY (k:Int) (l:List (List V)):Int->List (List V)->List (List V)
 | _,[]=>[]
 | i,r::rs=>cond (i==k) [V.str (V.toStr (List.getD r 0 .undef)),V.int .u64 (V.toInt (List.getD r 1 .undef)),V.int .u64 (V.toInt (List.getD r 2 .undef)),V.str (V.toStr (List.getD r 3 .undef)),V.slc abh l] (aB CP 0 r)::N.PY k l (i+1) rs
theorem PZ (k:Int) (l:List (List V)) (i:Int) (r:List V) (rs:List (List V)):N.PY k l i (r::rs)=cond (i==k) [V.str (V.toStr (List.getD r 0 .undef)),V.int .u64 (V.toInt (List.getD r 1 .undef)),V.int .u64 (V.toInt (List.getD r 2 .undef)),V.str (V.toStr (List.getD r 3 .undef)),V.slc abh l] (aB CP 0 r)::N.PY k l (i+1) rs:=rfl
theorem TG {k:Int} {l:List aG}:∀ (r:List dW) (i:Int),N.PY k (l.map aj.enc) i (r.map aS.enc)=(N.afM k l i r).map aS.enc
 | [],_=>rfl
 | x::r,i=>by
  rw [List.map_cons,PZ,JD,TG r (i+1)]
  cases i==k<;>rfl
def D8:Den:=den (aO (bg au) (aO (cu .i64) (aW (jY aj)))) dw (oV (bg au)) (fun a _=>ni a.1 a.2.1) fun a _=>(N.iH a.1 a.2.1 a.2.2,())
def afP:fP:={ fr:=[(1,.int .i64),(2,.slc yI),(3,.ptr 10000 0 0),(6,.ptr 10001 0 0),(7,.own 10002),(11,.slc yR),(12,.int .i64),(13,.int .i64)],tab:=[(10000,.row [] aA),(10001,.row [] aA),(10002,.sl yR)] }
def adX:List Leaf->(Ex->St->Option R)->Option R
 | [.i i1,.r r2,.r r11,.i i12,.i i13,.c cZ,.c iT,.r yK],K=>cond (i12==r11.length) (cond (i13==0) (cond (Nat.ble r11.length 1000) (cond (Nat.beq yK.length 0) (K (.exit 0) { fr:=[(3,.ptr 10000 0 0 0),(6,.ptr 10001 0 0 0),(7,.own 10002 0)],tab:=[(10000,.var (aB aA 0 cZ)),(10001,.var (aB aA 0 iT)),(10002,.sl yR ([]++N.PY i1 r2 ((r11.length:Int)-((r11).length:Int)) (r11)) 0)] }) none) none) none) none
 | _,_=>none
noncomputable def Ip:Env:={ env Tryz.prog [] [(3,dJ afP adX)] [(3,[(0,[1,2,3,6,7,11,12,13]),(1,[3,6,7]),(1000,[6])])] with fz:=true }
theorem akK (s:aF) (k:Int) (l:List aG):bM Ip 133 ((aO (bg au) (aO (cu .i64) (aW (jY aj)))).enc (s,k,l)) ([]) some =
 cond ((↑(List.length (List.map (ah.enc aS) s.rows)):Int)==(↑(List.length (List.map (ah.enc aS) s.rows)):Int)) (cond (Nat.ble (List.length (List.map (ah.enc aS) s.rows)) 1000) (some {v:=.agg (V.int .u64 s.next::V.int .i64 s.bytes::V.slc yR ([]++N.PY k (List.map (ah.enc aj) l) ((↑(List.length (List.map (ah.enc aS) s.rows)):Int)-(↑(List.length (List.map (ah.enc aS) s.rows)):Int)) (List.map (ah.enc aS) s.rows))::eU s.rises),bx:=[]:aH}) none) none:=by kernel_rfl
theorem TI (i1:Int) (r2:List (List V)) (r11:List (List V)) (i12:Int) (i13:Int) (cZ:List V) (iT:List V) (yK:List (List V)) (K:Ex->St->Option R):bI Ip 133 3 { fr:=[(1,.int .i64 i1),(2,.slc yI r2),(3,.ptr 10000 0 0 0),(6,.ptr 10001 0 0 0),(7,.own 10002 0),(11,.slc yR r11),(12,.int .i64 i12),(13,.int .i64 i13)],tab:=[(10000,.var (aB aA 0 cZ)),(10001,.var (aB aA 0 iT)),(10002,.sl yR yK 0)] } K =
 cond (aZ i13 i12) (cond (decide (0<=i13∧i13<(↑(List.length r11):Int))) (cond (i13==i1) (cond (decide ((List.length yK+1)*72<=140737488355328)) (K .normal {fr:=[(1,.int .i64 i1),(2,.slc yI r2),(3,.ptr 10000 0 0 0),(6,.ptr 10001 0 0 0),(7,.own 10002 0),(11,.slc yR r11),(12,.int .i64 i12),(13,.int .i64 (IntKind.wrap .i64 (i13+1)))],tab:=[(10000,.var (aB aA 0 cZ)),(10001,.var (aB aA 0 iT)),(10002,.sl yR (yK++[[V.str (V.toStr (List.getD (List.getD r11 (Int.toNat i13) []) 0 V.undef)),.int .u64 (V.toInt (List.getD (List.getD r11 (Int.toNat i13) []) 1 V.undef)),.int .u64 (V.toInt (List.getD (List.getD r11 (Int.toNat i13) []) 2 V.undef)),.str (V.toStr (List.getD (List.getD r11 (Int.toNat i13) []) 3 V.undef)),.slc yI r2]]) 0)]:St}) none) (cond (decide ((List.length yK+1)*72<=140737488355328)) (K .normal {fr:=[(1,.int .i64 i1),(2,.slc yI r2),(3,.ptr 10000 0 0 0),(6,.ptr 10001 0 0 0),(7,.own 10002 0),(11,.slc yR r11),(12,.int .i64 i12),(13,.int .i64 (IntKind.wrap .i64 (i13+1)))],tab:=[(10000,.var (aB aA 0 cZ)),(10001,.var (aB aA 0 iT)),(10002,.sl yR (yK++[aB CP 0 (List.getD r11 (Int.toNat i13) [])]) 0)]:St}) none)) none) (K (.exit 0) {fr:=[(3,.ptr 10000 0 0 0),(6,.ptr 10001 0 0 0),(7,.own 10002 0)],tab:=[(10000,.var (aB aA 0 cZ)),(10001,.var (aB aA 0 iT)),(10002,.sl yR yK 0)]:St}):=by kernel_rfl
theorem YU:dB Ip 133 3:=by
 refine bf rfl fun l K q h=>?_
 unfold adX at h
 split at h
 .rename_i i1 r2 r11 i12 i13 cZ iT yK
  replace h:=UG h;obtain ⟨h1,h2,h3,h4,h⟩:=h
  have e1:=aY h1
  have e2:=aY h2
  subst e1 e2
  have h3:r11.length<=1000:=aX h3
  have e3:=List.eq_nil_of_length_eq_zero (jk h4)
  subst e3
  have main:=dh (E:=Ip) (f:=133) (id:=3) (A:=List (List V)) (r11) (fun a i=>{ fr:=[(1,.int .i64 i1),(2,.slc yI r2),(3,.ptr 10000 0 0 0),(6,.ptr 10001 0 0 0),(7,.own 10002 0),(11,.slc yR r11),(12,.int .i64 r11.length),(13,.int .i64 i)],tab:=[(10000,.var (aB aA 0 cZ)),(10001,.var (aB aA 0 iT)),(10002,.sl yR a 0)] }) (fun a i=>a.length<=i)
   (fun a rows K=>K (.exit 0) { fr:=[(3,.ptr 10000 0 0 0),(6,.ptr 10001 0 0 0),(7,.own 10002 0)],tab:=[(10000,.var (aB aA 0 cZ)),(10001,.var (aB aA 0 iT)),(10002,.sl yR (a++N.PY i1 r2 ((r11.length:Int)-((rows).length:Int)) (rows)) 0)] }) (fun a i ha hi=>?_) (fun a ha=>?_) ([]) 0 (Int.le_refl _) (by omega) (Nat.zero_le _) K q (by assumption)
  .exact main
  .have hq:=fun K=>TI (i1) (r2) (r11) (r11.length) ((i:Int)) (cZ) (iT) (a) K
   have t1:aZ (i:Int) r11.length=true:=dK (by omega)
   have t2:decide ((0:Int)<=i∧(i:Int)<r11.length)=true:=decide_eq_true (by omega)
   have t3:IntKind.wrap .i64 ((i:Int)+1)=(i:Int)+1:=dY (by omega) (by omega)
   have hle:((r11.getD i []::r11.drop (i+1)).length:Int)=r11.length-i:=by rw [List.length_cons,List.length_drop]; omega
   have hle2:((r11.drop (i+1)).length:Int)=r11.length-(i+1):=by rw [List.length_drop]; omega
   have t5:decide ((a.length+1)*72<=140737488355328)=true:=decide_eq_true (by omega)
   simp only [Int.toNat_natCast] at hq
   simp only [t1,t2,t3,cond_true,t5] at hq
   simp only [hle,hle2,PZ,show (r11.length:Int)-(r11.length-i)=i from by omega,show (r11.length:Int)-(r11.length-(i+1))=i+1 from by omega]
   cases hc:(i:Int)==i1 with
   | true =>
    refine .inl ⟨a++[[V.str (V.toStr (List.getD (r11.getD i []) 0 .undef)),V.int .u64 (V.toInt (List.getD (r11.getD i []) 1 .undef)),V.int .u64 (V.toInt (List.getD (r11.getD i []) 2 .undef)),V.str (V.toStr (List.getD (r11.getD i []) 3 .undef)),V.slc abh r2]],by rw [List.length_append]; simp only [List.length_cons,List.length_nil]; omega,fun K=>?_,fun K=>?_⟩
    .rw [hq,hc]
     try rfl
    .simp only [cond_true,List.append_assoc,List.singleton_append]
   | false =>
    refine .inl ⟨a++[aB CP 0 (r11.getD i [])],by rw [List.length_append]; simp only [List.length_cons,List.length_nil]; omega,fun K=>?_,fun K=>?_⟩
    .rw [hq,hc]
     try rfl
    .simp only [cond_false,List.append_assoc,List.singleton_append]
  .refine ⟨.exit 0,{ fr:=[(3,.ptr 10000 0 0 0),(6,.ptr 10001 0 0 0),(7,.own 10002 0)],tab:=[(10000,.var (aB aA 0 cZ)),(10001,.var (aB aA 0 iT)),(10002,.sl yR a 0)] },by simp,fun K=>?_,fun K=>by show K _ { fr:=_,tab:=[_,_,(10002,.sl _ (a++[]) 0)] }=_; rw [List.append_nil]⟩
   rw [TI]
   simp (disch:=omega) only [evs]
   try rfl
 .cases h
theorem zB:bH Tryz.prog 133 D8:=by
 refine aK (aT (fK.nil _)) (E:=Ip) Tryz.func133 [3] (by kernel_rfl) (one1 YU) fun a b hp=>?_
 obtain ⟨s,k,l⟩:=a
 obtain ⟨h1,h2,h3⟩:=PE (show ni s k=true from hp)
 refine (akK s k l).trans ?_
 simp only [List.length_map,beq_self_eq_true,cond_true,dN (show s.rows.length<=1000 by omega),Int.sub_self,List.nil_append,TG]
 rw [adV s.rows 0 h2 (by omega),Int.sub_zero]
 try rfl
end Go.Ev

namespace Go.Ev
open Go Go.Proofs
set_option maxRecDepth 100000
-- FOLD2
namespace N
def wK (x:aG):Bytes:=bW (qp x) 1++mQ x.aQ
def ny:List aG->Bytes
 | []=>[]
 | x::r=>wK x++ny r
def rowB (x:dW):Bytes:=dS x.q.name++bW x.q.most 8++bW x.q.life 8++dS x.q.dead++bW x.line.length 1++ny x.line
def lQ:List dW->Bytes
 | []=>[]
 | x::r=>rowB x++lQ r
def FD:Int->List aC->Bytes
 | _,[]=>[]
 | k,x::r=>cond (aZ 0 x.total) (bW k 1++mW x++FD (k+1) r) (FD (k+1) r)
def jR:List aC->Int
 | []=>0
 | x::r=>cond (aZ 0 x.total) (1+jR r) (jR r)
def tK (s:aF):Bytes:=bW s.next 8++bW s.rows.length 1++lQ s.rows++bW (jR s.rises.list) 1++FD 0 s.rises.list
def u64 (n:Int):Bool:=cond (bU 0 n) (aZ n 18446744073709551616) false
end N
def zC (l:List aG):Bool:=cond (Nat.ble l.length 100) (cond (l.all dR) (l.all fun x=>N.fH x.aQ) false) false
def uS (x:dW):Bool:=cond (cond (Nat.ble x.q.name.length 1000) (Nat.ble x.q.dead.length 1000) false) (cond (cond (N.u64 x.q.most) (N.u64 x.q.life) false) (zC x.line) false) false
def nU (s:aF):Bool:=cond (cond (Nat.ble s.rows.length 100) (s.rows.all uS) false) (cond (s.rises.list.all fJ) (N.u64 s.next) false) false
theorem P5 {n:Int} (h:N.u64 n=true):0<=n∧n<18446744073709551616:=by
 obtain ⟨h1,h2⟩:=aP h
 exact ⟨bQ h1,jZ h2⟩
theorem Aq {l:List aG} (h:zC l=true):l.length<=100∧ig l=true∧(l.all fun x=>N.fH x.aQ)=true:=by
 obtain ⟨h1,h2⟩:=aP h
 obtain ⟨h2,h3⟩:=aP h2
 have h1:=aX h1
 refine ⟨h1,?_,h3⟩
 unfold ig
 rw [dN (show l.length<=1000 by omega),h2]; rfl
theorem Dc {x:dW} (h:uS x=true):(x.q.name.length<=1000∧x.q.dead.length<=1000)∧(0<=x.q.most∧x.q.most<18446744073709551616)∧(0<=x.q.life∧x.q.life<18446744073709551616)∧zC x.line=true:=by
 obtain ⟨h1,h2⟩:=aP h
 obtain ⟨h1,h3⟩:=aP h1
 obtain ⟨h2,h4⟩:=aP h2
 obtain ⟨h2,h5⟩:=aP h2
 exact ⟨⟨aX h1,aX h3⟩,P5 h2,P5 h5,h4⟩
theorem YV (x:aG):0<=N.qp x∧N.qp x<=3:=by
 unfold N.qp
 cases x.again<;>cases x.eF<;>decide
theorem JE {x:aG} (h:N.fH x.aQ=true):(N.wK x).length<=1571:=by
 have:=tH (pV h).2.1
 unfold N.wK
 rw [List.length_append,fB]; omega
theorem P6:∀ {l:List aG},(l.all fun x=>N.fH x.aQ)=true->(N.ny l).length<=1571*l.length
 | [],_=>Nat.le_refl _
 | x::r,h=>by
  rw [List.all_cons,Bool.and_eq_true] at h
  have h1:=JE h.1
  have h2:=P6 h.2
  show (N.wK x++N.ny r).length<=1571*(r.length+1)
  rw [List.length_append]; omega
theorem P7 {x:dW} (h:uS x=true):(N.rowB x).length<=160000:=by
 obtain ⟨⟨h1,h2⟩,_,_,h3⟩:=Dc h
 obtain ⟨h4,_,h5⟩:=Aq h3
 have h6:=P6 h5
 unfold N.rowB
 simp only [List.length_append,fB,kF]
 omega
theorem JF {x:aC} (h:fJ x=true):(N.mW x).length<=26000:=by
 obtain ⟨h1,h2⟩:=aP h
 have h3:=zA h1
 have h4:=OJ h2
 unfold N.mW
 simp only [List.length_append,fB]
 omega
def Iq:Den:=den (aW (bg au)) dw (oV fV) (fun s _=>nU s) fun s _=>(N.tK s,())
def abE:fP:={ fr:=[(1,.ptr 10000 0 0),(3,.ptr 10001 0 0),(24,.slc yR),(25,.int .i64),(26,.int .i64)],tab:=[(10000,.row [] aA),(10001,.var [.str,.int .i64])] }
def YW:List Leaf->(Ex->St->Option R)->Option R
 | [.r yT,.i i25,.i i26,.c cZ,.s rX,.i oL],K=>cond (i25==yT.length) (cond (i26==0) (cond (Nat.ble yT.length 100) (cond (oL==0) (cond (Nat.ble rX.length 1000) (cond ((yT.map aS.dec).all uS) (K (.exit 0) { fr:=[(1,.ptr 10000 0 0 0),(3,.ptr 10001 0 0 0)],tab:=[(10000,.var (aB aA 0 cZ)),(10001,.var [.str (rX++N.lQ ((yT).map aS.dec)),.int .i64 0])] }) none) none) none) none) none) none
 | _,_=>none
def abG:fP:={ fr:=[(1,.ptr 10000 0 0),(3,.ptr 10001 0 0),(24,.slc yR),(25,.int .i64),(26,.int .i64),(54,.slc yI),(55,.int .i64),(56,.int .i64)],tab:=[(10000,.row [] aA),(10001,.var [.str,.int .i64])] }
def YX:List Leaf->(Ex->St->Option R)->Option R
 | [.r yT,.i i25,.i i26,.r JG,.i i55,.i i56,.c cZ,.s rX,.i oL],K=>cond (i55==JG.length) (cond (i56==0) (cond (Nat.ble JG.length 100) (cond (oL==0) (cond (Nat.ble rX.length 100000000) (cond ((JG.map aj.dec).all fun x=>N.fH x.aQ) (K (.exit 2) { fr:=[(1,.ptr 10000 0 0 0),(3,.ptr 10001 0 0 0),(24,.slc yR yT),(25,.int .i64 i25),(26,.int .i64 i26)],tab:=[(10000,.var (aB aA 0 cZ)),(10001,.var [.str (rX++N.ny ((JG).map aj.dec)),.int .i64 0])] }) none) none) none) none) none) none
 | _,_=>none
def YZ:fP:={ fr:=[(3,.ptr 10000 0 0),(10,.ptr 10001 0 0),(11,.int .u64),(75,.rowA jD),(76,.int .i64)],tab:=[(10000,.var [.str,.int .i64]),(10001,.var [.str,.int .i64])] }
def TJ:List Leaf->(Ex->St->Option R)->Option R
 | [.i i11,.c c75,.i i76,.s Ae,.i Ee,.s rX,.i oL],K=>cond (i76==0) (cond (oL==0) (cond (i11==0) (cond (Nat.beq rX.length 0) (cond (((bF c75 0).map bD.dec).all fJ) (K (.exit 4) { fr:=[(3,.ptr 10000 0 0 0),(10,.ptr 10001 0 0 0),(11,.int .u64 (((0,[]):Int × Bytes).1+N.jR (((bF c75 0)).map bD.dec)))],tab:=[(10000,.var [.str Ae,.int .i64 Ee]),(10001,.var [.str (((0,[]):Int × Bytes).2++N.FD (16-(((bF c75 0)).length:Int)) (((bF c75 0)).map bD.dec)),.int .i64 0])] }) none) none) none) none) none
 | _,_=>none
noncomputable def rY:Env:={ env Tryz.prog [(95,fZ),(96,BL),(15,adl),(97,ai2),(98,wE),(99,akC),(100,GH),(101,aaY),(102,Vr),(103,tq)] [(16,dJ YZ TJ),(7,dJ abG YX),(3,dJ abE YW)] [(3,[(0,[1,3,24,25,26]),(1,[1,3]),(1000,[2])]),(7,[(0,[1,3,24,25,26,54,55,56]),(3,[1,3,24,25,26]),(1000,[2])]),(16,[(0,[3,10,11,75,76]),(5,[3,10,11]),(1000,[2])])] with fz:=true }
theorem akL (s:aF):type_of% (by
  have h:bM rY 33 ((aW (bg au)).enc s) ([]) some =(
   let z1:=(List.map (ah.enc aS) s.rows);let z3:=(↑(List.length z1):Int);let z4:=(N.jl (N.jl {s:=[],err:=0:iK} s.next 8) (IntKind.wrap .u64 z3) 1);let z2:=(List.map (ah.dec bD) (iV s.rises));let z0:=(N.jl {s:=iK.s z4++N.lQ (List.map (ah.dec aS) z1),err:=0:iK} (0+N.jR z2) 1);cond (bif bU 0 s.next then bif aZ s.next 18446744073709551616 then true else false else false) (cond (bif aZ (IntKind.wrap .u64 z3) 18446744073709551616 then true else false) (cond (z3==z3) (cond (Nat.ble (List.length z1) 100) (cond (List.all (List.map (ah.dec aS) z1) uS) (cond (List.all z2 fJ) (cond (bif bU 0 (0+N.jR z2) then bif aZ (0+N.jR z2) 18446744073709551616 then Nat.ble (List.length (iK.s z4++N.lQ (List.map (ah.dec aS) z1))) 9223372036854775799 else false else false) (cond (Nat.ble (List.length (iK.s z0)+List.length ([]++N.FD (16-(↑(16:Nat):Int)) z2)) 9223372036854775807) (some {v:=.str (iK.s (N.sZ z0 ([]++N.FD (16-(↑(16:Nat):Int)) z2))),bx:=[]:aH}) none) none) none) none) none) none) none) none):=by kernel_rfl
  dsimp only at h;exact h):=by kernel_rfl
theorem P8 (yT:List (List V)) (i25:Int) (i26:Int) (cZ:List V) (rX:Bytes) (oL:Int) (K:Ex->St->Option R):type_of% (by
  have h:bI rY 33 3 { fr:=[(1,.ptr 10000 0 0 0),(3,.ptr 10001 0 0 0),(24,.slc yR yT),(25,.int .i64 i25),(26,.int .i64 i26)],tab:=[(10000,.var (aB aA 0 cZ)),(10001,.var [.str rX,.int .i64 oL])] } K =(
   let z0:=(List.getD yT (Int.toNat i26) []);let z5:=(N.kE {s:=rX,err:=oL:iK} (V.toStr (z0.getD 0 .undef)));let z6:=(V.toInt (z0.getD 1 .undef));let z7:=(V.toInt (z0.getD 2 .undef));let z1:=(N.jl (N.jl z5 z6 8) z7 8);let z2:=(List.map (ah.dec aj) (V.toRows (z0.getD 4 .undef)));let z8:=(V.toStr (z0.getD 3 .undef));let z3:=(N.jl (N.kE z1 z8) (IntKind.wrap .u64 (↑(List.length z2):Int)) 1);let z4:=(List.map (ah.enc aj) z2);cond (aZ i26 i25) (cond (decide (0<=i26∧i26<(↑(List.length yT):Int))) (cond (Nat.ble (List.length rX+List.length (V.toStr (z0.getD 0 .undef))) 9223372036854775790) (cond (bif bU 0 z6 then bif aZ z6 18446744073709551616 then Nat.ble (List.length (iK.s z5)) 9223372036854775799 else false else false) (cond (bif bU 0 z7 then bif aZ z7 18446744073709551616 then Nat.ble (List.length (iK.s (N.jl z5 z6 8))) 9223372036854775799 else false else false) (cond (Nat.ble (List.length (iK.s z1)+List.length z8) 9223372036854775790) (cond (bif aZ (IntKind.wrap .u64 (↑(List.length z2):Int)) 18446744073709551616 then Nat.ble (List.length (iK.s (N.kE z1 z8))) 9223372036854775799 else false) (cond (ig z2) (cond ((↑(List.length z4):Int)==(↑(List.length z4):Int)) (cond (Nat.ble (List.length z4) 100) (cond (iK.err z3==0) (cond (Nat.ble (List.length (iK.s z3)) 100000000) (cond (List.all (List.map (ah.dec aj) z4) fun x=>N.fH x.aQ) (K .normal {fr:=[(1,.ptr 10000 0 0 0),(3,.ptr 10001 0 0 0),(24,.slc yR yT),(25,.int .i64 i25),(26,.int .i64 (IntKind.wrap .i64 (i26+1)))],tab:=[(10000,.var (aB aA 0 cZ)),(10001,.var [V.str (iK.s z3++N.ny (List.map (ah.dec aj) z4)),.int .i64 0])]:St}) none) none) none) none) none) none) none) none) none) none) none) none) (K (.exit 0) {fr:=[(1,.ptr 10000 0 0 0),(3,.ptr 10001 0 0 0)],tab:=[(10000,.var (aB aA 0 cZ)),(10001,.var [V.str rX,.int .i64 oL])]:St})):=by kernel_rfl
  dsimp only at h;exact h):=by kernel_rfl
theorem P9 (yT:List (List V)) (i25:Int) (i26:Int) (JG:List (List V)) (i55:Int) (i56:Int) (cZ:List V) (rX:Bytes) (oL:Int) (K:Ex->St->Option R):type_of% (by
  have h:bI rY 33 7 { fr:=[(1,.ptr 10000 0 0 0),(3,.ptr 10001 0 0 0),(24,.slc yR yT),(25,.int .i64 i25),(26,.int .i64 i26),(54,.slc yI JG),(55,.int .i64 i55),(56,.int .i64 i56)],tab:=[(10000,.var (aB aA 0 cZ)),(10001,.var [.str rX,.int .i64 oL])] } K =(
   let z3:=(ah.dec ak (List.getD JG (Int.toNat i56) []));let z0:=(Prod.fst (bif N.aV z3 != 0 then ([],N.aV z3) else (N.mQ z3,0)));let z1:=(N.qp (ah.dec aj (List.getD JG (Int.toNat i56) [])));let z2:=(N.jl {s:=rX,err:=oL:iK} z1 1);cond (aZ i56 i55) (cond (decide (0<=i56∧i56<(↑(List.length JG):Int))) (cond (N.vC z3) (cond (bif bU 0 z1 then bif aZ z1 18446744073709551616 then Nat.ble (List.length rX) 9223372036854775799 else false else false) (cond (Nat.ble (List.length (iK.s z2)+List.length z0) 9223372036854775807) (K .normal {fr:=[(1,.ptr 10000 0 0 0),(3,.ptr 10001 0 0 0),(24,.slc yR yT),(25,.int .i64 i25),(26,.int .i64 i26),(54,.slc yI JG),(55,.int .i64 i55),(56,.int .i64 (IntKind.wrap .i64 (i56+1)))],tab:=[(10000,.var (aB aA 0 cZ)),(10001,.var [V.str (iK.s (N.sZ z2 z0)),.int .i64 (iK.err (N.sZ z2 z0))])]:St}) none) none) none) none) (K (.exit 2) {fr:=[(1,.ptr 10000 0 0 0),(3,.ptr 10001 0 0 0),(24,.slc yR yT),(25,.int .i64 i25),(26,.int .i64 i26)],tab:=[(10000,.var (aB aA 0 cZ)),(10001,.var [V.str rX,.int .i64 oL])]:St})):=by kernel_rfl
  dsimp only at h;exact h):=by kernel_rfl
theorem KJ (i11:Int) (c75:List V) (i76:Int) (Ae:Bytes) (Ee:Int) (rX:Bytes) (oL:Int) (K:Ex->St->Option R):type_of% (by
  have h:bI rY 33 16 { fr:=[(3,.ptr 10000 0 0 0),(10,.ptr 10001 0 0 0),(11,.int .u64 i11),(75,.agg (aB jD 0 c75)),(76,.int .i64 i76)],tab:=[(10000,.var [.str Ae,.int .i64 Ee]),(10001,.var [.str rX,.int .i64 oL])] } K =(
   let z0:=(ah.dec bD (List.getD (bF c75 0) (Int.toNat i76) []));let z1:=(N.jl {s:=rX,err:=oL:iK} (IntKind.wrap .u64 i76) 1);cond (aZ i76 16) (cond (decide (0<=i76∧i76<(↑(16:Nat):Int))) (cond (aZ 0 (V.toInt (List.getD (List.getD (bF c75 0) (Int.toNat i76) []) 0 V.undef))) (cond (bif bU 0 (IntKind.wrap .u64 i76) then bif aZ (IntKind.wrap .u64 i76) 18446744073709551616 then Nat.ble (List.length rX) 9223372036854775799 else false else false) (cond (fJ z0) (cond (Nat.ble (List.length (iK.s z1)+List.length (N.mW z0)) 9223372036854775807) (K .normal {fr:=[(3,.ptr 10000 0 0 0),(10,.ptr 10001 0 0 0),(11,.int .u64 (IntKind.wrap .u64 (i11+1))),(75,.agg (aB jD 0 c75)),(76,.int .i64 (IntKind.wrap .i64 (i76+1)))],tab:=[(10000,.var [V.str Ae,.int .i64 Ee]),(10001,.var [V.str (iK.s (N.sZ z1 (N.mW z0))),.int .i64 (iK.err (N.sZ z1 (N.mW z0)))])]:St}) none) none) none) (K .normal {fr:=[(3,.ptr 10000 0 0 0),(10,.ptr 10001 0 0 0),(11,.int .u64 i11),(75,.agg (aB jD 0 c75)),(76,.int .i64 (IntKind.wrap .i64 (i76+1)))],tab:=[(10000,.var [V.str Ae,.int .i64 Ee]),(10001,.var [V.str rX,.int .i64 oL])]:St})) none) (K (.exit 4) {fr:=[(3,.ptr 10000 0 0 0),(10,.ptr 10001 0 0 0),(11,.int .u64 i11)],tab:=[(10000,.var [V.str Ae,.int .i64 Ee]),(10001,.var [V.str rX,.int .i64 oL])]:St})):=by kernel_rfl
  dsimp only at h;exact h):=by kernel_rfl
theorem Y0:dB rY 33 3:=by
 refine bf rfl fun l K q h=>?_
 unfold YW at h
 split at h
 .rename_i yT i25 i26 cZ rX oL
  replace h:=cN6 h;obtain ⟨h1,h2,h3,h4,h5,h6,h⟩:=h
  have e1:=aY h1
  have e2:=aY h2
  subst e1 e2
  have h3:yT.length<=100:=aX h3
  have e4:=aY h4
  subst e4
  have h5:rX.length<=1000:=aX h5
  have main:=dh (E:=rY) (f:=33) (id:=3) (A:=Bytes) (yT) (fun a i=>{ fr:=[(1,.ptr 10000 0 0 0),(3,.ptr 10001 0 0 0),(24,.slc yR yT),(25,.int .i64 yT.length),(26,.int .i64 i)],tab:=[(10000,.var (aB aA 0 cZ)),(10001,.var [.str a,.int .i64 0])] }) (fun a i=>a.length<=1000+160000*i)
   (fun a rows K=>K (.exit 0) { fr:=[(1,.ptr 10000 0 0 0),(3,.ptr 10001 0 0 0)],tab:=[(10000,.var (aB aA 0 cZ)),(10001,.var [.str (a++N.lQ ((rows).map aS.dec)),.int .i64 0])] }) (fun a i ha hi=>?_) (fun a ha=>?_) (rX) 0 (Int.le_refl _) (by omega) (by show rX.length<=1000+160000*0; omega) K q (by assumption)
  .exact main
  .have hq:=fun K=>P8 (yT) (yT.length) ((i:Int)) (cZ) (a) (0) K
   have t1:aZ (i:Int) yT.length=true:=dK (by omega)
   have t2:decide ((0:Int)<=i∧(i:Int)<yT.length)=true:=decide_eq_true (by omega)
   have t3:IntKind.wrap .i64 ((i:Int)+1)=(i:Int)+1:=dY (by omega) (by omega)
   have hr:=Dc (jF h6 hi)
   have hl:=Aq hr.2.2.2
   have hbl:=P7 (jF h6 hi)
   have n0:V.toStr (List.getD (List.getD yT i []) 0 V.undef)=(aS.dec (yT.getD i [])).q.name:=rfl
   have n1:V.toInt (List.getD (List.getD yT i []) 1 V.undef)=(aS.dec (yT.getD i [])).q.most:=rfl
   have n2:V.toInt (List.getD (List.getD yT i []) 2 V.undef)=(aS.dec (yT.getD i [])).q.life:=rfl
   have n3:V.toStr (List.getD (List.getD yT i []) 3 V.undef)=(aS.dec (yT.getD i [])).q.dead:=rfl
   have w:=kC (n:=((aS.dec (yT.getD i [])).line.length:Int)) (by omega) (by omega)
   simp only [Int.toNat_natCast,gX,bn,n0,n1,n2,n3] at hq
   simp only [t1,t2,t3,cond_true,hl.2.1,hl.2.2,List.length_map,w] at hq
   obtain ⟨⟨b1,b2⟩,⟨b3,b4⟩,⟨b5,b6⟩,_⟩:=hr
   obtain ⟨b7,_,_⟩:=hl
   refine .inl ⟨a++N.rowB (aS.dec (yT.getD i [])),by rw [List.length_append]; omega,fun K=>?_,fun K=>?_⟩
   .rw [hq]
    simp (disch:=omega) only [evs,Ai,uM,BR,fB,kF]
    unfold N.rowB
    simp only [List.append_assoc]
    try rfl
   .show K _ { fr:=[(1,.ptr 10000 0 0 0),(3,.ptr 10001 0 0 0)],tab:=[(10000,.var (aB aA 0 cZ)),(10001,.var [.str (a++(N.rowB (aS.dec (yT.getD i []))++N.lQ ((yT.drop (i+1)).map aS.dec))),.int .i64 0])] }=_
    rw [List.append_assoc]
  .refine ⟨.exit 0,{ fr:=[(1,.ptr 10000 0 0 0),(3,.ptr 10001 0 0 0)],tab:=[(10000,.var (aB aA 0 cZ)),(10001,.var [.str (a++[]),.int .i64 0])] },by simp,fun K=>?_,fun K=>rfl⟩
   rw [P8,List.append_nil]
   simp (disch:=omega) only [evs]
   try rfl
 .cases h
theorem Y1:dB rY 33 7:=by
 refine bf rfl fun l K q h=>?_
 unfold YX at h
 split at h
 .rename_i yT i25 i26 JG i55 i56 cZ rX oL
  replace h:=cN6 h;obtain ⟨h1,h2,h3,h4,h5,h6,h⟩:=h
  have e1:=aY h1
  have e2:=aY h2
  subst e1 e2
  have h3:JG.length<=100:=aX h3
  have e4:=aY h4
  subst e4
  have h5:rX.length<=100000000:=aX h5
  have main:=dh (E:=rY) (f:=33) (id:=7) (A:=Bytes) (JG) (fun a i=>{ fr:=[(1,.ptr 10000 0 0 0),(3,.ptr 10001 0 0 0),(24,.slc yR yT),(25,.int .i64 i25),(26,.int .i64 i26),(54,.slc yI JG),(55,.int .i64 JG.length),(56,.int .i64 i)],tab:=[(10000,.var (aB aA 0 cZ)),(10001,.var [.str a,.int .i64 0])] }) (fun a i=>a.length<=100000000+1571*i)
   (fun a rows K=>K (.exit 2) { fr:=[(1,.ptr 10000 0 0 0),(3,.ptr 10001 0 0 0),(24,.slc yR yT),(25,.int .i64 i25),(26,.int .i64 i26)],tab:=[(10000,.var (aB aA 0 cZ)),(10001,.var [.str (a++N.ny ((rows).map aj.dec)),.int .i64 0])] }) (fun a i ha hi=>?_) (fun a ha=>?_) (rX) 0 (Int.le_refl _) (by omega) (by show rX.length<=100000000+1571*0; omega) K q (by assumption)
  .exact main
  .have hq:=fun K=>P9 (yT) (i25) (i26) (JG) (JG.length) ((i:Int)) (cZ) (a) (0) K
   have t1:aZ (i:Int) JG.length=true:=dK (by omega)
   have t2:decide ((0:Int)<=i∧(i:Int)<JG.length)=true:=decide_eq_true (by omega)
   have t3:IntKind.wrap .i64 ((i:Int)+1)=(i:Int)+1:=dY (by omega) (by omega)
   have hs:=pV (show N.fH (aj.dec (JG.getD i [])).aQ=true from jF (p:=fun x:aG=>N.fH x.aQ) h6 hi)
   have hbl:=JE (show N.fH (aj.dec (JG.getD i [])).aQ=true from jF (p:=fun x:aG=>N.fH x.aQ) h6 hi)
   have hm:ak.dec (JG.getD i [])=(aj.dec (JG.getD i [])).aQ:=rfl
   have hf:=YV (aj.dec (JG.getD i []))
   have hb:=tH hs.2.1
   simp only [Int.toNat_natCast,hm] at hq
   simp only [t1,t2,t3,cond_true,hs.1,hs.2.1,bne_self_eq_false,cond_false] at hq
   refine .inl ⟨a++N.wK (aj.dec (JG.getD i [])),by rw [List.length_append]; omega,fun K=>?_,fun K=>?_⟩
   .rw [hq]
    simp (disch:=omega) only [evs,uM,Ox,fB]
    unfold N.wK
    simp only [List.append_assoc]
    try rfl
   .show K _ { fr:=[(1,.ptr 10000 0 0 0),(3,.ptr 10001 0 0 0),(24,.slc yR yT),(25,.int .i64 i25),(26,.int .i64 i26)],tab:=[(10000,.var (aB aA 0 cZ)),(10001,.var [.str (a++(N.wK (aj.dec (JG.getD i []))++N.ny ((JG.drop (i+1)).map aj.dec))),.int .i64 0])] }=_
    rw [List.append_assoc]
  .refine ⟨.exit 2,{ fr:=[(1,.ptr 10000 0 0 0),(3,.ptr 10001 0 0 0),(24,.slc yR yT),(25,.int .i64 i25),(26,.int .i64 i26)],tab:=[(10000,.var (aB aA 0 cZ)),(10001,.var [.str (a++[]),.int .i64 0])] },by simp,fun K=>?_,fun K=>rfl⟩
   rw [P9,List.append_nil]
   simp (disch:=omega) only [evs]
   try rfl
 .cases h
theorem VU:dB rY 33 16:=by
 refine bf rfl fun l K q h=>?_
 unfold TJ at h
 split at h
 .rename_i i11 c75 i76 Ae Ee rX oL
  replace h:=Ed h;obtain ⟨h1,h2,h3,h4,h5,h⟩:=h
  have e1:=aY h1
  have e2:=aY h2
  have e3:=aY h3
  have e4:=List.eq_nil_of_length_eq_zero (jk h4)
  subst e1 e2 e3 e4
  have main:=dh (E:=rY) (f:=33) (id:=16) (A:=Int × Bytes) ((bF c75 0)) (fun a i=>{ fr:=[(3,.ptr 10000 0 0 0),(10,.ptr 10001 0 0 0),(11,.int .u64 a.1),(75,.agg (aB jD 0 c75)),(76,.int .i64 i)],tab:=[(10000,.var [.str Ae,.int .i64 Ee]),(10001,.var [.str a.2,.int .i64 0])] }) (fun a i=>a.2.length<=26001*i∧0<=a.1∧a.1<=i)
   (fun a rows K=>K (.exit 4) { fr:=[(3,.ptr 10000 0 0 0),(10,.ptr 10001 0 0 0),(11,.int .u64 (a.1+N.jR ((rows).map bD.dec)))],tab:=[(10000,.var [.str Ae,.int .i64 Ee]),(10001,.var [.str (a.2++N.FD (16-((rows).length:Int)) ((rows).map bD.dec)),.int .i64 0])] }) (fun a i ha hi=>?_) (fun a ha=>?_) (((0,[]):Int × Bytes)) 0 (Int.le_refl _) (by omega) ⟨Nat.zero_le _,Int.le_refl _,Int.le_refl _⟩ K q (by assumption)
  .exact main
  .have hq:=fun K=>KJ (a.1) (c75) ((i:Int)) (Ae) (Ee) (a.2) (0) K
   have hi:i<16:=hi
   have t1:aZ (i:Int) (16:Int)=true:=dK (by omega)
   have t2:decide ((0:Int)<=i∧(i:Int)<((16:Nat):Int))=true:=decide_eq_true (by omega)
   have t3:IntKind.wrap .i64 ((i:Int)+1)=(i:Int)+1:=dY (by omega) (by omega)
   have hg:fJ (bD.dec ((bF c75 0).getD i []))=true:=jF h5 hi
   have hbl:=JF hg
   have w:=kC (n:=(i:Int)) (by omega) (by omega)
   have hle:((((bF c75 0).getD i []::(bF c75 0).drop (i+1)).length:Nat):Int)=16-i:=by
    rw [List.length_cons,List.length_drop]
    show (((16-(i+1)+1:Nat)):Int)=_
    omega
   have hle2:((((bF c75 0).drop (i+1)).length:Nat):Int)=16-(i+1):=by
    rw [List.length_drop]
    show (((16-(i+1):Nat)):Int)=_
    omega
   have n0:V.toInt (List.getD (List.getD (bF c75 0) i []) 0 V.undef)=(bD.dec ((bF c75 0).getD i [])).total:=rfl
   have ha2:IntKind.wrap .u64 (a.1+1)=a.1+1:=kC (by omega) (by omega)
   simp only [Int.toNat_natCast,n0,w] at hq
   simp only [t1,t2,t3,cond_true,hg,ha2] at hq
   simp only [hle,hle2,List.map_cons,N.jR,N.FD,show (16:Int)-(16-i)=i from by omega,show (16:Int)-(16-(i+1))=i+1 from by omega]
   cases hc:aZ 0 (bD.dec ((bF c75 0).getD i [])).total with
   | true =>
    refine .inl ⟨(a.1+1,a.2++(N.bW i 1++N.mW (bD.dec ((bF c75 0).getD i [])))),⟨?_,by show 0<=a.1+1; omega,by show a.1+1<=((i+1:Nat):Int); omega⟩,fun K=>?_,fun K=>?_⟩
    .show (a.2++_).length<=_
     rw [List.length_append,List.length_append,fB]; omega
    .rw [hq,hc]
     simp (disch:=omega) only [evs,uM,Ox,fB]
     simp only [List.append_assoc]
     try rfl
    .simp only [cond_true,Int.add_assoc,List.append_assoc]
   | false =>
    refine .inl ⟨a,⟨by omega,by omega,by omega⟩,fun K=>?_,fun K=>?_⟩
    .rw [hq,hc]
     try rfl
    .simp only [cond_false]
  .refine ⟨.exit 4,{ fr:=[(3,.ptr 10000 0 0 0),(10,.ptr 10001 0 0 0),(11,.int .u64 a.1)],tab:=[(10000,.var [.str Ae,.int .i64 Ee]),(10001,.var [.str a.2,.int .i64 0])] },by simp,fun K=>KJ a.1 c75 16 Ae Ee a.2 0 K,fun K=>?_⟩
   show K _ { fr:=[(3,.ptr 10000 0 0 0),(10,.ptr 10001 0 0 0),(11,.int .u64 (a.1+0))],tab:=[(10000,.var [.str Ae,.int .i64 Ee]),(10001,.var [.str (a.2++[]),.int .i64 0])] }=_
   rw [Int.add_zero,List.append_nil]
 .cases h
end Go.Ev

namespace Go.Ev
open Go Go.Proofs
set_option maxRecDepth 100000
-- FOLD2
noncomputable def adY:Env:=env Tryz.prog [(131,Mc),(93,CW)] [] []
theorem akM (s:aF) (q:dZ):type_of% (by
  have h:bM adY 52 ((aO (bg au) (aW (bg lT))).enc (s,q)) ([]) some =(
   let z2:=(ah.dec au (ah.enc au s));let z3:=(List.map (ah.enc aS) s.rows);let z0:=(cond (bU 0 (N.bP z2 q.name)) (some {v:=.fE [V.agg (ah.enc au s),.int .i64 9],bx:=[]:aH}) (cond (bU 8 (↑(List.length z3):Int)) (some {v:=.fE [V.agg (ah.enc au s),.int .i64 12],bx:=[]:aH}) (cond (decide (List.length z3*72<=140737488355328)) (cond (decide ((List.length z3+1)*72<=140737488355328)) (some {v:=.fE [V.agg (V.int .u64 s.next::V.int .i64 s.bytes::V.slc yR (List.map (ah.enc aS) s.rows++[[V.str q.name,.int .u64 q.most,.int .u64 q.life,.str q.dead,.slc yI []]])::eU s.rises),.int .i64 0],bx:=[]:aH}) none) none)));let z1:=(List.getD z3 (Int.toNat (N.bP z2 q.name)) []);cond (N.jq q != 0) (some {v:=.fE [V.agg (ah.enc au s),.int .i64 (N.jq q)],bx:=[]:aH}) (cond (Nat.ble (List.length (List.map (ah.dec aS) z3)) 100) (cond (bU 0 (N.bP z2 q.name)) (cond (decide (0<=N.bP z2 q.name∧N.bP z2 q.name<(↑(List.length z3):Int))) (cond (V.toStr (z1.getD 0 .undef)==dZ.name q && (V.toInt (z1.getD 1 .undef)==dZ.most q && (V.toInt (z1.getD 2 .undef)==dZ.life q && (V.toStr (z1.getD 3 .undef)==dZ.dead q && true)))) (some {v:=.fE [V.agg (ah.enc au s),.int .i64 0],bx:=[]:aH}) z0) none) z0) none)):=by kernel_rfl
  dsimp only at h;exact h):=by kernel_rfl
theorem afQ:bH Tryz.prog 52 JB:=by
 refine aK (aT (((fK.nil _).cons tJ).cons abD)) (E:=adY) Tryz.func52 [] (by kernel_rfl) (none0) fun a b hp=>?_
 obtain ⟨s,q⟩:=a
 have hp:s.rows.length<=100:=yG hp
 refine (akM s q).trans ?_
 simp only [bn,au.de,List.length_map,dN hp,cond_true,decide_eq_true (show s.rows.length*72<=140737488355328 by omega),decide_eq_true (show (s.rows.length+1)*72<=140737488355328 by omega)]
 show _=some (⟨.fE [.agg (au.enc (N.gy s q).1),.int .i64 (N.gy s q).2],[],[]⟩:aH)
 unfold N.gy
 cases h1:N.jq q != 0 with
 | true=>rfl
 | false =>
  cases h2:bU 0 (N.bP s q.name) with
  | true =>
   obtain ⟨g1,g2,g3,g4⟩:=mD h2
   simp only [PO g1 g2,cond_true,cond_false,pX s _ g4]
   have e:=Md (N.dn s (N.bP s q.name)).q q
   show cond ((N.dn s (N.bP s q.name)).q.name==q.name && _) _ _=_
   rw [show (V.toInt (List.getD (ah.enc aS (s.rows.getD (N.bP s q.name).toNat row0)) 1 V.undef)==q.most && (V.toInt (List.getD (ah.enc aS (s.rows.getD (N.bP s q.name).toNat row0)) 2 V.undef)==q.life && (V.toStr (List.getD (ah.enc aS (s.rows.getD (N.bP s q.name).toNat row0)) 3 V.undef)==q.dead && true)))=((N.dn s (N.bP s q.name)).q.most==q.most && ((N.dn s (N.bP s q.name)).q.life==q.life && ((N.dn s (N.bP s q.name)).q.dead==q.dead && true))) from rfl,e]
   cases h3:N.YF (N.dn s (N.bP s q.name)).q q<;>rfl
  | false =>
   simp only [cond_false]
   cases h3:bU 8 s.rows.length with
   | true=>rfl
   | false =>
    simp only [cond_false]
    rw [show au.enc (⟨s.next,s.bytes,s.rows++[⟨q,[]⟩],s.rises⟩:aF)=V.int .u64 s.next::V.int .i64 s.bytes::V.slc aS.sh ((s.rows++[(⟨q,[]⟩:dW)]).map aS.enc)::eU s.rises from rfl,List.map_append]
    try rfl
noncomputable def adZ:Env:=env Tryz.prog [(93,CW),(132,ajE),(133,D8)] [] []
theorem akN (s:aF) (n:Bytes):type_of% (by
  have h:bM adZ 55 ((aO (bg au) (aW fV)).enc (s,n)) ([]) some =(
   let z2:=(List.map (ah.enc aS) s.rows);let z1:=(ah.dec au (ah.enc au s));let z0:=(List.map (ah.dec aj) (V.toRows (List.getD (List.getD z2 (Int.toNat (N.bP z1 n)) []) 4 V.undef)));cond (Nat.ble (List.length (List.map (ah.dec aS) z2)) 100) (cond (aZ (N.bP z1 n) 0) (some {v:=.fE [V.agg (ah.enc au s),.agg [V.int .u64 0,.str [],.str [],.slc yP [],.str [],.int .u64 0,.int .u8 0,.bool false,.bool false],.bool false],bx:=[]:aH}) (cond (decide (0<=N.bP z1 n∧N.bP z1 n<(↑(List.length z2):Int))) (cond (Nat.ble (List.length z0) 1000) (cond (ni z1 (N.bP z1 n)) (some {v:=.fE [V.agg (ah.enc au (N.iH z1 (N.bP z1 n) (List.map (ah.dec aj) (List.map (ah.enc aj) (Prod.fst (N.o7 z0)))))),.agg (ah.enc aj (Prod.fst (Prod.snd (N.o7 z0)))),.bool (Prod.snd (Prod.snd (N.o7 z0)))],bx:=[]:aH}) none) none) none)) none):=by kernel_rfl
  dsimp only at h;exact h):=by kernel_rfl
theorem afR:bH Tryz.prog 55 VP:=by
 refine aK (aT ((((fK.nil _).cons zB).cons ajQ).cons tJ)) (E:=adZ) Tryz.func55 [] (by kernel_rfl) (none0) fun a b hp=>?_
 obtain ⟨s,n⟩:=a
 obtain ⟨hp,hr⟩:=aP (show eY s=true from hp)
 have hp':=aX hp
 refine (akN s n).trans ?_
 simp only [gX,bn,au.de,List.length_map,hp,cond_true]
 show _=some (⟨.fE [.agg (au.enc (N.mZ s n).1),.agg (aj.enc (N.mZ s n).2.1),.bool (N.mZ s n).2.2],[],[]⟩:aH)
 unfold N.mZ
 cases h1:aZ (N.bP s n) 0 with
 | true=>rfl
 | false =>
  obtain ⟨g1,g2,g3,g4⟩:=mD (oH h1)
  have hl:=(jK (qZ hr g4)).1
  simp only [PO g1 g2,pX s _ g4,aS.de,dN (show (s.rows.getD (N.bP s n).toNat row0).line.length<=1000 by omega),uo hp' g1 g2,cond_true,cond_false]
  try rfl
noncomputable def ad1:Env:=env Tryz.prog [(93,CW),(134,ajF),(133,D8)] [] []
theorem akO (s:aF) (n:Bytes) (id:Int):bM ad1 57 ((aO (bg au) (aO fV (aW (cu .u64)))).enc (s,n,id)) ([]) some =
 cond (Nat.ble (List.length (List.map (ah.dec aS) (List.map (ah.enc aS) s.rows))) 100) (cond (aZ (N.bP (ah.dec au (ah.enc au s)) n) 0) (some {v:=.fE [V.agg (ah.enc au s),.int .i64 10],bx:=[]:aH}) (cond (decide (0<=N.bP (ah.dec au (ah.enc au s)) n∧N.bP (ah.dec au (ah.enc au s)) n<(↑(List.length (List.map (ah.enc aS) s.rows)):Int))) (cond (Nat.ble (List.length (List.map (ah.dec aj) (V.toRows (List.getD (List.getD (List.map (ah.enc aS) s.rows) (Int.toNat (N.bP (ah.dec au (ah.enc au s)) n)) []) 4 V.undef)))) 1000) (cond (ni (ah.dec au (ah.enc au s)) (N.bP (ah.dec au (ah.enc au s)) n)) (some {v:=.fE [V.agg (ah.enc au (N.iH (ah.dec au (ah.enc au s)) (N.bP (ah.dec au (ah.enc au s)) n) (List.map (ah.dec aj) (List.map (ah.enc aj) (Prod.fst (N.uO (List.map (ah.dec aj) (V.toRows (List.getD (List.getD (List.map (ah.enc aS) s.rows) (Int.toNat (N.bP (ah.dec au (ah.enc au s)) n)) []) 4 V.undef))) id)))))),.int .i64 (Prod.snd (N.uO (List.map (ah.dec aj) (V.toRows (List.getD (List.getD (List.map (ah.enc aS) s.rows) (Int.toNat (N.bP (ah.dec au (ah.enc au s)) n)) []) 4 V.undef))) id))],bx:=[]:aH}) none) none) none)) none:=by kernel_rfl
theorem afS:bH Tryz.prog 57 VQ:=by
 refine aK (aT ((((fK.nil _).cons zB).cons ajP).cons tJ)) (E:=ad1) Tryz.func57 [] (by kernel_rfl) (none0) fun a b hp=>?_
 obtain ⟨s,n,id⟩:=a
 obtain ⟨hp,hr⟩:=aP (show eY s=true from hp)
 have hp':=aX hp
 refine (akO s n id).trans ?_
 simp only [gX,bn,au.de,List.length_map,hp,cond_true]
 show _=some (⟨.fE [.agg (au.enc (N.qE s n id).1),.int .i64 (N.qE s n id).2],[],[]⟩:aH)
 unfold N.qE
 cases h1:aZ (N.bP s n) 0 with
 | true=>rfl
 | false =>
  obtain ⟨g1,g2,g3,g4⟩:=mD (oH h1)
  have hl:=(jK (qZ hr g4)).1
  simp only [PO g1 g2,pX s _ g4,aS.de,dN (show (s.rows.getD (N.bP s n).toNat row0).line.length<=1000 by omega),uo hp' g1 g2,cond_true,cond_false]
  try rfl
noncomputable def TK:Env:=env Tryz.prog [(93,CW),(135,Pj),(133,D8)] [] []
theorem abH (s:aF) (n:Bytes) (id:Int):type_of% (by
  have h:bM TK 59 ((aO (bg au) (aO fV (aW (cu .u64)))).enc (s,n,id)) ([]) some =(
   let z2:=(List.map (ah.enc aS) s.rows);let z1:=(ah.dec au (ah.enc au s));let z0:=(List.map (ah.dec aj) (V.toRows (List.getD (List.getD z2 (Int.toNat (N.bP z1 n)) []) 4 V.undef)));cond (Nat.ble (List.length (List.map (ah.dec aS) z2)) 100) (cond (aZ (N.bP z1 n) 0) (some {v:=.fE [V.agg (ah.enc au s),.agg [V.int .u64 0,.str [],.str [],.slc yP [],.str [],.int .u64 0,.int .u8 0,.bool false,.bool false],.int .i64 10],bx:=[]:aH}) (cond (decide (0<=N.bP z1 n∧N.bP z1 n<(↑(List.length z2):Int))) (cond (Nat.ble (List.length z0) 1000) (cond (ni z1 (N.bP z1 n)) (some {v:=.fE [V.agg (ah.enc au (N.iH z1 (N.bP z1 n) (List.map (ah.dec aj) (List.map (ah.enc aj) (Prod.fst (N.eP z0 id)))))),.agg (ah.enc aj (Prod.fst (Prod.snd (N.eP z0 id)))),.int .i64 (Prod.snd (Prod.snd (N.eP z0 id)))],bx:=[]:aH}) none) none) none)) none):=by kernel_rfl
  dsimp only at h;exact h):=by kernel_rfl
theorem Y2:bH Tryz.prog 59 Ij:=by
 refine aK (aT ((((fK.nil _).cons zB).cons Py).cons tJ)) (E:=TK) Tryz.func59 [] (by kernel_rfl) (none0) fun a b hp=>?_
 obtain ⟨s,n,id⟩:=a
 obtain ⟨hp,hr⟩:=aP (show eY s=true from hp)
 have hp':=aX hp
 refine (abH s n id).trans ?_
 simp only [gX,bn,au.de,List.length_map,hp,cond_true]
 show _=some (⟨.fE [.agg (au.enc (N.iY s n id).1),.agg (aj.enc (N.iY s n id).2.1),.int .i64 (N.iY s n id).2.2],[],[]⟩:aH)
 unfold N.iY
 cases h1:aZ (N.bP s n) 0 with
 | true=>rfl
 | false =>
  obtain ⟨g1,g2,g3,g4⟩:=mD (oH h1)
  have hl:=(jK (qZ hr g4)).1
  simp only [PO g1 g2,pX s _ g4,aS.de,dN (show (s.rows.getD (N.bP s n).toNat row0).line.length<=1000 by omega),uo hp' g1 g2,cond_true,cond_false]
  try rfl
def N.VW (p:dW->Bool):List (List V)->List (List V)
 | []=>[]
 | r::rs=>cond (p (aS.dec r)) (aB CP 0 r::N.VW p rs) (N.VW p rs)
theorem TL (p:dW->Bool) (r:List V) (rs:List (List V)):N.VW p (r::rs)=cond (p (aS.dec r)) (aB CP 0 r::N.VW p rs) (N.VW p rs):=rfl
theorem akP (p:dW->Bool) (l:List dW):N.VW p (l.map aS.enc)=(l.filter p).map aS.enc:=by
 induction l with
 | nil=>rfl
 | cons x r ih =>
  rw [List.map_cons,TL,List.filter_cons,aS.de x,ih]
  cases p x<;>rfl
def ad2:Den:=den (aO (bg au) (aW fV)) dw (nP (aO (bg au) (aW (cu .i64)))) (fun a _=>pW a.1) fun a _=>(N.yJ a.1 a.2,())
def afT:fP:={ fr:=[(1,.str),(2,.ptr 10000 0 0),(4,.ptr 10001 0 0),(6,.own 10002),(15,.slc yR),(16,.int .i64),(17,.int .i64)],tab:=[(10000,.row [] aA),(10001,.row [] aA),(10002,.sl yR)] }
def ad3:List Leaf->(Ex->St->Option R)->Option R
 | [.s s1,.r Qa,.i i16,.i i17,.c cZ,.c iT,.r yK],K=>cond (i16==Qa.length) (cond (i17==0) (cond (Nat.ble Qa.length 1000) (cond (Nat.beq yK.length 0) (K (.exit 0) { fr:=[(2,.ptr 10000 0 0 0),(4,.ptr 10001 0 0 0),(6,.own 10002 0)],tab:=[(10000,.var (aB aA 0 cZ)),(10001,.var (aB aA 0 iT)),(10002,.sl yR ([]++N.VW (N.Ap s1) (Qa)) 0)] }) none) none) none) none
 | _,_=>none
noncomputable def Ir:Env:={ env Tryz.prog [(93,CW)] [(5,dJ afT ad3)] [(5,[(0,[1,2,4,6,15,16,17]),(1,[2,4,6]),(1000,[4,5])])] with fz:=true }
theorem akQ (s:aF) (n:Bytes):bM Ir 54 ((aO (bg au) (aW fV)).enc (s,n)) ([]) some =
 cond (Nat.ble (List.length (List.map (ah.dec aS) (List.map (ah.enc aS) s.rows))) 100) (cond (aZ (N.bP (ah.dec au (ah.enc au s)) n) 0) (some {v:=.fE [V.agg (ah.enc au s),.int .i64 10],bx:=[]:aH}) (cond ((↑(List.length (List.map (ah.enc aS) s.rows)):Int)==(↑(List.length (List.map (ah.enc aS) s.rows)):Int)) (cond (Nat.ble (List.length (List.map (ah.enc aS) s.rows)) 1000) (some {v:=.fE [V.agg (V.int .u64 s.next::V.int .i64 s.bytes::V.slc yR ([]++N.VW (N.Ap n) (List.map (ah.enc aS) s.rows))::eU s.rises),.int .i64 0],bx:=[]:aH}) none) none)) none:=by kernel_rfl
theorem TM (s1:Bytes) (Qa:List (List V)) (i16:Int) (i17:Int) (cZ:List V) (iT:List V) (yK:List (List V)) (K:Ex->St->Option R):bI Ir 54 5 { fr:=[(1,.str s1),(2,.ptr 10000 0 0 0),(4,.ptr 10001 0 0 0),(6,.own 10002 0),(15,.slc yR Qa),(16,.int .i64 i16),(17,.int .i64 i17)],tab:=[(10000,.var (aB aA 0 cZ)),(10001,.var (aB aA 0 iT)),(10002,.sl yR yK 0)] } K =
 cond (aZ i17 i16) (cond (decide (0<=i17∧i17<(↑(List.length Qa):Int))) (cond (!V.toStr (List.getD (List.getD Qa (Int.toNat i17) []) 0 V.undef)==s1) (cond (decide ((List.length yK+1)*72<=140737488355328)) (K .normal {fr:=[(1,.str s1),(2,.ptr 10000 0 0 0),(4,.ptr 10001 0 0 0),(6,.own 10002 0),(15,.slc yR Qa),(16,.int .i64 i16),(17,.int .i64 (IntKind.wrap .i64 (i17+1)))],tab:=[(10000,.var (aB aA 0 cZ)),(10001,.var (aB aA 0 iT)),(10002,.sl yR (yK++[aB CP 0 (List.getD Qa (Int.toNat i17) [])]) 0)]:St}) none) (K .normal {fr:=[(1,.str s1),(2,.ptr 10000 0 0 0),(4,.ptr 10001 0 0 0),(6,.own 10002 0),(15,.slc yR Qa),(16,.int .i64 i16),(17,.int .i64 (IntKind.wrap .i64 (i17+1)))],tab:=[(10000,.var (aB aA 0 cZ)),(10001,.var (aB aA 0 iT)),(10002,.sl yR yK 0)]:St})) none) (K (.exit 0) {fr:=[(2,.ptr 10000 0 0 0),(4,.ptr 10001 0 0 0),(6,.own 10002 0)],tab:=[(10000,.var (aB aA 0 cZ)),(10001,.var (aB aA 0 iT)),(10002,.sl yR yK 0)]:St}):=by kernel_rfl
theorem Y3:dB Ir 54 5:=by
 refine bf rfl fun l K q h=>?_
 unfold ad3 at h
 split at h
 .rename_i s1 Qa i16 i17 cZ iT yK
  replace h:=UG h;obtain ⟨h1,h2,h3,h4,h⟩:=h
  have e1:=aY h1
  have e2:=aY h2
  subst e1 e2
  have h3:Qa.length<=1000:=aX h3
  have e3:=List.eq_nil_of_length_eq_zero (jk h4)
  subst e3
  have main:=dh (E:=Ir) (f:=54) (id:=5) (A:=List (List V)) (Qa) (fun a i=>{ fr:=[(1,.str s1),(2,.ptr 10000 0 0 0),(4,.ptr 10001 0 0 0),(6,.own 10002 0),(15,.slc yR Qa),(16,.int .i64 Qa.length),(17,.int .i64 i)],tab:=[(10000,.var (aB aA 0 cZ)),(10001,.var (aB aA 0 iT)),(10002,.sl yR a 0)] }) (fun a i=>a.length<=i)
   (fun a rows K=>K (.exit 0) { fr:=[(2,.ptr 10000 0 0 0),(4,.ptr 10001 0 0 0),(6,.own 10002 0)],tab:=[(10000,.var (aB aA 0 cZ)),(10001,.var (aB aA 0 iT)),(10002,.sl yR (a++N.VW (N.Ap s1) (rows)) 0)] }) (fun a i ha hi=>?_) (fun a ha=>?_) ([]) 0 (Int.le_refl _) (by omega) (Nat.zero_le _) K q (by assumption)
  .exact main
  .have hq:=fun K=>TM (s1) (Qa) (Qa.length) ((i:Int)) (cZ) (iT) (a) K
   have t1:aZ (i:Int) Qa.length=true:=dK (by omega)
   have t2:decide ((0:Int)<=i∧(i:Int)<Qa.length)=true:=decide_eq_true (by omega)
   have t3:IntKind.wrap .i64 ((i:Int)+1)=(i:Int)+1:=dY (by omega) (by omega)
   have t5:decide ((a.length+1)*72<=140737488355328)=true:=decide_eq_true (by omega)
   simp only [Int.toNat_natCast] at hq
   simp only [t1,t2,t3,cond_true,t5] at hq
   simp only [TL]
   cases hc:N.Ap s1 (aS.dec (Qa.getD i [])) with
   | true =>
    have hc' : (!(V.toStr (List.getD (List.getD Qa i []) 0 V.undef)==s1))=true:=hc
    refine .inl ⟨a++[aB CP 0 (Qa.getD i [])],by rw [List.length_append]; simp only [List.length_cons,List.length_nil]; omega,fun K=>?_,fun K=>?_⟩
    .rw [hq,hc']
     try rfl
    .simp only [cond_true,List.append_assoc,List.singleton_append]
   | false =>
    have hc' : (!(V.toStr (List.getD (List.getD Qa i []) 0 V.undef)==s1))=false:=hc
    refine .inl ⟨a,by omega,fun K=>?_,fun K=>?_⟩
    .rw [hq,hc']
     try rfl
    .simp only [cond_false]
  .refine ⟨.exit 0,{ fr:=[(2,.ptr 10000 0 0 0),(4,.ptr 10001 0 0 0),(6,.own 10002 0)],tab:=[(10000,.var (aB aA 0 cZ)),(10001,.var (aB aA 0 iT)),(10002,.sl yR (a) 0)] },by simp,fun K=>?_,fun K=>by show K _ { fr:=_,tab:=[_,_,(10002,.sl _ (a++[]) 0)] }=_; rw [List.append_nil]⟩
   rw [TM]
   simp (disch:=omega) only [evs]
   try rfl
 .cases h
theorem afU:bH Tryz.prog 54 ad2:=by
 refine aK (aT ((fK.nil _).cons tJ)) (E:=Ir) Tryz.func54 [5] (by kernel_rfl) (one1 Y3) fun a b hp=>?_
 obtain ⟨s,n⟩:=a
 have hp:s.rows.length<=100:=yG hp
 refine (akQ s n).trans ?_
 simp only [bn,au.de,List.length_map,dN hp,dN (show s.rows.length<=1000 by omega),beq_self_eq_true,List.nil_append,cond_true,akP]
 show _=some (⟨.fE [.agg (au.enc (N.yJ s n).1),.int .i64 (N.yJ s n).2],[],[]⟩:aH)
 unfold N.yJ
 cases h1:aZ (N.bP s n) 0<;>rfl
def N.KL (l:List aG) (t:Int):ay × Bool:=N.lS l (N.ix (N.je t) l 0)
def N.gK (t:Int):List dW->Bytes × ay × Bool
 | []=>([],gJ,false)
 | x::r=>cond (N.KL x.line t).2 (x.q.name,(N.KL x.line t).1,true) (N.gK t r)
theorem wL (t:Int) (x:dW) (r:List dW):N.gK t (x::r)=cond (N.KL x.line t).2 (x.q.name,(N.KL x.line t).1,true) (N.gK t r):=rfl
theorem Qb {t:Int}:∀ {l:List dW},(N.gK t l).2.2=false->N.gK t l=([],gJ,false)
 | [],_=>rfl
 | x::r,h=>by
  rw [wL] at h ⊢
  cases hc:(N.KL x.line t).2 with
  | true=>rw [hc] at h; cases h
  | false=>rw [hc] at h; exact Qb h
def ad4:Den:=den (aO (bg au) (aW (cu .u64))) dw (nP (aO fV (aO (bg ak) (aW iF)))) (fun a _=>eY a.1) fun a _=>(N.gK a.2 a.1.rows,())
def afV:fP:={ fr:=[(1,.int .u64),(5,.ptr 10000 0 0),(12,.slc yR),(13,.int .i64),(14,.int .i64)],tab:=[(10000,.row [] dO)] }
def ad5:List Leaf->(Ex->St->Option R)->Option R
 | [.i i1,.r r12,.i i13,.i i14,.c cZ],K=>cond (i13==r12.length) (cond (i14==0) (cond (Nat.ble r12.length 1000) (cond ((r12.map aS.dec).all jf) (cond (N.gK i1 ((r12).map aS.dec)).2.2 (K .ret { fr:=[(4,.str (N.gK i1 ((r12).map aS.dec)).1),(5,.ptr 10000 0 0 0),(6,.bool true)],tab:=[(10000,.var (ak.enc (N.gK i1 ((r12).map aS.dec)).2.1))] }) (K (.exit 0) { fr:=[(5,.ptr 10000 0 0 0)],tab:=[(10000,.var (aB dO 0 cZ))] })) none) none) none) none
 | _,_=>none
noncomputable def Iu:Env:={ env Tryz.prog [(158,adA)] [(2,dJ afV ad5)] [(2,[(0,[1,5,12,13,14]),(1,[5]),(1000,[4,5,6])])] with fz:=true }
theorem akR (s:aF) (t:Int):bM Iu 91 ((aO (bg au) (aW (cu .u64))).enc (s,t)) ([]) some =
 cond ((↑(List.length (List.map (ah.enc aS) s.rows)):Int)==(↑(List.length (List.map (ah.enc aS) s.rows)):Int)) (cond (Nat.ble (List.length (List.map (ah.enc aS) s.rows)) 1000) (cond (List.all (List.map (ah.dec aS) (List.map (ah.enc aS) s.rows)) jf) (cond (Prod.snd (Prod.snd (N.gK t (List.map (ah.dec aS) (List.map (ah.enc aS) s.rows))))) (some {v:=.fE [V.str (Prod.fst (N.gK t (List.map (ah.dec aS) (List.map (ah.enc aS) s.rows)))),.agg (ah.enc ak (Prod.fst (Prod.snd (N.gK t (List.map (ah.dec aS) (List.map (ah.enc aS) s.rows)))))),.bool true],bx:=[]:aH}) (some {v:=.fE [V.str [],.agg [V.int .u64 0,.str [],.str [],.slc yP [],.str [],.int .u64 0,.int .u8 0],.bool false],bx:=[]:aH})) none) none) none:=by kernel_rfl
theorem TN (i1:Int) (r12:List (List V)) (i13:Int) (i14:Int) (cZ:List V) (K:Ex->St->Option R):bI Iu 91 2 { fr:=[(1,.int .u64 i1),(5,.ptr 10000 0 0 0),(12,.slc yR r12),(13,.int .i64 i13),(14,.int .i64 i14)],tab:=[(10000,.var (aB dO 0 cZ))] } K =
 cond (aZ i14 i13) (cond (decide (0<=i14∧i14<(↑(List.length r12):Int))) (cond (Nat.ble (List.length (List.map (ah.dec aj) (V.toRows (List.getD (List.getD r12 (Int.toNat i14) []) 4 V.undef)))) 1000) (cond (Prod.snd (N.lS (List.map (ah.dec aj) (V.toRows (List.getD (List.getD r12 (Int.toNat i14) []) 4 V.undef))) (N.ix (N.je i1) (List.map (ah.dec aj) (V.toRows (List.getD (List.getD r12 (Int.toNat i14) []) 4 V.undef))) 0))) (K .ret {fr:=[(4,.str (V.toStr (List.getD (List.getD r12 (Int.toNat i14) []) 0 V.undef))),(5,.ptr 10000 0 0 0),(6,.bool true)],tab:=[(10000,.var (ah.enc ak (Prod.fst (N.lS (List.map (ah.dec aj) (V.toRows (List.getD (List.getD r12 (Int.toNat i14) []) 4 V.undef))) (N.ix (N.je i1) (List.map (ah.dec aj) (V.toRows (List.getD (List.getD r12 (Int.toNat i14) []) 4 V.undef))) 0)))))]:St}) (K .normal {fr:=[(1,.int .u64 i1),(5,.ptr 10000 0 0 0),(12,.slc yR r12),(13,.int .i64 i13),(14,.int .i64 (IntKind.wrap .i64 (i14+1)))],tab:=[(10000,.var (aB dO 0 cZ))]:St})) none) none) (K (.exit 0) {fr:=[(5,.ptr 10000 0 0 0)],tab:=[(10000,.var (aB dO 0 cZ))]:St}):=by kernel_rfl
theorem Y4:dB Iu 91 2:=by
 refine bf rfl fun l K q h=>?_
 unfold ad5 at h
 split at h
 .rename_i i1 r12 i13 i14 cZ
  replace h:=UG h;obtain ⟨h1,h2,h3,h5,h⟩:=h
  have e1:=aY h1
  have e2:=aY h2
  subst e1 e2
  have h3:r12.length<=1000:=aX h3
  have main:=dh (E:=Iu) (f:=91) (id:=2) (A:=Unit) (r12) (fun a i=>{ fr:=[(1,.int .u64 i1),(5,.ptr 10000 0 0 0),(12,.slc yR r12),(13,.int .i64 r12.length),(14,.int .i64 i)],tab:=[(10000,.var (aB dO 0 cZ))] }) (fun a i=>True)
   (fun a rows K=>cond (N.gK i1 ((rows).map aS.dec)).2.2 (K .ret { fr:=[(4,.str (N.gK i1 ((rows).map aS.dec)).1),(5,.ptr 10000 0 0 0),(6,.bool true)],tab:=[(10000,.var (ak.enc (N.gK i1 ((rows).map aS.dec)).2.1))] }) (K (.exit 0) { fr:=[(5,.ptr 10000 0 0 0)],tab:=[(10000,.var (aB dO 0 cZ))] })) (fun a i ha hi=>?_) (fun a ha=>?_) (()) 0 (Int.le_refl _) (by omega) trivial K q (by assumption)
  .exact main
  .have hq:=fun K=>TN (i1) (r12) (r12.length) ((i:Int)) (cZ) K
   have t1:aZ (i:Int) r12.length=true:=dK (by omega)
   have t2:decide ((0:Int)<=i∧(i:Int)<r12.length)=true:=decide_eq_true (by omega)
   have t3:IntKind.wrap .i64 ((i:Int)+1)=(i:Int)+1:=dY (by omega) (by omega)
   have hr:pq (aS.dec (r12.getD i [])).line=true:=jF h5 hi
   have hs:=dN (show (aS.dec (r12.getD i [])).line.length<=1000 from Nat.le_trans (jK hr).1 (by decide))
   simp only [Int.toNat_natCast,gX] at hq
   simp only [t1,t2,t3,cond_true,hs] at hq
   simp only [List.map_cons,wL]
   cases hc:(N.KL (aS.dec (r12.getD i [])).line i1).2 with
   | true =>
    have hc' : (N.lS (aS.dec (r12.getD i [])).line (N.ix (N.je i1) (aS.dec (r12.getD i [])).line 0)).2=true:=hc
    refine .inr ⟨.ret,_,by simp,fun K=>?_,fun K=>rfl⟩
    rw [hq,hc']
    try rfl
   | false =>
    have hc' : (N.lS (aS.dec (r12.getD i [])).line (N.ix (N.je i1) (aS.dec (r12.getD i [])).line 0)).2=false:=hc
    refine .inl ⟨(),trivial,fun K=>?_,fun K=>rfl⟩
    rw [hq,hc']
    try rfl
  .refine ⟨.exit 0,_,by simp,fun K=>?_,fun K=>rfl⟩
   rw [TN]
   simp (disch:=omega) only [evs]
   try rfl
 .cases h
theorem afW:bH Tryz.prog 91 ad4:=by
 refine aK (aT ((fK.nil _).cons afw)) (E:=Iu) Tryz.func91 [2] (by kernel_rfl) (one1 Y4) fun a b hp=>?_
 obtain ⟨s,t⟩:=a
 obtain ⟨h1,h2⟩:=aP (show eY s=true from hp)
 have h1:=aX h1
 refine (akR s t).trans ?_
 simp only [bn,List.length_map,beq_self_eq_true,cond_true,dN (show s.rows.length<=1000 by omega),h2]
 show _=some (⟨.fE [.str (N.gK t s.rows).1,.agg (ak.enc (N.gK t s.rows).2.1),.bool (N.gK t s.rows).2.2],[],[]⟩:aH)
 cases hc:(N.gK t s.rows).2.2 with
 | true=>rfl
 | false =>
  rw [Qb hc]; rfl
def N.TP (c:List V):Nat->Nat->List V
 | _,0=>c
 | i,k+1=>N.TP (au.enc (N.iH (au.dec c) i (N.mX ((au.dec c).rows.getD i row0).line))) (i+1) k
def N.TQ (s:aF):Nat->Nat->aF
 | _,0=>s
 | i,k+1=>N.TQ (N.iH s i (N.mX (s.rows.getD i row0).line)) (i+1) k
theorem TR:∀ (k:Nat) (s:aF) (i:Nat),N.TP (au.enc s) i k=au.enc (N.TQ s i k)
 | 0,s,i=>rfl
 | k+1,s,i=>by
  simp only [N.TP,N.TQ,au.de]
  exact TR k _ (i+1)
theorem Y5:∀ (l a:List dW) (s:aF),s.rows=a++l->N.TQ s a.length l.length=⟨s.next,s.bytes,a++l.map N.jV,s.rises⟩
 | [],a,s,h=>by
  obtain ⟨n,b,rs,ri⟩:=s
  simp only at h
  subst h
  rfl
 | x::r,a,s,h=>by
  have e1:s.rows.getD a.length row0=x:=by rw [h]; simp [List.getD_eq_getElem?_getD]
  have e2:(N.iH s a.length (N.mX x.line)).rows=(a++[N.jV x])++r:=by
   show s.rows.set (Int.toNat (a.length:Int)) ⟨(s.rows.getD (Int.toNat (a.length:Int)) row0).q,_⟩=_
   rw [Int.toNat_natCast,e1,h]
   simp [N.jV]
  have ih:=Y5 r (a++[N.jV x]) (N.iH s a.length (N.mX x.line)) e2
  rw [List.length_append] at ih
  rw [List.length_cons]
  simp only [N.TQ]
  rw [e1,show a.length+1=a.length+[N.jV x].length from rfl,ih]
  simp only [List.append_assoc,List.map_cons,List.singleton_append]
  try rfl
theorem anJ (c:List V):(V.toRows (List.getD c 2 V.undef)).length=(au.dec c).rows.length:=(List.length_map aS.dec).symm
theorem anK (c:List V) (i:Nat) (h:i<(au.dec c).rows.length):aS.dec ((V.toRows (List.getD c 2 V.undef)).getD i [])=(au.dec c).rows.getD i row0:=by
 have e:(au.dec c).rows=(V.toRows (List.getD c 2 V.undef)).map aS.dec:=rfl
 rw [e] at h ⊢
 rw [List.length_map] at h
 generalize V.toRows (List.getD c 2 V.undef)=R at h ⊢
 simp [List.getD_eq_getElem?_getD,h]
def afX:fP:={ fr:=[(1,.ptr 10000 0 0),(2,.ptr 10001 0 0),(6,.int .i64),(7,.int .i64)],tab:=[(10000,.row [] aA),(10001,.row [] aA)] }
def ad6:List Leaf->(Ex->St->Option R)->Option R
 | [.i i6,.i i7,.c cZ,.c iT],K=>cond (i7==0) (cond (i6==((au.dec cZ).rows.length:Int)) (cond (Nat.ble (au.dec cZ).rows.length 100) (cond ((au.dec cZ).rows.all fun x=>Nat.ble x.line.length 1000) (K (.exit 0) { fr:=[(1,.ptr 10000 0 0 0),(2,.ptr 10001 0 0 0)],tab:=[(10000,.var (aB aA 0 (N.TP cZ 0 (au.dec cZ).rows.length))),(10001,.var (aB aA 0 iT))] }) none) none) none) none
 | _,_=>none
noncomputable def Iw:Env:={ env Tryz.prog [(139,ajG),(133,D8)] [(2,dJ afX ad6)] [(2,[(0,[1,2,6,7]),(1,[1,2]),(1000,[2])])] with fz:=true }
theorem akS (s:aF):bM Iw 63 ((aW (bg au)).enc s) ([]) some =
 cond ((↑(List.length (List.map (ah.enc aS) s.rows)):Int)==(↑(List.length (List.map (ah.dec aS) (List.map (ah.enc aS) s.rows))):Int)) (cond (Nat.ble (List.length (List.map (ah.dec aS) (List.map (ah.enc aS) s.rows))) 100) (cond (List.all (List.map (ah.dec aS) (List.map (ah.enc aS) s.rows)) fun x=>Nat.ble (List.length x.line) 1000) (some {v:=.agg (aB aA 0 (N.TP (ah.enc au s) 0 (List.length (List.map (ah.dec aS) (List.map (ah.enc aS) s.rows))))),bx:=[]:aH}) none) none) none:=by kernel_rfl
theorem afY (i6:Int) (i7:Int) (cZ:List V) (iT:List V) (K:Ex->St->Option R):bI Iw 63 2 { fr:=[(1,.ptr 10000 0 0 0),(2,.ptr 10001 0 0 0),(6,.int .i64 i6),(7,.int .i64 i7)],tab:=[(10000,.var (aB aA 0 cZ)),(10001,.var (aB aA 0 iT))] } K =
 cond (aZ i7 i6) (cond (decide (0<=i7∧i7<(↑(List.length (V.toRows (cZ.getD 2 .undef))):Int))) (cond (Nat.ble (List.length (List.map (ah.dec aj) (V.toRows (List.getD (List.getD (V.toRows (cZ.getD 2 .undef)) (Int.toNat i7) []) 4 V.undef)))) 1000) (cond (ni (ah.dec au cZ) i7) (K .normal {fr:=[(1,.ptr 10000 0 0 0),(2,.ptr 10001 0 0 0),(6,.int .i64 i6),(7,.int .i64 (IntKind.wrap .i64 (i7+1)))],tab:=[(10000,.var (ah.enc au (N.iH (ah.dec au cZ) i7 (List.map (ah.dec aj) (List.map (ah.enc aj) (N.mX (List.map (ah.dec aj) (V.toRows (List.getD (List.getD (V.toRows (cZ.getD 2 .undef)) (Int.toNat i7) []) 4 V.undef))))))))),(10001,.var (aB aA 0 iT))]:St}) none) none) none) (K (.exit 0) {fr:=[(1,.ptr 10000 0 0 0),(2,.ptr 10001 0 0 0)],tab:=[(10000,.var (aB aA 0 cZ)),(10001,.var (aB aA 0 iT))]:St}):=by kernel_rfl
theorem Y6:dB Iw 63 2:=by
 refine bf rfl fun l K q h=>?_
 unfold ad6 at h
 split at h
 .rename_i i6 i7 cZ iT
  replace h:=UG h;obtain ⟨h1,h2,h3,h4,h⟩:=h
  have e1:=aY h1
  have e2:=aY h2
  subst e1 e2
  have h3:=aX h3
  generalize hN:(au.dec cZ).rows.length=n at *
  refine dD (E:=Iw) (f:=63) (id:=2) (σ:=List V × Nat) (fun s=>{ fr:=[(1,.ptr 10000 0 0 0),(2,.ptr 10001 0 0 0),(6,.int .i64 (n:Int)),(7,.int .i64 (s.2:Int))],tab:=[(10000,.var (aB aA 0 s.1)),(10001,.var (aB aA 0 iT))] })
   (fun s=>s.2<=n∧(au.dec s.1).rows.length=n∧((au.dec s.1).rows.all fun x=>Nat.ble x.line.length 1000)=true) (fun s=>n-s.2) (fun s K=>K (.exit 0) { fr:=[(1,.ptr 10000 0 0 0),(2,.ptr 10001 0 0 0)],tab:=[(10000,.var (aB aA 0 (N.TP s.1 s.2 (n-s.2)))),(10001,.var (aB aA 0 iT))] }) (fun s hs=>?_) (cZ,0) ⟨Nat.zero_le _,hN,h4⟩ K q (by assumption)
  obtain ⟨c,i⟩:=s
  obtain ⟨s1,s2,s3⟩:=hs
  simp only at s1 s2 s3 ⊢
  have hq:=fun K=>afY n i c iT K
  by_cases hl:i<n
  .have t1:aZ (i:Int) n=true:=dK (by omega)
   have t2:decide ((0:Int)<=i∧(i:Int)<n)=true:=decide_eq_true (by omega)
   have t3:IntKind.wrap .i64 ((i:Int)+1)=(i:Int)+1:=dY (by omega) (by omega)
   have hw:ni (au.dec c) i=true:=uo (by omega) (by omega) (by omega)
   have g6:Nat.ble ((au.dec c).rows.getD i row0).line.length 1000=true:=List.all_eq_true.1 s3 _ (getD_mem row0 (by omega))
   simp only [Int.toNat_natCast,gX,bn,anJ,s2,anK c i (by omega)] at hq
   simp only [t1,t2,t3,hw,g6,cond_true] at hq
   refine .inl ⟨(au.enc (N.iH (au.dec c) i (N.mX ((au.dec c).rows.getD i row0).line)),i+1),⟨hl,?_,?_⟩,by simp only; omega,fun K=>?_,fun K=>?_⟩
   .simp only
    rw [au.de]
    show (List.set _ _ _).length=_
    rw [List.length_set]; exact s2
   .simp only
    rw [au.de]
    refine List.all_eq_true.2 fun x hx=>?_
    rcases List.mem_or_eq_of_mem_set hx with hx | hx
    .exact List.all_eq_true.1 s3 x hx
    .rw [hx]
     show Nat.ble (N.mX ((au.dec c).rows.getD i row0).line).length 1000=true
     unfold N.mX
     rw [List.length_map]; exact g6
   .rw [hq]
    try rfl
   .simp only
    rw [show n-i=n-(i+1)+1 by omega]
    try rfl
  .obtain rfl:i=n:=by omega
   refine .inr ⟨.exit 0,_,by simp,fun K=>?_,fun K=>rfl⟩
   rw [hq,Nat.sub_self]
   simp (disch:=omega) only [evs]
   try rfl
 .cases h
theorem afZ:bH Tryz.prog 63 VR:=by
 refine aK (aT (((fK.nil _).cons zB).cons ajO)) (E:=Iw) Tryz.func63 [2] (by kernel_rfl) (one1 Y6) fun a b hp=>?_
 obtain ⟨h1,h2⟩:=aP (show eY a=true from hp)
 have hp1:=aX h1
 have h3:(a.rows.all fun x=>Nat.ble x.line.length 1000)=true:=List.all_eq_true.2 fun x hx=>dN (Nat.le_trans (jK (List.all_eq_true.1 h2 x hx)).1 (by decide))
 refine (akS a).trans ?_
 simp only [bn,List.length_map,beq_self_eq_true,dN hp1,h3,cond_true]
 rw [TR,show N.TQ a 0 a.rows.length=N.KH a from Y5 a.rows [] a rfl]
 try rfl
end Go.Ev

namespace Go.Ev
open Go Go.Proofs
set_option maxRecDepth 100000
-- FOLD2
def jQ (l:List aG):Bool:=cond (Nat.ble l.length 300) (cond (l.all dR) (l.all fun x=>N.iJ x.aQ) false) false
def Df (x:dW):Bool:=jQ x.line
def tN (s:aF):Bool:=cond (Nat.ble s.rows.length 100) (s.rows.all Df) false
def qw (s:aF):Bool:=cond (tN s) (s.rises.list.all jI) false
theorem rZ {l:List aG} (h:jQ l=true):l.length<=300∧l.all dR=true∧(l.all fun x=>N.iJ x.aQ)=true:=by
 obtain ⟨h1,h2⟩:=aP h
 obtain ⟨h2,h3⟩:=aP h2
 exact ⟨aX h1,h2,h3⟩
theorem Iy {m:ay} (h:N.iJ m=true):N.vC m=true:=(aP h).1
theorem Qc {l:List aG} (h:jQ l=true):pq l=true:=by
 obtain ⟨h1,h2,h3⟩:=rZ h
 unfold pq allM
 rw [dN h1,h2,List.all_eq_true.2 fun x hx=>Iy (List.all_eq_true.1 h3 x hx)]; rfl
theorem Y7 {s:aF} (h:tN s=true):eY s=true:=by
 obtain ⟨h1,h2⟩:=aP h
 unfold eY
 rw [h1,show s.rows.all jf=true from List.all_eq_true.2 fun x hx=>(Qc (List.all_eq_true.1 h2 x hx):jf x=true)]; rfl
theorem Y8 {x:aC} (h:jI x=true):lY x=true:=by
 obtain ⟨h1,h2⟩:=aP h
 unfold lY
 rw [h1,List.all_eq_true.2 fun x hx=>Iy (List.all_eq_true.1 h2 x hx)]; rfl
theorem aoI {s:aF} (h:qw s=true):jG s=true:=by
 obtain ⟨h1,h2⟩:=aP h
 unfold jG Tj
 rw [Y7 h1,List.all_eq_true.2 fun x hx=>Y8 (List.all_eq_true.1 h2 x hx)]; rfl
def Me:Den:=den (aW (bg au)) dw (oV (cu .i64)) (fun s _=>qw s) fun s _=>(N.jv s,())
def abI:fP:={ fr:=[(1,.ptr 10000 0 0),(3,.int .i64),(9,.slc yR),(10,.int .i64),(11,.int .i64)],tab:=[(10000,.row [] aA)] }
def Y9:List Leaf->(Ex->St->Option R)->Option R
 | [.i i3,.r r9,.i i10,.i i11,.c cZ],K=>cond (i10==r9.length) (cond (i11==0) (cond (Nat.ble r9.length 100) (cond (i3==0) (cond ((r9.map aS.dec).all Df) (K (.exit 0) { fr:=[(1,.ptr 10000 0 0 0),(3,.int .i64 (0+N.bY ((r9).map aS.dec)))],tab:=[(10000,.var (aB aA 0 cZ))] }) none) none) none) none) none
 | _,_=>none
def abJ:fP:={ fr:=[(3,.int .i64),(22,.rowA jD),(23,.int .i64)],tab:=[] }
def Za:List Leaf->(Ex->St->Option R)->Option R
 | [.i i3,.c AV,.i i23],K=>cond (i23==0) (cond (bU 0 i3) (cond (bU i3 100000000) (cond (((bF AV 0).map bD.dec).all jI) (K (.exit 2) { fr:=[(3,.int .i64 (i3+N.dP (((bF AV 0)).map bD.dec)))],tab:=[] }) none) none) none) none
 | _,_=>none
noncomputable def xP:Env:=env Tryz.prog [(159,adC),(160,Hg)] [(8,dJ abJ Za),(3,dJ abI Y9)] [(3,[(0,[1,3,9,10,11]),(1,[1,3]),(1000,[2])]),(8,[(0,[3,22,23]),(3,[3]),(1000,[2])])]
theorem akT (s:aF):bM xP 94 ((aW (bg au)).enc s) ([]) some =
 cond ((↑(List.length (List.map (ah.enc aS) s.rows)):Int)==(↑(List.length (List.map (ah.enc aS) s.rows)):Int)) (cond (Nat.ble (List.length (List.map (ah.enc aS) s.rows)) 100) (cond (List.all (List.map (ah.dec aS) (List.map (ah.enc aS) s.rows)) Df) (cond (bU 0 (0+N.bY (List.map (ah.dec aS) (List.map (ah.enc aS) s.rows)))) (cond (bU (0+N.bY (List.map (ah.dec aS) (List.map (ah.enc aS) s.rows))) 100000000) (cond (List.all (List.map (ah.dec bD) (iV s.rises)) jI) (some {v:=.int .i64 (0+N.bY (List.map (ah.dec aS) (List.map (ah.enc aS) s.rows))+N.dP (List.map (ah.dec bD) (iV s.rises))),bx:=[]:aH}) none) none) none) none) none) none:=by kernel_rfl
theorem Qd (i3:Int) (r9:List (List V)) (i10:Int) (i11:Int) (cZ:List V) (K:Ex->St->Option R):bI xP 94 3 { fr:=[(1,.ptr 10000 0 0 0),(3,.int .i64 i3),(9,.slc yR r9),(10,.int .i64 i10),(11,.int .i64 i11)],tab:=[(10000,.var (aB aA 0 cZ))] } K =
 cond (aZ i11 i10) (cond (decide (0<=i11∧i11<(↑(List.length r9):Int))) (cond (bif Nat.ble (List.length (List.map (ah.dec aj) (V.toRows (List.getD (List.getD r9 (Int.toNat i11) []) 4 V.undef)))) 1000 then List.all (List.map (ah.dec aj) (V.toRows (List.getD (List.getD r9 (Int.toNat i11) []) 4 V.undef))) fun x=>N.iJ x.aQ else false) (K .normal {fr:=[(1,.ptr 10000 0 0 0),(3,.int .i64 (IntKind.wrap .i64 (i3+N.fM (List.map (ah.dec aj) (V.toRows (List.getD (List.getD r9 (Int.toNat i11) []) 4 V.undef)))))),(9,.slc yR r9),(10,.int .i64 i10),(11,.int .i64 (IntKind.wrap .i64 (i11+1)))],tab:=[(10000,.var (aB aA 0 cZ))]:St}) none) none) (K (.exit 0) {fr:=[(1,.ptr 10000 0 0 0),(3,.int .i64 i3)],tab:=[(10000,.var (aB aA 0 cZ))]:St}):=by kernel_rfl
theorem Qe (i3:Int) (AV:List V) (i23:Int) (K:Ex->St->Option R):bI xP 94 8 { fr:=[(3,.int .i64 i3),(22,.agg (aB jD 0 AV)),(23,.int .i64 i23)],tab:=[] } K =
 cond (aZ i23 16) (cond (decide (0<=i23∧i23<(↑(16:Nat):Int))) (cond (jI (ah.dec bD (List.getD (bF AV 0) (Int.toNat i23) []))) (K .normal {fr:=[(3,.int .i64 (IntKind.wrap .i64 (i3+N.bZ (List.map (ah.dec ak) (V.toRows (List.getD (List.getD (bF AV 0) (Int.toNat i23) []) 1 V.undef)))))),(22,.agg (aB jD 0 AV)),(23,.int .i64 (IntKind.wrap .i64 (i23+1)))],tab:=[]:St}) none) none) (K (.exit 2) {fr:=[(3,.int .i64 i3)],tab:=[]:St}):=by kernel_rfl
theorem Zb:dB xP 94 3:=by
 refine bf rfl fun l K q h=>?_
 unfold Y9 at h
 split at h
 .rename_i i3 r9 i10 i11 cZ
  replace h:=Ed h;obtain ⟨h1,h2,h3,h4,h5,h⟩:=h
  have e1:=aY h1
  have e2:=aY h2
  subst e1 e2
  have h3:r9.length<=100:=aX h3
  have e3:=aY h4
  subst e3
  have main:=dh (E:=xP) (f:=94) (id:=3) (A:=Int) (r9) (fun a i=>{ fr:=[(1,.ptr 10000 0 0 0),(3,.int .i64 a),(9,.slc yR r9),(10,.int .i64 r9.length),(11,.int .i64 i)],tab:=[(10000,.var (aB aA 0 cZ))] }) (fun a i=>0<=a∧a<=471000*i)
   (fun a rows K=>K (.exit 0) { fr:=[(1,.ptr 10000 0 0 0),(3,.int .i64 (a+N.bY ((rows).map aS.dec)))],tab:=[(10000,.var (aB aA 0 cZ))] }) (fun a i ha hi=>?_) (fun a ha=>?_) (0) 0 (Int.le_refl _) (by omega) ⟨Int.le_refl _,by decide⟩ K q (by assumption)
  .exact main
  .have hq:=fun K=>Qd (a) (r9) (r9.length) ((i:Int)) (cZ) K
   have t1:aZ (i:Int) r9.length=true:=dK (by omega)
   have t2:decide ((0:Int)<=i∧(i:Int)<r9.length)=true:=decide_eq_true (by omega)
   have t3:IntKind.wrap .i64 ((i:Int)+1)=(i:Int)+1:=dY (by omega) (by omega)
   have hr:jQ (aS.dec (r9.getD i [])).line=true:=jF h5 hi
   obtain ⟨hr1,_,hr3⟩:=rZ hr
   have hb:=uP (aS.dec (r9.getD i [])).line
   have hb2:1570*((aS.dec (r9.getD i [])).line.length:Int)<=471000:=by omega
   simp only [Int.toNat_natCast,gX] at hq
   simp only [t1,t2,t3,cond_true] at hq
   refine .inl ⟨a+N.fM (aS.dec (r9.getD i [])).line,⟨by omega,by omega⟩,fun K=>?_,fun K=>?_⟩
   .rw [hq,dN (show (aS.dec (r9.getD i [])).line.length<=1000 by omega),hr3,dY (n:=a+_) (by omega) (by omega)]
    try rfl
   .show K _ { fr:=[(1,.ptr 10000 0 0 0),(3,.int .i64 (a+(N.fM (aS.dec (r9.getD i [])).line+N.bY ((r9.drop (i+1)).map aS.dec))))],tab:=_ }=_
    rw [Int.add_assoc]
  .refine ⟨.exit 0,_,by simp,fun K=>?_,fun K=>rfl⟩
   rw [Qd]
   simp (disch:=omega) only [evs,List.map_nil]
   show _=K _ { fr:=[(1,.ptr 10000 0 0 0),(3,.int .i64 (a+0))],tab:=_ }
   rw [Int.add_zero]
   try rfl
 .cases h
theorem Zc:dB xP 94 8:=by
 refine bf rfl fun l K q h=>?_
 unfold Za at h
 split at h
 .rename_i i3 AV i23
  replace h:=UG h;obtain ⟨h2,h4,h5,h6,h⟩:=h
  have e2:=aY h2
  subst e2
  have main:=dh (E:=xP) (f:=94) (id:=8) (A:=Int) ((bF AV 0)) (fun a i=>{ fr:=[(3,.int .i64 a),(22,.agg (aB jD 0 AV)),(23,.int .i64 i)],tab:=[] }) (fun a i=>0<=a∧a<=100000000+25120*i)
   (fun a rows K=>K (.exit 2) { fr:=[(3,.int .i64 (a+N.dP ((rows).map bD.dec)))],tab:=[] }) (fun a i ha hi=>?_) (fun a ha=>?_) (i3) 0 (Int.le_refl _) (by omega) ⟨bQ h4,by have:=bQ h5; omega⟩ K q (by assumption)
  .exact main
  .have hq:=fun K=>Qe (a) (AV) ((i:Int)) K
   have hi:i<16:=hi
   have t1:aZ (i:Int) (16:Int)=true:=dK (by omega)
   have t2:decide ((0:Int)<=i∧(i:Int)<((16:Nat):Int))=true:=decide_eq_true (by omega)
   have t3:IntKind.wrap .i64 ((i:Int)+1)=(i:Int)+1:=dY (by omega) (by omega)
   have hr:jI (bD.dec ((bF AV 0).getD i []))=true:=jF h6 hi
   have hr2:=zA (aP hr).1
   have hb:=qW (bD.dec ((bF AV 0).getD i [])).kept
   simp only [Int.toNat_natCast,CX] at hq
   simp only [t1,t2,t3,cond_true] at hq
   refine .inl ⟨a+N.bZ (bD.dec ((bF AV 0).getD i [])).kept,⟨by omega,by omega⟩,fun K=>?_,fun K=>?_⟩
   .rw [hq]
    show cond (jI (bD.dec ((bF AV 0).getD i []))) _ _=_
    rw [hr,dY (n:=a+_) (by omega) (by omega)]
    try rfl
   .show K _ { fr:=[(3,.int .i64 (a+(N.bZ (bD.dec ((bF AV 0).getD i [])).kept+N.dP (((bF AV 0).drop (i+1)).map bD.dec))))],tab:=[] }=_
    rw [Int.add_assoc]
  .refine ⟨.exit 2,{ fr:=[(3,.int .i64 a)],tab:=[] },by simp,fun K=>Qe a AV 16 K,fun K=>?_⟩
   show K _ { fr:=[(3,.int .i64 (a+0))],tab:=[] }=_
   rw [Int.add_zero]
 .cases h
theorem JH:bH Tryz.prog 94 Me:=by
 refine aK (aT (((fK.nil _).cons OH).cons afy)) (E:=xP) Tryz.func94 [3,8] (by kernel_rfl) (Lp Zb Zc) fun a b hp=>?_
 obtain ⟨hp,h3⟩:=aP hp
 obtain ⟨h1,h2⟩:=aP hp
 have h3:a.rises.list.all jI=true:=h3
 have h4:=uQ a.rows (List.all_eq_true.2 fun x hx=>(Qc (List.all_eq_true.1 h2 x hx):jf x=true))
 have h5:=aX h1
 refine (akT a).trans ?_
 simp only [bn,mg,List.length_map,Int.zero_add,beq_self_eq_true,cond_true,h1,h2,h3,dX h4.1,dX (show N.bY a.rows<=100000000 by omega)]
 try rfl
namespace N
def uw (s:aF) (p:Int) (m:ay):aF × Int :=
 cond (cond (aZ p 0) true (aZ 15 p)) (s,7) (cond ((dH (kS s p) m).2 != 0) (s,(dH (kS s p) m).2)
  (cond (aZ s.bytes (jv ⟨s.next,s.bytes,s.rows,s.rises.set p.toNat (dH (kS s p) m).1⟩)) (s,12) (⟨s.next,s.bytes,s.rows,s.rises.set p.toNat (dH (kS s p) m).1⟩,0)))
def KN (s:aF) (k:Int) (m out:ay) (l:List aG):aF × Int × ay × Int :=
 cond (aZ s.bytes (jv ⟨IntKind.wrap .u64 (s.next+1),s.bytes,(iH s k (rU l ⟨kL m s.next,false,false⟩).1).rows,s.rises⟩)) (s,0,gJ,12)
  (cond ((rU l ⟨kL m s.next,false,false⟩).2 != 0) (s,0,gJ,(rU l ⟨kL m s.next,false,false⟩).2)
   (⟨IntKind.wrap .u64 (s.next+1),s.bytes,(iH s k (rU l ⟨kL m s.next,false,false⟩).1).rows,s.rises⟩,s.next,out,0))
def qc (s:aF) (n:Bytes) (m:ay):aF × Int × ay × Int :=
 cond (aZ (bP s n) 0) (s,0,gJ,10) (cond (aV m != 0) (s,0,gJ,aV m) (cond (s.next==0) (s,0,gJ,18)
  (cond (bU (dn s (bP s n)).q.most (dn s (bP s n)).line.length)
   (cond (fF (dn s (bP s n)).line).2 (KN s (bP s n) m (fF (dn s (bP s n)).line).1 (eP (dn s (bP s n)).line (fF (dn s (bP s n)).line).1.id).1) (s,0,gJ,12))
   (KN s (bP s n) m gJ (dn s (bP s n)).line))))
end N
def qx (s:aF):Bool:=cond (qw s) (cond (bU 0 s.next) (aZ s.next 18446744073709551616) false) false
theorem TS {x:aC} (h:jI x=true) {m:ay} (hm:N.iJ m=true) (hs:dA m=true):jI (N.dH x m).1=true:=by
 have h0:=adO (Y8 h) (Iy hm) hs
 obtain ⟨h1,h2⟩:=aP h
 have h3:=(aP h0).1
 unfold jI
 rw [h3]
 show ((N.dH x m).1.kept.all N.iJ)=true
 unfold N.dH
 cases N.aV m != 0 with
 | true=>exact h2
 | false =>
  cases x.total==18446744073709551615 with
  | true=>exact h2
  | false =>
   refine List.all_eq_true.2 fun y hy=>?_
   rcases List.mem_append.1 (List.mem_of_mem_drop hy) with hy | hy
   .exact List.all_eq_true.1 h2 y hy
   .rw [List.mem_singleton.1 hy]; exact hm
theorem ad7 {a:dG aC} {p:aC->Bool} {v:aC} (i:Nat) (h:a.list.all p=true) (hv:p v=true):(a.set i v).list.all p=true:=by
 rw [dG.zo]
 refine List.all_eq_true.2 fun x hx=>?_
 rcases List.mem_or_eq_of_mem_set hx with hx | hx
 .exact List.all_eq_true.1 h x hx
 .rw [hx]; exact hv
theorem sSF {rows:List dW} {rises:dG aC} {n b:Int} (h1:rows.length<=100) (h2:rows.all Df=true) (h3:rises.list.all jI=true):qw ⟨n,b,rows,rises⟩=true:=by
 unfold qw tN
 rw [dN h1,h2,h3]; rfl
theorem af0 {l:List aG} (h:jQ l=true) {x:aG} (hx:dR x=true) (hf:N.iJ x.aQ=true):jQ (N.rU l x).1=true:=by
 unfold N.rU
 cases hc:N.rRc l x.aQ != 0 with
 | true=>exact h
 | false =>
  have h0:N.rRc l x.aQ=0:=by simpa using hc
  have hl:l.length<64:=by
   unfold N.rRc at h0
   cases h1:N.aV x.aQ != 0 with
   | true=>rw [h1] at h0; have h0:N.aV x.aQ=0:=h0; rw [h0] at h1; cases h1
   | false =>
    rw [h1] at h0
    cases h2:(l.any fun y=>bU x.aQ.id y.aQ.id) with
    | true=>rw [h2] at h0; cases h0
    | false =>
     rw [h2] at h0
     cases h3:bU 64 (l.length:Int) with
     | true=>rw [h3] at h0; cases h0
     | false=>have:=lW h3; omega
  obtain ⟨h1,h2,h3⟩:=rZ h
  simp only [cond_false]
  unfold jQ
  rw [dN (show (l++[x]).length<=300 by rw [List.length_append]; simp only [List.length_cons,List.length_nil]; omega),List.all_append,List.all_append,h2,h3]
  simp only [List.all_cons,List.all_nil,hx,hf,Bool.and_true,cond_true]
theorem Zd {l:List aG} (h:jQ l=true) (id:Int):jQ (N.eP l id).1=true:=by
 obtain ⟨h1,h2,h3⟩:=rZ h
 have hl:=FC l id
 have hs:∀ x∈(N.eP l id).1,x∈l:=fun x hx=>by
  unfold N.eP at hx
  revert hx
  cases aZ (N.ix (N.isId id) l 0) 0 with
  | true=>exact fun hx=>hx
  | false =>
   intro hx
   rcases List.mem_append.1 (show x∈l.take _++l.drop _ from hx) with hx | hx
   .exact List.mem_of_mem_take hx
   .exact List.mem_of_mem_drop hx
 unfold jQ
 rw [dN (show (N.eP l id).1.length<=300 by omega),List.all_eq_true.2 fun x hx=>List.all_eq_true.1 h2 x (hs x hx),List.all_eq_true.2 fun x hx=>List.all_eq_true.1 h3 x (hs x hx)]; rfl
theorem abK {rows:List dW} {p:dW->Bool} {x:dW} (k:Nat) (h:rows.all p=true) (hx:p x=true):(rows.set k x).all p=true:=by
 refine List.all_eq_true.2 fun y hy=>?_
 rcases List.mem_or_eq_of_mem_set hy with hy | hy
 .exact List.all_eq_true.1 h y hy
 .rw [hy]; exact hx
theorem TT {m:ay} {n:Int} (h:N.iJ m=true) (h1:0<=n) (h2:n<18446744073709551616):N.iJ (N.kL m n)=true:=by
 obtain ⟨h3,h4⟩:=aP h
 show cond (N.vC (N.kL m n)) (m.head.all N.Ob) false=true
 rw [adP h3 h1 h2,h4]; rfl
def Ze:Den:=den (aO (bg au) (aO (cu .i64) (aW (bg ak)))) dw (nP (aO (bg au) (aW (cu .i64)))) (fun a _=>cond (qw a.1) (cond (N.iJ a.2.2) (dA a.2.2) false) false) fun a _=>(N.uw a.1 a.2.1 a.2.2,())
noncomputable def Zf:Env:=env Tryz.prog [(137,Ci),(94,Me)] [] []
theorem af2 (s:aF) (p:Int) (m:ay):type_of% (by
  have h:bM Zf 61 ((aO (bg au) (aO (cu .i64) (aW (bg ak)))).enc (s,p,m)) ([]) some =(
   let z3:=(ah.dec bD (List.getD (iV s.rises) (Int.toNat p) []));let z0:=(N.dH z3 (ah.dec ak (ah.enc ak m)));let z1:=(some {v:=.fE [V.agg (ah.enc au s),.int .i64 7],bx:=[]:aH});let z2:=(List.map (ah.enc aS) s.rows);cond (aZ p 0) z1 (cond (aZ 15 p) z1 (cond (decide (0<=p∧p<(↑(16:Nat):Int))) (cond (bif dQ z3 then dA (ah.dec ak (ah.enc ak m)) else false) (cond (Prod.snd z0 != 0) (some {v:=.fE [V.agg (ah.enc au s),.int .i64 z0.2],bx:=[]:aH}) (cond (decide (0<=p∧p<(↑(16:Nat):Int))) (cond (qw {next:=aF.next s,bytes:=aF.bytes s,rows:=List.map (ah.dec aS) z2,rises:=am4 s.rises (Int.toNat p) z0.1:aF}) (cond (aZ s.bytes (N.jv {next:=aF.next s,bytes:=aF.bytes s,rows:=List.map (ah.dec aS) z2,rises:=am4 s.rises (Int.toNat p) z0.1:aF})) (some {v:=.fE [V.agg (ah.enc au s),.int .i64 12],bx:=[]:aH}) (some {v:=.fE [V.agg (V.int .u64 s.next::V.int .i64 s.bytes::V.slc yR z2::setCells s.rises (Int.toNat p) z0.1),.int .i64 0],bx:=[]:aH})) none) none)) none) none))):=by kernel_rfl
  dsimp only at h;exact h):=by kernel_rfl
theorem abL:bH Tryz.prog 61 Ze:=by
 refine aK (aT (((fK.nil _).cons JH).cons QL)) (E:=Zf) Tryz.func61 [] (by kernel_rfl) (none0) fun a b hp=>?_
 obtain ⟨s,p,m⟩:=a
 obtain ⟨hs,hm⟩:=aP (show cond (qw s) (cond (N.iJ m) (dA m) false) false=true from hp)
 obtain ⟨hm1,hm2⟩:=aP hm
 obtain ⟨hs1,hs2⟩:=aP hs
 obtain ⟨hs0,hs3⟩:=aP hs1
 refine (af2 s p m).trans ?_
 simp only [bn,ak.de,hm2,anB]
 show _=some (⟨.fE [.agg (au.enc (N.uw s p m).1),.int .i64 (N.uw s p m).2],[],[]⟩:aH)
 unfold N.uw
 cases h1:aZ p 0 with
 | true=>rfl
 | false =>
  cases h2:aZ 15 p with
  | true=>rfl
  | false =>
   have g1:=fD h1
   have g2:=fD h2
   have hk:jI (s.rises.list.getD p.toNat iC)=true:=List.all_eq_true.1 hs2 _ (getD_mem iC (show p.toNat<s.rises.list.length by rw [dG.jE]; omega))
   have hk1:=(aP hk).1
   have hx:=TS hk hm1 hm2
   have hsf:qw ⟨s.next,s.bytes,s.rows,s.rises.set p.toNat (N.dH (s.rises.list.getD p.toNat iC) m).1⟩=true:=sSF (aX hs0) hs3 (ad7 _ hs2 hx)
   simp only [PO g1 (show p<((16:Nat):Int) by omega),PI s.rises p.toNat (by omega),bD.de,hk1,hsf,cond_true,cond_false]
   show cond ((N.dH (N.kS s p) m).2 != 0) _ _=_
   cases h3:(N.dH (N.kS s p) m).2 != 0 with
   | true=>rfl
   | false =>
    simp only [cond_false]
    show cond (aZ s.bytes (N.jv ⟨s.next,s.bytes,s.rows,s.rises.set p.toNat (N.dH (N.kS s p) m).1⟩)) _ _=_
    cases h4:aZ s.bytes (N.jv ⟨s.next,s.bytes,s.rows,s.rises.set p.toNat (N.dH (N.kS s p) m).1⟩) with
    | true=>rfl
    | false =>
     simp only [cond_false,setCells_eq]
     try rfl
def akU:Den:=den (aO (bg au) (aO fV (aW (bg ak)))) dw (nP (aO (bg au) (aO (cu .u64) (aO (bg ak) (aW (cu .i64)))))) (fun a _=>cond (qx a.1) (cond (N.iJ a.2.2) (dA a.2.2) false) false) fun a _=>(N.qc a.1 a.2.1 a.2.2,())
noncomputable def akV:Env:=env Tryz.prog [(93,CW),(12,lG),(182,ady),(135,Pj),(183,aoE),(133,D8),(94,Me)] [] []
theorem anL (s:aF) (n:Bytes) (m:ay):type_of% (by
  have h:bM akV 140 ((aO (bg au) (aO fV (aW (bg ak)))).enc (s,n,m)) ([]) some =(
   let z16:=(ah.dec ak (ah.enc ak m));let z3:=(ah.dec au (ah.enc au s));let z8:=(List.map (ah.enc aS) s.rows);let z15:=(decide (0<=N.bP z3 n∧N.bP z3 n<(↑(List.length z8):Int)));let z14:=(List.getD z8 (Int.toNat (N.bP z3 n)) []);let z4:=(List.map (ah.dec aj) (V.toRows (z14.getD 4 .undef)));let z17:=(Nat.ble (List.length z4) 1000);let z7:=(some {v:=.fE [V.agg (ah.enc au s),.int .u64 0,.agg [V.int .u64 0,.str [],.str [],.slc yP [],.str [],.int .u64 0,.int .u8 0],.int .i64 12],bx:=[]:aH});let z11:=(List.map (ah.dec aj) (List.map (ah.enc aj) (Prod.fst (N.eP z4 (ay.id (Prod.fst (N.fF z4)))))));let z10:=(aF.next s+1);let z9:=(List.map yE m.head);let z1:=(N.rU z11 {aQ:={id:=aF.next s,bT:=ay.bT m,key:=ay.key m,head:=List.map yD z9,body:=ay.body m,due:=ay.due m,hops:=ay.hops m:ay},eF:=false,again:=false:aG});let z5:=(N.iH z3 (N.bP z3 n) (List.map (ah.dec aj) (List.map (ah.enc aj) z1.1)));let z12:=(List.map (ah.enc aS) z5.rows);let z2:=(N.rU z4 {aQ:={id:=aF.next s,bT:=ay.bT m,key:=ay.key m,head:=List.map yD z9,body:=ay.body m,due:=ay.due m,hops:=ay.hops m:ay},eF:=false,again:=false:aG});let z6:=(N.iH z3 (N.bP z3 n) (List.map (ah.dec aj) (List.map (ah.enc aj) z2.1)));let z13:=(List.map (ah.enc aS) z6.rows);let z0:=(cond (N.aV z16 != 0) (some {v:=.fE [V.agg (ah.enc au s),.int .u64 0,.agg [V.int .u64 0,.str [],.str [],.slc yP [],.str [],.int .u64 0,.int .u8 0],.int .i64 (N.aV z16)],bx:=[]:aH}) (cond z15 (cond z15 (cond (bU (V.toInt (z14.getD 1 .undef)) (IntKind.wrap .u64 (↑(List.length (V.toRows (z14.getD 4 .undef))):Int))) (cond z17 (cond (!Prod.snd (N.fF z4)) z7 (cond z17 (cond (Nat.ble (List.length z11) 1000) (cond (ni z3 (N.bP z3 n)) (cond (qw {next:=IntKind.wrap .u64 z10,bytes:=aF.bytes z5,rows:=List.map (ah.dec aS) z12,rises:=reA z5.rises:aF}) (cond (aZ s.bytes (N.jv {next:=IntKind.wrap .u64 z10,bytes:=aF.bytes z5,rows:=List.map (ah.dec aS) z12,rises:=reA z5.rises:aF})) z7 (cond (Prod.snd z1 != 0) (some {v:=.fE [V.agg (ah.enc au s),.int .u64 0,.agg [V.int .u64 0,.str [],.str [],.slc yP [],.str [],.int .u64 0,.int .u8 0],.int .i64 z1.2],bx:=[]:aH}) (some {v:=.fE [V.agg (V.int .u64 (IntKind.wrap .u64 z10)::V.int .i64 z5.bytes::V.slc yR z12::eU z5.rises),.int .u64 s.next,.agg (ah.enc ak (Prod.fst (N.fF z4))),.int .i64 0],bx:=[]:aH}))) none) none) none) none)) none) (cond z17 (cond (ni z3 (N.bP z3 n)) (cond (qw {next:=IntKind.wrap .u64 z10,bytes:=aF.bytes z6,rows:=List.map (ah.dec aS) z13,rises:=reA z6.rises:aF}) (cond (aZ s.bytes (N.jv {next:=IntKind.wrap .u64 z10,bytes:=aF.bytes z6,rows:=List.map (ah.dec aS) z13,rises:=reA z6.rises:aF})) z7 (cond (Prod.snd z2 != 0) (some {v:=.fE [V.agg (ah.enc au s),.int .u64 0,.agg [V.int .u64 0,.str [],.str [],.slc yP [],.str [],.int .u64 0,.int .u8 0],.int .i64 z2.2],bx:=[]:aH}) (some {v:=.fE [V.agg (V.int .u64 (IntKind.wrap .u64 z10)::V.int .i64 z6.bytes::V.slc yR z13::eU z6.rises),.int .u64 s.next,.agg [V.int .u64 0,.str [],.str [],.slc yP [],.str [],.int .u64 0,.int .u8 0],.int .i64 0],bx:=[]:aH}))) none) none) none)) none) none));cond (Nat.ble (List.length (List.map (ah.dec aS) z8)) 100) (cond (aZ (N.bP z3 n) 0) (some {v:=.fE [V.agg (ah.enc au s),.int .u64 0,.agg [V.int .u64 0,.str [],.str [],.slc yP [],.str [],.int .u64 0,.int .u8 0],.int .i64 10],bx:=[]:aH}) (cond (N.aV z16==0) (cond (aF.next s==0) (some {v:=.fE [V.agg (ah.enc au s),.int .u64 0,.agg [V.int .u64 0,.str [],.str [],.slc yP [],.str [],.int .u64 0,.int .u8 0],.int .i64 18],bx:=[]:aH}) z0) z0)) none):=by kernel_rfl
  dsimp only at h;exact h):=by kernel_rfl
theorem akW:bH Tryz.prog 140 akU:=by
 refine aK (aT ((((((((fK.nil _).cons JH).cons zB).cons anm).cons Py).cons afu).cons qH).cons tJ)) (E:=akV) Tryz.func140 [] (by kernel_rfl) (none0) fun a b hp=>?_
 obtain ⟨s,n,m⟩:=a
 obtain ⟨hg,hm⟩:=aP (show cond (qx s) (cond (N.iJ m) (dA m) false) false=true from hp)
 obtain ⟨hs,hn⟩:=aP hg
 obtain ⟨hn1,hn2⟩:=aP hn
 have hn1:=bQ hn1
 have hn2:=jZ hn2
 obtain ⟨hm1,hm2⟩:=aP hm
 obtain ⟨hs1,hs2⟩:=aP hs
 obtain ⟨hs0,hs3⟩:=aP hs1
 have hp':=aX hs0
 have hmn:=TT hm1 hn1 hn2
 have hsm:dR ⟨N.kL m s.next,false,false⟩=true:=hm2
 refine (anL s n m).trans ?_
 simp only [gX,fO,bn,ap9,au.de,ak.de,List.length_map,hs0,cond_true,YG]
 show _=some (⟨.fE [.agg (au.enc (N.qc s n m).1),.int .u64 (N.qc s n m).2.1,.agg (ak.enc (N.qc s n m).2.2.1),.int .i64 (N.qc s n m).2.2.2],[],[]⟩:aH)
 unfold N.qc
 cases h1:aZ (N.bP s n) 0 with
 | true=>rfl
 | false =>
 simp only [cond_false]
 cases h2:N.aV m==0 with
 | false =>
  rw [bne,h2]
  try rfl
 | true =>
  rw [bne,h2]
  cases h3:s.next==0 with
  | true=>rfl
  | false =>
  obtain ⟨g1,g2,g3,g4⟩:=mD (oH h1)
  have hl:jQ (s.rows.getD (N.bP s n).toNat row0).line=true:=List.all_eq_true.1 hs3 _ (getD_mem row0 g4)
  have hl1:=(rZ hl).1
  have hw:=uo hp' g1 g2
  have hlen:=FC (s.rows.getD (N.bP s n).toNat row0).line (N.fF (s.rows.getD (N.bP s n).toNat row0).line).1.id
  have wl:IntKind.wrap .u64 ((s.rows.getD (N.bP s n).toNat row0).line.length:Int)=(s.rows.getD (N.bP s n).toNat row0).line.length:=kC (by omega) (by omega)
  have sf:∀ l:List aG,jQ l=true->qw ⟨IntKind.wrap .u64 (s.next+1),s.bytes,(N.iH s (N.bP s n) (N.rU l ⟨N.kL m s.next,false,false⟩).1).rows,s.rises⟩=true:=fun l hl =>
   sSF (by show (List.set _ _ _).length<=100; rw [List.length_set]; exact hp') (abK _ hs3 (show jQ _=true from af0 hl hsm hmn)) hs2
  have e1:=sf _ (Zd hl (N.fF (s.rows.getD (N.bP s n).toNat row0).line).1.id)
  have e2:=sf _ hl
  have hrl:(V.toRows (List.getD (aS.enc (s.rows.getD (N.bP s n).toNat row0)) 4 V.undef)).length=(s.rows.getD (N.bP s n).toNat row0).line.length:=List.length_map _
  simp only [PO g1 g2,pX s _ g4,aS.de,hrl,wl,hw,dN (show (s.rows.getD (N.bP s n).toNat row0).line.length<=1000 by omega),dN (show (N.eP (s.rows.getD (N.bP s n).toNat row0).line (N.fF (s.rows.getD (N.bP s n).toNat row0).line).1.id).1.length<=1000 by omega),cond_true,cond_false,Bool.not_true]
  show cond (bU (N.dn s (N.bP s n)).q.most (N.dn s (N.bP s n)).line.length) _ _=_
  cases h4:bU (N.dn s (N.bP s n)).q.most (N.dn s (N.bP s n)).line.length with
  | true =>
   simp only [cond_true]
   show cond (!(N.fF (N.dn s (N.bP s n)).line).2) _ _=_
   cases h5:(N.fF (N.dn s (N.bP s n)).line).2 with
   | false=>rfl
   | true =>
    simp only [Bool.not_true,cond_true,cond_false]
    unfold N.KN
    refine (congrArg (fun b=>cond b _ none) e1).trans ?_
    show cond (aZ s.bytes (N.jv ⟨IntKind.wrap .u64 (s.next+1),s.bytes,(N.iH s (N.bP s n) (N.rU (N.eP (N.dn s (N.bP s n)).line (N.fF (N.dn s (N.bP s n)).line).1.id).1 ⟨N.kL m s.next,false,false⟩).1).rows,s.rises⟩)) _ _=_
    cases h6:aZ s.bytes (N.jv ⟨IntKind.wrap .u64 (s.next+1),s.bytes,(N.iH s (N.bP s n) (N.rU (N.eP (N.dn s (N.bP s n)).line (N.fF (N.dn s (N.bP s n)).line).1.id).1 ⟨N.kL m s.next,false,false⟩).1).rows,s.rises⟩) with
    | true=>rfl
    | false =>
     simp only [cond_false]
     show cond ((N.rU (N.eP (N.dn s (N.bP s n)).line (N.fF (N.dn s (N.bP s n)).line).1.id).1 ⟨N.kL m s.next,false,false⟩).2 != 0) _ _=_
     cases h7:(N.rU (N.eP (N.dn s (N.bP s n)).line (N.fF (N.dn s (N.bP s n)).line).1.id).1 ⟨N.kL m s.next,false,false⟩).2 != 0 with
     | true=>rfl
     | false=>rfl
  | false =>
   simp only [cond_false]
   unfold N.KN
   refine (congrArg (fun b=>cond b _ none) e2).trans ?_
   show cond (aZ s.bytes (N.jv ⟨IntKind.wrap .u64 (s.next+1),s.bytes,(N.iH s (N.bP s n) (N.rU (N.dn s (N.bP s n)).line ⟨N.kL m s.next,false,false⟩).1).rows,s.rises⟩)) _ _=_
   cases h6:aZ s.bytes (N.jv ⟨IntKind.wrap .u64 (s.next+1),s.bytes,(N.iH s (N.bP s n) (N.rU (N.dn s (N.bP s n)).line ⟨N.kL m s.next,false,false⟩).1).rows,s.rises⟩) with
   | true=>rfl
   | false =>
    simp only [cond_false]
    show cond ((N.rU (N.dn s (N.bP s n)).line ⟨N.kL m s.next,false,false⟩).2 != 0) _ _=_
    cases h7:(N.rU (N.dn s (N.bP s n)).line ⟨N.kL m s.next,false,false⟩).2 != 0 with
    | true=>rfl
    | false=>rfl
end Go.Ev

namespace Go.Ev
open Go Go.Proofs
set_option maxRecDepth 100000
-- FOLD2
structure lI where
 op:Int
 name:Bytes
 q:dZ
 aQ:ay
 id:Int
 place:Int
def akX (r:List V):lI:=⟨(r.getD 0 .undef).toInt,(r.getD 1 .undef).toStr,⟨(r.getD 2 .undef).toStr,(r.getD 3 .undef).toInt,(r.getD 4 .undef).toInt,(r.getD 5 .undef).toStr⟩,
 ⟨(r.getD 6 .undef).toInt,(r.getD 7 .undef).toStr,(r.getD 8 .undef).toStr,eX (r.getD 9 .undef).toRows,(r.getD 10 .undef).toStr,(r.getD 11 .undef).toInt,(r.getD 12 .undef).toInt⟩,(r.getD 13 .undef).toInt,(r.getD 14 .undef).toInt⟩
def fU:ah lI:=(((rM .u8).and (qA.and (lT.and (ak.and ((rM .u64).and (rM .i64)))))).iso (fun p=>(⟨p.1,p.2.1,p.2.2.1,p.2.2.2.1,p.2.2.2.2.1,p.2.2.2.2.2⟩:lI)) (fun o=>(o.op,o.name,o.q,o.aQ,o.id,o.place)) (fun _=>rfl) fun _=>rfl).spelt
 [.int .u8,.str,.str,.int .u64,.int .u64,.str,.int .u64,.str,.str,.slc yP,.str,.int .u64,.int .u8,.int .u64,.int .i64]
 (fun a=>[.int .u8 a.op,.str a.name,.str a.q.name,.int .u64 a.q.most,.int .u64 a.q.life,.str a.q.dead,.int .u64 a.aQ.id,.str a.aQ.bT,.str a.aQ.key,.slc yP (a.aQ.head.map fun p=>[V.str p.key,V.int .u8 p.kind,V.int .i64 p.num,V.str p.text]),.str a.aQ.body,.int .u64 a.aQ.due,.int .u8 a.aQ.hops,.int .u64 a.id,.int .i64 a.place])
 akX rfl (fun _=>rfl) fun r=>by
  show (⟨((r.take 1).getD 0 .undef).toInt,(((r.drop 1).take 1).getD 0 .undef).toStr,abg (((r.drop 1).drop 1).take 4),aav ((((r.drop 1).drop 1).drop 4).take 7),(((((r.drop 1).drop 1).drop 4).drop 7).take 1 |>.getD 0 .undef).toInt,(((((r.drop 1).drop 1).drop 4).drop 7).drop 1 |>.getD 0 .undef).toInt⟩:lI)=akX r
  unfold akX abg aav
  simp only [List.drop_drop,ou,lH,iQ (show 0<4 by decide),iQ (show 1<4 by decide),iQ (show 2<4 by decide),iQ (show 3<4 by decide),
   iQ (show 0<7 by decide),iQ (show 1<7 by decide),iQ (show 2<7 by decide),iQ (show 3<7 by decide),iQ (show 4<7 by decide),iQ (show 5<7 by decide),iQ (show 6<7 by decide)]
namespace N
def af4 (a b c:Int):Int:=cond (aZ (cond (aZ a b) b a) c) c (cond (aZ a b) b a)
def uz (a:lI):Bool:=cond (aZ 40 (af4 a.name.length a.q.name.length a.q.dead.length)) false (Aa a.aQ)
def og:List lI->Bool
 | []=>true
 | a::r=>cond (uz a) (og r) false
def Ez (s q:aF) (a:lI):aF × aF × Bool:=((oN s a.name a.aQ).1,(qc q a.name a.aQ).1,
 cond ((oN s a.name a.aQ).2.1==(qc q a.name a.aQ).2.1) (cond (iP (oN s a.name a.aQ).2.2.1 (qc q a.name a.aQ).2.2.1) ((oN s a.name a.aQ).2.2.2==(qc q a.name a.aQ).2.2.2) false) false)
def oI (s q:aF) (a:lI):aF × aF × Bool :=
 cond (Int.tmod a.op 10==3) ((gy s a.q).1,(gy q a.q).1,(gy s a.q).2==(gy q a.q).2)
 (cond (Int.tmod a.op 10==4) ((vG s a.name).1,(yJ q a.name).1,(vG s a.name).2==(yJ q a.name).2)
 (cond (Int.tmod a.op 10==5) ((mZ s a.name).1,(mZ q a.name).1,cond ((mZ s a.name).2.2==(mZ q a.name).2.2) (sG (mZ s a.name).2.1 (mZ q a.name).2.1) false)
 (cond (Int.tmod a.op 10==6) ((qE s a.name a.id).1,(qE q a.name a.id).1,(qE s a.name a.id).2==(qE q a.name a.id).2)
 (cond (Int.tmod a.op 10==7) ((iY s a.name a.id).1,(iY q a.name a.id).1,cond ((iY s a.name a.id).2.2==(iY q a.name a.id).2.2) (sG (iY s a.name a.id).2.1 (iY q a.name a.id).2.1) false)
 (cond (Int.tmod a.op 10==8) ((qo s a.place a.aQ).1,(uw q a.place a.aQ).1,(qo s a.place a.aQ).2==(uw q a.place a.aQ).2)
 (cond (Int.tmod a.op 10==9) (KH s,KH q,true) (Ez s q a)))))))
end N
theorem QU (a:lI) (r:List lI):N.og (a::r)=cond (N.uz a) (N.og r) false:=rfl
theorem Qg {α:Type} {p:α->Bool} {l:List α} {d:α} (k:Nat) (h:l.all p=true) (hd:p d=true):p (l.getD k d)=true:=by
 by_cases hk:k<l.length
 .exact List.all_eq_true.1 h _ (getD_mem d hk)
 .rw [List.getD_eq_getElem?_getD,List.getElem?_eq_none (by omega)]; exact hd
theorem akY (s:aF) (n:Bytes) (m:ay):(N.oN s n m).2.2.1=gJ∨∃ k,k<s.rows.length∧(N.oN s n m).2.2.1=(N.fF (s.rows.getD k row0).line).1:=by
 unfold N.oN
 cases h1:aZ (N.bP s n) 0 with
 | true=>exact .inl rfl
 | false =>
  obtain ⟨g1,g2,g3,g4⟩:=mD (oH h1)
  cases N.aV m != 0 with
  | true=>exact .inl rfl
  | false =>
   cases s.next==0 with
   | true=>exact .inl rfl
   | false =>
    simp only [cond_false]
    unfold N.zx
    cases bU (N.dn s (N.bP s n)).q.most (N.dn s (N.bP s n)).line.length with
    | true =>
     cases (N.fF (N.dn s (N.bP s n)).line).2 with
     | false=>exact .inl rfl
     | true =>
      simp only [cond_true]
      cases aZ (N.l9 s+N.bJ (N.fF (N.dn s (N.bP s n)).line).1) (N.bJ (N.kL m s.next)) with
      | true=>exact .inl rfl
      | false =>
       cases (N.l7 (N.eP (N.dn s (N.bP s n)).line (N.fF (N.dn s (N.bP s n)).line).1.id).1 ⟨N.kL m s.next,false,false⟩).2 != 0 with
       | true=>exact .inl rfl
       | false=>exact .inr ⟨_,g4,rfl⟩
    | false =>
     simp only [cond_false]
     cases aZ (N.l9 s+N.bJ gJ) (N.bJ (N.kL m s.next)) with
     | true=>exact .inl rfl
     | false=>cases (N.l7 (N.dn s (N.bP s n)).line ⟨N.kL m s.next,false,false⟩).2 != 0<;>exact .inl rfl
theorem abM {s:aF} (n:Bytes) (m:ay) (h:wJ s=true):dA (N.oN s n m).2.2.1=true:=by
 have h2:=(aP (aP (C9 (aP h).1).1).1).2
 rcases akY s n m with e | ⟨k,hk,e⟩
 .rw [e]; rfl
 .rw [e]
  have hl:=(jK (qZ h2 hk)).2.1
  rcases JC (s.rows.getD k row0).line with e | ⟨x,hx,e⟩
  .rw [e]; rfl
  .rw [e]; exact List.all_eq_true.1 hl x hx
theorem Zg {s:aF} (k:Nat) (h:eY s=true):(s.rows.getD k row0).line.all dR=true:=by
 have h2:=(aP h).2
 exact (jK (Qg (p:=jf) k h2 (by rfl))).2.1
theorem Zh {s:aF} (n:Bytes) (h:eY s=true):dR (N.mZ s n).2.1=true:=by
 have hl:=Zg (N.bP s n).toNat h
 unfold N.mZ
 cases aZ (N.bP s n) 0 with
 | true=>rfl
 | false =>
  show dR (N.o7 (N.dn s (N.bP s n)).line).2.1=true
  unfold N.o7
  cases aZ (N.ix N.isReady (N.dn s (N.bP s n)).line 0) 0 with
  | true=>rfl
  | false=>exact Qg (p:=dR) (d:=fA) _ hl rfl
theorem QV {s:aF} (n:Bytes) (id:Int) (h:eY s=true):dR (N.iY s n id).2.1=true:=by
 have hl:=Zg (N.bP s n).toNat h
 unfold N.iY
 cases aZ (N.bP s n) 0 with
 | true=>rfl
 | false =>
  show dR (N.eP (N.dn s (N.bP s n)).line id).2.1=true
  unfold N.eP
  cases aZ (N.ix (N.isId id) (N.dn s (N.bP s n)).line 0) 0 with
  | true=>rfl
  | false=>exact Qg (p:=dR) (d:=fA) _ hl rfl
def Zi:Den:=den (aW (jY fU)) dw (oV iF) (fun l _=>Nat.ble l.length 9223372036854775807) fun l _=>(cond (N.og l) (bU l.length 60) false,())
def af5:fP:={ fr:=[(0,.slc [.int .u8,.str,.str,.int .u64,.int .u64,.str,.int .u64,.str,.str,.slc yP,.str,.int .u64,.int .u8,.int .u64,.int .i64]),(5,.slc [.int .u8,.str,.str,.int .u64,.int .u64,.str,.int .u64,.str,.str,.slc yP,.str,.int .u64,.int .u8,.int .u64,.int .i64]),(6,.int .i64),(7,.int .i64)],tab:=[] }
def ad8:List Leaf->(Ex->St->Option R)->Option R
 | [.r r0,.r r5,.i i6,.i i7],K=>cond (i6==r5.length) (cond (i7==0) (cond (Nat.ble r5.length 9223372036854775807) (cond (N.og ((r5).map fU.dec)) (K (.exit 0) { fr:=[(0,.slc [.int .u8,.str,.str,.int .u64,.int .u64,.str,.int .u64,.str,.str,.slc yP,.str,.int .u64,.int .u8,.int .u64,.int .i64] r0)],tab:=[] }) (K .ret { fr:=[(2,.bool false)],tab:=[] })) none) none) none
 | _,_=>none
noncomputable def Iz:Env:=env Tryz.prog [(38,acT)] [(2,dJ af5 ad8)] [(2,[(0,[0,5,6,7]),(1,[0]),(1000,[2])])]
theorem akZ (l:List lI):bM Iz 18 ((aW (jY fU)).enc l) ([]) some =
 cond ((↑(List.length (List.map (ah.enc fU) l)):Int)==(↑(List.length (List.map (ah.enc fU) l)):Int)) (cond (Nat.ble (List.length (List.map (ah.enc fU) l)) 9223372036854775807) (cond (N.og (List.map (ah.dec fU) (List.map (ah.enc fU) l))) (some {v:=.bool (bU (↑(List.length (List.map (ah.enc fU) l)):Int) 60),bx:=[]:aH}) (some {v:=.bool false,bx:=[]:aH})) none) none:=by kernel_rfl
theorem TU (r0:List (List V)) (r5:List (List V)) (i6:Int) (i7:Int) (K:Ex->St->Option R):type_of% (by
  have h:bI Iz 18 2 { fr:=[(0,.slc [.int .u8,.str,.str,.int .u64,.int .u64,.str,.int .u64,.str,.str,.slc yP,.str,.int .u64,.int .u8,.int .u64,.int .i64] r0),(5,.slc [.int .u8,.str,.str,.int .u64,.int .u64,.str,.int .u64,.str,.str,.slc yP,.str,.int .u64,.int .u8,.int .u64,.int .i64] r5),(6,.int .i64 i6),(7,.int .i64 i7)],tab:=[] } K =(
   let z0:=(List.getD r5 (Int.toNat i7) []);let z1:=(↑(List.length (V.toStr (z0.getD 1 .undef))):Int);let z2:=(↑(List.length (V.toStr (z0.getD 2 .undef))):Int);let z3:=(↑(List.length (V.toStr (z0.getD 5 .undef))):Int);cond (aZ i7 i6) (cond (decide (0<=i7∧i7<(↑(List.length r5):Int))) (cond (aZ 40 (bif aZ (bif aZ z1 z2 then z2 else z1) z3 then z3 else bif aZ z1 z2 then z2 else z1)) (K .ret {fr:=[(2,.bool false)],tab:=[]:St}) (cond (!N.Aa {id:=V.toInt (z0.getD 6 .undef),bT:=V.toStr (z0.getD 7 .undef),key:=V.toStr (z0.getD 8 .undef),head:=List.map yD (V.toRows (z0.getD 9 .undef)),body:=V.toStr (z0.getD 10 .undef),due:=V.toInt (z0.getD 11 .undef),hops:=V.toInt (z0.getD 12 .undef):ay}) (K .ret {fr:=[(2,.bool false)],tab:=[]:St}) (K .normal {fr:=[(0,.slc [.int .u8,.str,.str,.int .u64,.int .u64,.str,.int .u64,.str,.str,.slc yP,.str,.int .u64,.int .u8,.int .u64,.int .i64] r0),(5,.slc [.int .u8,.str,.str,.int .u64,.int .u64,.str,.int .u64,.str,.str,.slc yP,.str,.int .u64,.int .u8,.int .u64,.int .i64] r5),(6,.int .i64 i6),(7,.int .i64 (IntKind.wrap .i64 (i7+1)))],tab:=[]:St}))) none) (K (.exit 0) {fr:=[(0,.slc [.int .u8,.str,.str,.int .u64,.int .u64,.str,.int .u64,.str,.str,.slc yP,.str,.int .u64,.int .u8,.int .u64,.int .i64] r0)],tab:=[]:St})):=by kernel_rfl
  dsimp only at h;exact h):=by kernel_rfl
theorem Zj:dB Iz 18 2:=by
 refine bf rfl fun l K q h=>?_
 unfold ad8 at h
 split at h
 .rename_i r0 r5 i6 i7
  replace h:=Lm h;obtain ⟨h1,h2,h3,h⟩:=h
  have e1:=aY h1
  have e2:=aY h2
  subst e1 e2
  have h3:r5.length<=9223372036854775807:=aX h3
  have main:=dh (E:=Iz) (f:=18) (id:=2) (A:=Unit) (r5) (fun a i=>{ fr:=[(0,.slc [.int .u8,.str,.str,.int .u64,.int .u64,.str,.int .u64,.str,.str,.slc yP,.str,.int .u64,.int .u8,.int .u64,.int .i64] r0),(5,.slc [.int .u8,.str,.str,.int .u64,.int .u64,.str,.int .u64,.str,.str,.slc yP,.str,.int .u64,.int .u8,.int .u64,.int .i64] r5),(6,.int .i64 r5.length),(7,.int .i64 i)],tab:=[] }) (fun a i=>True)
   (fun a rows K=>cond (N.og ((rows).map fU.dec)) (K (.exit 0) { fr:=[(0,.slc [.int .u8,.str,.str,.int .u64,.int .u64,.str,.int .u64,.str,.str,.slc yP,.str,.int .u64,.int .u8,.int .u64,.int .i64] r0)],tab:=[] }) (K .ret { fr:=[(2,.bool false)],tab:=[] })) (fun a i ha hi=>?_) (fun a ha=>?_) (()) 0 (Int.le_refl _) (by omega) trivial K q (by assumption)
  .exact main
  .have hq:=fun K=>TU (r0) (r5) (r5.length) ((i:Int)) K
   have t1:aZ (i:Int) r5.length=true:=dK (by omega)
   have t2:decide ((0:Int)<=i∧(i:Int)<r5.length)=true:=decide_eq_true (by omega)
   have t3:IntKind.wrap .i64 ((i:Int)+1)=(i:Int)+1:=dY (by omega) (by omega)
   have n0:(V.toStr (List.getD (List.getD r5 i []) 1 V.undef))=(fU.dec (r5.getD i [])).name:=rfl
   have n1:(V.toStr (List.getD (List.getD r5 i []) 2 V.undef))=(fU.dec (r5.getD i [])).q.name:=rfl
   have n2:(V.toStr (List.getD (List.getD r5 i []) 5 V.undef))=(fU.dec (r5.getD i [])).q.dead:=rfl
   simp only [Int.toNat_natCast,n0,n1,n2] at hq
   simp only [t1,t2,t3,cond_true] at hq
   simp only [List.map_cons,QU]
   cases hc1:aZ 40 (N.af4 (fU.dec (r5.getD i [])).name.length (fU.dec (r5.getD i [])).q.name.length (fU.dec (r5.getD i [])).q.dead.length) with
   | true =>
    have hcl:N.uz (fU.dec (r5.getD i []))=false:=by unfold N.uz; rw [hc1]; rfl
    refine .inr ⟨.ret,{ fr:=[(2,.bool false)],tab:=[] },by simp,fun K=>?_,fun K=>by rw [hcl]; rfl⟩
    rw [hq]
    show cond (aZ 40 (N.af4 (fU.dec (r5.getD i [])).name.length (fU.dec (r5.getD i [])).q.name.length (fU.dec (r5.getD i [])).q.dead.length)) _ _=_
    rw [hc1]; rfl
   | false =>
    cases hc2:N.Aa (fU.dec (r5.getD i [])).aQ with
    | false =>
     have hcl:N.uz (fU.dec (r5.getD i []))=false:=by unfold N.uz; rw [hc1,hc2]; rfl
     refine .inr ⟨.ret,{ fr:=[(2,.bool false)],tab:=[] },by simp,fun K=>?_,fun K=>by rw [hcl]; rfl⟩
     rw [hq]
     show cond (aZ 40 (N.af4 (fU.dec (r5.getD i [])).name.length (fU.dec (r5.getD i [])).q.name.length (fU.dec (r5.getD i [])).q.dead.length)) _ (cond (!N.Aa (fU.dec (r5.getD i [])).aQ) _ _)=_
     rw [hc1,hc2]; rfl
    | true =>
     have hcl:N.uz (fU.dec (r5.getD i []))=true:=by unfold N.uz; rw [hc1,hc2]; rfl
     refine .inl ⟨(),trivial,fun K=>?_,fun K=>by rw [hcl]; rfl⟩
     rw [hq]
     show cond (aZ 40 (N.af4 (fU.dec (r5.getD i [])).name.length (fU.dec (r5.getD i [])).q.name.length (fU.dec (r5.getD i [])).q.dead.length)) _ (cond (!N.Aa (fU.dec (r5.getD i [])).aQ) _ _)=_
     rw [hc1,hc2]; rfl
  .refine ⟨.exit 0,_,by simp,fun K=>?_,fun K=>rfl⟩
   rw [TU]
   simp (disch:=omega) only [evs]
   try rfl
 .cases h
theorem af6:bH Tryz.prog 18 Zi:=by
 refine aK (aT ((fK.nil _).cons ae2)) (E:=Iz) Tryz.func18 [2] (by kernel_rfl) (one1 Zj) fun a b hp=>?_
 have hp:Nat.ble a.length 9223372036854775807=true:=hp
 refine (akZ a).trans ?_
 simp only [bn,List.length_map,beq_self_eq_true,hp,cond_true]
 show _=some (⟨.bool (cond (N.og a) (bU a.length 60) false),[],[]⟩:aH)
 cases N.og a<;>rfl
def Dh (a:lI):Bool:=cond (N.iJ a.aQ) (dA a.aQ) false
def ak0:Den:=den (aO (bg au) (aO (bg au) (aW (bg fU)))) dw (nP (aO (bg au) (aO (bg au) (aW iF)))) (fun a _=>cond (wJ a.1) (cond (qx a.2.1) (Dh a.2.2) false) false) fun a _=>(N.Ez a.1 a.2.1 a.2.2,())
noncomputable def ad9:Env:=env Tryz.prog [(13,akt),(140,akU),(25,qU)] [] []
theorem ak1 (s q:aF) (a:lI):type_of% (by
  have h:bM ad9 64 ((aO (bg au) (aO (bg au) (aW (bg fU)))).enc (s,q,a)) ([]) some =(
   let z0:=(ah.dec ak (ah.enc ak a.aQ));let z1:=(N.oN (ah.dec au (ah.enc au s)) a.name z0);let z2:=(N.qc (ah.dec au (ah.enc au q)) a.name z0);let z3:=(some {v:=.fE [V.agg (ah.enc au z1.1),.agg (ah.enc au z2.1),.bool false],bx:=[]:aH});let z4:=(ah.dec ak (ah.enc ak (Prod.fst (Prod.snd z1.2))));cond (bif wJ (ah.dec au (ah.enc au s)) then bif N.vC z0 then dA z0 else false else false) (cond (bif qx (ah.dec au (ah.enc au q)) then bif N.iJ z0 then dA z0 else false else false) (cond (Prod.fst z1.2==Prod.fst z2.2) (cond (dA z4) (cond (N.iP z4 (ah.dec ak (ah.enc ak (Prod.fst (Prod.snd z2.2))))) (some {v:=.fE [V.agg (ah.enc au z1.1),.agg (ah.enc au z2.1),.bool (Prod.snd (Prod.snd z1.2)==Prod.snd (Prod.snd z2.2))],bx:=[]:aH}) z3) none) z3) none) none):=by kernel_rfl
  dsimp only at h;exact h):=by kernel_rfl
theorem af7 (hN:bH Tryz.prog 95 fZ):bH Tryz.prog 64 ak0:=by
 refine aK (aT ((((fK.nil _).cons rQ).cons akW).cons (adS hN))) (E:=ad9) Tryz.func64 [] (by kernel_rfl) (none0) fun a b hp=>?_
 obtain ⟨s,q,a⟩:=a
 obtain ⟨hs,hq⟩:=aP (show cond (wJ s) (cond (qx q) (Dh a) false) false=true from hp)
 obtain ⟨hq,ha⟩:=aP hq
 obtain ⟨ha1,ha2⟩:=aP ha
 have ho:=abM a.name a.aQ hs
 refine (ak1 s q a).trans ?_
 simp only [au.de,ak.de,hs,hq,ha1,ha2,Iy ha1,ho,cond_true]
 show _=some (⟨.fE [.agg (au.enc (N.Ez s q a).1),.agg (au.enc (N.Ez s q a).2.1),.bool (N.Ez s q a).2.2],[],[]⟩:aH)
 unfold N.Ez
 cases (N.oN s a.name a.aQ).2.1==(N.qc q a.name a.aQ).2.1 with
 | false=>rfl
 | true =>
  simp only [cond_true]
  cases N.iP (N.oN s a.name a.aQ).2.2.1 (N.qc q a.name a.aQ).2.2.1<;>rfl
def aea:Den:=den (aO (bg au) (aO (bg au) (aW (bg fU)))) dw (nP (aO (bg au) (aO (bg au) (aW iF)))) (fun a _=>cond (wJ a.1) (cond (qx a.2.1) (Dh a.2.2) false) false) fun a _=>(N.oI a.1 a.2.1 a.2.2,())
noncomputable def Zk:Env:=env Tryz.prog [(11,JB),(52,JB),(53,akb),(54,ad2),(16,VP),(55,VP),(56,O4),(24,VQ),(57,VQ),(58,Ij),(59,Ij),(60,adQ),(61,Ze),(62,VR),(63,VR),(64,ak0)] [] []
theorem af8 (s q:aF) (a:lI):type_of% (by
  have h:bM Zk 19 ((aO (bg au) (aO (bg au) (aW (bg fU)))).enc (s,q,a)) ([]) some =(
   let z0:=(ah.dec au (ah.enc au s));let z1:=(ah.dec au (ah.enc au q));let z2:=(ah.dec ak (ah.enc ak a.aQ));let z3:=(N.iY z0 a.name a.id);let z4:=(N.iY z1 a.name a.id);let z5:=(N.mZ z0 a.name);let z6:=(ah.dec fU (ah.enc fU a));let z7:=(Nat.ble (List.length (List.map (ah.dec aS) (List.map (ah.enc aS) s.rows))) 100);let z8:=(Nat.ble (List.length (List.map (ah.dec aS) (List.map (ah.enc aS) q.rows))) 100);let z9:=(N.mZ z1 a.name);let z10:=(ah.dec aj (ah.enc aj (Prod.fst z5.2)));let z11:=(ah.dec aj (ah.enc aj (Prod.fst z3.2)));cond (Int.tmod a.op (10 : Int)==3) (cond z7 (cond z8 (some {v:=.fE [V.agg (ah.enc au (Prod.fst (N.gy z0 a.q))),.agg (ah.enc au (Prod.fst (N.gy z1 a.q))),.bool (Prod.snd (N.gy z0 a.q)==Prod.snd (N.gy z1 a.q))],bx:=[]:aH}) none) none) (cond (Int.tmod a.op (10 : Int)==4) (cond z7 (cond z8 (some {v:=.fE [V.agg (ah.enc au (Prod.fst (N.vG z0 a.name))),.agg (ah.enc au (Prod.fst (N.yJ z1 a.name))),.bool (Prod.snd (N.vG z0 a.name)==Prod.snd (N.yJ z1 a.name))],bx:=[]:aH}) none) none) (cond (Int.tmod a.op (10 : Int)==5) (cond (eY z0) (cond (eY z1) (cond (Prod.snd z5.2==Prod.snd z9.2) (cond (dR z10) (some {v:=.fE [V.agg (ah.enc au z5.1),.agg (ah.enc au z9.1),.bool (N.sG z10 (ah.dec aj (ah.enc aj (Prod.fst z9.2))))],bx:=[]:aH}) none) (some {v:=.fE [V.agg (ah.enc au z5.1),.agg (ah.enc au z9.1),.bool false],bx:=[]:aH})) none) none) (cond (Int.tmod a.op (10 : Int)==6) (cond (eY z0) (cond (eY z1) (some {v:=.fE [V.agg (ah.enc au (Prod.fst (N.qE z0 a.name a.id))),.agg (ah.enc au (Prod.fst (N.qE z1 a.name a.id))),.bool (Prod.snd (N.qE z0 a.name a.id)==Prod.snd (N.qE z1 a.name a.id))],bx:=[]:aH}) none) none) (cond (Int.tmod a.op (10 : Int)==7) (cond (eY z0) (cond (eY z1) (cond (Prod.snd z3.2==Prod.snd z4.2) (cond (dR z11) (some {v:=.fE [V.agg (ah.enc au z3.1),.agg (ah.enc au z4.1),.bool (N.sG z11 (ah.dec aj (ah.enc aj (Prod.fst z4.2))))],bx:=[]:aH}) none) (some {v:=.fE [V.agg (ah.enc au z3.1),.agg (ah.enc au z4.1),.bool false],bx:=[]:aH})) none) none) (cond (Int.tmod a.op (10 : Int)==8) (cond (bif vH z0 then bif N.vC z2 then dA z2 else false else false) (cond (bif qw z1 then bif N.iJ z2 then dA z2 else false else false) (some {v:=.fE [V.agg (ah.enc au (Prod.fst (N.qo z0 a.place z2))),.agg (ah.enc au (Prod.fst (N.uw z1 a.place z2))),.bool (Prod.snd (N.qo z0 a.place z2)==Prod.snd (N.uw z1 a.place z2))],bx:=[]:aH}) none) none) (cond (Int.tmod a.op (10 : Int)==9) (cond (eY z0) (cond (eY z1) (some {v:=.fE [V.agg (ah.enc au (N.KH z0)),.agg (ah.enc au (N.KH z1)),.bool true],bx:=[]:aH}) none) none) (cond (bif wJ z0 then bif qx z1 then Dh z6 else false else false) (some {v:=.fE [V.agg (ah.enc au (Prod.fst (N.Ez z0 z1 z6))),.agg (ah.enc au (Prod.fst (Prod.snd (N.Ez z0 z1 z6)))),.bool (Prod.snd (Prod.snd (N.Ez z0 z1 z6)))],bx:=[]:aH}) none)))))))):=by kernel_rfl
  dsimp only at h;exact h):=by kernel_rfl
theorem abN (hN:bH Tryz.prog 95 fZ):bH Tryz.prog 19 aea:=by
 refine aK (aT (((((((((((((((((fK.nil _).cons (af7 hN)).cons afZ).cons akA).cons abL).cons (afI hN)).cons Y2).cons abx).cons afS).cons akr).cons S9).cons afR).cons akp).cons afU).cons akd).cons afQ).cons PG)) (E:=Zk) Tryz.func19 [] (by kernel_rfl) (none0) fun a b hp=>?_
 obtain ⟨s,q,a⟩:=a
 obtain ⟨hs,hq⟩:=aP (show cond (wJ s) (cond (qx q) (Dh a) false) false=true from hp)
 obtain ⟨hq,ha⟩:=aP hq
 obtain ⟨ha1,ha2⟩:=aP ha
 have ha3:=Iy ha1
 have s1:=(aP hs).1
 have s2:=(aP (C9 s1).1).1
 have s3:=(aP s2).1
 have q1:=(aP hq).1
 have q2:=Y7 (aP q1).1
 have q3:=(aP q2).1
 have hg:Dh a=true:=ha
 have hl:=Zh a.name s2
 have hr:=QV a.name a.id s2
 refine (af8 s q a).trans ?_
 simp only [bn,au.de,ak.de,fU.de,aj.de,hs,hq,ha1,ha2,ha3,s1,s2,s3,q1,q2,q3,hg,hl,hr,cond_true]
 show _=some (⟨.fE [.agg (au.enc (N.oI s q a).1),.agg (au.enc (N.oI s q a).2.1),.bool (N.oI s q a).2.2],[],[]⟩:aH)
 unfold N.oI
 cases Int.tmod a.op 10==3 with
 | true=>rfl
 | false =>
 cases Int.tmod a.op 10==4 with
 | true=>rfl
 | false =>
 cases Int.tmod a.op 10==5 with
 | true =>
  simp only [cond_true,cond_false]
  cases (N.mZ s a.name).2.2==(N.mZ q a.name).2.2<;>rfl
 | false =>
 cases Int.tmod a.op 10==6 with
 | true=>rfl
 | false =>
 cases Int.tmod a.op 10==7 with
 | true =>
  simp only [cond_true,cond_false]
  cases (N.iY s a.name a.id).2.2==(N.iY q a.name a.id).2.2<;>rfl
 | false =>
 cases Int.tmod a.op 10==8 with
 | true=>rfl
 | false=>cases Int.tmod a.op 10==9<;>rfl
end Go.Ev
