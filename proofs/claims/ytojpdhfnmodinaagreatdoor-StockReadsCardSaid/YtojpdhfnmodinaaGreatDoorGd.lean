/- What a claim needs: definitions and lemmas, no condition. -/
import Derived.Test.YtojpdhfnmodinaaGreatDoorGc
namespace Go.Ev
open Go
theorem C9:∀ (k:Nat) (n:Int),N.bQ n (k+1)=N.bQ (n / 256) k++[UInt8.ofNat (n % 256).toNat]
 | 0,n=>by
  show [UInt8.ofNat ((n / 2 ^ (8*0)) % 256).toNat]=[]++[UInt8.ofNat (n % 256).toNat]
  rw [show (2:Int) ^ (8*0)=1 from rfl,Int.ediv_one]; rfl
 | k+1,n=>by
  show UInt8.ofNat ((n / 2 ^ (8*(k+1))) % 256).toNat::N.bQ n (k+1)=(UInt8.ofNat ((n / 256 / 2 ^ (8*k)) % 256).toNat::N.bQ (n / 256) k)++[UInt8.ofNat (n % 256).toNat]
  rw [C9 k n,Int.ediv_ediv_of_nonneg (by decide),show (256:Int)*2 ^ (8*k)=2 ^ (8*(k+1)) by rw [show 8*(k+1)=8+8*k by omega,Int.pow_add]; rfl]
  try rfl
theorem afo:∀ (l m:Bytes) (n:Int),N.be (l++m) n=N.be m (N.be l n)
 | [],_,_=>rfl
 | _::l,m,_=>afo l m _
theorem Yx (n:Int):((UInt8.ofNat (n % 256).toNat).toNat:Int)=n % 256:=by
 have:(n % 256).toNat<256:=by omega
 rw [UInt8.toNat_ofNat',Nat.mod_eq_of_lt this]; omega
theorem aaD:∀ (k:Nat) (n:Int),0<=n->n<256 ^ k->N.be (N.bQ n k) 0=n
 | 0,n,h0,h=>by
  have:n=0:=by rw [Int.pow_zero] at h; omega
  rw [this]; rfl
 | k+1,n,h0,h=>by
  rw [Int.pow_succ] at h
  rw [C9,afo,aaD k (n / 256) (by omega) (by omega)]
  show n / 256*256+((UInt8.ofNat (n % 256).toNat).toNat:Int)=n
  rw [Yx]; omega
theorem aaE (x r:Bytes):N.jB ⟨x++r,0⟩ x.length=(x,⟨r,0⟩):=by
 unfold N.jB
 cases x with
 | nil=>rfl
 | cons c x =>
  have h1:bW ((c::x).length:Int) 0=false:=zS (by simp only [List.length_cons]; omega)
  have h2:aU (((c::x++r).length:Nat):Int) ((c::x).length:Int)=false:=gZ (by rw [List.length_append]; omega)
  simp only [h1,h2,cond_false,show ((0:Int) != 0)=false from rfl,Int.toNat_natCast,List.take_left,List.drop_left]
theorem kS (k:Nat) (hk:k<=8) (n:Int) (h0:0<=n) (h:n<256 ^ k) (r:Bytes):N.ay ⟨N.bQ n k++r,0⟩ k=(n,⟨r,0⟩):=by
 unfold N.ay
 have e:(cond (aU 8 (k:Int)) (8:Int) k)=((N.bQ n k).length:Int):=by rw [gZ (by omega),dU]; rfl
 rw [e,aaE]
 show (N.be (N.bQ n k) 0,_)=_
 rw [aaD k n h0 h]
theorem uQ (s:Bytes) (m:Int) (hs:s.length<=m) (hm:m<=65535) (r:Bytes):N.bM ⟨N.dD s++r,0⟩ m=(s,⟨r,0⟩):=by
 unfold N.bM N.dD
 rw [List.append_assoc]
 have e:=kS 2 (by decide) s.length (by omega) (by show (s.length:Int)<65536; omega) (s++r)
 have e' : N.ay ⟨N.bQ s.length 2++(s++r),0⟩ 2=((s.length:Int),⟨s++r,0⟩):=e
 rw [e']
 show N.jB (cond (aU m (IntKind.wrap .i64 s.length)) _ _) (IntKind.wrap .i64 s.length)=_
 rw [wrap_i64 (n:=(s.length:Int)) (by omega) (by omega),gZ hs]
 exact aaE s r
def uS (p:aW):Prop:=0<=p.kind∧p.kind<256∧-9223372036854775808<=p.num∧p.num<=9223372036854775807
theorem aco {n:Int} (h1 : -9223372036854775808<=n) (h2:n<=9223372036854775807):IntKind.wrap .i64 (IntKind.wrap .u64 n)=n:=by
 simp only [IntKind.wrap,IntKind.signed,IntKind.bits]
 simp
 omega
theorem MX {p:aW} {l:List aW} (h:N.jC p l=0):p.key.length<=16∧p.kind<=2∧(p.kind=1->p.text.length<=64∧p.num=0)∧(p.kind=2->(p.num=0∨p.num=1))∧(p.kind ≠ 1->p.text=[]):=by
 unfold N.jC at h
 cases h1:N.name p.key==0 with
 | false =>
  rw [bne,h1] at h
  simp only [Bool.not_false,cond_true] at h
  rw [h] at h1; cases h1
 | true =>
  rw [bne,h1] at h
  simp only [Bool.not_true,cond_false] at h
  have hk:p.key.length<=16:=by
   unfold N.name at h1
   cases e1:p.key==[] with
   | true=>rw [e1] at h1; cases h1
   | false =>
    rw [e1] at h1
    cases e2:aU 16 p.key.length with
    | true=>rw [e2] at h1; cases h1
    | false=>have:=dP e2; omega
  cases h2:aU 2 p.kind with
  | true=>rw [h2] at h; cases h
  | false =>
   rw [h2] at h
   have h2:=dP h2
   simp only [cond_false] at h
   by_cases k1:p.kind=1
   .simp only [k1,beq_self_eq_true,cond_true,bne,show ((1:Int)==2)=false from rfl,cond_false,Bool.not_true] at h
    cases h3:aU 64 p.text.length with
    | true=>rw [h3] at h; cases h
    | false =>
     rw [h3] at h
     have h3:=dP h3
     cases h4:p.num==0 with
     | false=>rw [h4] at h; cases h
     | true=>exact ⟨hk,by omega,fun _=>⟨by omega,by simpa using h4⟩,fun e=>by omega,fun e=>absurd k1 e⟩
   .have e1:(p.kind==1)=false:=by simpa using k1
    simp only [e1,cond_false,bne,Bool.not_false,cond_true] at h
    have ht:p.text=[]:=by
     cases h4:p.text==[] with
     | true=>simpa using h4
     | false =>
      rw [h4] at h
      revert h
      cases (cond (cond (p.kind==2) (!p.num==0) false) (!p.num==1) false)<;>intro h<;>cases h
    refine ⟨hk,by omega,fun e=>absurd e k1,fun e=>?_,fun _=>ht⟩
    simp only [e,beq_self_eq_true,cond_true] at h
    by_cases z:p.num=0
    .exact .inl z
    .by_cases o:p.num=1
     .exact .inr o
     .rw [show (p.num==0)=false by simpa using z,show (p.num==1)=false by simpa using o] at h
      cases h
theorem one_app {p:aW} {l:List aW} (ho:uS p) (h:N.jC p l=0) (r:Bytes):N.one ⟨N.uN p++r,0⟩=(p,⟨r,0⟩):=by
 obtain ⟨hk,h2,ht,hn,hx⟩:=MX h
 obtain ⟨o1,o2,o3,o4⟩:=ho
 have hw:IntKind.wrap .u64 p.kind=p.kind:=wrap_u64 o1 (by omega)
 unfold N.one N.uN
 rw [hw,List.append_assoc,List.append_assoc,uQ p.key 16 (by omega) (by decide)]
 show N.oneOf p.key (IntKind.wrap .u8 (N.ay ⟨N.bQ p.kind 1++_,0⟩ 1).1) (N.ay ⟨N.bQ p.kind 1++_,0⟩ 1).2=_
 have e:∀ x:Bytes,N.ay ⟨N.bQ p.kind 1++x,0⟩ 1=(p.kind,⟨x,0⟩):=fun x=>kS 1 (by decide) p.kind o1 (by show p.kind<256; omega) x
 rw [e]
 have hw8:IntKind.wrap .u8 p.kind=p.kind:=by simp only [IntKind.wrap,IntKind.signed,IntKind.bits]; simp; omega
 show N.oneOf p.key (IntKind.wrap .u8 p.kind) ⟨_,0⟩=_
 rw [hw8]
 unfold N.oneOf
 rcases (by omega:p.kind=0∨p.kind=1∨p.kind=2) with k | k | k
 .have u:=wu64 p.num
  have e8:N.ay ⟨N.bQ (IntKind.wrap .u64 p.num) 8++r,0⟩ 8=(IntKind.wrap .u64 p.num,⟨r,0⟩):=kS 8 (by decide) _ u.1 (by show _<(18446744073709551616:Int); exact u.2) r
  have hx:=hx (by omega)
  simp only [k,beq_self_eq_true,cond_true,e8,aco o3 o4]
  cases p; simp_all
 .obtain ⟨t1,t2⟩:=ht k
  simp only [k,show ((1:Int)==0)=false from rfl,beq_self_eq_true,cond_true,cond_false,uQ p.text 64 (by omega) (by decide)]
  cases p; simp_all
 .have hx:=hx (by omega)
  have hn:=hn k
  have hwn:IntKind.wrap .u64 p.num=p.num:=wrap_u64 (by omega) (by omega)
  have e1:N.ay ⟨N.bQ p.num 1++r,0⟩ 1=(p.num,⟨r,0⟩):=kS 1 (by decide) _ (by omega) (by show p.num<256; omega) r
  simp only [k,show ((2:Int)==0)=false from rfl,show ((2:Int)==1)=false from rfl,beq_self_eq_true,cond_true,cond_false,hwn,e1,wrap_i64 o3 o4]
  cases p; simp_all
theorem xg (h:List aW):∀ (f:Nat) (i:Int),0<=i->N.eu h f i=0->∀ j:Nat,i<=j->(j:Int)<i+f->N.jC (h.getD j jM) (h.take j)=0
 | 0,i,_,_,j,h1,h2=>by omega
 | f+1,i,h0,hc,j,h1,h2=>by
  unfold N.eu at hc
  cases e:N.jC (h.getD i.toNat jM) (h.take i.toNat) != 0 with
  | true=>rw [e,cond_true] at hc; rw [hc] at e; cases e
  | false =>
   rw [e] at hc
   by_cases hj:(j:Int)=i
   .have:j=i.toNat:=by omega
    rw [this]; simpa using e
   .exact xg h f (i+1) (by omega) hc j (by omega) (by omega)
end Go.Ev

namespace Go.Ev
open Go Go.Proofs
set_option maxRecDepth 100000
def N.gK (k:Nat) (b:Int):Bool:=cond (aU 8 b) (Nat.ble 8 k) (bW b k)
def pG (k:Nat):Den:=den (bg (dA .u64) (aT (dA .i64))) dV (oV gy) (fun a _=>cond (bW 0 a.1) (cond (aU a.1 18446744073709551616) (N.gK k a.2) false) false) fun a _=>(N.bQ a.1 (N.clamp a.2),())
def F6:Den:=den (aT gy) dV (oV gy) (fun s _=>Nat.ble s.length 65535) fun s _=>(N.dD s,())
namespace N
def mZ (p:aW):Bytes:=cond (p.kind==0) (dD p.key++bQ (IntKind.wrap .u64 p.kind) 1++bQ (IntKind.wrap .u64 p.num) 8) (cond (p.kind==1) (dD p.key++bQ (IntKind.wrap .u64 p.kind) 1++dD p.text) (dD p.key++bQ (IntKind.wrap .u64 p.kind) 1++bQ (IntKind.wrap .u64 p.num) 1))
def lV:List aW->Bytes
 | []=>[] | p::r=>mZ p++lV r
def iJ (h:List aW):Bytes:=bQ (IntKind.wrap .u64 h.length) 1++lV h
end N
def Qh:Den:=den (aT (qw iw)) dV (oV gy) (fun h _=>cond (Nat.ble h.length 8) (h.all N.Ec) false) fun h _=>(N.iJ h,())
noncomputable def Vu:Env:=env Tryz.prog [(104,pG 8)] [] []
theorem acp (s:Bytes):bV Vu 105 ((aT gy).enc s) ([]) some =
 cond (bif aU (IntKind.wrap .u64 (↑(List.length s):Int)) 18446744073709551616 then N.gK 8 2 else false) (cond (Nat.ble (2+List.length s) 9223372036854775807) (some {v:=.str (N.bQ (IntKind.wrap .u64 (↑(List.length s):Int)) (N.clamp 2)++s),bx:=[]:aJ}) none) none:=by kernel_rfl
theorem Et (hR:bH Tryz.prog 104 (pG 8)):bH Tryz.prog 105 F6:=by
 refine aN (aQ ((gu.nil _).cons hR)) (E:=Vu) Tryz.func105 [] (by kernel_rfl) none0 fun s _ h=>?_
 have h:s.length<=65535:=aV h
 refine (acp s).trans ?_
 show _=some (⟨.str (N.dD s),[],[]⟩:aJ)
 have w:IntKind.wrap .u64 (s.length:Int)=s.length:=wrap_u64 (by omega) (by omega)
 rw [w]
 simp (disch:=omega) only [evs,show N.gK 8 2=true from rfl]
 try rfl
def Vw:fK:={ fr:=[(3,.str),(10,.slc yP),(11,.int .i64),(12,.int .i64)],tab:=[] }
def Qi:List Leaf->(Ex->St->Option R)->Option R
 | [.s s,.r r,.i n,.i i],K=>cond (n==r.length) (cond (bW 0 i) (cond (Nat.ble r.length 8) (cond ((dS r).all N.Ec) (cond (bW s.length (1+150*i))
   (K (.exit 0) { fr:=[(3,.str (s++N.lV ((dS r).drop i.toNat)))],tab:=[] }) none) none) none) none) none
 | _,_=>none
noncomputable def Dc:Env:=env Tryz.prog [(104,pG 8),(105,F6)] [(3,dO Vw Qi)] [(3,[(0,[3,10,11,12]),(1,[3]),(1000,[2])])]
theorem Yy (h:List aW):type_of% (by
  have h:bV Dc 164 (((aT (qw iw)).enc h)) ([]) some =(
   let z0:=(List.map yE h);let z1:=(List.map yD z0);let z2:=(↑(List.length z0):Int);cond (bif aU (IntKind.wrap .u64 z2) 18446744073709551616 then N.gK 8 1 else false) (cond (z2==z2) (cond (Nat.ble (List.length z0) 8) (cond (List.all z1 N.Ec) (some {v:=.str (N.bQ (IntKind.wrap .u64 z2) (N.clamp 1)++N.lV (List.drop 0 z1)),bx:=[]:aJ}) none) none) none) none):=by kernel_rfl
  dsimp only at h;exact h):=by kernel_rfl
theorem Jb (s3:Bytes) (r10:List (List V)) (i11:Int) (i12:Int) (K:Ex->St->Option R):type_of% (by
  have h:bI Dc 164 3 { fr:=[(3,.str s3),(10,.slc yP r10),(11,.int .i64 i11),(12,.int .i64 i12)],tab:=[] } K =(
   let z0:=(List.getD r10 (Int.toNat i12) []);let z1:=(IntKind.wrap .u64 (V.toInt (z0.getD 1 .undef)));let z2:=(IntKind.wrap .u64 (V.toInt (z0.getD 2 .undef)));let z3:=(V.toStr (z0.getD 0 .undef));let z4:=(s3++N.dD z3++N.bQ z1 (N.clamp 1));let z5:=(IntKind.wrap .i64 (i12+1));let z6:=(V.toStr (z0.getD 3 .undef));cond (aU i12 i11) (cond (decide (0<=i12∧i12<(↑(List.length r10):Int))) (cond (Nat.ble (List.length z3) 65535) (cond (Nat.ble (List.length s3+List.length (N.dD z3)) 9223372036854775807) (cond (bif bW 0 z1 then bif aU z1 18446744073709551616 then N.gK 8 1 else false else false) (cond (Nat.ble (List.length (s3++N.dD z3)+1) 9223372036854775807) (cond (V.toInt (z0.getD 1 .undef)==0) (cond (bif bW 0 z2 then bif aU z2 18446744073709551616 then N.gK 8 8 else false else false) (cond (Nat.ble (List.length z4+8) 9223372036854775807) (K .normal {fr:=[(3,.str (s3++N.dD z3++N.bQ z1 (N.clamp 1)++N.bQ z2 (N.clamp 8))),(10,.slc yP r10),(11,.int .i64 i11),(12,.int .i64 z5)],tab:=[]:St}) none) none) (cond (V.toInt (z0.getD 1 .undef)==1) (cond (Nat.ble (List.length z6) 65535) (cond (Nat.ble (List.length z4+List.length (N.dD z6)) 9223372036854775807) (K .normal {fr:=[(3,.str (s3++N.dD z3++N.bQ z1 (N.clamp 1)++N.dD z6)),(10,.slc yP r10),(11,.int .i64 i11),(12,.int .i64 z5)],tab:=[]:St}) none) none) (cond (bif bW 0 z2 then bif aU z2 18446744073709551616 then N.gK 8 1 else false else false) (cond (Nat.ble (List.length z4+1) 9223372036854775807) (K .normal {fr:=[(3,.str (s3++N.dD z3++N.bQ z1 (N.clamp 1)++N.bQ z2 (N.clamp 1))),(10,.slc yP r10),(11,.int .i64 i11),(12,.int .i64 z5)],tab:=[]:St}) none) none))) none) none) none) none) none) (K (.exit 0) {fr:=[(3,.str s3)],tab:=[]:St})):=by kernel_rfl
  dsimp only at h;exact h):=by kernel_rfl
theorem Vx (hR:bH Tryz.prog 104 (pG 8)):bH Tryz.prog 164 Qh:=by
 refine aN (aQ (((gu.nil _).cons (Et hR)).cons hR)) (E:=Dc) Tryz.func164 [3] (by kernel_rfl) (one1 (bn rfl fun l K q h=>?_)) fun h _ hp=>?_
 .unfold Qi at h
  split at h
  .rename_i s r n i
   replace h:=EY h;obtain ⟨h1,h3,h4,h5,h6,h⟩:=h
   have e1:=aZ h1
   subst e1
   have h4:r.length<=8:=aV h4
   refine dN (E:=Dc) (f:=164) (id:=3) (σ:=Int × Bytes) (fun x=>{ fr:=[(3,.str x.2),(10,.slc yP r),(11,.int .i64 r.length),(12,.int .i64 x.1)],tab:=[] })
    (fun x=>0<=x.1∧(x.2.length:Int)<=1+150*x.1) (fun x=>r.length-x.1.toNat)
    (fun x K=>K (.exit 0) { fr:=[(3,.str (x.2++N.lV ((dS r).drop x.1.toNat)))],tab:=[] }) ?_ (i,s) ⟨bK h3,bK h6⟩ K q (by assumption)
   rintro ⟨i,s⟩ ⟨hi,hs⟩
   simp only at hi hs ⊢
   by_cases hl:i<r.length
   .have hlt:i.toNat<r.length:=by omega
    have hfit:N.Ec (rowP (r.getD i.toNat []))=true:=List.all_eq_true.1 h5 _ (by
     rw [List.getD_eq_getElem?_getD,List.getElem?_eq_getElem hlt]; exact List.mem_map_of_mem (List.getElem_mem _))
    obtain ⟨f1,f2⟩:=aX hfit
    have f1:(V.toStr (List.getD (List.getD r i.toNat []) 0 V.undef)).length<=64:=aV f1
    have f2:(V.toStr (List.getD (List.getD r i.toNat []) 3 V.undef)).length<=64:=aV f2
    have u1:=wu64 (V.toInt (List.getD (List.getD r i.toNat []) 1 V.undef))
    have u2:=wu64 (V.toInt (List.getD (List.getD r i.toNat []) 2 V.undef))
    rw [uD hlt]
    have e:N.lV (rowP (r.getD i.toNat [])::(dS r).drop (i.toNat+1))=N.mZ (rowP (r.getD i.toNat []))++N.lV ((dS r).drop (i.toNat+1)):=rfl
    rw [e,<- List.append_assoc]
    have hlen:(N.mZ (rowP (r.getD i.toNat []))).length<=150:=by
     unfold N.mZ rowP
     cases V.toInt (List.getD (List.getD r i.toNat []) 1 V.undef)==0<;>cases V.toInt (List.getD (List.getD r i.toNat []) 1 V.undef)==1<;>simp only [cond_true,cond_false,dU,jP,List.length_append]<;>omega
    refine .inl ⟨(i+1,s++N.mZ (rowP (r.getD i.toNat []))),⟨by simp only; omega,by simp only [List.length_append]; omega⟩,by simp only; omega,fun K=>?_,fun K=>?_⟩
    .rw [Jb]
     unfold N.mZ rowP
     simp (disch:=omega) only [evs,jP,dU,show N.gK 8 1=true from rfl,show N.gK 8 8=true from rfl,show N.clamp 1=1 from rfl,show N.clamp 8=8 from rfl]
     cases V.toInt (List.getD (List.getD r i.toNat []) 1 V.undef)==0<;>cases V.toInt (List.getD (List.getD r i.toNat []) 1 V.undef)==1<;>simp only [cond_true,cond_false,List.append_assoc]
    .rw [show (i+1).toNat=i.toNat+1 by omega]
   .refine .inr ⟨.exit 0,{ fr:=[(3,.str s)],tab:=[] },by simp,fun K=>?_,fun K=>?_⟩
    .rw [Jb]
     simp (disch:=omega) only [evs]
    .rw [List.drop_eq_nil_of_le (by rw [mV]; omega)]
     show K _ { fr:=[(3,.str (s++[]))],tab:=[] }=_
     rw [List.append_nil]
  .cases h
 .obtain ⟨c1,c2⟩:=aX hp
  have c1:h.length<=8:=aV c1
  refine (Yy h).trans ?_
  show _=some (⟨.str (N.iJ h),[],[]⟩:aJ)
  have u:=wu64 (h.length:Int)
  simp (disch:=omega) only [evs,gB,c2,List.drop_zero,show N.gK 8 1=true from rfl,show N.clamp 1=1 from rfl]
  try rfl
end Go.Ev

namespace Go.Ev
open Go Go.Proofs
set_option maxRecDepth 100000
noncomputable def Vy:Env:=env Tryz.prog [] [] []
noncomputable def aaF (k:Nat):Env:=env Tryz.prog [(104,pG k)] [] []
theorem acr (n b:Int):bV Vy 104 ((bg (dA .u64) (aT (dA .i64))).enc (n,b)) ([]) some =
 cond (aU 8 b) none (cond (bW b 0) (some {v:=.str [],bx:=[]:aJ}) none):=by kernel_rfl
theorem afp (k:Nat) (n b:Int):type_of% (by
  have h:bV (aaF k) 104 ((bg (dA .u64) (aT (dA .i64))).enc (n,b)) ([]) some =(
   let z0:=(IntKind.wrap .u64 (Int.tdiv n 256));let z4:=(IntKind.wrap .i64 ((8 : Int)-1));let z1:=(bif bif bif bW 0 z0 then bif aU z0 18446744073709551616 then N.gK k z4 else false else false then true else false then true else false);let z3:=(IntKind.wrap .i64 (b-1));let z2:=(bif bif bif bW 0 z0 then bif aU z0 18446744073709551616 then N.gK k z3 else false else false then true else false then true else false);cond (aU 8 b) (cond z1 (cond z1 (cond (bif bW 0 z0 then bif aU z0 18446744073709551616 then N.gK k z4 else false else false) (some {v:=.str (N.bQ z0 (N.clamp z4)++mP [[V.int .u8 (IntKind.wrap .u8 (Int.tmod n 256))]]),bx:=[]:aJ}) none) none) none) (cond (bW b 0) (some {v:=.str [],bx:=[]:aJ}) (cond z2 (cond z2 (cond (bif bW 0 z0 then bif aU z0 18446744073709551616 then N.gK k z3 else false else false) (cond (Nat.ble (List.length (N.bQ z0 (N.clamp z3))+1) 9223372036854775807) (some {v:=.str (N.bQ z0 (N.clamp z3)++mP [[V.int .u8 (IntKind.wrap .u8 (Int.tmod n 256))]]),bx:=[]:aJ}) none) none) none) none))):=by kernel_rfl
  dsimp only at h;exact h):=by kernel_rfl
theorem acs {b:Int} (h1:1<=b) (h2:b<=8):N.clamp b=N.clamp (b-1)+1:=by
 unfold N.clamp
 by_cases h:b=1
 .subst h; rfl
 .rw [eF (show (0:Int)<b by omega),gZ (show b<=8 from h2),eF (show (0:Int)<b-1 by omega),gZ (show b-1<=8 by omega)]
  simp only [cond_true,cond_false]; omega
theorem afq {n:Int} (h:0<=n):Int.tdiv n 256=n / 256:=Int.tdiv_eq_ediv_of_nonneg h
theorem afr {n:Int} (h:0<=n):Int.tmod n 256=n % 256:=Int.tmod_eq_emod_of_nonneg h
theorem wrap_u8' {n:Int} (h1:0<=n) (h2:n<256):IntKind.wrap .u8 n=n:=by
 simp only [IntKind.wrap,IntKind.signed,IntKind.bits]
 simp
 omega
theorem Yz:bH Tryz.prog 104 (pG 0):=by
 refine aN (aQ (gu.nil _)) (E:=Vy) Tryz.func104 [] (by kernel_rfl) none0 fun a _ h=>?_
 obtain ⟨n,b⟩:=a
 obtain ⟨h1,h⟩:=aX h
 obtain ⟨h2,h⟩:=aX h
 have h:cond (aU 8 b) (Nat.ble 8 0) (bW b 0)=true:=h
 refine (acr n b).trans ?_
 cases e:aU 8 b with
 | true=>rw [e] at h; cases h
 | false =>
  rw [e] at h
  have h:bW b 0=true:=h
  have h':=bK h
  show cond false none (cond (bW b 0) _ none)=some (⟨.str (N.bQ n (N.clamp b)),[],[]⟩:aJ)
  rw [h]
  have:N.clamp b=0:=by unfold N.clamp; rw [gZ h']; rfl
  rw [this]; rfl
theorem YA (k:Nat) (hk:bH Tryz.prog 104 (pG k)):bH Tryz.prog 104 (pG (k+1)):=by
 refine aN (aQ ((gu.nil _).cons hk)) (E:=aaF k) Tryz.func104 [] (by kernel_rfl) none0 fun a _ h=>?_
 obtain ⟨n,b⟩:=a
 obtain ⟨h1,h⟩:=aX h
 obtain ⟨h2,h⟩:=aX h
 have h:cond (aU 8 b) (Nat.ble 8 (k+1)) (bW b ((k+1:Nat):Int))=true:=h
 have h1:0<=n:=bK h1
 have h2:n<18446744073709551616:=jv h2
 refine (afp k n b).trans ?_
 show _=some (⟨.str (N.bQ n (N.clamp b)),[],[]⟩:aJ)
 have w1:IntKind.wrap .u64 (n / 256)=n / 256:=wrap_u64 (by omega) (by omega)
 have w2:IntKind.wrap .u8 (n % 256)=n % 256:=wrap_u8' (by omega) (by omega)
 have w3:IntKind.wrap .i64 ((8:Int)-1)=7:=rfl
 have es:mP [[V.int .u8 (n % 256)]]=[UInt8.ofNat (n % 256).toNat]:=rfl
 rw [afq h1,afr h1,w1,w2,w3,es]
 have c1:bW 0 (n / 256)=true:=dY (by omega)
 have c2:aU (n / 256) 18446744073709551616=true:=eF (by omega)
 rw [c1,c2]
 simp only [cond_true]
 cases e:aU 8 b with
 | true =>
  rw [e] at h
  have h:8<=k+1:=aV h
  have hb:=jv e
  have f7:N.gK k 7=true:=by unfold N.gK; rw [gZ (by omega),cond_false]; exact dY (by omega)
  have hc:N.clamp b=8:=by unfold N.clamp; rw [eF (by omega),e]; rfl
  rw [f7,hc]
  simp only [cond_true]
  rw [show N.clamp 7=7 from rfl,<- C9]
 | false =>
  rw [e] at h
  have h:b<=(k+1:Nat):=bK h
  have hb:=dP e
  simp only [cond_false]
  cases e2:bW b 0 with
  | true =>
   have h':=bK e2
   have:N.clamp b=0:=by unfold N.clamp; rw [gZ h']; rfl
   rw [this]; rfl
  | false =>
   have h0:=nP e2
   have w4:IntKind.wrap .i64 (b-1)=b-1:=dQ (by omega) (by omega)
   have f:N.gK k (b-1)=true:=by unfold N.gK; rw [gZ (by omega),cond_false]; exact dY (by omega)
   rw [w4,f,acs (by omega) hb,C9]
   have hl:(N.bQ (n / 256) (N.clamp (b-1))).length<=8:=by
    rw [dU]; unfold N.clamp
    rw [gZ (show b-1<=8 by omega)]
    cases aU 0 (b-1)<;>simp only [cond_true,cond_false]<;>omega
   simp (disch:=omega) only [evs]
theorem rG:∀ k,bH Tryz.prog 104 (pG k)
 | 0=>Yz
 | k+1=>YA k (rG k)
end Go.Ev

namespace Go.Ev
open Go Go.Proofs
set_option maxRecDepth 100000
noncomputable def SX:Env:=env Tryz.prog [] [] []
theorem aiK (l:List aW):bV SX 194 ((aT (qw iw)).enc l) ([]) some =
 cond (!Nat.beq (List.length (List.map yE l)) 0) (cond (Nat.beq (List.length (List.map yE l)) 0) (some {v:=.slc yP [],bx:=[]:aJ}) (cond (decide (List.length (List.map yE l)*48<=140737488355328)) (some {v:=.slc yP (List.map yE l),bx:=[]:aJ}) none)) none:=by kernel_rfl
theorem afs  : bV SX 194 [.iZ yP] ([]) some =
 some {v:=.slc yP [],bx:=[]:aJ}:=by kernel_rfl
theorem aft  : bV SX 194 [.nn yP] ([]) some =
 some {v:=.slc yP [],bx:=[]:aJ}:=by kernel_rfl
theorem afu:bH Tryz.prog 194 aeK:=by
 refine Si fun l b h=>?_
 have h:l.length<=1000000:=aV h
 have fo:=fun a r=>alc (E:=SX) (aQ (gu.nil _)) Tryz.func194 [] (by kernel_rfl) none0 a [] r
 cases l with
 | nil=>exact bH.empty (fo _ _ afs) (fo _ _ aft)
 | cons p r =>
  refine fo _ _ ((aiK (p::r)).trans ?_)
  show _=some (⟨.slc yP ((p::r).map fun p=>[V.str p.key,V.int .u8 p.kind,V.int .i64 p.num,V.str p.text]),[],[]⟩:aJ)
  rw [show Nat.beq (List.length ((p::r).map fun p=>[V.str p.key,V.int .u8 p.kind,V.int .i64 p.num,V.str p.text])) 0=false from rfl]
  simp (disch:=omega) only [evs,Bool.not_false]
noncomputable def Qj:Env:=env Tryz.prog [(194,aeK)] [] []
theorem YB (m:au):bV Qj 171 ((aT (bJ ah)).enc m) ([]) some =
 cond (Nat.ble (List.length (List.map yD (List.map yE m.head))) 1000000) (some {v:=.agg [V.int .u64 m.id,.str m.bZ,.str m.key,.slc yP (List.map yE (List.map yD (List.map yE m.head))),.str m.body,.int .u64 m.due,.int .u8 m.hops],bx:=[]:aJ}) none:=by kernel_rfl
theorem sN:bH Tryz.prog 171 uF:=by
 refine aN (aQ ((gu.nil _).cons afu)) (E:=Qj) Tryz.func171 [] (by kernel_rfl) none0 fun m _ h=>?_
 have h:m.head.length<=1000000:=aV h
 refine (YB m).trans ?_
 simp (disch:=omega) only [evs,gB]
 try rfl
noncomputable def MZ:Env:=env Tryz.prog [(112,FP),(119,amU),(120,uO)] [] []
theorem Vz (m:au):bV MZ 45 ((aT (bJ ah)).enc m) ([]) some =
 cond (N.name m.bZ != 0) (some {v:=.int .i64 (N.name m.bZ),bx:=[]:aJ}) (cond (N.key m.key [] != 0) (some {v:=.int .i64 (N.key m.key []),bx:=[]:aJ}) (cond (N.cZ (List.map yD (List.map yE m.head)) != 0) (some {v:=.int .i64 (N.cZ (List.map yD (List.map yE m.head))),bx:=[]:aJ}) (cond (aU 256 (↑(List.length m.body):Int)) (some {v:=.int .i64 5,bx:=[]:aJ}) (cond (aU 4 m.hops) (some {v:=.int .i64 7,bx:=[]:aJ}) (some {v:=.int .i64 0,bx:=[]:aJ}))))):=by kernel_rfl
noncomputable def Dy:Env:=env Tryz.prog [(42,FP),(43,aaq),(44,uO)] [] []
theorem Na (m:au):type_of% (by
  have h:bV Dy 12 ((aT (bJ ah)).enc m) ([]) some =(
   let z0:=(List.map yD (List.map yE m.head));let z12:=(aU 4 m.hops);let z7:=(some {v:=.int .i64 7,bx:=[]:aJ});let z11:=(some {v:=.int .i64 (N.cZ z0),bx:=[]:aJ});let z1:=(cond (N.cZ z0==0) (cond z12 z7 z11) z11);let z8:=(N.wY m.key false==0);let z9:=(some {v:=.int .i64 (N.wY m.key false),bx:=[]:aJ});let z2:=(cond z8 (cond z12 z7 z9) z9);let z6:=(N.name m.bZ==0);let z10:=(some {v:=.int .i64 (N.name m.bZ),bx:=[]:aJ});let z3:=(cond z6 (cond z12 z7 z10) z10);let z4:=(aU 256 (↑(List.length m.body):Int));let z5:=(some {v:=.int .i64 5,bx:=[]:aJ});cond z6 (cond z8 (cond (N.cZ z0==0) (cond z4 z5 z1) z1) (cond z8 (cond z4 z5 z2) z2)) (cond z6 (cond (N.cZ z0==0) (cond z4 z5 z1) z1) (cond z6 (cond z4 z5 z3) z3))):=by kernel_rfl
  dsimp only at h;exact h):=by kernel_rfl
theorem qG:bH Tryz.prog 45 lH:=by
 refine aN (aQ ((((gu.nil _).cons FX).cons als).cons J6)) (E:=MZ) Tryz.func45 [] (by kernel_rfl) none0 fun m _ _=>?_
 refine (Vz m).trans ?_
 show _=some (⟨.int .i64 (N.aP m),[],[]⟩:aJ)
 unfold N.aP
 simp only [gB]
 cases h1:N.name m.bZ != 0<;>cases h2:N.key m.key [] != 0<;>cases h3:N.cZ m.head != 0<;>cases h4:aU 256 (m.body.length:Int)<;>cases h5:aU 4 m.hops<;>simp only [cond_true,cond_false]
theorem tH:bH Tryz.prog 12 lH:=by
 refine aN (aQ ((((gu.nil _).cons Vt).cons ab5).cons Em)) (E:=Dy) Tryz.func12 [] (by kernel_rfl) none0 fun m _ _=>?_
 refine (Na m).trans ?_
 show _=some (⟨.int .i64 (N.aP m),[],[]⟩:aJ)
 unfold N.aP
 simp only [gB,key_eq,bne]
 cases h1:N.name m.bZ==0 with
 | false=>simp only [Bool.not_false,cond_true,cond_false]
 | true =>
  cases h2:N.wY m.key false==0 with
  | false=>simp only [Bool.not_false,Bool.not_true,cond_true,cond_false]
  | true =>
   cases h3:N.cZ m.head==0 with
   | false=>simp only [Bool.not_false,Bool.not_true,cond_true,cond_false]
   | true =>
    have e3:=aZ h3
    rw [e3]
    cases h4:aU 256 (m.body.length:Int)<;>cases h5:aU 4 m.hops<;>first | rfl | simp only [Bool.not_false,Bool.not_true,cond_true,cond_false,h3,h4,h5]
noncomputable def F7:Env:=env Tryz.prog [(72,aeF)] [] []
theorem O5 (a b:au):type_of% (by
  have h:bV F7 25 ((bg (bJ ah) (aT (bJ ah))).enc (a,b)) ([]) some =(
   let z0:=(List.map yD (List.map yE a.head));let z1:=(some {v:=.bool false,bx:=[]:aJ});cond (au.id a==au.id b) (cond (au.bZ a==au.bZ b) (cond (au.key a==au.key b) (cond (Nat.ble (List.length z0) 1000000) (cond (N.kZ z0 (List.map yD (List.map yE b.head))) (cond (au.body a==au.body b) (cond (au.due a==au.due b) (some {v:=.bool (au.hops a==au.hops b),bx:=[]:aJ}) z1) z1) z1) none) z1) z1) z1):=by kernel_rfl
  dsimp only at h;exact h):=by kernel_rfl
theorem Ba:bH Tryz.prog 25 Ic:=by
 refine aN (aQ ((gu.nil _).cons Yo)) (E:=F7) Tryz.func25 [] (by kernel_rfl) none0 fun a _ h=>?_
 obtain ⟨a,b⟩:=a
 have h:a.head.length<=1000000:=aV h
 refine (O5 a b).trans ?_
 show _=some (⟨.bool (N.lU a b),[],[]⟩:aJ)
 unfold N.lU
 cases a.id==b.id<;>cases a.bZ==b.bZ<;>cases a.key==b.key<;>first | rfl | skip
 simp (disch:=omega) only [evs,gB]
 cases N.kZ a.head b.head<;>cases a.body==b.body<;>cases a.due==b.due<;>rfl
theorem xZ (h:List aW):(h.map (fun p=>[V.str p.key,V.int .u8 p.kind,V.int .i64 p.num,V.str p.text])).map (fun r=>({ key:=V.toStr (List.getD r 0 .undef),kind:=V.toInt (List.getD r 1 .undef),num:=V.toInt (List.getD r 2 .undef),text:=V.toStr (List.getD r 3 .undef) }:aW))=h:=xU h
noncomputable def Qk:Env:=env Tryz.prog [(74,Sr),(147,J5),(185,Qa),(75,Ee),(78,FK),(45,lH)] [] []
theorem YC (i:dw):type_of% (by
  have h:bV Qk 148 ((aT (jL 0)).enc ()) ((jr GZ).enc i) some =(
   let z3:=(N.bM (Prod.snd (N.ay i 8)) 16);let z5:=(N.bM z3.2 64);let z1:=(N.bM (Prod.snd (N.iH z5.2)) 256);let z6:=(N.ay z1.2 8);let z2:=(N.ay z6.2 1);let z4:=(List.map yE (Prod.fst (N.iH z5.2)));let z0:=(N.bP z2.2 (N.aP {id:=Prod.fst (N.ay i 8),bZ:=Prod.fst z3,key:=Prod.fst z5,head:=List.map yD z4,body:=Prod.fst z1,due:=Prod.fst z6,hops:=IntKind.wrap .u8 z2.1:au}));cond (dw.err z2.2==0) (cond (dw.err z0 != 0) (some {v:=.agg [V.int .u64 0,.str [],.str [],.slc yP [],.str [],.int .u64 0,.int .u8 0],bx:=[[V.str z0.s,.int .i64 z0.err]]:aJ}) (some {v:=.agg [V.int .u64 (Prod.fst (N.ay i 8)),.str z3.1,.str z5.1,.slc yP z4,.str z1.1,.int .u64 z6.1,.int .u8 (IntKind.wrap .u8 z2.1)],bx:=[[V.str z0.s,.int .i64 z0.err]]:aJ})) (cond (dw.err z2.2 != 0) (some {v:=.agg [V.int .u64 0,.str [],.str [],.slc yP [],.str [],.int .u64 0,.int .u8 0],bx:=[[V.str (dw.s z2.2),.int .i64 (dw.err z2.2)]]:aJ}) (some {v:=.agg [V.int .u64 (Prod.fst (N.ay i 8)),.str z3.1,.str z5.1,.slc yP z4,.str z1.1,.int .u64 z6.1,.int .u8 (IntKind.wrap .u8 z2.1)],bx:=[[V.str (dw.s z2.2),.int .i64 (dw.err z2.2)]]:aJ}))):=by kernel_rfl
  dsimp only at h;exact h):=by kernel_rfl
noncomputable def afv:Env:=env Tryz.prog [(80,MC),(152,SC),(186,aeI),(154,Ib),(12,lH)] [] []
theorem aiL (q:bY):type_of% (by
  have h:bV afv 153 ((aT (jL 0)).enc ()) ((jr wZ).enc q) some =(
   let z5:=(N.iC (Prod.snd (N.bD q 8)) 16);let z3:=(N.iC z5.2 64);let z1:=(N.iC (Prod.snd (N.vU z3.2)) 256);let z6:=(N.bD z1.2 8);let z2:=(N.bD z6.2 1);let z4:=(List.map yE (Prod.fst (N.vU z3.2)));let z0:=(N.fF z2.2 (N.aP {id:=Prod.fst (N.bD q 8),bZ:=Prod.fst z5,key:=Prod.fst z3,head:=List.map yD z4,body:=Prod.fst z1,due:=Prod.fst z6,hops:=IntKind.wrap .u8 z2.1:au}));cond (N.bU q) (cond (N.bU (Prod.snd (N.bD q 8))) (cond (N.bU z5.2) (cond (N.bU z3.2) (cond (N.bU (Prod.snd (N.vU z3.2))) (cond (N.bU z1.2) (cond (N.bU z6.2) (cond (bY.code z2.2==0) (cond (bY.code z0 != 0) (some {v:=.agg [V.int .u64 0,.str [],.str [],.slc yP [],.str [],.int .u64 0,.int .u8 0],bx:=[[V.str (bY.s z0),.int .i64 (bY.at' z0),.int .i64 (bY.code z0)]]:aJ}) (some {v:=.agg [V.int .u64 (Prod.fst (N.bD q 8)),.str z5.1,.str z3.1,.slc yP z4,.str z1.1,.int .u64 z6.1,.int .u8 (IntKind.wrap .u8 z2.1)],bx:=[[V.str (bY.s z0),.int .i64 (bY.at' z0),.int .i64 (bY.code z0)]]:aJ})) (cond (bY.code z2.2 != 0) (some {v:=.agg [V.int .u64 0,.str [],.str [],.slc yP [],.str [],.int .u64 0,.int .u8 0],bx:=[[V.str (bY.s z2.2),.int .i64 (bY.at' z2.2),.int .i64 (bY.code z2.2)]]:aJ}) (some {v:=.agg [V.int .u64 (Prod.fst (N.bD q 8)),.str z5.1,.str z3.1,.slc yP z4,.str z1.1,.int .u64 z6.1,.int .u8 (IntKind.wrap .u8 z2.1)],bx:=[[V.str (bY.s z2.2),.int .i64 (bY.at' z2.2),.int .i64 (bY.code z2.2)]]:aJ}))) none) none) none) none) none) none) none):=by kernel_rfl
  dsimp only at h;exact h):=by kernel_rfl
theorem Jc:bH Tryz.prog 148 Ie:=by
 refine aN (aQ (((((((gu.nil _).cons qG).cons vX).cons xY).cons Vp).cons Ij).cons AV)) (E:=Qk) Tryz.func148 [] (by kernel_rfl) none0 fun _ i _=>?_
 refine (YC i).trans ?_
 show _=some (⟨.agg (ah.enc (N.cu i).1),[GZ.enc (N.cu i).2],[]⟩:aJ)
 simp only [xZ]
 unfold N.cu
 dsimp only
 generalize N.ay i 8=a
 generalize N.bM a.2 16=b
 generalize N.bM b.2 64=c
 generalize N.iH c.2=d
 generalize N.bM d.2 256=e
 generalize N.ay e.2 8=f
 generalize N.ay f.2 1=g
 unfold N.zl
 cases h1:g.2.err==0 with
 | true =>
  simp only [cond_true]
  generalize N.bP g.2 _=z
  cases z.err != 0<;>rfl
 | false =>
  simp only [cond_false]
  cases g.2.err != 0<;>rfl
theorem VA:bH Tryz.prog 153 Ye:=by
 refine aN (aQ ((((((gu.nil _).cons tH).cons AY).cons afn).cons MS).cons CY)) (E:=afv) Tryz.func153 [] (by kernel_rfl) none0 fun _ q h=>?_
 refine (aiL q).trans ?_
 show _=some (⟨.agg (ah.enc (N.mF q).1),[wZ.enc (N.mF q).2],[]⟩:aJ)
 have h:N.bU q=true:=h
 have g1:=fG h 8
 have g2:=qg g1 16
 have g3:=qg g2 64
 have g4:=um (aav (jy g3).1).2 (jy g3).2
 have g5:=qg g4 256
 have g6:=fG g5 8
 have g7:=fG g6 1
 simp only [xZ]
 unfold N.mF
 dsimp only
 generalize N.bD q 8=a at *
 generalize N.iC a.2 16=b at *
 generalize N.iC b.2 64=c at *
 generalize N.vU c.2=d at *
 generalize N.iC d.2 256=e at *
 generalize N.bD e.2 8=f at *
 generalize N.bD f.2 1=g at *
 rw [h,g1,g2,g3,g4,g5,g6]
 simp only [cond_true]
 unfold N.MG
 cases h1:g.2.code==0 with
 | true =>
  simp only [cond_true]
  generalize N.fF g.2 _=z
  cases z.code != 0<;>rfl
 | false =>
  simp only [cond_false]
  cases g.2.code != 0<;>rfl
theorem Nb (x s:Bytes):N.rE ⟨x,0⟩ s=⟨x++s,0⟩:=rfl
noncomputable def Nc:Env:=env Tryz.prog [(45,lH),(163,Ed),(95,fP),(96,AO),(100,FM),(103,rF)] [] []
theorem VB (m:au):type_of% (by
  have h:bV Nc 98 ((aT (bJ ah)).enc m) ([]) some =(
   let z2:=(List.map yE m.head);let z0:=(List.map yD z2);let z3:=(N.jO (N.iO {s:=[],err:=0:gV} m.id 8) m.bZ);let z6:=(Prod.fst (bif N.cZ z0 != 0 then ([],N.cZ z0) else (N.iU z0,0)));let z1:=(N.rE (N.jO z3 m.key) z6);let z4:=(IntKind.wrap .u64 m.hops);let z5:=(N.iO (N.jO z1 m.body) m.due 8);cond (N.aP {id:=au.id m,bZ:=au.bZ m,key:=au.key m,head:=List.map yD z2,body:=au.body m,due:=au.due m,hops:=au.hops m:au} != 0) (some {v:=.jc [V.str [],.int .i64 (N.aP {id:=au.id m,bZ:=au.bZ m,key:=au.key m,head:=List.map yD z2,body:=au.body m,due:=au.due m,hops:=au.hops m:au})],bx:=[]:aJ}) (cond (bif bW 0 m.id then bif aU m.id 18446744073709551616 then true else false else false) (cond (Nat.ble (8+List.length m.bZ) 9223372036854775790) (cond (Nat.ble (List.length (gV.s z3)+List.length m.key) 9223372036854775790) (cond (Nat.ble (List.length (gV.s (N.jO z3 m.key))+List.length z6) 9223372036854775807) (cond (Nat.ble (List.length (gV.s z1)+List.length m.body) 9223372036854775790) (cond (bif bW 0 m.due then bif aU m.due 18446744073709551616 then Nat.ble (List.length (gV.s (N.jO z1 m.body))) 9223372036854775799 else false else false) (cond (bif bW 0 z4 then bif aU z4 18446744073709551616 then Nat.ble (List.length (gV.s z5)) 9223372036854775799 else false else false) (some {v:=.jc [V.str (gV.s (N.iO z5 z4 1)),.int .i64 0],bx:=[]:aJ}) none) none) none) none) none) none) none)):=by kernel_rfl
  dsimp only at h;exact h):=by kernel_rfl
theorem pz {m:au} (h:N.aP m=0):m.bZ.length<=16∧m.key.length<=64∧N.cZ m.head=0∧m.body.length<=256∧m.hops<=4∧N.name m.bZ=0∧N.key m.key []=0:=by
 unfold N.aP at h
 have key:∀ x y:Int,cond (x != 0) x y=0->x=0∧y=0:=fun x y h=>by
  cases e:x != 0 with
  | true=>rw [e,cond_true] at h; rw [h] at e; cases e
  | false=>rw [e,cond_false] at h; exact ⟨by simpa using e,h⟩
 obtain ⟨h1,h⟩:=key _ _ h
 obtain ⟨h2,h⟩:=key _ _ h
 obtain ⟨h3,h⟩:=key _ _ h
 cases h4:aU 256 (m.body.length:Int) with
 | true=>rw [h4] at h; cases h
 | false =>
  rw [h4] at h
  cases h5:aU 4 m.hops with
  | true=>rw [h5] at h; cases h
  | false =>
   have a4:=dP h4
   have a5:=dP h5
   have a1:m.bZ.length<=16:=by
    unfold N.name at h1
    cases e1:m.bZ==[] with
    | true=>rw [e1] at h1; cases h1
    | false =>
     rw [e1] at h1
     cases e2:aU 16 m.bZ.length with
     | true=>rw [e2] at h1; cases h1
     | false=>have:=dP e2; omega
   have a2:m.key.length<=64:=by
    rw [key_eq] at h2
    exact Yl (b:=false) (by rw [h2]; rfl)
   exact ⟨a1,a2,h3,by omega,a5,h1,h2⟩
theorem Nh:∀ {l:List aW},l.all N.Ec=true->(N.lS l).length<=150*l.length
 | [],_=>Nat.le_refl _
 | p::r,h=>by
  rw [List.all_cons,Bool.and_eq_true] at h
  have ih:=Nh h.2
  obtain ⟨f1,f2⟩:=aX h.1
  have f1:=aV f1
  have f2:=aV f2
  have hlen:(N.uN p).length<=150:=by
   unfold N.uN
   simp only [List.length_append,jP,dU]
   cases p.kind==0<;>cases p.kind==1<;>cases p.kind==2<;>simp only [cond_true,cond_false,dU,jP,List.length_nil]<;>omega
  show (N.uN p++N.lS r).length<=_
  rw [List.length_append,List.length_cons]; omega
theorem Ql {h:List aW} (hz:N.cZ h=0):(N.iU h).length<=1201:=by
 obtain ⟨c1,c2⟩:=Ii hz
 have:=Nh c2
 unfold N.iU
 rw [List.length_append,dU]; omega
theorem uo (hN:bH Tryz.prog 95 fP):bH Tryz.prog 98 uP:=by
 refine aN (aQ (((((((gu.nil _).cons qF).cons CW).cons (zo hN)).cons hN).cons (FZ hN)).cons qG)) (E:=Nc) Tryz.func98 [] (by kernel_rfl) none0 fun m _ h=>?_
 obtain ⟨id,bZ,key,head,body,due,hops⟩:=m
 obtain ⟨b1,h⟩:=aX h
 obtain ⟨b2,h⟩:=aX h
 obtain ⟨i1,i2⟩:=aX b1
 obtain ⟨i3,i4⟩:=aX b2
 obtain ⟨i5,i6⟩:=aX h
 simp only at i1 i2 i3 i4 i5 i6
 refine (VB ⟨id,bZ,key,head,body,due,hops⟩).trans ?_
 simp only [xZ]
 show _=some (⟨.jc [.str (cond (N.aP ⟨id,bZ,key,head,body,due,hops⟩ != 0) (([]:Bytes),N.aP ⟨id,bZ,key,head,body,due,hops⟩) (N.lT ⟨id,bZ,key,head,body,due,hops⟩,0)).1,
  .int .i64 (cond (N.aP ⟨id,bZ,key,head,body,due,hops⟩ != 0) (([]:Bytes),N.aP ⟨id,bZ,key,head,body,due,hops⟩) (N.lT ⟨id,bZ,key,head,body,due,hops⟩,0)).2],[],[]⟩:aJ)
 cases hc:N.aP ⟨id,bZ,key,head,body,due,hops⟩ != 0 with
 | true=>rfl
 | false =>
  have hz:N.aP ⟨id,bZ,key,head,body,due,hops⟩=0:=by simpa using hc
  obtain ⟨c1,c2,c3,c4,c5,_⟩:=pz hz
  simp only at c1 c2 c3 c4 c5
  have hl:=Ql c3
  have wh:IntKind.wrap .u64 hops=hops:=wrap_u64 (by have:=bK i5; omega) (by omega)
  have i5':=bK i5
  have hb:cond (N.cZ head != 0) (([]:Bytes),N.cZ head) (N.iU head,0)=(N.iU head,0):=by rw [c3]; rfl
  have o1:∀ (x s:Bytes),s.length<=65535->N.jO ⟨x,0⟩ s=⟨x++N.dD s,0⟩:=fun x s hs=>zy hs
  unfold N.lT
  simp only
  simp (disch:=omega) only [evs,Nb,i1,i2,i3,i4,o1,AX,sK,dU,jP,wh,List.nil_append]
noncomputable def Qm:Env:=env Tryz.prog [(98,uP)] [] []
theorem YD (m:au):type_of% (by
  have h:bV Qm 48 ((aT (bJ ah)).enc m) ([]) some =(
   let z0:=(List.map yE m.head);cond (N.yF {id:=au.id m,bZ:=au.bZ m,key:=au.key m,head:=List.map yD z0,body:=au.body m,due:=au.due m,hops:=au.hops m:au}) (some {v:=.int .i64 (↑(List.length (Prod.fst (bif N.aP {id:=au.id m,bZ:=au.bZ m,key:=au.key m,head:=List.map yD z0,body:=au.body m,due:=au.due m,hops:=au.hops m:au} != 0 then ([],N.aP {id:=au.id m,bZ:=au.bZ m,key:=au.key m,head:=List.map yD z0,body:=au.body m,due:=au.due m,hops:=au.hops m:au}) else (N.lT {id:=au.id m,bZ:=au.bZ m,key:=au.key m,head:=List.map yD z0,body:=au.body m,due:=au.due m,hops:=au.hops m:au},0)))):Int),bx:=[]:aJ}) none):=by kernel_rfl
  dsimp only at h;exact h):=by kernel_rfl
def N.O6 (m:au):Bool:=cond (N.yF m) (cond (Nat.ble m.bZ.length 64) (cond (Nat.ble m.key.length 64) (cond (cond (Nat.ble m.head.length 8) (m.head.all N.Ec) false) (Nat.ble m.body.length 256) false) false) false) false
def N.jW (m:au):Bytes:=N.bQ m.id 8++N.dD m.bZ++N.dD m.key++N.iJ m.head++N.dD m.body++N.bQ m.due 8++N.bQ (IntKind.wrap .u64 m.hops) 1
def Df:Den:=den (aT (bJ ah)) dV (oV gy) (fun m _=>N.O6 m) fun m _=>(N.jW m,())
noncomputable def Qn:Env:=env Tryz.prog [(104,pG 8),(105,F6),(164,Qh)] [] []
theorem YE (m:au):type_of% (by
  have h:bV Qn 106 ((aT (bJ ah)).enc m) ([]) some =(
   let z0:=(List.map yD (List.map yE m.head));let z1:=(IntKind.wrap .u64 m.hops);cond (bif bW 0 m.id then bif aU m.id 18446744073709551616 then N.gK 8 8 else false else false) (cond (Nat.ble (List.length m.bZ) 65535) (cond (Nat.ble (8+List.length (N.dD m.bZ)) 9223372036854775807) (cond (Nat.ble (List.length m.key) 65535) (cond (Nat.ble (List.length (N.bQ m.id (N.clamp 8)++N.dD m.bZ)+List.length (N.dD m.key)) 9223372036854775807) (cond (bif Nat.ble (List.length z0) 8 then List.all z0 N.Ec else false) (cond (Nat.ble (List.length (N.bQ m.id (N.clamp 8)++N.dD m.bZ++N.dD m.key)+List.length (N.iJ z0)) 9223372036854775807) (cond (Nat.ble (List.length m.body) 65535) (cond (Nat.ble (List.length (N.bQ m.id (N.clamp 8)++N.dD m.bZ++N.dD m.key++N.iJ z0)+List.length (N.dD m.body)) 9223372036854775807) (cond (bif bW 0 m.due then bif aU m.due 18446744073709551616 then N.gK 8 8 else false else false) (cond (Nat.ble (List.length (N.bQ m.id (N.clamp 8)++N.dD m.bZ++N.dD m.key++N.iJ z0++N.dD m.body)+8) 9223372036854775807) (cond (bif bW 0 z1 then bif aU z1 18446744073709551616 then N.gK 8 1 else false else false) (cond (Nat.ble (List.length (N.bQ m.id (N.clamp 8)++N.dD m.bZ++N.dD m.key++N.iJ z0++N.dD m.body++N.bQ m.due (N.clamp 8))+1) 9223372036854775807) (some {v:=.str (N.bQ m.id (N.clamp 8)++N.dD m.bZ++N.dD m.key++N.iJ z0++N.dD m.body++N.bQ m.due (N.clamp 8)++N.bQ z1 (N.clamp 1)),bx:=[]:aJ}) none) none) none) none) none) none) none) none) none) none) none) none) none):=by kernel_rfl
  dsimp only at h;exact h):=by kernel_rfl
theorem Bc (hN:bH Tryz.prog 95 fP):bH Tryz.prog 48 CU:=by
 refine aN (aQ ((gu.nil _).cons (uo hN))) (E:=Qm) Tryz.func48 [] (by kernel_rfl) none0 fun m _ h=>?_
 have h:N.yF m=true:=h
 obtain ⟨id,bZ,key,head,body,due,hops⟩:=m
 refine (YD ⟨id,bZ,key,head,body,due,hops⟩).trans ?_
 simp only [xZ]
 show _=some (⟨.int .i64 (N.dB ⟨id,bZ,key,head,body,due,hops⟩),[],[]⟩:aJ)
 unfold N.dB
 simp (disch:=omega) only [evs,h]
 cases N.aP ⟨id,bZ,key,head,body,due,hops⟩ != 0<;>rfl
theorem afw {m:au} (h:N.yF m=true):(0<=m.id∧m.id<18446744073709551616)∧(0<=m.due∧m.due<18446744073709551616)∧(0<=m.hops∧m.hops<256):=by
 obtain ⟨b1,h⟩:=aX h
 obtain ⟨b2,h⟩:=aX h
 obtain ⟨i1,i2⟩:=aX b1
 obtain ⟨i3,i4⟩:=aX b2
 obtain ⟨i5,i6⟩:=aX h
 exact ⟨⟨bK i1,jv i2⟩,⟨bK i3,jv i4⟩,⟨bK i5,jv i6⟩⟩
theorem Dz:∀ {l:List aW},l.all N.Ec=true->(N.lV l).length<=150*l.length
 | [],_=>Nat.le_refl _
 | p::r,h=>by
  rw [List.all_cons,Bool.and_eq_true] at h
  have ih:=Dz h.2
  obtain ⟨f1,f2⟩:=aX h.1
  have f1:=aV f1
  have f2:=aV f2
  have hlen:(N.mZ p).length<=150:=by
   unfold N.mZ
   cases p.kind==0<;>cases p.kind==1<;>simp only [cond_true,cond_false,List.length_append,dU,jP]<;>omega
  show (N.mZ p++N.lV r).length<=_
  rw [List.length_append,List.length_cons]; omega
theorem Bd:bH Tryz.prog 106 Df:=by
 refine aN (aQ ((((gu.nil _).cons (Vx (rG 8))).cons (Et (rG 8))).cons (rG 8))) (E:=Qn) Tryz.func106 [] (by kernel_rfl) none0 fun m _ h=>?_
 obtain ⟨id,bZ,key,head,body,due,hops⟩:=m
 obtain ⟨h0,h⟩:=aX h
 obtain ⟨h1,h⟩:=aX h
 obtain ⟨h2,h⟩:=aX h
 obtain ⟨h3,h4⟩:=aX h
 have ho:=afw h0
 simp only at ho
 obtain ⟨⟨a1,a2⟩,⟨a3,a4⟩,⟨a5,a6⟩⟩:=ho
 have h1:bZ.length<=64:=aV h1
 have h2:key.length<=64:=aV h2
 have h4:body.length<=256:=aV h4
 obtain ⟨h5,h6⟩:=aX h3
 have h5:head.length<=8:=aV h5
 have h6:head.all N.Ec=true:=h6
 have hl:=Dz h6
 refine (YE ⟨id,bZ,key,head,body,due,hops⟩).trans ?_
 simp only [xZ]
 show _=some (⟨.str (N.jW ⟨id,bZ,key,head,body,due,hops⟩),[],[]⟩:aJ)
 have wh:IntKind.wrap .u64 hops=hops:=wrap_u64 (by omega) (by omega)
 have hlen:(N.iJ head).length<=1201:=by unfold N.iJ; rw [List.length_append,dU]; omega
 unfold N.jW
 simp only
 simp (disch:=omega) only [evs,show N.gK 8 8=true from rfl,show N.gK 8 1=true from rfl,show N.clamp 8=8 from rfl,show N.clamp 1=1 from rfl,h6,wh,dU,jP]
noncomputable def F8:Env:=env Tryz.prog [(12,lH),(106,Df)] [] []
theorem O7 (m:au):bV F8 189 ((aT (bJ ah)).enc m) ([]) some =
 cond (N.aP {id:=au.id m,bZ:=au.bZ m,key:=au.key m,head:=List.map yD (List.map yE m.head),body:=au.body m,due:=au.due m,hops:=au.hops m:au} != 0) (some {v:=.int .i64 0,bx:=[]:aJ}) (cond (N.O6 {id:=au.id m,bZ:=au.bZ m,key:=au.key m,head:=List.map yD (List.map yE m.head),body:=au.body m,due:=au.due m,hops:=au.hops m:au}) (some {v:=.int .i64 (↑(List.length (N.jW {id:=au.id m,bZ:=au.bZ m,key:=au.key m,head:=List.map yD (List.map yE m.head),body:=au.body m,due:=au.due m,hops:=au.hops m:au})):Int),bx:=[]:aJ}) none):=by kernel_rfl
end Go.Ev

namespace Go.Ev
open Go Go.Proofs
set_option maxRecDepth 100000
-- FOLD
def aaG {α:Type} (c:aj α):Hz Unit where
 ok:=fun | .iZ s=>Sh.qp c.sh s | _=>false
 enc _:=.iZ c.sh
 dec _:=()
 ed _:=⟨c.rf,rfl⟩
 law w I ρ v x h hx:=by
  split at h
  .have:=Sh.oG _ _ h; subst this; exact hx
  .cases h
def Qo {α:Type} (c:aj α):Den:=den (bg (aaG c) (aT (dA .i64))) dV (ak9 c) (fun a _=>cond (bW 0 a.2) (bW a.2 1000000) false) fun _ _=>(([]:List α),())
def N.flat {α:Type}:List (List α)->List α
 | []=>[] | l::r=>l++N.flat r
def tJ {α:Type}:List (List α)->Nat
 | []=>0 | l::r=>l.length+tJ r
theorem F9 {α:Type}:∀ l:List (List α),(N.flat l).length=tJ l
 | []=>rfl
 | l::r=>by show (l++N.flat r).length=_; rw [List.length_append,F9 r]; rfl
def zA {α:Type} (c:aj α):Den:=den (aT (qw (vC c))) dV (oV (qw c)) (fun l _=>cond (Nat.ble l.length 1000) (Nat.ble (tJ l) 100000) false) fun l _=>(N.flat l,())
noncomputable def afx:Env:={ env Tryz.prog [] [] [] [195] with tr:=true }
theorem aiM (n:Int):bV afx 195 ((bg (aaG ah) (aT (dA .i64))).enc ((),n)) ([]) some =
 cond (aU n 0) none (cond (aU 0 (IntKind.wrap .i64 (n-IntKind.wrap .i64 ((0 : Int)-0)))) (cond (decide (0<=IntKind.wrap .i64 (n-IntKind.wrap .i64 ((0 : Int)-0))∧IntKind.wrap .i64 (n-IntKind.wrap .i64 ((0 : Int)-0))*(↑(96:Nat):Int)<=140737488355328∧IntKind.wrap .i64 (n-IntKind.wrap .i64 ((0 : Int)-0))<=140737488355328)) (some {v:=.own 1000 0,bx:=[],nb:=[Box.sl yM [] 0]:aJ}) none) (some {v:=.own 1000 0,bx:=[],nb:=[Box.sl yM [] 0]:aJ})):=by kernel_rfl
theorem afy:bH Tryz.prog 195 (Qo ah):=by
 refine aN (E:=afx) (aQ (gu.nil _)) Tryz.func195 [] (by kernel_rfl) none0 fun a _ h=>?_
 obtain ⟨⟨⟩,n⟩:=a
 obtain ⟨h1,h2⟩:=aX h
 have h1:0<=n:=bK h1
 have h2:n<=1000000:=bK h2
 refine (aiM n).trans ?_
 have w0:IntKind.wrap .i64 ((0:Int)-0)=0:=rfl
 have w:IntKind.wrap .i64 (n-0)=n:=by rw [Int.sub_zero]; exact dQ (by omega) (by omega)
 rw [w0,w]
 have d:decide (0<=n∧n*((96:Nat):Int)<=140737488355328∧n<=140737488355328)=true:=decide_eq_true (by omega)
 rw [d,gZ h1]
 cases aU 0 n<;>rfl
def fJ:List (List V)->List (List V)
 | []=>[] | r::rs=>V.toRows (List.getD r 0 .undef)++fJ rs
theorem rH {α:Type} (c:aj α):∀ l:List (List α),fJ (l.map (vC c).enc)=(N.flat l).map c.enc
 | []=>rfl
 | l::r=>by
  show l.map c.enc++fJ (r.map (vC c).enc)=(l++N.flat r).map c.enc
  rw [rH c r,List.map_append]
def VD:fK:={ fr:=[(0,.slc [.slc yM]),(3,.int .i64),(9,.slc [.slc yM]),(10,.int .i64),(11,.int .i64)],tab:=[] }
def Qp:List Leaf->(Ex->St->Option R)->Option R
 | [.r r0,.i i3,.r r9,.i i10,.i i11],K=>cond (i10==r9.length) (cond (i11==0) (cond (i3==0) (cond (Nat.ble (fJ r9).length uJ) (cond (Nat.ble r9.length uJ)
   (K (.exit 0) { fr:=[(0,.slc [.slc yM] r0),(3,.int .i64 (fJ r9).length)],tab:=[] }) none) none) none) none) none
 | _,_=>none
def SY:fK:={ fr:=[(6,.own 10000),(25,.slc [.slc yM]),(26,.int .i64),(27,.int .i64)],tab:=[(10000,.sl yM)] }
def Nj:List Leaf->(Ex->St->Option R)->Option R
 | [.r r25,.i i26,.i i27,.r mG],K=>cond (i26==r25.length) (cond (i27==0) (cond (Nat.beq mG.length 0) (cond (Nat.ble (fJ r25).length uJ) (cond (Nat.ble r25.length uJ)
   (K (.exit 2) { fr:=[(6,.own 10000 0)],tab:=[(10000,.sl yM (fJ r25) 0)] }) none) none) none) none) none
 | _,_=>none
noncomputable def x9:Env:=env Tryz.prog [(195,Qo ah)] [(11,dO SY Nj),(3,dO VD Qp)] [(3,[(0,[0,3,9,10,11]),(1,[0,3]),(1000,[2])]),(11,[(0,[6,25,26,27]),(3,[6]),(1000,[2])])]
theorem acu (l:List (List au)):bV x9 180 ((aT (qw (vC ah))).enc l) ([]) some =
 cond ((↑(List.length (List.map (aj.enc (vC ah)) l)):Int)==(↑(List.length (List.map (aj.enc (vC ah)) l)):Int)) (cond (Nat.ble (List.length (fJ (List.map (aj.enc (vC ah)) l))) 1000000) (cond (Nat.ble (List.length (List.map (aj.enc (vC ah)) l)) 1000000) (cond (bW (↑(List.length (fJ (List.map (aj.enc (vC ah)) l))):Int) 1000000) (cond ((↑(List.length (List.map (aj.enc (vC ah)) l)):Int)==(↑(List.length (List.map (aj.enc (vC ah)) l)):Int)) (cond (Nat.ble (List.length (fJ (List.map (aj.enc (vC ah)) l))) 1000000) (cond (Nat.ble (List.length (List.map (aj.enc (vC ah)) l)) 1000000) (some {v:=.slc yM (fJ (List.map (aj.enc (vC ah)) l)),bx:=[]:aJ}) none) none) none) none) none) none) none:=by kernel_rfl
theorem Jd (r0:List (List V)) (i3:Int) (r9:List (List V)) (i10:Int) (i11:Int) (K:Ex->St->Option R):bI x9 180 3 { fr:=[(0,.slc [.slc yM] r0),(3,.int .i64 i3),(9,.slc [.slc yM] r9),(10,.int .i64 i10),(11,.int .i64 i11)],tab:=[] } K =
 cond (aU i11 i10) (cond (decide (0<=i11∧i11<(↑(List.length r9):Int))) (cond (aU (IntKind.wrap .i64 (i3+(↑(List.length (V.toRows (List.getD (List.getD r9 (Int.toNat i11) []) 0 V.undef))):Int))) 0) none (K .normal {fr:=[(0,.slc [.slc yM] r0),(3,.int .i64 (IntKind.wrap .i64 (i3+(↑(List.length (V.toRows (List.getD (List.getD r9 (Int.toNat i11) []) 0 V.undef))):Int)))),(9,.slc [.slc yM] r9),(10,.int .i64 i10),(11,.int .i64 (IntKind.wrap .i64 (i11+1)))],tab:=[]:St})) none) (K (.exit 0) {fr:=[(0,.slc [.slc yM] r0),(3,.int .i64 i3)],tab:=[]:St}):=by kernel_rfl
theorem Gf (r25:List (List V)) (i26:Int) (i27:Int) (mG:List (List V)) (K:Ex->St->Option R):bI x9 180 11 { fr:=[(6,.own 10000 0),(25,.slc [.slc yM] r25),(26,.int .i64 i26),(27,.int .i64 i27)],tab:=[(10000,.sl yM mG 0)] } K =
 cond (aU i27 i26) (cond (decide (0<=i27∧i27<(↑(List.length r25):Int))) (cond (decide ((List.length mG+List.length (V.toRows (List.getD (List.getD r25 (Int.toNat i27) []) 0 V.undef)))*96<=140737488355328)) (K .normal {fr:=[(6,.own 10000 0),(25,.slc [.slc yM] r25),(26,.int .i64 i26),(27,.int .i64 (IntKind.wrap .i64 (i27+1)))],tab:=[(10000,.sl yM (mG++V.toRows (List.getD (List.getD r25 (Int.toNat i27) []) 0 V.undef)) 0)]:St}) none) none) (K (.exit 2) {fr:=[(6,.own 10000 0)],tab:=[(10000,.sl yM mG 0)]:St}):=by kernel_rfl
theorem jT (x:List V) (l:List (List V)):fJ (x::l)=V.toRows (List.getD x 0 .undef)++fJ l:=rfl
theorem YF:bH Tryz.prog 180 (zA ah):=by
 refine aN (aQ ((gu.nil _).cons afy)) (E:=x9) Tryz.func180 [3,11] (by kernel_rfl) (FH (bn rfl fun l K q h=>?_) (bn rfl fun l K q h=>?_)) fun a _ h=>?_
 .unfold Qp at h
  split at h
  .rename_i r0 i3 r i10 i11
   replace h:=EY h;obtain ⟨h1,h2,h3,h4,h5,h⟩:=h
   have e1:=aZ h1
   have e2:=aZ h2
   have e3:=aZ h3
   subst e1 e2 e3
   have h4:(fJ r).length<=1000000:=aV h4
   have h5:r.length<=1000000:=aV h5
   refine dH (E:=x9) (f:=180) (id:=3) (A:=Int) r (fun n i=>{ fr:=[(0,.slc [.slc yM] r0),(3,.int .i64 n),(9,.slc [.slc yM] r),(10,.int .i64 r.length),(11,.int .i64 i)],tab:=[] })
    (fun n i=>0<=n∧n+((fJ (r.drop i)).length:Int)<=1000000)
    (fun n l K=>K (.exit 0) { fr:=[(0,.slc [.slc yM] r0),(3,.int .i64 (n+((fJ l).length:Int)))],tab:=[] }) (fun n i ⟨hn,hn2⟩ hi=>?_) (fun n _=>?_) 0 0 (Int.le_refl _) (by omega) ⟨Int.le_refl _,by simp; omega⟩ K q (by simpa using h)
   .rw [lD hi,jT,List.length_append] at hn2
    have w:=dQ (n:=n+((V.toRows (List.getD (r.getD i []) 0 .undef)).length:Int)) (by omega) (by omega)
    have w2:=dQ (n:=(i:Int)+1) (by omega) (by omega)
    refine .inl ⟨n+((V.toRows (List.getD (r.getD i []) 0 .undef)).length:Int),⟨by omega,by omega⟩,fun K=>?_,fun K=>?_⟩
    .rw [Jd,eF (by omega),decide_eq_true (by omega),Int.toNat_natCast,w,w2,gZ (by omega)]
     try rfl
    .show K _ _=K _ _
     rw [jT,List.length_append,Int.natCast_add,Int.add_assoc]
   .refine ⟨.exit 0,{ fr:=[(0,.slc [.slc yM] r0),(3,.int .i64 n)],tab:=[] },by simp,fun K=>?_,fun K=>?_⟩
    .rw [Jd,gZ (Int.le_refl _)]
     try rfl
    .show K _ _=K _ _
     rw [show ((fJ []).length:Int)=0 from rfl,Int.add_zero]
  .cases h
 .unfold Nj at h
  split at h
  .rename_i r i26 i27 acc
   replace h:=EY h;obtain ⟨h1,h2,h3,h4,h5,h⟩:=h
   have e1:=aZ h1
   have e2:=aZ h2
   subst e1 e2
   have h3:acc.length=0:=Nat.eq_of_beq_eq_true h3
   obtain rfl:acc=[]:=List.length_eq_zero_iff.1 h3
   have h4:(fJ r).length<=1000000:=aV h4
   have h5:r.length<=1000000:=aV h5
   refine dH (E:=x9) (f:=180) (id:=11) (A:=List (List V)) r (fun n i=>{ fr:=[(6,.own 10000 0),(25,.slc [.slc yM] r),(26,.int .i64 r.length),(27,.int .i64 i)],tab:=[(10000,.sl yM n 0)] })
    (fun n i=>n.length+(fJ (r.drop i)).length<=1000000)
    (fun n l K=>K (.exit 2) { fr:=[(6,.own 10000 0)],tab:=[(10000,.sl yM (n++fJ l) 0)] }) (fun n i hn hi=>?_) (fun n _=>?_) [] 0 (Int.le_refl _) (by omega) (by simp; omega) K q (by simpa using h)
   .rw [lD hi,jT,List.length_append] at hn
    have w2:=dQ (n:=(i:Int)+1) (by omega) (by omega)
    refine .inl ⟨n++V.toRows (List.getD (r.getD i []) 0 .undef),by rw [List.length_append]; omega,fun K=>?_,fun K=>?_⟩
    .rw [Gf,eF (by omega),decide_eq_true (by omega),Int.toNat_natCast,w2]
     rw [decide_eq_true (by omega)]
     try rfl
    .show K _ _=K _ _
     rw [jT,List.append_assoc]
   .refine ⟨.exit 2,{ fr:=[(6,.own 10000 0)],tab:=[(10000,.sl yM n 0)] },by simp,fun K=>?_,fun K=>?_⟩
    .rw [Gf,gZ (Int.le_refl _)]
     try rfl
    .show K _ _=K _ _
     rw [show fJ []=[] from rfl,List.append_nil]
  .cases h
 .obtain ⟨h1,h2⟩:=aX h
  have h1:a.length<=1000:=aV h1
  have h2:tJ a<=100000:=aV h2
  refine (acu a).trans ?_
  have e:(fJ (a.map (vC ah).enc)).length=tJ a:=by rw [rH,List.length_map,F9]
  rw [e,List.length_map,fA (show tJ a<=1000000 by omega),fA (show a.length<=1000000 by omega),dY (by omega),rH]
  rw [show (((a.length:Int))==(a.length:Int))=true from beq_self_eq_true _]
  try rfl
end Go.Ev

namespace Go.Ev
open Go Go.Proofs
set_option maxRecDepth 100000
-- FOLD
structure aG where
 total:Int
 kept:List au
def jA (r:List V):aG:=⟨(r.getD 0 .undef).toInt,(r.getD 1 .undef).toRows.map ah.dec⟩
def bC:aj aG:=(((vw .u64).and (vC ah)).iso (fun p=>(⟨p.1,p.2⟩:aG)) (fun o=>(o.total,o.kept)) (fun _=>rfl) fun _=>rfl).spelt
 [.int .u64,.slc yM]
 (fun x=>[.int .u64 x.total,.slc yM (x.kept.map ah.enc)]) jA rfl (fun _=>rfl) fun r=>by
  show (⟨((r.take 1).getD 0 .undef).toInt,((r.drop 1).getD 0 .undef).toRows.map ah.dec⟩:aG)=jA r
  simp only [nG,pq]; rfl
def jQ:aG:=⟨0,[]⟩
theorem bT {α:Type} (c:aj α) (l:List α):(l.map c.enc).map c.dec=l:=by
 rw [List.map_map]
 exact (List.map_congr_left (fun a _=>c.de a)).trans (List.map_id _)
namespace N
def Dh (x:aG) (m:au):aG × Int :=
 cond (aP m != 0) (x,aP m) (cond (x.total==18446744073709551615) (x,18)
  (⟨x.total+1,(x.kept++[m]).drop (x.kept.length+1-16)⟩,0))
end N
def fH (x:aG):Bool:=cond (cond (bW 0 x.total) (bW x.total 18446744073709551615) false) (cond (Nat.ble x.kept.length 16) (x.kept.all iQ) false) false
def YG:Den:=den (aT (bJ bC)) dV (oV (dA .u64)) (fun _ _=>true) fun x _=>(x.total,())
def VE:Den:=den (bg (bJ bC) (aT (bJ ah))) dV (vF (bg (bJ bC) (aT (dA .i64)))) (fun a _=>cond (fH a.1) (iQ a.2) false) fun a _=>(N.Dh a.1 a.2,())
noncomputable def afz:Env:=env Tryz.prog [] [] []
theorem aiN (x:aG):bV afz 101 ((aT (bJ bC)).enc x) ([]) some =
 some {v:=.int .u64 x.total,bx:=[]:aJ}:=by kernel_rfl
theorem VF:bH Tryz.prog 101 YG:=by
 refine aN (aQ (gu.nil _)) (E:=afz) Tryz.func101 [] (by kernel_rfl) none0 fun x _ _=>?_
 exact aiN x
noncomputable def VG:Env:=env Tryz.prog [(45,lH),(171,uF),(180,zA ah)] [] []
theorem acv (x:aG) (m:au):type_of% (by
  have h:bV VG 136 ((bg (bJ bC) (aT (bJ ah))).enc (x,m)) ([]) some =(
   let z4:=(List.map (aj.enc ah) x.kept);let z1:=(List.map yE m.head);let z5:=(List.map yD z1);let z0:=(List.map (aj.enc ah) (N.flat [List.map (aj.dec ah) z4,List.map (aj.dec ah) [[V.int .u64 m.id,.str m.bZ,.str m.key,.slc yP (List.map yE z5),.str m.body,.int .u64 m.due,.int .u8 m.hops]]]));let z2:=((↑(List.length z0):Int)-16);let z3:=(bif aU 0 (IntKind.wrap .i64 z2) then IntKind.wrap .i64 z2 else 0);cond (N.aP {id:=au.id m,bZ:=au.bZ m,key:=au.key m,head:=List.map yD z1,body:=au.body m,due:=au.due m,hops:=au.hops m:au} != 0) (some {v:=.jc [V.agg [V.int .u64 x.total,.slc yM z4],.int .i64 (N.aP {id:=au.id m,bZ:=au.bZ m,key:=au.key m,head:=List.map yD z1,body:=au.body m,due:=au.due m,hops:=au.hops m:au})],bx:=[]:aJ}) (cond (aG.total x==18446744073709551615) (some {v:=.jc [V.agg [V.int .u64 x.total,.slc yM z4],.int .i64 18],bx:=[]:aJ}) (cond (Nat.ble (List.length z5) 1000000) (cond (Nat.ble (List.length (List.map (aj.dec ah) z4)+1) 100000) (cond (decide ((0<=bif aU 0 (IntKind.wrap .i64 z2) then IntKind.wrap .i64 z2 else 0)∧z3<=(↑(List.length z0):Int))) (some {v:=.jc [V.agg [V.int .u64 (IntKind.wrap .u64 (aG.total x+1)),.slc yM (List.drop (Int.toNat z3) (List.take (List.length z0) z0))],.int .i64 0],bx:=[]:aJ}) none) none) none))):=by kernel_rfl
  dsimp only at h;exact h):=by kernel_rfl
theorem jU {n:Int} (h1:0<=n) (h2:n<=18446744073709551615):IntKind.wrap .u64 n=n:=by
 simp only [IntKind.wrap,IntKind.signed,IntKind.bits]
 simp
 omega
theorem afA (m:au):ah.dec [V.int .u64 m.id,.str m.bZ,.str m.key,.slc yP (m.head.map fun p=>[V.str p.key,V.int .u8 p.kind,V.int .i64 p.num,V.str p.text]),.str m.body,.int .u64 m.due,.int .u8 m.hops]=m:=ah.de m
theorem Gg {α:Type} (a b:List α):N.flat [a,b]=a++b:=by
 show a++(b++[])=_
 rw [List.append_nil]
theorem YH:bH Tryz.prog 136 VE:=by
 refine aN (aQ ((((gu.nil _).cons YF).cons sN).cons qG)) (E:=VG) Tryz.func136 [] (by kernel_rfl) none0 fun a _ h=>?_
 obtain ⟨x,m⟩:=a
 obtain ⟨h1,h2⟩:=aX h
 obtain ⟨h3,h4⟩:=aX h1
 obtain ⟨h3,h5⟩:=aX h3
 obtain ⟨h4,h6⟩:=aX h4
 have h2:m.head.length<=1000000:=aV h2
 have h3:0<=x.total:=bK h3
 have h5:x.total<=18446744073709551615:=bK h5
 have h4:x.kept.length<=16:=aV h4
 refine (acv x m).trans ?_
 show _=some (⟨.jc [.agg (bC.enc (N.Dh x m).1),.int .i64 (N.Dh x m).2],[],[]⟩:aJ)
 simp only [gB,bT,List.map_cons,List.map_nil,afA,Gg]
 unfold N.Dh
 cases hc:N.aP m != 0 with
 | true=>rfl
 | false =>
  cases ht:x.total==18446744073709551615 with
  | true=>rfl
  | false =>
   have ht:x.total ≠ 18446744073709551615:=fun e=>by rw [e] at ht; cases ht
   have l1:(List.map (aj.enc ah) (x.kept++[m])).length=x.kept.length+1:=by simp
   have w:IntKind.wrap .i64 (((x.kept.length+1:Nat):Int)-16)=((x.kept.length+1:Nat):Int)-16:=dQ (by omega) (by omega)
   have w2:IntKind.wrap .u64 (x.total+1)=x.total+1:=jU (by omega) (by omega)
   rw [l1,w,w2,List.take_of_length_le (Nat.le_of_eq l1),fA h2,fA (show x.kept.length+1<=100000 by omega)]
   cases hl:aU 0 (((x.kept.length+1:Nat):Int)-16) with
   | true =>
    have hl:=jv hl
    simp only [cond_true,cond_false]
    rw [decide_eq_true (by omega),<- List.map_drop,show ((((x.kept.length+1:Nat):Int)-16)).toNat=x.kept.length+1-16 by omega]
    try rfl
   | false =>
    have hl:=dP hl
    simp only [cond_true,cond_false]
    rw [decide_eq_true (by omega),show x.kept.length+1-16=0 by omega]
    try rfl
end Go.Ev

namespace Go.Ev
open Go Go.Proofs
set_option maxRecDepth 100000
-- FOLD
namespace N
def qh (x:aG) (n:Int):Int × au × Bool :=
 cond (bW x.total n) (0,kY,false) (cond (aU (x.total-x.kept.length+1) (n+1)) (n+1,x.kept.getD (n+1-(x.total-x.kept.length+1)).toNat kY,true) (x.total-x.kept.length+1,x.kept.getD 0 kY,true))
end N
def Bf (x:aG):Bool:=cond (fH x) (cond (bW x.kept.length x.total) (cond (Nat.beq x.kept.length 0) (x.total==0) true) false) false
def Nk:Den:=den (bg (bJ bC) (aT (dA .u64))) dV (vF (bg (dA .u64) (bg (bJ ah) (aT lC)))) (fun a _=>cond (Bf a.1) (cond (bW 0 a.2) (bW a.2 18446744073709551615) false) false) fun a _=>(N.qh a.1 a.2,())
noncomputable def Nl:Env:=env Tryz.prog [(171,uF)] [] []
theorem VH (x:aG) (n:Int):type_of% (by
  have h:bV Nl 167 ((bg (bJ bC) (aT (dA .u64))).enc (x,n)) ([]) some =(
   let z5:=(List.map (aj.enc ah) x.kept);let z3:=(IntKind.wrap .u64 (aG.total x-IntKind.wrap .u64 (↑(List.length z5):Int))+1);let z4:=(bif aU (IntKind.wrap .u64 z3) (IntKind.wrap .u64 (n+1)) then IntKind.wrap .u64 (n+1) else IntKind.wrap .u64 z3);let z0:=(z4-IntKind.wrap .u64 z3);let z1:=(List.getD z5 (Int.toNat (IntKind.wrap .u64 z0)) []);let z2:=(List.map yD (V.toRows (z1.getD 3 .undef)));cond (bW x.total n) (some {v:=.jc [V.int .u64 0,.agg [V.int .u64 0,.str [],.str [],.slc yP [],.str [],.int .u64 0,.int .u8 0],.bool false],bx:=[]:aJ}) (cond (decide (0<=IntKind.wrap .u64 z0∧IntKind.wrap .u64 z0<(↑(List.length z5):Int))) (cond (Nat.ble (List.length z2) 1000000) (some {v:=.jc [V.int .u64 z4,.agg [V.int .u64 (V.toInt (z1.getD 0 .undef)),.str (V.toStr (z1.getD 1 .undef)),.str (V.toStr (z1.getD 2 .undef)),.slc yP (List.map yE z2),.str (V.toStr (z1.getD 4 .undef)),.int .u64 (V.toInt (z1.getD 5 .undef)),.int .u8 (V.toInt (z1.getD 6 .undef))],.bool true],bx:=[]:aJ}) none) none)):=by kernel_rfl
  dsimp only at h;exact h):=by kernel_rfl
theorem qH {α:Type} (c:aj α) (l:List α) (i:Nat) (d:α) (h:i<l.length):(l.map c.enc).getD i []=c.enc (l.getD i d):=by
 rw [List.getD_eq_getElem?_getD,List.getD_eq_getElem?_getD,List.getElem?_map,List.getElem?_eq_getElem h]
 try rfl
theorem Np {α:Type} {p:α->Bool} {l:List α} (h:l.all p=true) (i:Nat) (d:α) (hi:i<l.length):p (l.getD i d)=true:=by
 rw [List.getD_eq_getElem?_getD,List.getElem?_eq_getElem hi]
 exact List.all_eq_true.1 h _ (List.getElem_mem hi)
theorem VI (m:au) (sm:m.head.length<=1000000) (n:Int) (b:Bool) :
  cond (Nat.ble (V.toRows (List.getD (ah.enc m) 3 .undef)).length 1000000)
   (some (⟨.jc [.int .u64 n,.agg [.int .u64 (V.toInt (List.getD (ah.enc m) 0 .undef)),.str (V.toStr (List.getD (ah.enc m) 1 .undef)),.str (V.toStr (List.getD (ah.enc m) 2 .undef)),
    .slc yP (((V.toRows (List.getD (ah.enc m) 3 .undef)).map fun r=>({ key:=V.toStr (List.getD r 0 .undef),kind:=V.toInt (List.getD r 1 .undef),num:=V.toInt (List.getD r 2 .undef),text:=V.toStr (List.getD r 3 .undef) }:aW)).map fun p=>[V.str p.key,V.int .u8 p.kind,V.int .i64 p.num,V.str p.text]),
    .str (V.toStr (List.getD (ah.enc m) 4 .undef)),.int .u64 (V.toInt (List.getD (ah.enc m) 5 .undef)),.int .u8 (V.toInt (List.getD (ah.enc m) 6 .undef))],.bool b],[],[]⟩:aJ)) none =
  some (⟨.jc [.int .u64 n,.agg (ah.enc m),.bool b],[],[]⟩:aJ):=by
 have e:((V.toRows (List.getD (ah.enc m) 3 .undef)).map fun r=>({ key:=V.toStr (List.getD r 0 .undef),kind:=V.toInt (List.getD r 1 .undef),num:=V.toInt (List.getD r 2 .undef),text:=V.toStr (List.getD r 3 .undef) }:aW))=m.head:=gB m.head
 have e2:(V.toRows (List.getD (ah.enc m) 3 .undef)).length=m.head.length:=List.length_map ..
 rw [e,e2,fA sm]
 try rfl
theorem S9:bH Tryz.prog 167 Nk:=by
 refine aN (aQ ((gu.nil _).cons sN)) (E:=Nl) Tryz.func167 [] (by kernel_rfl) none0 fun a _ h=>?_
 obtain ⟨x,n⟩:=a
 obtain ⟨h1,h2⟩:=aX h
 obtain ⟨h1,h7⟩:=aX h1
 obtain ⟨h7,h8⟩:=aX h7
 obtain ⟨h3,h4⟩:=aX h1
 obtain ⟨h3,h5⟩:=aX h3
 obtain ⟨h4,h6⟩:=aX h4
 obtain ⟨h2,h9⟩:=aX h2
 have h2:0<=n:=bK h2
 have h3:0<=x.total:=bK h3
 have h5:x.total<=18446744073709551615:=bK h5
 have h4:x.kept.length<=16:=aV h4
 have h7:(x.kept.length:Int)<=x.total:=bK h7
 refine (VH x n).trans ?_
 show _=some (⟨.jc [.int .u64 (N.qh x n).1,.agg (ah.enc (N.qh x n).2.1),.bool (N.qh x n).2.2],[],[]⟩:aJ)
 unfold N.qh
 cases ht:bW x.total n with
 | true=>rfl
 | false =>
  have ht:=nP ht
  have h8:x.kept.length ≠ 0:=fun e=>by
   rw [e] at h8
   have h8:x.total=0:=aZ h8
   omega
  have w1:=jU (n:=(x.kept.length:Int)) (by omega) (by omega)
  have w2:=jU (n:=x.total-x.kept.length) (by omega) (by omega)
  have w3:=jU (n:=x.total-x.kept.length+1) (by omega) (by omega)
  have w4:=jU (n:=n+1) (by omega) (by omega)
  simp only [List.length_map,w1,w2,w3,w4]
  cases hl:aU (x.total-x.kept.length+1) (n+1) with
  | true =>
   have hl:=jv hl
   have w5:=jU (n:=n+1-(x.total-x.kept.length+1)) (by omega) (by omega)
   have d:decide (0<=n+1-(x.total-x.kept.length+1)∧n+1-(x.total-x.kept.length+1)<x.kept.length)=true:=decide_eq_true (by omega)
   have hi:(n+1-(x.total-x.kept.length+1)).toNat<x.kept.length:=by omega
   simp only [cond_true,cond_false,w5,d,qH ah x.kept _ kY hi,List.length_map]
   have sm:(x.kept.getD (n+1-(x.total-x.kept.length+1)).toNat kY).head.length<=1000000:=aV (Np h6 _ kY hi)
   generalize x.kept.getD (n+1-(x.total-x.kept.length+1)).toNat kY=m at sm ⊢
   exact VI m sm _ _
  | false =>
   have hl:=dP hl
   have w5:=jU (n:=x.total-x.kept.length+1-(x.total-x.kept.length+1)) (by omega) (by omega)
   have e5:x.total-x.kept.length+1-(x.total-x.kept.length+1)=0:=by omega
   rw [e5] at w5
   have d:decide ((0:Int)<=0∧(0:Int)<x.kept.length)=true:=decide_eq_true (by omega)
   have hi:0<x.kept.length:=by omega
   simp only [cond_true,cond_false,e5,w5,d,Int.toNat_zero,qH ah x.kept 0 kY hi,List.length_map]
   have sm:(x.kept.getD 0 kY).head.length<=1000000:=aV (Np h6 _ kY hi)
   generalize x.kept.getD 0 kY=m at sm ⊢
   exact VI m sm _ _
end Go.Ev

namespace Go.Ev
open Go Go.Proofs
set_option maxRecDepth 100000
namespace N
def tell (x:aG):Nat->Int->List au->Int × List au
 | 0,last,got=>(last,got)
 | n+1,last,got=>cond (qh x last).2.2 (tell x n (qh x last).1 (got++[(qh x last).2.1])) (last,got)
def many (asks:List Int) (n k:Nat):Nat:=cond (Nat.blt k n) (cond (Nat.blt k asks.length) (Int.tmod (IntKind.wrap .i64 (asks.getD k 0)) 3).toNat 0) 16
def play (asks:List Int) (l:List au):Nat->Nat->aG->Int->List au->List au->Option (aG × Int × List au × List au)
 | 0,_,x,last,good,got=>some (x,last,good,got)
 | f+1,k,x,last,good,got=>cond (aU 16 (x.total-last)) none
   (cond (Nat.blt k l.length)
    (play asks l f (k+1) (Dh x (l.getD k kY)).1 (tell x (many asks l.length k) last got).1 (cond ((Dh x (l.getD k kY)).2==0) (good++[l.getD k kY]) good) (tell x (many asks l.length k) last got).2)
    (play asks l f (k+1) x (tell x (many asks l.length k) last got).1 good (tell x (many asks l.length k) last got).2))
end N
structure RInv (x:aG) (g:List au):Prop where
 total:x.total=g.length
 kept:x.kept=g.drop (g.length-16)
 small:g.all iQ=true
 few:g.length<1000
theorem RInv.len {x:aG} {g:List au} (h:RInv x g):x.kept.length=g.length-(g.length-16):=by rw [h.kept,List.length_drop]
theorem RInv.good {x:aG} {g:List au} (h:RInv x g):fH x=true:=by
 have:=h.few
 have hl:=h.len
 unfold fH
 rw [h.total,dY (by omega),dY (by omega),fA (by omega),h.kept]
 show (List.all (g.drop _) iQ)=true
 rw [List.all_eq_true]
 intro m hm
 exact List.all_eq_true.1 h.small m (List.mem_of_mem_drop hm)
theorem RInv.full {x:aG} {g:List au} (h:RInv x g):Bf x=true:=by
 have hl:=h.len
 unfold Bf
 rw [h.good,h.total,dY (by omega)]
 simp only [cond_true]
 cases e:Nat.beq x.kept.length 0 with
 | false=>rfl
 | true =>
  have:=Nat.eq_of_beq_eq_true e
  show (((g.length:Nat):Int)==0)=true
  exact aan (by omega)
end Go.Ev

namespace Go.Ev
open Go Go.Proofs
set_option maxRecDepth 100000
theorem Tc (i:dw):(N.iH i).1.length<=255:=by
 obtain ⟨b1,b2⟩:=tC i
 have w:IntKind.wrap .i64 (N.ay i 1).1=(N.ay i 1).1:=wrap_i64 (by omega) (by omega)
 unfold N.iH
 rw [w]
 have:=FV (N.ay i 1).1.toNat (cond (aU 8 (N.ay i 1).1) (N.bP (N.ay i 1).2 6) (N.ay i 1).2) []
 rw [List.length_nil] at this
 omega
end Go.Ev

namespace Go.Ev
open Go Go.Proofs
set_option maxRecDepth 100000
def N.back (key:Bytes) (l:List aW):Nat->aW × Bool->aW × Bool
 | 0,w=>w
 | k+1,w=>back key l k (cond ((l.getD k jM).key==key) (l.getD k jM,true) w)
end Go.Ev

namespace Go.Ev
open Go Go.Proofs
set_option maxRecDepth 100000
def N.okP (p:aW):Bool:=cond (bW 0 p.kind) (cond (aU p.kind 256) (cond (bW (-9223372036854775808) p.num) (bW p.num 9223372036854775807) false) false) false
theorem afB {p:aW} (h:N.okP p=true):uS p:=by
 obtain ⟨h1,h⟩:=aX h
 obtain ⟨h2,h⟩:=aX h
 obtain ⟨h3,h4⟩:=aX h
 exact ⟨bK h1,jv h2,bK h3,bK h4⟩
theorem VJ {p:aW} {l:List aW} (ho:uS p) (h:N.jC p l=0):N.mZ p=N.uN p:=by
 obtain ⟨_,h2,_⟩:=MX h
 have h1:=ho.1
 unfold N.mZ N.uN
 rcases (by omega:p.kind=0∨p.kind=1∨p.kind=2) with k | k | k<;>rw [k]<;>rfl
theorem Je (h:List aW) (ho:∀ p∈h,uS p) (hc:∀ j,j<h.length->N.jC (h.getD j jM) (h.take j)=0):∀ (f i:Nat),i+f=h.length->N.lV (h.drop i)=N.lS (h.drop i)
 | 0,i,hi=>by rw [List.drop_eq_nil_of_le (by omega)]; rfl
 | f+1,i,hi=>by
  have hlt:i<h.length:=by omega
  have hm:h.getD i jM∈h:=by rw [List.getD_eq_getElem?_getD,List.getElem?_eq_getElem hlt]; exact List.getElem_mem _
  rw [getD_drop jM hlt]
  show N.mZ _++N.lV (h.drop (i+1))=N.uN _++N.lS (h.drop (i+1))
  rw [VJ (ho _ hm) (hc i hlt),Je h ho hc f (i+1) (by omega)]
theorem YI (h:List aW) (ho:∀ p∈h,uS p) (hz:N.cZ h=0):N.iJ h=N.iU h:=by
 unfold N.cZ at hz
 cases e:aU 8 h.length with
 | true=>rw [e] at hz; cases hz
 | false =>
  have e':=dP e
  rw [e,cond_false] at hz
  have hc:∀ j,j<h.length->N.jC (h.getD j jM) (h.take j)=0:=fun j hj=>xg h h.length 0 (Int.le_refl _) hz j (by omega) (by omega)
  unfold N.iJ N.iU
  have:=Je h ho hc h.length 0 (by omega)
  rw [List.drop_zero] at this
  rw [this,wrap_u64 (n:=(h.length:Int)) (by omega) (by omega)]
end Go.Ev

namespace Go.Ev
open Go
theorem Qq (z:Bytes) (h:List aW) (ho:∀ p∈h,uS p) (hc:∀ j,j<h.length->N.jC (h.getD j jM) (h.take j)=0):∀ (f i:Nat),i+f=h.length->N.jh f ⟨N.lS (h.drop i)++z,0⟩ (h.take i)=(h,⟨z,0⟩)
 | 0,i,hi=>by
  rw [List.drop_eq_nil_of_le (by omega),List.take_of_length_le (by omega)]; rfl
 | f+1,i,hi=>by
  have hlt:i<h.length:=by omega
  have hm:h.getD i jM∈h:=by rw [List.getD_eq_getElem?_getD,List.getElem?_eq_getElem hlt]; exact List.getElem_mem _
  rw [getD_drop jM hlt]
  have e:N.lS (h.getD i jM::h.drop (i+1))++z=N.uN (h.getD i jM)++(N.lS (h.drop (i+1))++z):=List.append_assoc ..
  rw [e]
  unfold N.jh
  rw [one_app (ho _ hm) (hc i hlt)]
  have b:N.bad (h.getD i jM) (h.take i) ⟨N.lS (h.drop (i+1))++z,0⟩=⟨N.lS (h.drop (i+1))++z,0⟩:=by
   unfold N.bad N.bP
   rw [hc i hlt]; rfl
  show cond ((N.bad (h.getD i jM) (h.take i) ⟨N.lS (h.drop (i+1))++z,0⟩).err != 0) _ (N.jh f (N.bad (h.getD i jM) (h.take i) ⟨N.lS (h.drop (i+1))++z,0⟩) (h.take i++[h.getD i jM]))=_
  rw [b]
  have ht:h.take i++[h.getD i jM]=h.take (i+1):=by
   rw [List.take_add_one,List.getD_eq_getElem?_getD,List.getElem?_eq_getElem hlt]; rfl
  rw [ht]
  exact Qq z h ho hc f (i+1) (by omega)
theorem YJ (z:Bytes) (h:List aW) (ho:∀ p∈h,uS p) (hz:N.cZ h=0):N.iH ⟨N.iU h++z,0⟩=(h,⟨z,0⟩):=by
 unfold N.cZ at hz
 cases e:aU 8 h.length with
 | true=>rw [e] at hz; cases hz
 | false =>
  have e':=dP e
  rw [e,cond_false] at hz
  have hc:∀ j,j<h.length->N.jC (h.getD j jM) (h.take j)=0:=fun j hj=>xg h h.length 0 (Int.le_refl _) hz j (by omega) (by omega)
  unfold N.iH N.iU
  have en:N.ay ⟨N.bQ h.length 1++(N.lS h++z),0⟩ 1=((h.length:Int),⟨N.lS h++z,0⟩):=kS 1 (by decide) _ (by omega) (by show (h.length:Int)<256; omega) _
  rw [List.append_assoc,en]
  show N.jh (IntKind.wrap .i64 h.length).toNat (cond (aU 8 (IntKind.wrap .i64 h.length)) _ _) []=_
  rw [wrap_i64 (n:=(h.length:Int)) (by omega) (by omega),e,cond_false,Int.toNat_natCast]
  exact Qq z h ho hc h.length 0 (by omega)
theorem Qr (z:Bytes) (m:au) (hk:N.yF m=true) (ho:∀ p∈m.head,uS p) (hz:N.aP m=0):N.cu ⟨N.lT m++z,0⟩=(m,⟨z,0⟩):=by
 obtain ⟨⟨a1,a2⟩,⟨a3,a4⟩,⟨a5,a6⟩⟩:=afw hk
 obtain ⟨c1,c2,c3,c4,c5,_⟩:=pz hz
 have wh:IntKind.wrap .u64 m.hops=m.hops:=wrap_u64 (by omega) (by omega)
 have wh8:IntKind.wrap .u8 m.hops=m.hops:=wrap_u8' a5 a6
 have e:N.lT m++z=N.bQ m.id 8++(N.dD m.bZ++(N.dD m.key++(N.iU m.head++(N.dD m.body++(N.bQ m.due 8++(N.bQ m.hops 1++z)))))):=by
  unfold N.lT; rw [wh]; simp only [List.append_assoc]
 unfold N.cu
 dsimp only
 rw [e]
 have p8:(256:Int) ^ 8=18446744073709551616:=rfl
 have p1:(256:Int) ^ 1=256:=rfl
 have s1:=kS 8 (by decide) m.id a1 (by rw [p8]; exact a2) (N.dD m.bZ++(N.dD m.key++(N.iU m.head++(N.dD m.body++(N.bQ m.due 8++(N.bQ m.hops 1++z))))))
 have s2:=uQ m.bZ 16 (by omega) (by omega) (N.dD m.key++(N.iU m.head++(N.dD m.body++(N.bQ m.due 8++(N.bQ m.hops 1++z)))))
 have s3:=uQ m.key 64 (by omega) (by omega) (N.iU m.head++(N.dD m.body++(N.bQ m.due 8++(N.bQ m.hops 1++z))))
 have s4:=YJ (N.dD m.body++(N.bQ m.due 8++(N.bQ m.hops 1++z))) m.head ho c3
 have s5:=uQ m.body 256 (by omega) (by omega) (N.bQ m.due 8++(N.bQ m.hops 1++z))
 have s6:=kS 8 (by decide) m.due a3 (by rw [p8]; exact a4) (N.bQ m.hops 1++z)
 have s7:=kS 1 (by decide) m.hops a5 (by rw [p1]; exact a6) z
 have k8:((8:Nat):Int)=8:=rfl
 have k1:((1:Nat):Int)=1:=rfl
 rw [k8] at s1 s6
 rw [k1] at s7
 rw [s1]
 dsimp only
 rw [s2]
 dsimp only
 rw [s3]
 dsimp only
 rw [s4]
 dsimp only
 rw [s5]
 dsimp only
 rw [s6]
 dsimp only
 rw [s7]
 dsimp only
 rw [wh8]
 unfold N.zl N.bP
 have ez:N.aP ⟨m.id,m.bZ,m.key,m.head,m.body,m.due,m.hops⟩=0:=hz
 rw [ez]; rfl
theorem J7 {s:Bytes} {i:dw} {q:bY} (h:Rl s i q):(N.cu i).1=(N.mF q).1∧Rl s (N.cu i).2 (N.mF q).2:=by
 unfold N.cu N.mF
 dsimp only
 have t1:=ji h 8
 have t2:=qE t1.2 16
 have t3:=qE t2.2 64
 have t4:=aav t3.2
 have t5:=qE t4.2 256
 have t6:=ji t5.2 8
 have t7:=ji t6.2 1
 rw [t1.1,t2.1,t3.1,t4.1,t5.1,t6.1,t7.1]
 revert t7
 generalize (N.ay _ 1).2=i'
 generalize (N.bD _ 1).2=q'
 intro t7
 replace t7:=t7.2
 generalize (⟨_,_,_,_,_,_,_⟩:au)=m
 unfold N.zl N.MG
 have he:i'.err=q'.code:=t7.2.2.2.1
 have tf:=uj t7 (N.aP m)
 have hf:(N.bP i' (N.aP m)).err=(N.fF q' (N.aP m)).code:=tf.2.2.2.1
 rw [he]
 cases q'.code==0 with
 | true =>
  simp only [cond_true]
  rw [hf]
  cases (N.fF q' (N.aP m)).code != 0<;>exact ⟨rfl,tf⟩
 | false =>
  simp only [cond_false]
  rw [he]
  cases q'.code != 0<;>exact ⟨rfl,t7⟩
theorem Bg {m:au} (ho:∀ p∈m.head,uS p) (hz:N.aP m=0):N.jW m=N.lT m:=by
 unfold N.jW N.lT
 rw [YI m.head ho (pz hz).2.2.1]
theorem aaH {m:au} (hk:N.yF m=true) (hz:N.aP m=0):N.O6 m=true:=by
 obtain ⟨c1,c2,c3,c4,c5,_⟩:=pz hz
 obtain ⟨c6,c7⟩:=Ii c3
 unfold N.O6
 rw [hk,fA (by omega),fA (by omega),fA (by omega),c7,fA (by omega)]; rfl
theorem DC (m:au):N.lU m m=true:=by
 unfold N.lU
 simp only [beq_self_eq_true,vY,cond_true]
theorem rJ {m:au} (hz:N.aP m=0):(N.lT m).length<=1570:=by
 obtain ⟨c1,c2,c3,c4,c5,_⟩:=pz hz
 have:=Ql c3
 unfold N.lT
 simp only [List.length_append,dU,jP]; omega
end Go.Ev

namespace Go.Ev
open Go
end Go.Ev

namespace Go.Ev
open Go Go.Proofs
set_option maxRecDepth 100000
end Go.Ev

namespace Go.Ev
open Go
namespace N
end N
end Go.Ev

namespace Go.Ev
open Go Go.Proofs
set_option maxRecDepth 100000
noncomputable def akf : Env:=env Tryz.prog [(204,mJ)] [] []
theorem alK  : bV akf 200 [] [] some =
 some {v:=.bool true,bx:=[]:aJ}:=by kernel_rfl
theorem aiO (hN:bH Tryz.prog 95 fP):bH Tryz.prog 200 mJ:=aN (aQ ((gu.nil _).cons (alJ hN))) (E:=akf) Tryz.func200 [] (by kernel_rfl) none0 fun _ _ _=>alK
end Go.Ev

namespace Go.Ev
open Go Go.Proofs
set_option maxRecDepth 100000
theorem alL {k:IntKind} {n:Int} (h:wfV (.int k n)=true):k.min<=n∧n<=k.max:=by
 unfold wfV Lit.wf at h
 simp at h
 exact h
end Go.Ev

namespace Go.Ev
open Go Go.Proofs
set_option maxRecDepth 100000
theorem Bh:bH Tryz.prog 189 Ef:=by
 refine aN (aQ (((gu.nil _).cons Bd).cons tH)) (E:=F8) Tryz.func189 [] (by kernel_rfl) none0 fun m _ h=>?_
 obtain ⟨h,hp⟩:=aX h
 have hp:∀ p∈m.head,uS p:=fun p hm=>afB (List.all_eq_true.1 hp p hm)
 obtain ⟨id,bZ,key,head,body,due,hops⟩:=m
 refine (O7 ⟨id,bZ,key,head,body,due,hops⟩).trans ?_
 simp only [xZ]
 show _=some (⟨.int .i64 (N.dB ⟨id,bZ,key,head,body,due,hops⟩),[],[]⟩:aJ)
 unfold N.dB
 cases hc:N.aP ⟨id,bZ,key,head,body,due,hops⟩ != 0 with
 | true=>rfl
 | false =>
  have hz:N.aP ⟨id,bZ,key,head,body,due,hops⟩=0:=by simpa using hc
  simp (disch:=omega) only [evs,aaH h hz,Bg hp hz]
noncomputable def akg:Env:=env Tryz.prog [(200,mJ),(98,uP)] [] []
theorem alM:bV akg 192 [] [] some=some { v:=.bool true,bx:=[] }:=by kernel_rfl
theorem aiP (hN:bH Tryz.prog 95 fP):bH Tryz.prog 192 mJ :=
 aN (aQ (((gu.nil _).cons (uo hN)).cons (aiO hN))) (E:=akg) Tryz.func192 [] (by kernel_rfl) none0 fun _ _ _=>alM
theorem O8 (i:dw):(N.cu i).1.head.length<=255:=by
 unfold N.cu
 dsimp only
 have:=Tc (N.bM (N.bM (N.ay i 8).2 16).2 64).2
 generalize N.iH (N.bM (N.bM (N.ay i 8).2 16).2 64).2=d at *
 unfold N.zl
 generalize (cond _ _ _:dw)=z
 cases z.err != 0 with
 | true=>show (0:Nat)<=255; omega
 | false=>exact this
end Go.Ev

namespace Go.Ev
open Go Go.Proofs
set_option maxRecDepth 100000
-- FOLD
noncomputable def afC : Env:=env Tryz.prog [(192,mJ)] [] []
theorem aiQ  : bV afC 166 [] [] some =
 some {v:=.bool true,bx:=[]:aJ}:=by kernel_rfl
theorem VK (hN:bH Tryz.prog 95 fP):bH Tryz.prog 166 mJ :=
 aN (aQ ((gu.nil _).cons (aiP hN))) (E:=afC) Tryz.func166 [] (by kernel_rfl) none0 fun _ _ _=>aiQ
def aiR:fK:={ fr:=[(1,.ptr 10000 0 0),(8,.int .i64)],tab:=[(10001,.sl yM),(10000,.var [.int .u64,.own 10001])] }
def afD (n:Int) (r:List (List V)):List (Nat × Box):=[(10000,.var [.int .u64 n,.slc yM r])]
def rowA:List V:=[.int .u64 0,.str [97],.str [],.slc yP [],.str [],.int .u64 0,.int .u8 0]
def akh:List Leaf->(Ex->St->Option R)->Option R
 | [.i i8,.r yG,.i l7],K=>cond (i8==0) (cond (Nat.beq yG.length 0) (cond (l7==0) (K (.exit 0) { fr:=[(1,.ptr 10000 0 0 0)],tab:=afD 20 (List.replicate 16 rowA) }) none) none) none
 | _,_=>none
noncomputable def afE:Env:=env Tryz.prog [(136,VE),(167,Nk),(166,mJ)] [(3,dO aiR akh)] [(3,[(0,[1,8]),(1,[1]),(1000,[0])])]
theorem alN  : bV afE 110 [] [] some =
 some {v:=.bool true,bx:=[]:aJ}:=by kernel_rfl
theorem VL (K:Ex->St->Option R):o9 afE 110 3 21 { fr:=[(1,.ptr 10000 0 0 0),(8,.int .i64 0)],tab:=[(10001,.sl yM [] 0),(10000,.var [.int .u64 0,.own 10001 0])] } K =
  K (.exit 0) { fr:=[(1,.ptr 10000 0 0 0)],tab:=afD 20 (List.replicate 16 rowA) }:=by kernel_rfl
theorem kT {x y:Nat} (h:Nat.beq x y=true):x=y:=Nat.eq_of_beq_eq_true h
theorem aiS (hN:bH Tryz.prog 95 fP):bH Tryz.prog 110 mJ:=by
 refine aN (aQ ((((gu.nil _).cons (VK hN)).cons S9).cons YH)) (E:=afE) Tryz.func110 [3] (by kernel_rfl) (one1 (bn rfl fun l K q h=>?_)) fun _ _ _=>alN
 unfold akh at h
 split at h
 .rename_i i r n
  replace h:=RH h;obtain ⟨h1,h2,h3,h⟩:=h
  have e1:=aZ h1
  have e2:=List.eq_nil_of_length_eq_zero (kT h2)
  have e3:=aZ h3
  subst e1 e2 e3
  exact ⟨21,(VL K).trans (by assumption)⟩
 .cases h
theorem nH (r:List V):({ id:=V.toInt (List.getD r 0 .undef),bZ:=V.toStr (List.getD r 1 .undef),key:=V.toStr (List.getD r 2 .undef),head:=(V.toRows (List.getD r 3 .undef)).map fun r=>({ key:=V.toStr (List.getD r 0 .undef),kind:=V.toInt (List.getD r 1 .undef),num:=V.toInt (List.getD r 2 .undef),text:=V.toStr (List.getD r 3 .undef) }:aW),body:=V.toStr (List.getD r 4 .undef),due:=V.toInt (List.getD r 5 .undef),hops:=V.toInt (List.getD r 6 .undef) }:au)=ah.dec r:=rfl
end Go.Ev

namespace Go.Ev
open Go Go.Proofs
set_option maxRecDepth 100000
-- FOLD
theorem Nq (m:au):[V.int .u64 m.id,V.str m.bZ,V.str m.key,V.slc yP (m.head.map fun p=>[V.str p.key,V.int .u8 p.kind,V.int .i64 p.num,V.str p.text]),V.str m.body,V.int .u64 m.due,V.int .u8 m.hops]=ah.enc m:=rfl
theorem aaI (r:List V):[V.int .u64 (V.toInt (List.getD r 0 .undef)),V.str (V.toStr (List.getD r 1 .undef)),V.str (V.toStr (List.getD r 2 .undef)),V.slc yP (((V.toRows (List.getD r 3 .undef)).map fun r=>({ key:=V.toStr (List.getD r 0 .undef),kind:=V.toInt (List.getD r 1 .undef),num:=V.toInt (List.getD r 2 .undef),text:=V.toStr (List.getD r 3 .undef) }:aW)).map fun p=>[V.str p.key,V.int .u8 p.kind,V.int .i64 p.num,V.str p.text]),
  V.str (V.toStr (List.getD r 4 .undef)),V.int .u64 (V.toInt (List.getD r 5 .undef)),V.int .u8 (V.toInt (List.getD r 6 .undef))]=ah.enc (ah.dec r):=rfl
theorem zB (m:au):({ id:=m.id,bZ:=m.bZ,key:=m.key,head:=(m.head.map fun p=>[V.str p.key,V.int .u8 p.kind,V.int .i64 p.num,V.str p.text]).map fun r=>({ key:=V.toStr (List.getD r 0 .undef),kind:=V.toInt (List.getD r 1 .undef),num:=V.toInt (List.getD r 2 .undef),text:=V.toStr (List.getD r 3 .undef) }:aW),body:=m.body,due:=m.due,hops:=m.hops }:au)=m:=ah.de m
theorem acw (x:aG):(⟨x.total,x.kept⟩:aG)=x:=rfl
def ant:Den:=den (aT (bJ bC)) dV (oV (qw ah)) (fun x _=>fH x) fun x _=>(x.kept,())
def alO:fK:={ fr:=[(3,.own 10000),(7,.slc yM),(8,.int .i64),(9,.int .i64)],tab:=[(10000,.sl yM)] }
def anu:List Leaf->(Ex->St->Option R)->Option R
 | [.r r7,.i i8,.i i9,.r mG],K=>cond (i8==r7.length) (cond (i9==0) (cond (Nat.beq mG.length 0) (cond (Nat.ble r7.length 16) (cond ((r7.map ah.dec).all iQ)
   (K (.exit 0) { fr:=[(3,.own 10000 0)],tab:=[(10000,.sl yM ((r7.map ah.dec).map ah.enc) 0)] }) none) none) none) none) none
 | _,_=>none
noncomputable def aiT:Env:=env Tryz.prog [(171,uF)] [(3,dO alO anu)] [(3,[(0,[3,7,8,9]),(1,[3]),(1000,[2])])]
theorem anv (x:aG):bV aiT 156 ((aT (bJ bC)).enc x) ([]) some =
 cond ((↑(List.length (List.map (aj.enc ah) x.kept)):Int)==(↑(List.length (List.map (aj.enc ah) x.kept)):Int)) (cond (Nat.ble (List.length (List.map (aj.enc ah) x.kept)) 16) (cond (List.all (List.map (aj.dec ah) (List.map (aj.enc ah) x.kept)) iQ) (some {v:=.slc yM (List.map (aj.enc ah) (List.map (aj.dec ah) (List.map (aj.enc ah) x.kept))),bx:=[]:aJ}) none) none) none:=by kernel_rfl
theorem afF (r7:List (List V)) (i8:Int) (i9:Int) (mG:List (List V)) (K:Ex->St->Option R):type_of% (by
  have h:bI aiT 156 3 { fr:=[(3,.own 10000 0),(7,.slc yM r7),(8,.int .i64 i8),(9,.int .i64 i9)],tab:=[(10000,.sl yM mG 0)] } K =(
   let z0:=(List.getD r7 (Int.toNat i9) []);cond (aU i9 i8) (cond (decide (0<=i9∧i9<(↑(List.length r7):Int))) (cond (iQ (ah.dec z0)) (cond (decide ((List.length mG+1)*96<=140737488355328)) (K .normal {fr:=[(3,.own 10000 0),(7,.slc yM r7),(8,.int .i64 i8),(9,.int .i64 (IntKind.wrap .i64 (i9+1)))],tab:=[(10000,.sl yM (mG++[[V.int .u64 (V.toInt (z0.getD 0 .undef)),.str (V.toStr (z0.getD 1 .undef)),.str (V.toStr (z0.getD 2 .undef)),.slc yP (List.map yE (List.map yD (V.toRows (z0.getD 3 .undef)))),.str (V.toStr (z0.getD 4 .undef)),.int .u64 (V.toInt (z0.getD 5 .undef)),.int .u8 (V.toInt (z0.getD 6 .undef))]]) 0)]:St}) none) none) none) (K (.exit 0) {fr:=[(3,.own 10000 0)],tab:=[(10000,.sl yM mG 0)]:St})):=by kernel_rfl
  dsimp only at h;exact h):=by kernel_rfl
theorem acy {r:List (List V)} {i:Nat} (h:i<r.length):((r.take (i+1)).map ah.dec).map ah.enc=((r.take i).map ah.dec).map ah.enc++[ah.enc (ah.dec (r.getD i []))]:=by
 rw [List.take_add_one,List.getD_eq_getElem?_getD,List.getElem?_eq_getElem h]
 simp only [Option.toList_some,List.map_append,List.map_cons,List.map_nil,Option.getD_some]
theorem Qs {r:List (List V)} (h:(r.map ah.dec).all iQ=true) {i:Nat} (hi:i<r.length):iQ (ah.dec (r.getD i []))=true:=by
 refine List.all_eq_true.1 h _ (List.mem_map_of_mem ?_)
 rw [List.getD_eq_getElem?_getD,List.getElem?_eq_getElem hi]
 exact List.getElem_mem hi
theorem alP:bH Tryz.prog 156 ant:=by
 refine aN (aQ ((gu.nil _).cons sN)) (E:=aiT) Tryz.func156 [3] (by kernel_rfl) (one1 (bn rfl fun l K q h=>?_)) fun x _ hp=>?_
 .unfold anu at h
  split at h
  .rename_i r n i o
   replace h:=EY h;obtain ⟨h1,h2,h3,h4,h5,h⟩:=h
   have e1:=aZ h1
   have e2:=aZ h2
   have e3:=List.eq_nil_of_length_eq_zero (kT h3)
   subst e1 e2 e3
   have h4:r.length<=16:=aV h4
   have main:=dH (E:=aiT) (f:=156) (id:=3) (A:=Unit) r (fun _ i=>{ fr:=[(3,.own 10000 0),(7,.slc yM r),(8,.int .i64 r.length),(9,.int .i64 i)],tab:=[(10000,.sl yM (((r.take i.toNat).map ah.dec).map ah.enc) 0)] }) (fun _ _=>True)
    (fun _ _ K=>K (.exit 0) { fr:=[(3,.own 10000 0)],tab:=[(10000,.sl yM ((r.map ah.dec).map ah.enc) 0)] }) (fun _ i _ hi=>?_) (fun _ _=>?_) () 0 (Int.le_refl _) (by omega) trivial K q (by assumption)
   .exact main
   .refine .inl ⟨(),trivial,fun K=>?_,fun K=>rfl⟩
    rw [afF]
    have hl:(((r.take i).map ah.dec).map ah.enc).length=i:=by simp; omega
    have ht:=acy hi
    have hs:=Qs h5 hi
    simp (disch:=omega) only [evs,Int.toNat_natCast,nH,aaI,hs,hl]
    rw [<- ht]
    try rfl
   .refine ⟨.exit 0,_,by simp,fun K=>?_,fun K=>rfl⟩
    rw [afF]
    simp (disch:=omega) only [evs,Int.toNat_natCast,List.take_length]
  .cases h
 .refine (anv x).trans ?_
  have hp:fH x=true:=hp
  show _=some (⟨.slc yM (x.kept.map ah.enc),[],[]⟩:aJ)
  obtain ⟨_,hp⟩:=aX hp
  obtain ⟨h1,h2⟩:=aX hp
  simp only [List.length_map,bT,beq_self_eq_true,cond_true,h1,h2]
def N.tK:List au->List au->Bool
 | [],[]=>true
 | a::x,b::y=>cond (N.lU a b) (N.tK x y) false
 | _,_=>false
theorem VN {r:List (List V)} {i:Nat} (h:i<r.length):(r.drop i).map ah.dec=ah.dec (r.getD i [])::(r.drop (i+1)).map ah.dec:=by
 rw [lD h]; rfl
theorem Nr:∀ (a b:List au),a.length ≠ b.length->N.tK a b=false
 | [],[],h=>absurd rfl h
 | [],_::_,_=>rfl
 | _::_,[],_=>rfl
 | a::x,b::y,h=>by
  unfold N.tK
  rw [Nr x y (fun e=>h (by simp [e]))]
  cases N.lU a b<;>rfl
theorem VO (a b:au) (x y:List au):N.tK (a::x) (b::y)=cond (N.lU a b) (N.tK x y) false:=rfl
theorem Jf:∀ l:List au,N.tK l l=true
 | []=>rfl
 | a::x=>by
  unfold N.tK
  rw [DC a,Jf x]; rfl
end Go.Ev

namespace Go.Ev
open Go Go.Proofs
set_option maxRecDepth 100000
-- FOLD
def afG (f:FuncId):Hz Unit where
 ok:=fun | .fn g [] []=>Nat.beq f g | _=>false
 enc _:=.fn f [] []
 dec _:=()
 ed _:=⟨Nat.beq_refl f,rfl⟩
 law w I ρ v x h hx:=by
  split at h
  .have:=Nat.eq_of_beq_eq_true h; subst this
   exact hx
  .cases h
namespace N
def lJ (m:au):Bool:=cond (yF m) (m.head.all O1) false
def gJ:List au->Int
 | []=>0
 | m::r=>dB m+gJ r
def DF (x y:aG):Bool:=cond (x.total==y.total) (tK x.kept y.kept) false
end N
def rZ (x:aG):Bool:=cond (fH x) (x.kept.all N.yF) false
def lg (x:aG):Bool:=cond (fH x) (x.kept.all N.lJ) false
def Qu:Den:=den (aT (bJ bC)) dV (oV (dA .i64)) (fun x _=>rZ x) fun x _=>(N.gJ x.kept,())
def Gh:Den:=den (aT (bJ bC)) dV (oV (dA .i64)) (fun x _=>lg x) fun x _=>(N.gJ x.kept,())
def afH:Den:=den (bg (bJ bC) (aT (bJ bC))) dV (oV lC) (fun a _=>cond (fH a.1) (fH a.2) false) fun a _=>(N.DF a.1 a.2,())
def dOf:Den:=den (aT (bJ bC)) dV (oV (bJ bC)) (fun x _=>fH x) fun x _=>(x,())
theorem lF (m:au):0<=N.dB m∧N.dB m<=1570:=by
 unfold N.dB
 cases hc:N.aP m != 0 with
 | true=>exact ⟨Int.le_refl 0,(by decide:(0:Int)<=1570)⟩
 | false =>
  have hz:N.aP m=0:=by simpa using hc
  have:=rJ hz
  show 0<=((N.lT m).length:Int)∧((N.lT m).length:Int)<=1570
  omega
theorem wu:∀ l:List au,0<=N.gJ l∧N.gJ l<=1570*l.length
 | []=>⟨Int.le_refl 0,by show (0:Int)<=1570*((0:Nat):Int); omega⟩
 | m::r=>by
  have h1:=lF m
  have h2:=wu r
  show 0<=N.dB m+N.gJ r∧N.dB m+N.gJ r<=1570*((r.length+1:Nat):Int)
  omega
theorem J8 {p:au->Bool} {r:List (List V)} (h:(r.map ah.dec).all p=true) {i:Nat} (hi:i<r.length):p (ah.dec (r.getD i []))=true:=by
 refine List.all_eq_true.1 h _ (List.mem_map_of_mem ?_)
 rw [List.getD_eq_getElem?_getD,List.getElem?_eq_getElem hi]
 exact List.getElem_mem hi
def afI:fK:={ fr:=[(3,.int .i64),(7,.slc yM),(8,.int .i64),(9,.int .i64)],tab:=[] }
def afJ:List Leaf->(Ex->St->Option R)->Option R
 | [.i i3,.r r7,.i i8,.i i9],K=>cond (i8==r7.length) (cond (i9==0) (cond (i3==0) (cond (Nat.ble r7.length 16) (cond ((r7.map ah.dec).all N.yF)
   (K (.exit 0) { fr:=[(3,.int .i64 (N.gJ (r7.map ah.dec)))],tab:=[] }) none) none) none) none) none
 | _,_=>none
noncomputable def Td:Env:=env Tryz.prog [(48,CU)] [(3,dO afI afJ)] [(3,[(0,[3,7,8,9]),(1,[3]),(1000,[2])])]
theorem aiU (x:aG):bV Td 66 ((aT (bJ bC)).enc x) ([]) some =
 cond ((↑(List.length (List.map (aj.enc ah) x.kept)):Int)==(↑(List.length (List.map (aj.enc ah) x.kept)):Int)) (cond (Nat.ble (List.length (List.map (aj.enc ah) x.kept)) 16) (cond (List.all (List.map (aj.dec ah) (List.map (aj.enc ah) x.kept)) N.yF) (some {v:=.int .i64 (N.gJ (List.map (aj.dec ah) (List.map (aj.enc ah) x.kept))),bx:=[]:aJ}) none) none) none:=by kernel_rfl
theorem VP (i3:Int) (r7:List (List V)) (i8:Int) (i9:Int) (K:Ex->St->Option R):type_of% (by
  have h:bI Td 66 3 { fr:=[(3,.int .i64 i3),(7,.slc yM r7),(8,.int .i64 i8),(9,.int .i64 i9)],tab:=[] } K =(
   let z0:=(List.getD r7 (Int.toNat i9) []);cond (aU i9 i8) (cond (decide (0<=i9∧i9<(↑(List.length r7):Int))) (cond (N.yF (ah.dec z0)) (K .normal {fr:=[(3,.int .i64 (IntKind.wrap .i64 (i3+N.dB (ah.dec z0)))),(7,.slc yM r7),(8,.int .i64 i8),(9,.int .i64 (IntKind.wrap .i64 (i9+1)))],tab:=[]:St}) none) none) (K (.exit 0) {fr:=[(3,.int .i64 i3)],tab:=[]:St})):=by kernel_rfl
  dsimp only at h;exact h):=by kernel_rfl
theorem VQ (hN:bH Tryz.prog 95 fP):bH Tryz.prog 66 Qu:=by
 refine aN (aQ ((gu.nil _).cons (Bc hN))) (E:=Td) Tryz.func66 [3] (by kernel_rfl) (one1 (bn rfl fun l K q h=>?_)) fun x _ hp=>?_
 .unfold afJ at h
  split at h
  .rename_i o r n i
   replace h:=EY h;obtain ⟨h1,h2,h3,h4,h5,h⟩:=h
   have e1:=aZ h1
   have e2:=aZ h2
   have e3:=aZ h3
   subst e1 e2 e3
   have h4:r.length<=16:=aV h4
   have main:=dH (E:=Td) (f:=66) (id:=3) (A:=Int) r (fun a i=>{ fr:=[(3,.int .i64 a),(7,.slc yM r),(8,.int .i64 r.length),(9,.int .i64 i)],tab:=[] }) (fun a i=>0<=a∧a<=1570*i)
    (fun a rows K=>K (.exit 0) { fr:=[(3,.int .i64 (a+N.gJ (rows.map ah.dec)))],tab:=[] }) (fun a i ha hi=>?_) (fun a _=>?_) 0 0 (Int.le_refl _) (by omega) ⟨Int.le_refl _,by decide⟩ K q (by rw [Int.zero_add]; exact h)
   .exact main
   .have hb:=lF (ah.dec (r.getD i []))
    have hs:=J8 h5 hi
    refine .inl ⟨a+N.dB (ah.dec (r.getD i [])),⟨by omega,by omega⟩,fun K=>?_,fun K=>?_⟩
    .rw [VP]
     simp (disch:=omega) only [evs,Int.toNat_natCast,nH,hs]
    .show K _ { fr:=[(3,.int .i64 (a+(N.dB (ah.dec (r.getD i []))+N.gJ ((r.drop (i+1)).map ah.dec))))],tab:=[] }=_
     rw [Int.add_assoc]
   .refine ⟨.exit 0,_,by simp,fun K=>?_,fun K=>rfl⟩
    rw [VP]
    simp (disch:=omega) only [evs,List.map_nil,Int.add_zero]
    show _=K _ { fr:=[(3,.int .i64 (a+0))],tab:=[] }
    rw [Int.add_zero]
  .cases h
 .refine (aiU x).trans ?_
  obtain ⟨hp,h3⟩:=aX hp
  obtain ⟨_,hp⟩:=aX hp
  obtain ⟨h1,_⟩:=aX hp
  show _=some (⟨.int .i64 (N.gJ x.kept),[],[]⟩:aJ)
  simp only [List.length_map,bT,beq_self_eq_true,cond_true,h1,h3]
def VR:fK:={ fr:=[(3,.int .i64),(7,.slc yM),(8,.int .i64),(9,.int .i64)],tab:=[] }
def Qv:List Leaf->(Ex->St->Option R)->Option R
 | [.i i3,.r r7,.i i8,.i i9],K=>cond (i8==r7.length) (cond (i9==0) (cond (i3==0) (cond (Nat.ble r7.length 16) (cond ((r7.map ah.dec).all N.lJ)
   (K (.exit 0) { fr:=[(3,.int .i64 (N.gJ (r7.map ah.dec)))],tab:=[] }) none) none) none) none) none
 | _,_=>none
noncomputable def Di:Env:=env Tryz.prog [(189,Ef)] [(3,dO VR Qv)] [(3,[(0,[3,7,8,9]),(1,[3]),(1000,[2])])]
theorem YK (x:aG):bV Di 160 ((aT (bJ bC)).enc x) ([]) some =
 cond ((↑(List.length (List.map (aj.enc ah) x.kept)):Int)==(↑(List.length (List.map (aj.enc ah) x.kept)):Int)) (cond (Nat.ble (List.length (List.map (aj.enc ah) x.kept)) 16) (cond (List.all (List.map (aj.dec ah) (List.map (aj.enc ah) x.kept)) N.lJ) (some {v:=.int .i64 (N.gJ (List.map (aj.dec ah) (List.map (aj.enc ah) x.kept))),bx:=[]:aJ}) none) none) none:=by kernel_rfl
theorem Jg (i3:Int) (r7:List (List V)) (i8:Int) (i9:Int) (K:Ex->St->Option R):type_of% (by
  have h:bI Di 160 3 { fr:=[(3,.int .i64 i3),(7,.slc yM r7),(8,.int .i64 i8),(9,.int .i64 i9)],tab:=[] } K =(
   let z0:=(List.getD r7 (Int.toNat i9) []);let z1:=(V.toRows (z0.getD 3 .undef));cond (aU i9 i8) (cond (decide (0<=i9∧i9<(↑(List.length r7):Int))) (cond (bif N.yF {id:=V.toInt (z0.getD 0 .undef),bZ:=V.toStr (z0.getD 1 .undef),key:=V.toStr (z0.getD 2 .undef),head:=List.map yD z1,body:=V.toStr (z0.getD 4 .undef),due:=V.toInt (z0.getD 5 .undef),hops:=V.toInt (z0.getD 6 .undef):au} then List.all (List.map yD z1) N.O1 else false) (K .normal {fr:=[(3,.int .i64 (IntKind.wrap .i64 (i3+N.dB {id:=V.toInt (z0.getD 0 .undef),bZ:=V.toStr (z0.getD 1 .undef),key:=V.toStr (z0.getD 2 .undef),head:=List.map yD z1,body:=V.toStr (z0.getD 4 .undef),due:=V.toInt (z0.getD 5 .undef),hops:=V.toInt (z0.getD 6 .undef):au}))),(7,.slc yM r7),(8,.int .i64 i8),(9,.int .i64 (IntKind.wrap .i64 (i9+1)))],tab:=[]:St}) none) none) (K (.exit 0) {fr:=[(3,.int .i64 i3)],tab:=[]:St})):=by kernel_rfl
  dsimp only at h;exact h):=by kernel_rfl
theorem Ns:bH Tryz.prog 160 Gh:=by
 refine aN (aQ ((gu.nil _).cons Bh)) (E:=Di) Tryz.func160 [3] (by kernel_rfl) (one1 (bn rfl fun l K q h=>?_)) fun x _ hp=>?_
 .unfold Qv at h
  split at h
  .rename_i o r n i
   replace h:=EY h;obtain ⟨h1,h2,h3,h4,h5,h⟩:=h
   have e1:=aZ h1
   have e2:=aZ h2
   have e3:=aZ h3
   subst e1 e2 e3
   have h4:r.length<=16:=aV h4
   have main:=dH (E:=Di) (f:=160) (id:=3) (A:=Int) r (fun a i=>{ fr:=[(3,.int .i64 a),(7,.slc yM r),(8,.int .i64 r.length),(9,.int .i64 i)],tab:=[] }) (fun a i=>0<=a∧a<=1570*i)
    (fun a rows K=>K (.exit 0) { fr:=[(3,.int .i64 (a+N.gJ (rows.map ah.dec)))],tab:=[] }) (fun a i ha hi=>?_) (fun a _=>?_) 0 0 (Int.le_refl _) (by omega) ⟨Int.le_refl _,by decide⟩ K q (by rw [Int.zero_add]; exact h)
   .exact main
   .have hb:=lF (ah.dec (r.getD i []))
    have hs:=J8 h5 hi
    refine .inl ⟨a+N.dB (ah.dec (r.getD i [])),⟨by omega,by omega⟩,fun K=>?_,fun K=>?_⟩
    .rw [Jg]
     simp (disch:=omega) only [evs,Int.toNat_natCast,nH,hs]
     show cond (N.lJ (ah.dec (r.getD i []))) _ _=_
     rw [hs]; rfl
    .show K _ { fr:=[(3,.int .i64 (a+(N.dB (ah.dec (r.getD i []))+N.gJ ((r.drop (i+1)).map ah.dec))))],tab:=[] }=_
     rw [Int.add_assoc]
   .refine ⟨.exit 0,_,by simp,fun K=>?_,fun K=>rfl⟩
    rw [Jg]
    simp (disch:=omega) only [evs,List.map_nil,Int.add_zero]
    show _=K _ { fr:=[(3,.int .i64 (a+0))],tab:=[] }
    rw [Int.add_zero]
  .cases h
 .refine (YK x).trans ?_
  obtain ⟨hp,h3⟩:=aX hp
  obtain ⟨_,hp⟩:=aX hp
  obtain ⟨h1,_⟩:=aX hp
  show _=some (⟨.int .i64 (N.gJ x.kept),[],[]⟩:aJ)
  simp only [List.length_map,bT,beq_self_eq_true,cond_true,h1,h3]
end Go.Ev

namespace Go.Ev
open Go Go.Proofs
set_option maxRecDepth 100000
-- FOLD
def VT:fK:={ fr:=[(2,.ptr 10000 0 0),(3,.ptr 10001 0 0),(22,.int .i64),(23,.int .i64)],tab:=[(10000,.var [.int .u64,.slc yM]),(10001,.var [.int .u64,.slc yM])] }
def Qw:List Leaf->(Ex->St->Option R)->Option R
 | [.i n,.i i,.i t0,.r r,.i t1,.r r1],K=>cond (n==r.length) (cond (i==0) (cond (Nat.beq r.length r1.length) (cond (Nat.ble r.length uJ) (cond ((r.map ah.dec).all iQ)
   (cond (N.tK (r.map ah.dec) (r1.map ah.dec)) (K (.exit 0) { fr:=[],tab:=[] }) (K .ret { fr:=[(4,.bool false)],tab:=[] })) none) none) none) none) none
 | _,_=>none
noncomputable def yc:Env:=env Tryz.prog [(25,Ic)] [(4,dO VT Qw)] [(4,[(0,[2,3,22,23]),(1,[]),(1000,[4])])]
theorem Bj (t0 t1:Int) (n i:Int) (r r1:List (List V)) (K:Ex->St->Option R):bI yc 86 4 { fr:=[(2,.ptr 10000 0 0 0),(3,.ptr 10001 0 0 0),(22,.int .i64 n),(23,.int .i64 i)],tab:=[(10000,.var [.int .u64 t0,.slc yM r]),(10001,.var [.int .u64 t1,.slc yM r1])] } K =
 cond (aU i n) (cond (decide (0<=i∧i<(↑(List.length r):Int))) (cond (decide (0<=i∧i<(↑(List.length r1):Int))) (cond (iQ (ah.dec (List.getD r (Int.toNat i) []))) (cond (!N.lU (ah.dec (List.getD r (Int.toNat i) [])) (ah.dec (List.getD r1 (Int.toNat i) []))) (K .ret {fr:=[(4,.bool false)],tab:=[]:St}) (K .normal {fr:=[(2,.ptr 10000 0 0 0),(3,.ptr 10001 0 0 0),(22,.int .i64 n),(23,.int .i64 (IntKind.wrap .i64 (i+1)))],tab:=[(10000,.var [V.int .u64 t0,.slc yM r]),(10001,.var [V.int .u64 t1,.slc yM r1])]:St})) none) none) none) (K (.exit 0) {fr:=[],tab:=[]:St}):=by kernel_rfl
theorem Tf:dM yc 86 4:=by
 refine bn rfl fun l K q h=>?_
 unfold Qw at h
 split at h
 .rename_i n i t0 r t1 r1
  replace h:=EY h;obtain ⟨h1,h2,h3,h4,h5,h⟩:=h
  have e1:=aZ h1
  have e2:=aZ h2
  have e3:=kT h3
  subst e1 e2
  have h4:r.length<=1000000:=aV h4
  refine dN (E:=yc) (f:=86) (id:=4) (σ:=Nat) (fun i=>{ fr:=[(2,.ptr 10000 0 0 0),(3,.ptr 10001 0 0 0),(22,.int .i64 r.length),(23,.int .i64 i)],tab:=[(10000,.var [.int .u64 t0,.slc yM r]),(10001,.var [.int .u64 t1,.slc yM r1])] }) (fun i=>i<=r.length) (fun i=>r.length-i)
   (fun i K=>cond (N.tK ((r.drop i).map ah.dec) ((r1.drop i).map ah.dec)) (K (.exit 0) { fr:=[],tab:=[] }) (K .ret { fr:=[(4,.bool false)],tab:=[] })) (fun i hi=>?_) 0 (Nat.zero_le _) K q (by assumption)
  by_cases hl:i<r.length
  .rw [VN hl,VN (show i<r1.length by omega),VO]
   have hs:=Qs h5 hl
   cases hc:N.lU (ah.dec (r.getD i [])) (ah.dec (r1.getD i [])) with
   | true =>
    refine .inl ⟨i+1,hl,by omega,fun K=>?_,fun K=>rfl⟩
    rw [Bj]
    simp (disch:=omega) only [evs,Int.toNat_natCast,nH,hs,hc,Bool.not_true]
    try rfl
   | false =>
    refine .inr ⟨.ret,{ fr:=[(4,.bool false)],tab:=[] },by simp,fun K=>?_,fun K=>rfl⟩
    rw [Bj]
    simp (disch:=omega) only [evs,Int.toNat_natCast,nH,hs,hc,Bool.not_false]
  .refine .inr ⟨.exit 0,{ fr:=[],tab:=[] },by simp,fun K=>?_,fun K=>?_⟩
   .rw [Bj]
    simp (disch:=omega) only [evs]
   .rw [List.drop_eq_nil_of_le (show r.length<=i by omega),List.drop_eq_nil_of_le (show r1.length<=i by omega)]; rfl
 .cases h
theorem YL (x y:aG):bV yc 86 ((bg (bJ bC) (aT (bJ bC))).enc (x,y)) ([]) some =
 cond (aG.total x != aG.total y) (some {v:=.bool false,bx:=[]:aJ}) (cond ((↑(List.length (List.map (aj.enc ah) x.kept)):Int) != (↑(List.length (List.map (aj.enc ah) y.kept)):Int)) (some {v:=.bool false,bx:=[]:aJ}) (cond ((↑(List.length (List.map (aj.enc ah) x.kept)):Int)==(↑(List.length (List.map (aj.enc ah) x.kept)):Int)) (cond (Nat.beq (List.length (List.map (aj.enc ah) x.kept)) (List.length (List.map (aj.enc ah) y.kept))) (cond (Nat.ble (List.length (List.map (aj.enc ah) x.kept)) 1000000) (cond (List.all (List.map (aj.dec ah) (List.map (aj.enc ah) x.kept)) iQ) (cond (N.tK (List.map (aj.dec ah) (List.map (aj.enc ah) x.kept)) (List.map (aj.dec ah) (List.map (aj.enc ah) y.kept))) (some {v:=.bool true,bx:=[]:aJ}) (some {v:=.bool false,bx:=[]:aJ})) none) none) none) none)):=by kernel_rfl
theorem VU:bH Tryz.prog 86 afH:=by
 refine aN (aQ ((gu.nil _).cons Ba)) (E:=yc) Tryz.func86 [4] (by kernel_rfl) (one1 Tf) fun a _ h=>?_
 obtain ⟨x,y⟩:=a
 obtain ⟨h1,_⟩:=aX h
 obtain ⟨_,h1⟩:=aX h1
 obtain ⟨h2,h3⟩:=aX h1
 have h2:x.kept.length<=16:=aV h2
 have h3:x.kept.all iQ=true:=h3
 refine (YL x y).trans ?_
 show _=some (⟨.bool (N.DF x y),[],[]⟩:aJ)
 unfold N.DF
 by_cases ht:x.total=y.total
 .by_cases hl:x.kept.length=y.kept.length
  .simp (disch:=omega) only [evs,bT,ht,hl,h3,Nat.beq_refl]
   cases N.tK x.kept y.kept<;>rfl
  .rw [Nr _ _ hl]
   simp (disch:=omega) only [evs,ht]
 .simp (disch:=omega) only [evs]
noncomputable def eOf:Env:=env Tryz.prog [(101,YG),(156,ant)] [] []
theorem aom (x:aG):bV eOf 88 ((aT (bJ bC)).enc x) ([]) some =
 cond (fH {total:=aG.total x,kept:=List.map (aj.dec ah) (List.map (aj.enc ah) x.kept):aG}) (some {v:=.agg [V.int .u64 x.total,.slc yM (List.map (aj.enc ah) (List.map (aj.dec ah) (List.map (aj.enc ah) x.kept)))],bx:=[]:aJ}) none:=by kernel_rfl
theorem anw:bH Tryz.prog 88 dOf:=by
 refine aN (aQ (((gu.nil _).cons alP).cons VF)) (E:=eOf) Tryz.func88 [] (by kernel_rfl) none0 fun x _ h=>?_
 have h:fH x=true:=h
 refine (aom x).trans ?_
 simp (disch:=omega) only [evs,bT,acw,h]
 try rfl
namespace N
end N
def Nu (x:aG):Bool:=cond (Bf x) (cond (x.kept.all N.lJ) (x.kept.all N.yF) false) false
end Go.Ev

namespace Go.Ev
open Go Go.Proofs
set_option maxRecDepth 100000
-- FOLD
namespace N
def fC (m:au):Bool:=cond (lJ m) (aP m==0) false
def kC:List au->Bytes
 | []=>[]
 | m::r=>lT m++kC r
def lW (x:aG):Bytes:=bQ x.total 8++bQ x.kept.length 1++kC x.kept
def dI:Nat->dw->List au->List au × dw
 | 0,i,acc=>(acc,i)
 | k+1,i,acc=>cond (i.err==0) (dI k (cu i).2 (acc++[(cu i).1])) (acc,i)
def xB:Nat->bY->List au->List au × bY
 | 0,q,acc=>(acc,q)
 | k+1,q,acc=>cond (q.code==0) (xB k (mF q).2 (acc++[(mF q).1])) (acc,q)
end N
def dX (x:aG):Bool:=cond (fH x) (x.kept.all N.fC) false
def Ti:Den:=den (aT (bJ bC)) dV (oV gy) (fun x _=>dX x) fun x _=>(N.lW x,())
theorem nI {m:au} (h:N.fC m=true):N.yF m=true∧N.aP m=0∧(∀ p∈m.head,uS p)∧N.O6 m=true:=by
 obtain ⟨h1,h2⟩:=aX h
 obtain ⟨h1,h3⟩:=aX h1
 exact ⟨h1,aZ h2,fun p hm=>afB (List.all_eq_true.1 h3 p hm),aaH h1 (aZ h2)⟩
theorem Nv:∀ {l:List au},l.all N.fC=true->(N.kC l).length<=1570*l.length
 | [],_=>Nat.le_refl _
 | m::r,h=>by
  rw [List.all_cons,Bool.and_eq_true] at h
  have h1:=rJ (nI h.1).2.1
  have h2:=Nv h.2
  show (N.lT m++N.kC r).length<=1570*(r.length+1)
  rw [List.length_append]; omega
def acz:fK:={ fr:=[(3,.ptr 10000 0 0),(18,.slc yM),(19,.int .i64),(20,.int .i64)],tab:=[(10000,.var [.str,.int .i64])] }
def aaJ:List Leaf->(Ex->St->Option R)->Option R
 | [.r r,.i n,.i i,.s s,.i e],K=>cond (n==r.length) (cond (i==0) (cond (e==0) (cond (Nat.ble s.length 1000) (cond (Nat.ble r.length 16) (cond ((r.map ah.dec).all N.fC)
   (K (.exit 0) { fr:=[(3,.ptr 10000 0 0 0)],tab:=[(10000,.var [.str (s++N.kC (r.map ah.dec)),.int .i64 0])] }) none) none) none) none) none) none
 | _,_=>none
noncomputable def J9:Env:=env Tryz.prog [(98,uP),(95,fP),(100,FM),(103,rF)] [(3,dO acz aaJ)] [(3,[(0,[3,18,19,20]),(1,[3]),(1000,[2])])]
theorem afK (x:aG):bV J9 102 ((aT (bJ bC)).enc x) ([]) some =
 cond (bif bW 0 x.total then bif aU x.total 18446744073709551616 then true else false else false) (cond (bif aU (IntKind.wrap .u64 (↑(List.length (List.map (aj.enc ah) x.kept)):Int)) 18446744073709551616 then true else false) (cond ((↑(List.length (List.map (aj.enc ah) x.kept)):Int)==(↑(List.length (List.map (aj.enc ah) x.kept)):Int)) (cond (Nat.ble (List.length (List.map (aj.enc ah) x.kept)) 16) (cond (List.all (List.map (aj.dec ah) (List.map (aj.enc ah) x.kept)) N.fC) (some {v:=.str (gV.s (N.iO (N.iO {s:=[],err:=0:gV} x.total 8) (IntKind.wrap .u64 (↑(List.length (List.map (aj.enc ah) x.kept)):Int)) 1)++N.kC (List.map (aj.dec ah) (List.map (aj.enc ah) x.kept))),bx:=[]:aJ}) none) none) none) none) none:=by kernel_rfl
theorem Qx (r:List (List V)) (n i:Int) (s:Bytes) (e:Int) (K:Ex->St->Option R):type_of% (by
  have h:bI J9 102 3 { fr:=[(3,.ptr 10000 0 0 0),(18,.slc yM r),(19,.int .i64 n),(20,.int .i64 i)],tab:=[(10000,.var [.str s,.int .i64 e])] } K =(
   let z0:=(Prod.fst (bif N.aP (ah.dec (List.getD r (Int.toNat i) [])) != 0 then ([],N.aP (ah.dec (List.getD r (Int.toNat i) []))) else (N.lT (ah.dec (List.getD r (Int.toNat i) [])),0)));cond (aU i n) (cond (decide (0<=i∧i<(↑(List.length r):Int))) (cond (N.yF (ah.dec (List.getD r (Int.toNat i) []))) (cond (Nat.ble (List.length s+List.length z0) 9223372036854775807) (K .normal {fr:=[(3,.ptr 10000 0 0 0),(18,.slc yM r),(19,.int .i64 n),(20,.int .i64 (IntKind.wrap .i64 (i+1)))],tab:=[(10000,.var [V.str (gV.s (N.rE {s:=s,err:=e:gV} z0)),.int .i64 (gV.err (N.rE {s:=s,err:=e:gV} z0))])]:St}) none) none) none) (K (.exit 0) {fr:=[(3,.ptr 10000 0 0 0)],tab:=[(10000,.var [V.str s,.int .i64 e])]:St})):=by kernel_rfl
  dsimp only at h;exact h):=by kernel_rfl
def Tj:fK:={ fr:=[(3,.str),(16,.slc yM),(17,.int .i64),(18,.int .i64)],tab:=[] }
def Nw:List Leaf->(Ex->St->Option R)->Option R
 | [.s s,.r r,.i n,.i i],K=>cond (n==r.length) (cond (i==0) (cond (Nat.ble s.length 1000) (cond (Nat.ble r.length 16) (cond ((r.map ah.dec).all N.fC)
   (K (.exit 0) { fr:=[(3,.str (s++N.kC (r.map ah.dec)))],tab:=[] }) none) none) none) none) none
 | _,_=>none
noncomputable def zC:Env:=env Tryz.prog [(106,Df),(104,pG 8)] [(3,dO Tj Nw)] [(3,[(0,[3,16,17,18]),(1,[3]),(1000,[2])])]
theorem VW (x:aG):bV zC 107 ((aT (bJ bC)).enc x) ([]) some =
 cond (bif bW 0 x.total then bif aU x.total 18446744073709551616 then N.gK 8 8 else false else false) (cond (bif aU (IntKind.wrap .u64 (↑(List.length (List.map (aj.enc ah) x.kept)):Int)) 18446744073709551616 then N.gK 8 1 else false) (cond ((↑(List.length (List.map (aj.enc ah) x.kept)):Int)==(↑(List.length (List.map (aj.enc ah) x.kept)):Int)) (cond (Nat.ble (List.length (List.map (aj.enc ah) x.kept)) 16) (cond (List.all (List.map (aj.dec ah) (List.map (aj.enc ah) x.kept)) N.fC) (some {v:=.str (N.bQ x.total (N.clamp 8)++N.bQ (IntKind.wrap .u64 (↑(List.length (List.map (aj.enc ah) x.kept)):Int)) (N.clamp 1)++N.kC (List.map (aj.dec ah) (List.map (aj.enc ah) x.kept))),bx:=[]:aJ}) none) none) none) none) none:=by kernel_rfl
theorem Gi (r:List (List V)) (n i:Int) (s:Bytes) (K:Ex->St->Option R):bI zC 107 3 { fr:=[(3,.str s),(16,.slc yM r),(17,.int .i64 n),(18,.int .i64 i)],tab:=[] } K =
 cond (aU i n) (cond (decide (0<=i∧i<(↑(List.length r):Int))) (cond (N.O6 (ah.dec (List.getD r (Int.toNat i) []))) (cond (Nat.ble (List.length s+List.length (N.jW (ah.dec (List.getD r (Int.toNat i) [])))) 9223372036854775807) (K .normal {fr:=[(3,.str (s++N.jW (ah.dec (List.getD r (Int.toNat i) [])))),(16,.slc yM r),(17,.int .i64 n),(18,.int .i64 (IntKind.wrap .i64 (i+1)))],tab:=[]:St}) none) none) none) (K (.exit 0) {fr:=[(3,.str s)],tab:=[]:St}):=by kernel_rfl
theorem acA (hN:bH Tryz.prog 95 fP):bH Tryz.prog 102 Ti:=by
 refine aN (aQ (((((gu.nil _).cons qF).cons CW).cons hN).cons (uo hN))) (E:=J9) Tryz.func102 [3] (by kernel_rfl) (one1 (bn rfl fun l K q h=>?_)) fun x _ hp=>?_
 .unfold aaJ at h
  split at h
  .rename_i r n i s e
   replace h:=cN6 h;obtain ⟨h1,h2,h3,h4,h5,h6,h⟩:=h
   have e1:=aZ h1
   have e2:=aZ h2
   have e3:=aZ h3
   subst e1 e2 e3
   have h4:s.length<=1000:=aV h4
   have h5:r.length<=16:=aV h5
   have main:=dH (E:=J9) (f:=102) (id:=3) (A:=Bytes) r (fun a i=>{ fr:=[(3,.ptr 10000 0 0 0),(18,.slc yM r),(19,.int .i64 r.length),(20,.int .i64 i)],tab:=[(10000,.var [.str a,.int .i64 0])] }) (fun a i=>a.length<=1000+1570*i)
    (fun a rows K=>K (.exit 0) { fr:=[(3,.ptr 10000 0 0 0)],tab:=[(10000,.var [.str (a++N.kC (rows.map ah.dec)),.int .i64 0])] }) (fun a i ha hi=>?_) (fun a _=>?_) s 0 (Int.le_refl _) (by omega) (by show s.length<=1000+1570*0; omega) K q (by assumption)
   .exact main
   .have hs:=nI (J8 h6 hi)
    have hb:=rJ hs.2.1
    refine .inl ⟨a++N.lT (ah.dec (r.getD i [])),by rw [List.length_append]; omega,fun K=>?_,fun K=>?_⟩
    .rw [Qx]
     simp (disch:=omega) only [evs,Int.toNat_natCast,nH,hs.1,hs.2.1,bne_self_eq_false,Nb]
    .show K _ { fr:=[(3,.ptr 10000 0 0 0)],tab:=[(10000,.var [.str (a++(N.lT (ah.dec (r.getD i []))++N.kC ((r.drop (i+1)).map ah.dec))),.int .i64 0])] }=_
     rw [List.append_assoc]
   .refine ⟨.exit 0,{ fr:=[(3,.ptr 10000 0 0 0)],tab:=[(10000,.var [.str (a++[]),.int .i64 0])] },by simp,fun K=>?_,fun K=>rfl⟩
    rw [Qx,List.append_nil]
    simp (disch:=omega) only [evs]
  .cases h
 .refine (afK x).trans ?_
  obtain ⟨hp,h3⟩:=aX hp
  obtain ⟨h0,hp⟩:=aX hp
  obtain ⟨h1,_⟩:=aX hp
  obtain ⟨h4,h5⟩:=aX h0
  have h1:=aV h1
  have h4:=bK h4
  have h5:=bK h5
  have w:=jU (n:=(x.kept.length:Int)) (by omega) (by omega)
  show _=some (⟨.str (N.lW x),[],[]⟩:aJ)
  unfold N.lW
  simp (disch:=omega) only [evs,bT,w,h3,AX,sK,List.length_nil,dU,List.nil_append]
theorem Tm:bH Tryz.prog 107 Ti:=by
 refine aN (aQ (((gu.nil _).cons (rG 8)).cons Bd)) (E:=zC) Tryz.func107 [3] (by kernel_rfl) (one1 (bn rfl fun l K q h=>?_)) fun x _ hp=>?_
 .unfold Nw at h
  split at h
  .rename_i s r n i
   replace h:=EY h;obtain ⟨h1,h2,h4,h5,h6,h⟩:=h
   have e1:=aZ h1
   have e2:=aZ h2
   subst e1 e2
   have h4:s.length<=1000:=aV h4
   have h5:r.length<=16:=aV h5
   have main:=dH (E:=zC) (f:=107) (id:=3) (A:=Bytes) r (fun a i=>{ fr:=[(3,.str a),(16,.slc yM r),(17,.int .i64 r.length),(18,.int .i64 i)],tab:=[] }) (fun a i=>a.length<=1000+1570*i)
    (fun a rows K=>K (.exit 0) { fr:=[(3,.str (a++N.kC (rows.map ah.dec)))],tab:=[] }) (fun a i ha hi=>?_) (fun a _=>?_) s 0 (Int.le_refl _) (by omega) (by show s.length<=1000+1570*0; omega) K q (by assumption)
   .exact main
   .have hs:=nI (J8 h6 hi)
    have hb:=rJ hs.2.1
    have hr:=Bg hs.2.2.1 hs.2.1
    refine .inl ⟨a++N.lT (ah.dec (r.getD i [])),by rw [List.length_append]; omega,fun K=>?_,fun K=>?_⟩
    .rw [Gi]
     simp (disch:=omega) only [evs,Int.toNat_natCast,nH,hs.2.2.2,hr]
    .show K _ { fr:=[(3,.str (a++(N.lT (ah.dec (r.getD i []))++N.kC ((r.drop (i+1)).map ah.dec))))],tab:=[] }=_
     rw [List.append_assoc]
   .refine ⟨.exit 0,{ fr:=[(3,.str (a++[]))],tab:=[] },by simp,fun K=>?_,fun K=>rfl⟩
    rw [Gi,List.append_nil]
    simp (disch:=omega) only [evs]
  .cases h
 .refine (VW x).trans ?_
  obtain ⟨hp,h3⟩:=aX hp
  obtain ⟨h0,hp⟩:=aX hp
  obtain ⟨h1,_⟩:=aX hp
  obtain ⟨h4,h5⟩:=aX h0
  have h1:=aV h1
  have h4:=bK h4
  have h5:=bK h5
  have w:=jU (n:=(x.kept.length:Int)) (by omega) (by omega)
  show _=some (⟨.str (N.lW x),[],[]⟩:aJ)
  unfold N.lW
  simp (disch:=omega) only [evs,bT,w,h3,show N.gK 8 8=true from rfl,show N.gK 8 1=true from rfl,show N.clamp 8=8 from rfl,show N.clamp 1=1 from rfl,dU]
end Go.Ev

namespace Go.Ev
open Go Go.Proofs
set_option maxRecDepth 100000
-- FOLD
def afL:fK:={ fr:=[(0,.ptr 0 0 0),(2,.ptr 10000 0 0),(3,.ptr 10002 0 0),(4,.int .u64),(5,.int .u64)],tab:=[(0,.var [.str,.int .i64]),(10001,.sl yM),(10000,.var [.int .u64,.own 10001]),(10003,.sl yM),(10002,.var [.int .u64,.own 10003])] }
def afM:List Leaf->(Ex->St->Option R)->Option R
 | [.i n,.i k,.s s,.i e,.r r1,.i t1,.r r3,.i t],K=>cond (k==0) (cond (bW n 255) (cond (Nat.beq r3.length 0)
   (K (.exit 1) { fr:=[(0,.ptr 0 0 0 0),(2,.ptr 10000 0 0 0),(3,.ptr 10002 0 0 0)],tab:=[(0,.var [.str (N.dI n.toNat ⟨s,e⟩ []).2.s,.int .i64 (N.dI n.toNat ⟨s,e⟩ []).2.err]),(10001,.sl yM r1 0),(10000,.var [.int .u64 t1,.own 10001 0]),(10003,.sl yM ((N.dI n.toNat ⟨s,e⟩ []).1.map ah.enc) 0),(10002,.var [.int .u64 t,.own 10003 0])] }) none) none) none
 | _,_=>none
noncomputable def Ny:Env:=env Tryz.prog [(74,Sr),(78,FK),(75,Ee),(148,Ie)] [(9,dO afL afM)] [(9,[(0,[0,2,3,4,5]),(2,[0,2,3]),(1000,[2])])]
theorem aiV (i:dw):type_of% (by
  have h:bV Ny 77 ((aT (jL 0)).enc ()) ((jr GZ).enc i) some =(
   let z0:=(N.ay (Prod.snd (N.ay i 8)) 1);let z6:=(bW z0.1 255);let z5:=(N.dI (Int.toNat z0.1) z0.2 []);let z4:=(Prod.fst (N.ay i 8));let z1:=(cond z6 (cond (dw.err z5.2 != 0) (some {v:=.agg [V.int .u64 0,.slc yM []],bx:=[[V.str (dw.s z5.2),.int .i64 (dw.err z5.2)]]:aJ}) (some {v:=.agg [V.int .u64 z4,.slc yM (List.map (aj.enc ah) z5.1)],bx:=[[V.str (dw.s z5.2),.int .i64 (dw.err z5.2)]]:aJ})) none);let z2:=(N.dI (Int.toNat z0.1) (N.bP z0.2 6) []);let z3:=(N.dI (Int.toNat z0.1) (N.bP z0.2 7) []);cond (dw.err z0.2 != 0) z1 (cond (aU 16 z0.1) (cond z6 (cond (dw.err z2.2 != 0) (some {v:=.agg [V.int .u64 0,.slc yM []],bx:=[[V.str (dw.s z2.2),.int .i64 (dw.err z2.2)]]:aJ}) (some {v:=.agg [V.int .u64 z4,.slc yM (List.map (aj.enc ah) z2.1)],bx:=[[V.str (dw.s z2.2),.int .i64 (dw.err z2.2)]]:aJ})) none) (cond (Prod.fst z0 != bif aU 16 z4 then 16 else Prod.fst (N.ay i 8)) (cond z6 (cond (dw.err z3.2 != 0) (some {v:=.agg [V.int .u64 0,.slc yM []],bx:=[[V.str (dw.s z3.2),.int .i64 (dw.err z3.2)]]:aJ}) (some {v:=.agg [V.int .u64 z4,.slc yM (List.map (aj.enc ah) z3.1)],bx:=[[V.str (dw.s z3.2),.int .i64 (dw.err z3.2)]]:aJ})) none) z1))):=by kernel_rfl
  dsimp only at h;exact h):=by kernel_rfl
theorem Nz (n k:Int) (s:Bytes) (e:Int) (r1:List (List V)) (t1:Int) (r3:List (List V)) (t:Int) (K:Ex->St->Option R):type_of% (by
  have h:bI Ny 77 9 { fr:=[(0,.ptr 0 0 0 0),(2,.ptr 10000 0 0 0),(3,.ptr 10002 0 0 0),(4,.int .u64 n),(5,.int .u64 k)],tab:=[(0,.var [.str s,.int .i64 e]),(10001,.sl yM r1 0),(10000,.var [.int .u64 t1,.own 10001 0]),(10003,.sl yM r3 0),(10002,.var [.int .u64 t,.own 10003 0])] } K =(
   let z0:=(K (.exit 1) {fr:=[(0,.ptr 0 0 0 0),(2,.ptr 10000 0 0 0),(3,.ptr 10002 0 0 0)],tab:=[(0,.var [V.str s,.int .i64 e]),(10001,.sl yM r1 0),(10000,.var [V.int .u64 t1,.own 10001 0]),(10003,.sl yM r3 0),(10002,.var [V.int .u64 t,.own 10003 0])]:St});let z1:=(N.cu {s:=s,err:=e:dw});cond (aU k n) (cond (e==0) (cond (decide ((List.length r3+1)*96<=140737488355328)) (K .normal {fr:=[(0,.ptr 0 0 0 0),(2,.ptr 10000 0 0 0),(3,.ptr 10002 0 0 0),(4,.int .u64 n),(5,.int .u64 (IntKind.wrap .u64 (k+1)))],tab:=[(0,.var [V.str (dw.s z1.2),.int .i64 (dw.err z1.2)]),(10001,.sl yM r1 0),(10000,.var [V.int .u64 t1,.own 10001 0]),(10003,.sl yM (r3++[[V.int .u64 (au.id z1.1),.str (au.bZ z1.1),.str (au.key z1.1),.slc yP (List.map yE (au.head z1.1)),.str (au.body z1.1),.int .u64 (au.due z1.1),.int .u8 (au.hops z1.1)]]) 0),(10002,.var [V.int .u64 t,.own 10003 0])]:St}) none) z0) z0):=by kernel_rfl
  dsimp only at h;exact h):=by kernel_rfl
def VX:fK:={ fr:=[(0,.ptr 0 0 0),(2,.ptr 10000 0 0),(3,.ptr 10002 0 0),(4,.int .i64),(5,.int .i64)],tab:=[(0,.var [.str,.int .i64,.int .i64]),(10001,.sl yM),(10000,.var [.int .u64,.own 10001]),(10003,.sl yM),(10002,.var [.int .u64,.own 10003])] }
def Qy:List Leaf->(Ex->St->Option R)->Option R
 | [.i n,.i k,.s s,.i at',.i c,.r r1,.i t1,.r r3,.i t],K=>cond (k==0) (cond (bW n 255) (cond (Nat.beq r3.length 0) (cond (N.bU ⟨s,at',c⟩)
   (K (.exit 0) { fr:=[(0,.ptr 0 0 0 0),(2,.ptr 10000 0 0 0),(3,.ptr 10002 0 0 0)],tab:=[(0,.var [.str (N.xB n.toNat ⟨s,at',c⟩ []).2.s,.int .i64 (N.xB n.toNat ⟨s,at',c⟩ []).2.at',.int .i64 (N.xB n.toNat ⟨s,at',c⟩ []).2.code]),(10001,.sl yM r1 0),(10000,.var [.int .u64 t1,.own 10001 0]),(10003,.sl yM ((N.xB n.toNat ⟨s,at',c⟩ []).1.map ah.enc) 0),(10002,.var [.int .u64 t,.own 10003 0])] }) none) none) none) none
 | _,_=>none
noncomputable def yg:Env:=env Tryz.prog [(80,MC),(154,Ib),(153,Ye)] [(8,dO VX Qy)] [(8,[(0,[0,2,3,4,5]),(1,[0,2,3]),(1000,[2])])]
theorem YM (q:bY):type_of% (by
  have h:bV yg 82 ((aT (jL 0)).enc ()) ((jr wZ).enc q) some =(
   let z0:=(N.bD (Prod.snd (N.bD q 8)) 1);let z11:=(IntKind.wrap .i64 z0.1);let z1:=(Int.toNat z11);let z7:=(N.fF z0.2 6);let z9:=(Prod.snd (N.xB z1 (N.fF z7 7) []));let z13:=(Prod.fst (N.bD q 8));let z2:=(cond (bW z11 255) (cond (N.bU (N.fF z7 7)) (cond (bY.code z9 != 0) (some {v:=.agg [V.int .u64 0,.slc yM []],bx:=[[V.str (bY.s z9),.int .i64 (bY.at' z9),.int .i64 (bY.code z9)]]:aJ}) (some {v:=.agg [V.int .u64 z13,.slc yM (List.map (aj.enc ah) (Prod.fst (N.xB z1 (N.fF z7 7) [])))],bx:=[[V.str (bY.s z9),.int .i64 (bY.at' z9),.int .i64 (bY.code z9)]]:aJ})) none) none);let z12:=(Prod.snd (N.xB z1 z7 []));let z3:=(cond (bW z11 255) (cond (N.bU z7) (cond (bY.code z12 != 0) (some {v:=.agg [V.int .u64 0,.slc yM []],bx:=[[V.str (bY.s z12),.int .i64 (bY.at' z12),.int .i64 (bY.code z12)]]:aJ}) (some {v:=.agg [V.int .u64 z13,.slc yM (List.map (aj.enc ah) (Prod.fst (N.xB z1 z7 [])))],bx:=[[V.str (bY.s z12),.int .i64 (bY.at' z12),.int .i64 (bY.code z12)]]:aJ})) none) none);let z14:=(N.fF z0.2 7);let z8:=(Prod.snd (N.xB z1 z14 []));let z4:=(cond (bW z11 255) (cond (N.bU z14) (cond (bY.code z8 != 0) (some {v:=.agg [V.int .u64 0,.slc yM []],bx:=[[V.str (bY.s z8),.int .i64 (bY.at' z8),.int .i64 (bY.code z8)]]:aJ}) (some {v:=.agg [V.int .u64 z13,.slc yM (List.map (aj.enc ah) (Prod.fst (N.xB z1 z14 [])))],bx:=[[V.str (bY.s z8),.int .i64 (bY.at' z8),.int .i64 (bY.code z8)]]:aJ})) none) none);let z10:=(Prod.snd (N.xB z1 z0.2 []));let z5:=(cond (bW z11 255) (cond (N.bU z0.2) (cond (bY.code z10 != 0) (some {v:=.agg [V.int .u64 0,.slc yM []],bx:=[[V.str (bY.s z10),.int .i64 (bY.at' z10),.int .i64 (bY.code z10)]]:aJ}) (some {v:=.agg [V.int .u64 z13,.slc yM (List.map (aj.enc ah) (Prod.fst (N.xB z1 z0.2 [])))],bx:=[[V.str (bY.s z10),.int .i64 (bY.at' z10),.int .i64 (bY.code z10)]]:aJ})) none) none);let z6:=(IntKind.wrap .u64 z11 != Prod.fst (N.bD q 8));cond (N.bU q) (cond (N.bU (Prod.snd (N.bD q 8))) (cond (aU 16 z11) (cond z6 (cond (IntKind.wrap .i64 z0.1==16) (cond (!aU 16 z13) z2 z3) z2) z3) (cond z6 (cond (IntKind.wrap .i64 z0.1==16) (cond (!aU 16 z13) z4 z5) z4) z5)) none) none):=by kernel_rfl
  dsimp only at h;exact h):=by kernel_rfl
theorem Bl (n k:Int) (s:Bytes) (a c:Int) (r1:List (List V)) (t1:Int) (r3:List (List V)) (t:Int) (K:Ex->St->Option R):type_of% (by
  have h:bI yg 82 8 { fr:=[(0,.ptr 0 0 0 0),(2,.ptr 10000 0 0 0),(3,.ptr 10002 0 0 0),(4,.int .i64 n),(5,.int .i64 k)],tab:=[(0,.var [.str s,.int .i64 a,.int .i64 c]),(10001,.sl yM r1 0),(10000,.var [.int .u64 t1,.own 10001 0]),(10003,.sl yM r3 0),(10002,.var [.int .u64 t,.own 10003 0])] } K =(
   let z0:=(K (.exit 0) {fr:=[(0,.ptr 0 0 0 0),(2,.ptr 10000 0 0 0),(3,.ptr 10002 0 0 0)],tab:=[(0,.var [V.str s,.int .i64 a,.int .i64 c]),(10001,.sl yM r1 0),(10000,.var [V.int .u64 t1,.own 10001 0]),(10003,.sl yM r3 0),(10002,.var [V.int .u64 t,.own 10003 0])]:St});let z1:=(N.mF {s:=s,at':=a,code:=c:bY});cond (aU k n) (cond (c==0) (cond (N.bU {s:=s,at':=a,code:=c:bY}) (cond (decide ((List.length r3+1)*96<=140737488355328)) (K .normal {fr:=[(0,.ptr 0 0 0 0),(2,.ptr 10000 0 0 0),(3,.ptr 10002 0 0 0),(4,.int .i64 n),(5,.int .i64 (IntKind.wrap .i64 (k+1)))],tab:=[(0,.var [V.str (bY.s z1.2),.int .i64 (bY.at' z1.2),.int .i64 (bY.code z1.2)]),(10001,.sl yM r1 0),(10000,.var [V.int .u64 t1,.own 10001 0]),(10003,.sl yM (r3++[[V.int .u64 (au.id z1.1),.str (au.bZ z1.1),.str (au.key z1.1),.slc yP (List.map yE (au.head z1.1)),.str (au.body z1.1),.int .u64 (au.due z1.1),.int .u8 (au.hops z1.1)]]) 0),(10002,.var [V.int .u64 t,.own 10003 0])]:St}) none) none) z0) z0):=by kernel_rfl
  dsimp only at h;exact h):=by kernel_rfl
namespace N
def zD (i:dw):Int × dw:=ay (ay i 8).2 1
def JM (i:dw):dw:=cond ((zD i).2.err != 0) (zD i).2 (cond (aU 16 (zD i).1) (bP (zD i).2 6) (cond ((zD i).1 != cond (aU 16 (ay i 8).1) 16 (ay i 8).1) (bP (zD i).2 7) (zD i).2))
def rrE (t:Int) (w:List au × dw):aG × dw:=cond (w.2.err != 0) (jQ,w.2) (⟨t,w.1⟩,w.2)
def dZ (i:dw):aG × dw:=rrE (ay i 8).1 (dI (zD i).1.toNat (JM i) [])
def Tn (q:bY):Int × bY:=bD (bD q 8).2 1
def rqI (q:bY):bY:=cond ((Tn q).1 != (bD q 8).1) (cond ((Tn q).1==16) (cond (!aU 16 (bD q 8).1) (fF (cond (aU 16 (Tn q).1) (fF (Tn q).2 6) (Tn q).2) 7) (cond (aU 16 (Tn q).1) (fF (Tn q).2 6) (Tn q).2)) (fF (cond (aU 16 (Tn q).1) (fF (Tn q).2 6) (Tn q).2) 7)) (cond (aU 16 (Tn q).1) (fF (Tn q).2 6) (Tn q).2)
def rqE (t:Int) (w:List au × bY):aG × bY:=cond (w.2.code != 0) (jQ,w.2) (⟨t,w.1⟩,w.2)
def ni (q:bY):aG × bY:=rqE (bD q 8).1 (xB (Tn q).1.toNat (rqI q) [])
end N
def Qz:Den:=den (aT (jL 0)) (jr GZ) (oV (bJ bC)) (fun _ _=>true) fun _ i=>N.dZ i
def afN:Den:=den (aT (jL 0)) (jr wZ) (oV (bJ bC)) (fun _ q=>N.bU q) fun _ q=>N.ni q
theorem akj {s:Bytes}:∀ (k:Nat) {i:dw} {q:bY} (acc:List au),Rl s i q->(N.dI k i acc).1=(N.xB k q acc).1∧Rl s (N.dI k i acc).2 (N.xB k q acc).2
 | 0,_,_,_,h=>⟨rfl,h⟩
 | k+1,i,q,acc,h=>by
  unfold N.dI N.xB
  have he:i.err=q.code:=h.2.2.2.1
  have hm:=J7 h
  rw [he]
  cases q.code==0 with
  | true =>
   simp only [cond_true]
   rw [hm.1]
   exact akj k _ hm.2
  | false=>exact ⟨rfl,h⟩
theorem Ik {q:bY} (h:N.bU q=true):N.bU (N.mF q).2=true:=um (J7 (jy h).1).2 (jy h).2
theorem acB:dM Ny 77 9:=by
 refine bn rfl fun l K q h=>?_
 unfold afM at h
 split at h
 .rename_i n k s e r1 t1 r3 t
  replace h:=RH h;obtain ⟨h1,h2,h3,h⟩:=h
  have e1:=aZ h1
  have e3:=List.eq_nil_of_length_eq_zero (kT h3)
  subst e1 e3
  have h2:=bK h2
  have main:=dN (E:=Ny) (f:=77) (id:=9) (σ:=Nat × dw × List au) (fun x=>{ fr:=[(0,.ptr 0 0 0 0),(2,.ptr 10000 0 0 0),(3,.ptr 10002 0 0 0),(4,.int .u64 n),(5,.int .u64 (x.1:Int))],tab:=[(0,.var [.str x.2.1.s,.int .i64 x.2.1.err]),(10001,.sl yM r1 0),(10000,.var [.int .u64 t1,.own 10001 0]),(10003,.sl yM (x.2.2.map ah.enc) 0),(10002,.var [.int .u64 t,.own 10003 0])] })
   (fun x=>x.2.2.length<=256∧(x.1:Int)<=256∧x.2.2.length=x.1) (fun x=>(n-x.1).toNat)
   (fun x K=>K (.exit 1) { fr:=[(0,.ptr 0 0 0 0),(2,.ptr 10000 0 0 0),(3,.ptr 10002 0 0 0)],tab:=[(0,.var [.str (N.dI (n-x.1).toNat x.2.1 x.2.2).2.s,.int .i64 (N.dI (n-x.1).toNat x.2.1 x.2.2).2.err]),(10001,.sl yM r1 0),(10000,.var [.int .u64 t1,.own 10001 0]),(10003,.sl yM ((N.dI (n-x.1).toNat x.2.1 x.2.2).1.map ah.enc) 0),(10002,.var [.int .u64 t,.own 10003 0])] })
   (fun x hx=>?_) (0,⟨s,e⟩,[]) ⟨Nat.zero_le _,by show ((0:Nat):Int)<=256; omega,rfl⟩ K q (by simpa using h)
  .exact main
  .obtain ⟨k,i,acc⟩:=x
   obtain ⟨k1,k2,k3⟩:=hx
   simp only at k1 k2 k3 ⊢
   by_cases hl:(k:Int)<n
   .have ef:(n-(k:Int)).toNat=(n-((k+1:Nat):Int)).toNat+1:=by omega
    have w:IntKind.wrap .u64 ((k:Int)+1)=(k:Int)+1:=jU (by omega) (by omega)
    rw [ef]
    cases he:i.err==0 with
    | true =>
     refine .inl ⟨(k+1,(N.cu i).2,acc++[(N.cu i).1]),⟨by simp only [List.length_append,List.length_cons,List.length_nil]; omega,by simp only; omega,by simp only [List.length_append,List.length_cons,List.length_nil]; omega⟩,by simp only; omega,fun K=>?_,fun K=>?_⟩
     .rw [Nz]
      have ei:({ s:=i.s,err:=i.err }:dw)=i:=rfl
      simp (disch:=omega) only [evs,he,w,ei,Nq]
      rw [List.map_append]
      try rfl
     .show K _ { fr:=_,tab:=[(0,.var [.str (cond (i.err==0) (N.dI (n-((k+1:Nat):Int)).toNat (N.cu i).2 (acc++[(N.cu i).1])) (acc,i)).2.s,.int .i64 (cond (i.err==0) (N.dI (n-((k+1:Nat):Int)).toNat (N.cu i).2 (acc++[(N.cu i).1])) (acc,i)).2.err]),_,_,(10003,.sl yM ((cond (i.err==0) (N.dI (n-((k+1:Nat):Int)).toNat (N.cu i).2 (acc++[(N.cu i).1])) (acc,i)).1.map ah.enc) 0),_] }=_
      rw [he]
      try rfl
    | false =>
     refine .inr ⟨.exit 1,{ fr:=[(0,.ptr 0 0 0 0),(2,.ptr 10000 0 0 0),(3,.ptr 10002 0 0 0)],tab:=[(0,.var [.str i.s,.int .i64 i.err]),(10001,.sl yM r1 0),(10000,.var [.int .u64 t1,.own 10001 0]),(10003,.sl yM (acc.map ah.enc) 0),(10002,.var [.int .u64 t,.own 10003 0])] },by simp,fun K=>?_,fun K=>?_⟩
     .rw [Nz]
      simp (disch:=omega) only [evs,he]
     .have e0:N.dI ((n-((k+1:Nat):Int)).toNat+1) i acc=(acc,i):=by
       unfold N.dI
       rw [he]; rfl
      rw [e0]
   .have ef:(n-(k:Int)).toNat=0:=by omega
    rw [ef]
    refine .inr ⟨.exit 1,{ fr:=[(0,.ptr 0 0 0 0),(2,.ptr 10000 0 0 0),(3,.ptr 10002 0 0 0)],tab:=[(0,.var [.str i.s,.int .i64 i.err]),(10001,.sl yM r1 0),(10000,.var [.int .u64 t1,.own 10001 0]),(10003,.sl yM (acc.map ah.enc) 0),(10002,.var [.int .u64 t,.own 10003 0])] },by simp,fun K=>?_,fun K=>rfl⟩
    rw [Nz]
    simp (disch:=omega) only [evs]
 .cases h
theorem VY:bH Tryz.prog 77 Qz:=by
 refine aN (aQ (((((gu.nil _).cons Jc).cons xY).cons vX).cons AV)) (E:=Ny) Tryz.func77 [9] (by kernel_rfl) (one1 acB) fun _ i _=>?_
 refine (aiV i).trans ?_
 have hn:=tC (N.ay i 8).2
 show _=some (⟨.agg (bC.enc (N.dZ i).1),[GZ.enc (N.dZ i).2],[]⟩:aJ)
 have er:N.dZ i=N.rrE (N.ay i 8).1 (N.dI (N.zD i).1.toNat (N.JM i) []):=rfl
 rw [er]
 have en:N.zD i=N.ay (N.ay i 8).2 1:=rfl
 unfold N.JM
 rw [en]
 generalize N.ay (N.ay i 8).2 1=b at *
 generalize (N.ay i 8).1=t at *
 have hb:bW b.1 255=true:=dY (by omega)
 simp only [hb,cond_true]
 have fin:∀ z:dw,cond ((N.dI b.1.toNat z []).2.err != 0) (some (⟨.agg [.int .u64 0,.slc yM []],[[.str (N.dI b.1.toNat z []).2.s,.int .i64 (N.dI b.1.toNat z []).2.err]],[]⟩:aJ))
   (some (⟨.agg [.int .u64 t,.slc yM ((N.dI b.1.toNat z []).1.map ah.enc)],[[.str (N.dI b.1.toNat z []).2.s,.int .i64 (N.dI b.1.toNat z []).2.err]],[]⟩:aJ))=some (⟨.agg (bC.enc (N.rrE t (N.dI b.1.toNat z [])).1),[GZ.enc (N.rrE t (N.dI b.1.toNat z [])).2],[]⟩:aJ):=fun z=>by
  unfold N.rrE
  cases (N.dI b.1.toNat z []).2.err != 0<;>rfl
 cases b.2.err != 0 with
 | true=>exact fin b.2
 | false =>
  cases aU 16 b.1 with
  | true=>exact fin (N.bP b.2 6)
  | false =>
   cases b.1 != cond (aU 16 t) 16 t with
   | true=>exact fin (N.bP b.2 7)
   | false=>exact fin b.2
theorem Tq:dM yg 82 8:=by
 refine bn rfl fun l K q h=>?_
 unfold Qy at h
 split at h
 .rename_i n k s at' e r1 t1 r3 t
  replace h:=Z4 h;obtain ⟨h1,h2,h3,h4,h⟩:=h
  have e1:=aZ h1
  have e3:=List.eq_nil_of_length_eq_zero (kT h3)
  subst e1 e3
  have h2:=bK h2
  have main:=dN (E:=yg) (f:=82) (id:=8) (σ:=Nat × bY × List au) (fun x=>{ fr:=[(0,.ptr 0 0 0 0),(2,.ptr 10000 0 0 0),(3,.ptr 10002 0 0 0),(4,.int .i64 n),(5,.int .i64 (x.1:Int))],tab:=[(0,.var [.str x.2.1.s,.int .i64 x.2.1.at',.int .i64 x.2.1.code]),(10001,.sl yM r1 0),(10000,.var [.int .u64 t1,.own 10001 0]),(10003,.sl yM (x.2.2.map ah.enc) 0),(10002,.var [.int .u64 t,.own 10003 0])] })
   (fun x=>x.2.2.length<=256∧(x.1:Int)<=256∧x.2.2.length=x.1∧N.bU x.2.1=true) (fun x=>(n-x.1).toNat)
   (fun x K=>K (.exit 0) { fr:=[(0,.ptr 0 0 0 0),(2,.ptr 10000 0 0 0),(3,.ptr 10002 0 0 0)],tab:=[(0,.var [.str (N.xB (n-x.1).toNat x.2.1 x.2.2).2.s,.int .i64 (N.xB (n-x.1).toNat x.2.1 x.2.2).2.at',.int .i64 (N.xB (n-x.1).toNat x.2.1 x.2.2).2.code]),(10001,.sl yM r1 0),(10000,.var [.int .u64 t1,.own 10001 0]),(10003,.sl yM ((N.xB (n-x.1).toNat x.2.1 x.2.2).1.map ah.enc) 0),(10002,.var [.int .u64 t,.own 10003 0])] })
   (fun x hx=>?_) (0,⟨s,at',e⟩,[]) ⟨Nat.zero_le _,by show ((0:Nat):Int)<=256; omega,rfl,h4⟩ K q (by simpa using h)
  .exact main
  .obtain ⟨k,i,acc⟩:=x
   obtain ⟨k1,k2,k3,k4⟩:=hx
   simp only at k1 k2 k3 k4 ⊢
   by_cases hl:(k:Int)<n
   .have ef:(n-(k:Int)).toNat=(n-((k+1:Nat):Int)).toNat+1:=by omega
    have w:IntKind.wrap .i64 ((k:Int)+1)=(k:Int)+1:=dQ (by omega) (by omega)
    rw [ef]
    cases he:i.code==0 with
    | true =>
     refine .inl ⟨(k+1,(N.mF i).2,acc++[(N.mF i).1]),⟨by simp only [List.length_append,List.length_cons,List.length_nil]; omega,by simp only; omega,by simp only [List.length_append,List.length_cons,List.length_nil]; omega,Ik k4⟩,by simp only; omega,fun K=>?_,fun K=>?_⟩
     .rw [Bl]
      have ei:({ s:=i.s,at':=i.at',code:=i.code }:bY)=i:=rfl
      simp (disch:=omega) only [evs,he,w,ei,Nq,k4]
      rw [List.map_append]
      try rfl
     .show K _ { fr:=_,tab:=[(0,.var [.str (cond (i.code==0) (N.xB (n-((k+1:Nat):Int)).toNat (N.mF i).2 (acc++[(N.mF i).1])) (acc,i)).2.s,.int .i64 (cond (i.code==0) (N.xB (n-((k+1:Nat):Int)).toNat (N.mF i).2 (acc++[(N.mF i).1])) (acc,i)).2.at',.int .i64 (cond (i.code==0) (N.xB (n-((k+1:Nat):Int)).toNat (N.mF i).2 (acc++[(N.mF i).1])) (acc,i)).2.code]),_,_,(10003,.sl yM ((cond (i.code==0) (N.xB (n-((k+1:Nat):Int)).toNat (N.mF i).2 (acc++[(N.mF i).1])) (acc,i)).1.map ah.enc) 0),_] }=_
      rw [he]
      try rfl
    | false =>
     refine .inr ⟨.exit 0,{ fr:=[(0,.ptr 0 0 0 0),(2,.ptr 10000 0 0 0),(3,.ptr 10002 0 0 0)],tab:=[(0,.var [.str i.s,.int .i64 i.at',.int .i64 i.code]),(10001,.sl yM r1 0),(10000,.var [.int .u64 t1,.own 10001 0]),(10003,.sl yM (acc.map ah.enc) 0),(10002,.var [.int .u64 t,.own 10003 0])] },by simp,fun K=>?_,fun K=>?_⟩
     .rw [Bl]
      simp (disch:=omega) only [evs,he]
     .have e0:N.xB ((n-((k+1:Nat):Int)).toNat+1) i acc=(acc,i):=by
       unfold N.xB
       rw [he]; rfl
      rw [e0]
   .have ef:(n-(k:Int)).toNat=0:=by omega
    rw [ef]
    refine .inr ⟨.exit 0,{ fr:=[(0,.ptr 0 0 0 0),(2,.ptr 10000 0 0 0),(3,.ptr 10002 0 0 0)],tab:=[(0,.var [.str i.s,.int .i64 i.at',.int .i64 i.code]),(10001,.sl yM r1 0),(10000,.var [.int .u64 t1,.own 10001 0]),(10003,.sl yM (acc.map ah.enc) 0),(10002,.var [.int .u64 t,.own 10003 0])] },by simp,fun K=>?_,fun K=>rfl⟩
    rw [Bl]
    simp (disch:=omega) only [evs]
 .cases h
theorem afO:bH Tryz.prog 82 afN:=by
 refine aN (aQ ((((gu.nil _).cons VA).cons AY).cons CY)) (E:=yg) Tryz.func82 [8] (by kernel_rfl) (one1 Tq) fun _ q h=>?_
 have h:N.bU q=true:=h
 refine (YM q).trans ?_
 have g1:=fG h 8
 have g2:=fG g1 1
 have hr:=ji (jy g1).1 1
 have hn:=tC (ofR (N.bD q 8).2)
 rw [hr.1] at hn
 show _=some (⟨.agg (bC.enc (N.ni q).1),[wZ.enc (N.ni q).2],[]⟩:aJ)
 have er:N.ni q=N.rqE (N.bD q 8).1 (N.xB (N.Tn q).1.toNat (N.rqI q) []):=rfl
 rw [er]
 have en:N.Tn q=N.bD (N.bD q 8).2 1:=rfl
 unfold N.rqI
 rw [en]
 simp only [h,g1,cond_true]
 generalize N.bD (N.bD q 8).2 1=b at *
 generalize (N.bD q 8).1=t at *
 have w1:IntKind.wrap .i64 b.1=b.1:=dQ (by omega) (by omega)
 have w2:IntKind.wrap .u64 b.1=b.1:=jU (by omega) (by omega)
 have hb:bW b.1 255=true:=dY (by omega)
 simp only [w1,w2,hb,cond_true]
 have fin:∀ z:bY,N.bU z=true->cond (N.bU z) (cond ((N.xB b.1.toNat z []).2.code != 0) (some (⟨.agg [.int .u64 0,.slc yM []],[[.str (N.xB b.1.toNat z []).2.s,.int .i64 (N.xB b.1.toNat z []).2.at',.int .i64 (N.xB b.1.toNat z []).2.code]],[]⟩:aJ))
   (some (⟨.agg [.int .u64 t,.slc yM ((N.xB b.1.toNat z []).1.map ah.enc)],[[.str (N.xB b.1.toNat z []).2.s,.int .i64 (N.xB b.1.toNat z []).2.at',.int .i64 (N.xB b.1.toNat z []).2.code]],[]⟩:aJ))) none=some (⟨.agg (bC.enc (N.rqE t (N.xB b.1.toNat z [])).1),[wZ.enc (N.rqE t (N.xB b.1.toNat z [])).2],[]⟩:aJ):=fun z hz=>by
  rw [hz]
  unfold N.rqE
  cases (N.xB b.1.toNat z []).2.code != 0<;>rfl
 have g6:=xX g2 6
 have g7:=xX g2 7
 have g67:=xX g6 7
 cases aU 16 b.1 with
 | true =>
  cases b.1 != t with
  | true =>
   cases b.1==16 with
   | true =>
    cases aU 16 t with
    | true=>exact fin _ g6
    | false=>exact fin _ g67
   | false=>exact fin _ g67
  | false=>exact fin _ g6
 | false =>
  cases b.1 != t with
  | true =>
   cases b.1==16 with
   | true =>
    cases aU 16 t with
    | true=>exact fin _ g2
    | false=>exact fin _ g7
   | false=>exact fin _ g7
  | false=>exact fin _ g2
theorem aaK {s:Bytes} {i:dw} {q:bY} (h:Rl s i q):(N.dZ i).1=(N.ni q).1∧Rl s (N.dZ i).2 (N.ni q).2:=by
 have t1:=ji h 8
 have t2:=ji t1.2 1
 have er:N.dZ i=N.rrE (N.ay i 8).1 (N.dI (N.zD i).1.toNat (N.JM i) []):=rfl
 have eq:N.ni q=N.rqE (N.bD q 8).1 (N.xB (N.Tn q).1.toNat (N.rqI q) []):=rfl
 have e1:N.zD i=N.ay (N.ay i 8).2 1:=rfl
 have e2:N.Tn q=N.bD (N.bD q 8).2 1:=rfl
 have hs:Rl s (N.JM i) (N.rqI q):=by
  unfold N.JM N.rqI
  rw [e1,e2,t1.1,t2.1]
  generalize (N.bD q 8).1=t at *
  generalize (N.bD (N.bD q 8).2 1).1=n at *
  have t2:=t2.2
  generalize (N.ay (N.ay i 8).2 1).2=i' at *
  generalize (N.bD (N.bD q 8).2 1).2=q' at *
  have he:i'.err=q'.code:=t2.2.2.2.1
  have f6:=uj t2 6
  have f7:=uj t2 7
  cases hc:q'.code != 0 with
  | true =>
   have hz:∀ c,N.fF q' c=q':=fun c=>by
    unfold N.fF
    have:(q'.code==0)=false:=by rw [bne] at hc; simpa using hc
    rw [this]; rfl
   rw [he,hc]
   have hx:∀ a b c d e:Bool,Rl s i' (cond a (cond b (cond c q' q') q') (cond d q' q')):=fun a b c d e=>by cases a<;>cases b<;>cases c<;>cases d<;>exact t2
   simp only [hz,cond_true]
   cases n != t<;>cases n==16<;>cases aU 16 n<;>cases aU 16 t<;>simp only [cond_true,cond_false,hz,Bool.not_true,Bool.not_false]<;>exact t2
  | false =>
   rw [he,hc]
   simp only [cond_false]
   have hz:q'.code=0:=by simpa using hc
   have f67:N.fF (N.fF q' 6) 7=N.fF q' 6:=by
    unfold N.fF
    rw [hz]; rfl
   by_cases hn:16<n
   .rw [eF hn]
    simp only [cond_true,f67]
    cases n != t<;>cases n==16<;>cases aU 16 t<;>exact f6
   .rw [gZ (by omega)]
    simp only [cond_false]
    by_cases ht:16<t
    .rw [eF ht]
     have e3:(n != t)=true:=aao (by omega)
     simp only [cond_true,e3,Bool.not_true,cond_false]
     cases hd:n==16 with
     | true =>
      rw [aZ hd]
      exact t2
     | false =>
      rw [show (n != 16)=true by rw [bne,hd]; rfl]
      exact f7
    .rw [gZ (by omega)]
     simp only [cond_false,Bool.not_false,cond_true]
     cases n != t with
     | true=>cases n==16<;>exact f7
     | false=>exact t2
 have hm:=akj (N.zD i).1.toNat [] hs
 rw [er,eq,e2,<- t2.1,<- e1]
 have he:(N.dI (N.zD i).1.toNat (N.JM i) []).2.err=(N.xB (N.zD i).1.toNat (N.rqI q) []).2.code:=hm.2.2.2.2.1
 unfold N.rrE N.rqE
 rw [he,hm.1,t1.1]
 cases (N.xB (N.zD i).1.toNat (N.rqI q) []).2.code != 0 with
 | true=>exact ⟨rfl,hm.2⟩
 | false=>exact ⟨rfl,hm.2⟩
end Go.Ev

namespace Go.Ev
open Go Go.Proofs
set_option maxRecDepth 100000
-- FOLD
theorem akk:∀ (l:Bytes) (n:Int),0<=n->0<=N.be l n∧N.be l n<(n+1)*((256 ^ l.length:Nat):Int)
 | [],n,h=>by
  show 0<=n∧n<(n+1)*((1:Nat):Int)
  omega
 | c::r,n,h=>by
  have hc:=c.toNat_lt
  have ih:=akk r (n*256+c.toNat) (by omega)
  refine ⟨ih.1,?_⟩
  show N.be r (n*256+c.toNat)<(n+1)*((256 ^ (r.length+1):Nat):Int)
  refine Int.lt_of_lt_of_le ih.2 ?_
  have e:((256 ^ (r.length+1):Nat):Int)=256*((256 ^ r.length:Nat):Int):=by rw [Nat.pow_succ]; omega
  rw [e,<- Int.mul_assoc]
  exact Int.mul_le_mul_of_nonneg_right (by omega) (Int.natCast_nonneg _)
theorem Il (i:dw):0<=(N.ay i 8).1∧(N.ay i 8).1<18446744073709551616:=by
 have h:=N.CQ i (bif aU 8 8 then (8:Int) else 8) 8 (Int.le_refl 8)
 unfold N.ay
 have hb:=akk (N.jB i (bif aU 8 8 then (8:Int) else 8)).1 0 (Int.le_refl 0)
 refine ⟨hb.1,Int.lt_of_lt_of_le hb.2 ?_⟩
 have:256 ^ (N.jB i (bif aU 8 8 then (8:Int) else 8)).1.length<=256 ^ 8:=Nat.pow_le_pow_right (by decide) h
 have e:(256:Nat) ^ 8=18446744073709551616:=by decide
 omega
theorem NC (n:Int):0<=IntKind.wrap .u8 n∧IntKind.wrap .u8 n<256:=by
 simp only [IntKind.wrap,IntKind.signed,IntKind.bits]
 simp
 omega
theorem Jh (n:Int) : -9223372036854775808<=IntKind.wrap .i64 n∧IntKind.wrap .i64 n<=9223372036854775807:=by
 simp only [IntKind.wrap,IntKind.signed,IntKind.bits]
 simp
 omega
theorem Ko {p:aW} (h1:0<=p.kind∧p.kind<256) (h2 : -9223372036854775808<=p.num∧p.num<=9223372036854775807):N.O1 p=true:=by
 unfold N.O1
 rw [dY h1.1,eF h1.2,dY h2.1,dY h2.2]; rfl
theorem aiW (i:dw):N.O1 (N.one i).1=true:=by
 unfold N.one N.oneOf
 have hk:=NC (N.ay (N.bM i 16).2 1).1
 generalize IntKind.wrap .u8 (N.ay (N.bM i 16).2 1).1=k at *
 cases k==0 with
 | true=>exact Ko hk (Jh _)
 | false =>
  cases k==1 with
  | true=>exact Ko hk ⟨by show (-9223372036854775808:Int)<=0; omega,by show (0:Int)<=9223372036854775807; omega⟩
  | false =>
   cases k==2 with
   | true=>exact Ko hk (Jh _)
   | false=>exact Ko hk ⟨by show (-9223372036854775808:Int)<=0; omega,by show (0:Int)<=9223372036854775807; omega⟩
theorem VZ:∀ (k:Nat) (i:dw) (acc:List aW),acc.all N.O1 = true->(N.jh k i acc).1.all N.O1 = true
 | 0,_,_,h=>h
 | k+1,i,acc,h=>by
  unfold N.jh
  cases (N.bad (N.one i).1 acc (N.one i).2).err != 0 with
  | true=>rfl
  | false=>exact VZ k _ _ (by rw [List.all_append,h,List.all_cons,aiW]; rfl)
theorem DI (i:dw):N.lJ (N.cu i).1=true:=by
 unfold N.cu
 dsimp only
 have h1:=Il i
 have h2:=VZ (IntKind.wrap .i64 (N.ay (N.bM (N.bM (N.ay i 8).2 16).2 64).2 1).1).toNat (cond (aU 8 (IntKind.wrap .i64 (N.ay (N.bM (N.bM (N.ay i 8).2 16).2 64).2 1).1)) (N.bP (N.ay (N.bM (N.bM (N.ay i 8).2 16).2 64).2 1).2 6) (N.ay (N.bM (N.bM (N.ay i 8).2 16).2 64).2 1).2) [] rfl
 have h2:(N.iH (N.bM (N.bM (N.ay i 8).2 16).2 64).2).1.all N.O1 = true:=h2
 generalize N.iH (N.bM (N.bM (N.ay i 8).2 16).2 64).2=d at *
 have h3:=Il (N.bM d.2 256).2
 have h4:=NC (N.ay (N.ay (N.bM d.2 256).2 8).2 1).1
 unfold N.zl
 generalize (cond _ _ _:dw)=z
 cases z.err != 0 with
 | true=>rfl
 | false =>
  unfold N.lJ N.yF
  simp only [cond_false]
  rw [dY h1.1,eF h1.2,dY h3.1,eF h3.2,dY h4.1,eF h4.2,h2]; rfl
theorem uT (i:dw):iQ (N.cu i).1=true:=fA (Nat.le_trans (O8 i) (by decide))
theorem afP {l:List au} (h:l.all N.lJ=true):l.all N.yF=true:=by
 rw [List.all_eq_true] at h ⊢
 exact fun m hm=>(aX (h m hm)).1
theorem YN {x:aG} (h1:Bf x=true) (h2:x.kept.all N.lJ=true):Nu x=true:=by
 unfold Nu
 rw [h1,h2,afP h2]; rfl
theorem YO (x:aG):N.DF x x=true:=by
 unfold N.DF
 rw [beq_self_eq_true,Jf]; rfl
theorem YP:∀ (k:Nat) (i:dw) (acc:List au),i.err ≠ 0->(N.dI k i acc).2.err ≠ 0
 | 0,_,_,h=>h
 | k+1,i,acc,h=>by
  unfold N.dI
  rw [I7 h]; exact h
theorem afQ:∀ (k:Nat) (i:dw) (acc:List au),(N.dI k i acc).2.err=0->(N.dI k i acc).1.length=acc.length+k
 | 0,_,_,_=>rfl
 | k+1,i,acc,h=>by
  by_cases he:i.err=0
  .have e:N.dI (k+1) i acc=N.dI k (N.cu i).2 (acc++[(N.cu i).1]):=by
    show cond (i.err==0) _ _=_
    rw [he]; rfl
   rw [e] at h ⊢
   rw [afQ k _ _ h]
   simp; omega
  .exact absurd h (YP (k+1) i acc he)
theorem afR {p:au->Bool} (hp:∀ i,p (N.cu i).1=true):∀ (k:Nat) (i:dw) (acc:List au),acc.all p=true->(N.dI k i acc).1.all p=true
 | 0,_,_,h=>h
 | k+1,i,acc,h=>by
  unfold N.dI
  cases i.err==0 with
  | true=>exact afR hp k _ _ (by rw [List.all_append,h,List.all_cons,hp]; rfl)
  | false=>exact h
theorem aiX {l:List au} (h:l.all N.fC=true):l.all N.lJ=true:=by
 rw [List.all_eq_true] at h ⊢
 exact fun m hm=>(aX (h m hm)).1
theorem V3 {m:au} (h:N.lJ m=true) (hz:N.aP m=0):N.fC m=true:=by
 unfold N.fC
 rw [h,hz]; rfl
def anx (x:aG) (i:Nat):Prop:=(∃ g,RInv x g∧g.length<=i)∧x.kept.all N.fC=true
theorem anx.fine {x:aG} {i:Nat} (h:anx x i):Nu x=true:=by
 obtain ⟨⟨g,hg,_⟩,hc⟩:=h
 exact YN hg.full (aiX hc)
end Go.Ev

namespace Go.Ev
open Go
set_option maxRecDepth 100000
structure aO where
 aY:au
 iT:Bool
 again:Bool
theorem jk {r:List V} {n i:Nat} (h:i<n):(r.take n).getD i .undef=r.getD i .undef:=by
 rw [List.getD_eq_getElem?_getD,List.getD_eq_getElem?_getD,List.getElem?_take_of_lt h]
theorem mW {r:List V} (n i:Nat):(r.drop n).getD i .undef=r.getD (n+i) .undef:=by
 rw [List.getD_eq_getElem?_getD,List.getD_eq_getElem?_getD,List.getElem?_drop]
def alR (r:List V):aO:=⟨aeJ r,(r.getD 7 .undef).toBool,(r.getD 8 .undef).toBool⟩
def ak:aj aO:=((ah.and (aeu.and aeu)).iso (fun p=>(⟨p.1,p.2.1,p.2.2⟩:aO)) (fun o=>(o.aY,o.iT,o.again)) (fun _=>rfl) fun _=>rfl).spelt
 yI
 (fun x=>[.int .u64 x.aY.id,.str x.aY.bZ,.str x.aY.key,.slc yP (x.aY.head.map fun p=>[V.str p.key,V.int .u8 p.kind,V.int .i64 p.num,V.str p.text]),.str x.aY.body,.int .u64 x.aY.due,.int .u8 x.aY.hops,.bool x.iT,.bool x.again])
 alR rfl (fun _=>rfl) fun r=>by
  show (⟨aeJ (r.take 7),(((r.drop 7).take 1).getD 0 .undef).toBool,(((r.drop 7).drop 1).getD 0 .undef).toBool⟩:aO)=alR r
  unfold alR aeJ
  rw [jk (by decide),jk (by decide),jk (by decide),jk (by decide),jk (by decide),jk (by decide),jk (by decide),jk (by decide),mW,mW,mW]
def kK:aO:=⟨kY,false,false⟩
def gY:aj (List aO):=vC ak
namespace N
def mX (l:List aO) (m:au):Int :=
 cond (aP m != 0) (aP m) (cond (cond (aU 0 l.length) (bW m.id (l.getD (l.length-1) kK).aY.id) false) 13 (cond (bW 64 l.length) 12 0))
def kU (l:List aO) (x:aO):List aO × Int:=cond (mX l x.aY != 0) (l,mX l x.aY) (l++[x],0)
def tN:List aO->List aO->List aO × Int
 | acc,[]=>(acc,0)
 | acc,x::r=>cond ((kU acc x).2 != 0) ([],(kU acc x).2) (tN (kU acc x).1 r)
def ix (p:aO->Bool):List aO->Int->Int
 | [],_=>-1
 | x::r,i=>cond (p x) i (ix p r (i+1))
def isReady (x:aO):Bool:=cond x.iT false true
def isId (id:Int) (x:aO):Bool:=x.aY.id==id
def Bo (x:aO):aO:=⟨x.aY,true,x.again⟩
def Ji (x:aO):aO:=⟨x.aY,false,true⟩
def setAt (f:aO->aO) (l:List aO) (k:Nat):List aO:=l.set k (f (l.getD k kK))
def QA (l:List aO):List aO × aO × Bool:=cond (aU (ix isReady l 0) 0) (l,kK,false) (setAt Bo l (ix isReady l 0).toNat,Bo (l.getD (ix isReady l 0).toNat kK),true)
def V4 (l:List aO) (id:Int):List aO × Int:=cond (aU (ix (isId id) l 0) 0) (l,10) (cond (l.getD (ix (isId id) l 0).toNat kK).iT (setAt Ji l (ix (isId id) l 0).toNat,0) (l,13))
def cutAt (l:List aO) (k:Nat):List aO:=l.take k++l.drop (k+1)
def oJ (l:List aO) (id:Int):List aO × aO × Int:=cond (aU (ix (isId id) l 0) 0) (l,kK,10) (cutAt l (ix (isId id) l 0).toNat,l.getD (ix (isId id) l 0).toNat kK,0)
def anz (x:aO):aO:=cond x.iT (Ji x) x
def anA (l:List aO):List aO:=l.map anz
def ND (l:List aO) (k:Int):au × Bool:=cond (aU k 0) (kY,false) ((l.getD k.toNat kK).aY,true)
def kD (l:List aO):au × Bool:=ND l (ix isReady l 0)
def jX:List aO->Int
 | []=>0
 | x::r=>dB x.aY+jX r
def DJ (a b:aO):Bool:=cond (lU a.aY b.aY) (cond (a.iT==b.iT) (a.again==b.again) false) false
def sO:List aO->List aO->Bool
 | [],[]=>true
 | a::x,b::y=>cond (DJ a b) (sO x y) false
 | _,_=>false
end N
def eX (x:aO):Bool:=iQ x.aY
def jD (l:List aO):Bool:=cond (Nat.ble l.length 1000) (l.all eX) false
end Go.Ev

namespace Go.Ev
open Go Go.Proofs
set_option maxRecDepth 100000
-- FOLD
noncomputable def afS:Env:={ env Tryz.prog [] [] [] [175] with tr:=true }
theorem aiY (n:Int):bV afS 175 ((bg (aaG ak) (aT (dA .i64))).enc ((),n)) ([]) some =
 cond (aU n 0) none (cond (aU 0 (IntKind.wrap .i64 (n-IntKind.wrap .i64 ((0 : Int)-0)))) (cond (decide (0<=IntKind.wrap .i64 (n-IntKind.wrap .i64 ((0 : Int)-0))∧IntKind.wrap .i64 (n-IntKind.wrap .i64 ((0 : Int)-0))*(↑(104:Nat):Int)<=140737488355328∧IntKind.wrap .i64 (n-IntKind.wrap .i64 ((0 : Int)-0))<=140737488355328)) (some {v:=.own 1000 0,bx:=[],nb:=[Box.sl yI [] 0]:aJ}) none) (some {v:=.own 1000 0,bx:=[],nb:=[Box.sl yI [] 0]:aJ})):=by kernel_rfl
theorem afT:bH Tryz.prog 175 (Qo ak):=by
 refine aN (E:=afS) (aQ (gu.nil _)) Tryz.func175 [] (by kernel_rfl) none0 fun a _ h=>?_
 obtain ⟨⟨⟩,n⟩:=a
 obtain ⟨h1,h2⟩:=aX h
 have h1:0<=n:=bK h1
 have h2:n<=1000000:=bK h2
 refine (aiY n).trans ?_
 have w0:IntKind.wrap .i64 ((0:Int)-0)=0:=rfl
 have w:IntKind.wrap .i64 (n-0)=n:=by rw [Int.sub_zero]; exact dQ (by omega) (by omega)
 rw [w0,w]
 have d:decide (0<=n∧n*((104:Nat):Int)<=140737488355328∧n<=140737488355328)=true:=decide_eq_true (by omega)
 rw [d,gZ h1]
 cases aU 0 n<;>rfl
def V5:fK:={ fr:=[(0,.slc [.slc yI]),(3,.int .i64),(9,.slc [.slc yI]),(10,.int .i64),(11,.int .i64)],tab:=[] }
def QB:List Leaf->(Ex->St->Option R)->Option R
 | [.r r0,.i i3,.r r9,.i i10,.i i11],K=>cond (i10==r9.length) (cond (i11==0) (cond (i3==0) (cond (Nat.ble (fJ r9).length uJ) (cond (Nat.ble r9.length uJ)
   (K (.exit 0) { fr:=[(0,.slc [.slc yI] r0),(3,.int .i64 (fJ r9).length)],tab:=[] }) none) none) none) none) none
 | _,_=>none
def Tt:fK:={ fr:=[(6,.own 10000),(25,.slc [.slc yI]),(26,.int .i64),(27,.int .i64)],tab:=[(10000,.sl yI)] }
def NG:List Leaf->(Ex->St->Option R)->Option R
 | [.r r25,.i i26,.i i27,.r mG],K=>cond (i26==r25.length) (cond (i27==0) (cond (Nat.beq mG.length 0) (cond (Nat.ble (fJ r25).length uJ) (cond (Nat.ble r25.length uJ)
   (K (.exit 2) { fr:=[(6,.own 10000 0)],tab:=[(10000,.sl yI (fJ r25) 0)] }) none) none) none) none) none
 | _,_=>none
noncomputable def yh:Env:=env Tryz.prog [(175,Qo ak)] [(11,dO Tt NG),(3,dO V5 QB)] [(3,[(0,[0,3,9,10,11]),(1,[0,3]),(1000,[2])]),(11,[(0,[6,25,26,27]),(3,[6]),(1000,[2])])]
theorem acC (l:List (List aO)):bV yh 126 ((aT (qw (vC ak))).enc l) ([]) some =
 cond ((↑(List.length (List.map (aj.enc (vC ak)) l)):Int)==(↑(List.length (List.map (aj.enc (vC ak)) l)):Int)) (cond (Nat.ble (List.length (fJ (List.map (aj.enc (vC ak)) l))) 1000000) (cond (Nat.ble (List.length (List.map (aj.enc (vC ak)) l)) 1000000) (cond (bW (↑(List.length (fJ (List.map (aj.enc (vC ak)) l))):Int) 1000000) (cond ((↑(List.length (List.map (aj.enc (vC ak)) l)):Int)==(↑(List.length (List.map (aj.enc (vC ak)) l)):Int)) (cond (Nat.ble (List.length (fJ (List.map (aj.enc (vC ak)) l))) 1000000) (cond (Nat.ble (List.length (List.map (aj.enc (vC ak)) l)) 1000000) (some {v:=.slc yI (fJ (List.map (aj.enc (vC ak)) l)),bx:=[]:aJ}) none) none) none) none) none) none) none:=by kernel_rfl
theorem Jj (r0:List (List V)) (i3:Int) (r9:List (List V)) (i10:Int) (i11:Int) (K:Ex->St->Option R):bI yh 126 3 { fr:=[(0,.slc [.slc yI] r0),(3,.int .i64 i3),(9,.slc [.slc yI] r9),(10,.int .i64 i10),(11,.int .i64 i11)],tab:=[] } K =
 cond (aU i11 i10) (cond (decide (0<=i11∧i11<(↑(List.length r9):Int))) (cond (aU (IntKind.wrap .i64 (i3+(↑(List.length (V.toRows (List.getD (List.getD r9 (Int.toNat i11) []) 0 V.undef))):Int))) 0) none (K .normal {fr:=[(0,.slc [.slc yI] r0),(3,.int .i64 (IntKind.wrap .i64 (i3+(↑(List.length (V.toRows (List.getD (List.getD r9 (Int.toNat i11) []) 0 V.undef))):Int)))),(9,.slc [.slc yI] r9),(10,.int .i64 i10),(11,.int .i64 (IntKind.wrap .i64 (i11+1)))],tab:=[]:St})) none) (K (.exit 0) {fr:=[(0,.slc [.slc yI] r0),(3,.int .i64 i3)],tab:=[]:St}):=by kernel_rfl
theorem Gj (r25:List (List V)) (i26:Int) (i27:Int) (mG:List (List V)) (K:Ex->St->Option R):bI yh 126 11 { fr:=[(6,.own 10000 0),(25,.slc [.slc yI] r25),(26,.int .i64 i26),(27,.int .i64 i27)],tab:=[(10000,.sl yI mG 0)] } K =
 cond (aU i27 i26) (cond (decide (0<=i27∧i27<(↑(List.length r25):Int))) (cond (decide ((List.length mG+List.length (V.toRows (List.getD (List.getD r25 (Int.toNat i27) []) 0 V.undef)))*104<=140737488355328)) (K .normal {fr:=[(6,.own 10000 0),(25,.slc [.slc yI] r25),(26,.int .i64 i26),(27,.int .i64 (IntKind.wrap .i64 (i27+1)))],tab:=[(10000,.sl yI (mG++V.toRows (List.getD (List.getD r25 (Int.toNat i27) []) 0 V.undef)) 0)]:St}) none) none) (K (.exit 2) {fr:=[(6,.own 10000 0)],tab:=[(10000,.sl yI mG 0)]:St}):=by kernel_rfl
theorem NH:bH Tryz.prog 126 (zA ak):=by
 refine aN (aQ ((gu.nil _).cons afT)) (E:=yh) Tryz.func126 [3,11] (by kernel_rfl) (FH (bn rfl fun l K q h=>?_) (bn rfl fun l K q h=>?_)) fun a _ h=>?_
 .unfold QB at h
  split at h
  .rename_i r0 i3 r i10 i11
   replace h:=EY h;obtain ⟨h1,h2,h3,h4,h5,h⟩:=h
   have e1:=aZ h1
   have e2:=aZ h2
   have e3:=aZ h3
   subst e1 e2 e3
   have h4:(fJ r).length<=1000000:=aV h4
   have h5:r.length<=1000000:=aV h5
   refine dH (E:=yh) (f:=126) (id:=3) (A:=Int) r (fun n i=>{ fr:=[(0,.slc [.slc yI] r0),(3,.int .i64 n),(9,.slc [.slc yI] r),(10,.int .i64 r.length),(11,.int .i64 i)],tab:=[] })
    (fun n i=>0<=n∧n+((fJ (r.drop i)).length:Int)<=1000000)
    (fun n l K=>K (.exit 0) { fr:=[(0,.slc [.slc yI] r0),(3,.int .i64 (n+((fJ l).length:Int)))],tab:=[] }) (fun n i ⟨hn,hn2⟩ hi=>?_) (fun n _=>?_) 0 0 (Int.le_refl _) (by omega) ⟨Int.le_refl _,by simp; omega⟩ K q (by simpa using h)
   .rw [lD hi,jT,List.length_append] at hn2
    have w:=dQ (n:=n+((V.toRows (List.getD (r.getD i []) 0 .undef)).length:Int)) (by omega) (by omega)
    have w2:=dQ (n:=(i:Int)+1) (by omega) (by omega)
    refine .inl ⟨n+((V.toRows (List.getD (r.getD i []) 0 .undef)).length:Int),⟨by omega,by omega⟩,fun K=>?_,fun K=>?_⟩
    .rw [Jj,eF (by omega),decide_eq_true (by omega),Int.toNat_natCast,w,w2,gZ (by omega)]
     try rfl
    .show K _ _=K _ _
     rw [jT,List.length_append,Int.natCast_add,Int.add_assoc]
   .refine ⟨.exit 0,{ fr:=[(0,.slc [.slc yI] r0),(3,.int .i64 n)],tab:=[] },by simp,fun K=>?_,fun K=>?_⟩
    .rw [Jj,gZ (Int.le_refl _)]
     try rfl
    .show K _ _=K _ _
     rw [show ((fJ []).length:Int)=0 from rfl,Int.add_zero]
  .cases h
 .unfold NG at h
  split at h
  .rename_i r i26 i27 acc
   replace h:=EY h;obtain ⟨h1,h2,h3,h4,h5,h⟩:=h
   have e1:=aZ h1
   have e2:=aZ h2
   subst e1 e2
   have h3:acc.length=0:=Nat.eq_of_beq_eq_true h3
   obtain rfl:acc=[]:=List.length_eq_zero_iff.1 h3
   have h4:(fJ r).length<=1000000:=aV h4
   have h5:r.length<=1000000:=aV h5
   refine dH (E:=yh) (f:=126) (id:=11) (A:=List (List V)) r (fun n i=>{ fr:=[(6,.own 10000 0),(25,.slc [.slc yI] r),(26,.int .i64 r.length),(27,.int .i64 i)],tab:=[(10000,.sl yI n 0)] })
    (fun n i=>n.length+(fJ (r.drop i)).length<=1000000)
    (fun n l K=>K (.exit 2) { fr:=[(6,.own 10000 0)],tab:=[(10000,.sl yI (n++fJ l) 0)] }) (fun n i hn hi=>?_) (fun n _=>?_) [] 0 (Int.le_refl _) (by omega) (by simp; omega) K q (by simpa using h)
   .rw [lD hi,jT,List.length_append] at hn
    have w2:=dQ (n:=(i:Int)+1) (by omega) (by omega)
    refine .inl ⟨n++V.toRows (List.getD (r.getD i []) 0 .undef),by rw [List.length_append]; omega,fun K=>?_,fun K=>?_⟩
    .rw [Gj,eF (by omega),decide_eq_true (by omega),Int.toNat_natCast,w2]
     rw [decide_eq_true (by omega)]
     try rfl
    .show K _ _=K _ _
     rw [jT,List.append_assoc]
   .refine ⟨.exit 2,{ fr:=[(6,.own 10000 0)],tab:=[(10000,.sl yI n 0)] },by simp,fun K=>?_,fun K=>?_⟩
    .rw [Gj,gZ (Int.le_refl _)]
     try rfl
    .show K _ _=K _ _
     rw [show fJ []=[] from rfl,List.append_nil]
  .cases h
 .obtain ⟨h1,h2⟩:=aX h
  have h1:a.length<=1000:=aV h1
  have h2:tJ a<=100000:=aV h2
  refine (acC a).trans ?_
  have e:(fJ (a.map (vC ak).enc)).length=tJ a:=by rw [rH,List.length_map,F9]
  rw [e,List.length_map,fA (show tJ a<=1000000 by omega),fA (show a.length<=1000000 by omega),dY (by omega),rH]
  rw [show (((a.length:Int))==(a.length:Int))=true from beq_self_eq_true _]
  try rfl
end Go.Ev

namespace Go.Ev
open Go
set_option maxRecDepth 100000
def Sorted (l:List aO):Prop:=l.Pairwise fun a b=>a.aY.id<b.aY.id
def N.rRc (l:List aO) (m:au):Int :=
 cond (aP m != 0) (aP m) (cond (l.any fun y=>bW m.id y.aY.id) 13 (cond (bW 64 l.length) 12 0))
def N.uU (l:List aO) (x:aO):List aO × Int:=cond (N.rRc l x.aY != 0) (l,N.rRc l x.aY) (l++[x],0)
def N.Jk:List aO->List aO->List aO × Int
 | acc,[]=>(acc,0)
 | acc,x::r=>cond ((N.uU acc x).2 != 0) ([],(N.uU acc x).2) (N.Jk (N.uU acc x).1 r)
theorem aaL {l:List aO} (h:l ≠ []):l.getD (l.length-1) kK=l.getLast h:=by
 have hl:l.length ≠ 0:=fun e=>h (List.length_eq_zero_iff.1 e)
 rw [List.getD_eq_getElem?_getD,List.getElem?_eq_getElem (by omega),List.getLast_eq_getElem]; rfl
theorem afU {l:List aO} (hs:Sorted l) (i:Int):(l.any fun y=>bW i y.aY.id)=cond (aU 0 l.length) (bW i (l.getD (l.length-1) kK).aY.id) false:=by
 by_cases h:l=[]
 .subst h; rfl
 .have hl:0<l.length:=List.length_pos_iff.2 h
  rw [eF (by omega),cond_true,aaL h]
  cases hc:bW i (l.getLast h).aY.id with
  | true=>exact List.any_eq_true.2 ⟨_,List.getLast_mem h,hc⟩
  | false =>
   rw [Bool.eq_false_iff]
   intro ha
   obtain ⟨y,hy,hyi⟩:=List.any_eq_true.1 ha
   have h1:=nP hc
   have h2:=bK hyi
   have:y.aY.id<=(l.getLast h).aY.id:=by
    have e:=List.dropLast_concat_getLast h
    rw [<- e] at hy
    have hs' : Sorted (l.dropLast++[l.getLast h]):=by rw [e]; exact hs
    rcases List.mem_append.1 hy with hy | hy
    .exact Int.le_of_lt ((List.pairwise_append.1 hs').2.2 y hy _ (List.mem_singleton.2 rfl))
    .rw [List.mem_singleton.1 hy]; exact Int.le_refl _
   omega
theorem alS {l:List aO} (hs:Sorted l) (m:au):N.rRc l m=N.mX l m:=by
 unfold N.rRc N.mX
 rw [afU hs]
theorem aaM {l:List aO} (hs:Sorted l) (x:aO):N.uU l x=N.kU l x:=by
 unfold N.uU N.kU
 rw [alS hs]
structure Eu (l:List aO):Prop where
 sorted:Sorted l
 few:l.length<=64
 small:l.all eX=true
theorem NI:Eu []:=⟨List.Pairwise.nil,by decide,rfl⟩
theorem Jl {l:List aO} {m:au} (h:N.mX l m=0):N.aP m=0∧(∀ h:l ≠ [],(l.getLast h).aY.id<m.id)∧l.length<64:=by
 unfold N.mX at h
 cases hc:N.aP m != 0 with
 | true=>rw [hc] at h; have h:N.aP m=0:=h; rw [h] at hc; cases hc
 | false =>
  rw [hc] at h
  refine ⟨by simpa using hc,?_,?_⟩
  .intro hn
   have hl:0<l.length:=List.length_pos_iff.2 hn
   rw [eF (by omega),aaL hn] at h
   cases hd:bW m.id (l.getLast hn).aY.id with
   | true=>rw [hd] at h; cases h
   | false=>exact nP hd
  .cases hd:cond (aU 0 l.length) (bW m.id (l.getD (l.length-1) kK).aY.id) false with
   | true=>rw [hd] at h; cases h
   | false =>
    rw [hd] at h
    cases he:bW 64 l.length with
    | true=>rw [he] at h; cases h
    | false=>have:=nP he; omega
theorem V6 {l:List aO} (hs:Sorted l) {x:aO} (h:∀ h:l ≠ [],(l.getLast h).aY.id<x.aY.id):Sorted (l++[x]):=by
 refine List.pairwise_append.2 ⟨hs,List.pairwise_singleton _ _,fun a ha b hb=>?_⟩
 rw [List.mem_singleton.1 hb]
 have hn:l ≠ []:=fun e=>by rw [e] at ha; cases ha
 have h1:=h hn
 have e:=List.dropLast_concat_getLast hn
 rw [<- e] at ha
 have hs' : Sorted (l.dropLast++[l.getLast hn]):=by rw [e]; exact hs
 rcases List.mem_append.1 ha with ha | ha
 .exact Int.lt_trans ((List.pairwise_append.1 hs').2.2 a ha _ (List.mem_singleton.2 rfl)) h1
 .rw [List.mem_singleton.1 ha]; exact h1
theorem V7 {l:List aO} (h:Eu l) {x:aO} (hx:eX x=true):Eu (N.kU l x).1:=by
 unfold N.kU
 cases hc:N.mX l x.aY != 0 with
 | true=>exact h
 | false =>
  have hz:N.mX l x.aY=0:=by simpa using hc
  obtain ⟨_,h2,h3⟩:=Jl hz
  refine ⟨V6 h.sorted h2,by simp; omega,?_⟩
  show (l++[x]).all eX=true
  rw [List.all_append,h.small,List.all_cons,hx]; rfl
theorem Tv:∀ (r acc:List aO),(N.tN acc r).2=0->(N.tN acc r).1=acc++r
 | [],acc,_=>(List.append_nil _).symm
 | x::r,acc,h=>by
  unfold N.tN at h ⊢
  cases hc:(N.kU acc x).2 != 0 with
  | true=>rw [hc] at h; have h:(N.kU acc x).2=0:=h; rw [h] at hc; cases hc
  | false =>
   rw [hc] at h
   have h0:(N.kU acc x).2=0:=by simpa using hc
   have e:(N.kU acc x).1=acc++[x]:=by
    unfold N.kU at h0 ⊢
    cases hd:N.mX acc x.aY != 0 with
    | true=>rw [hd] at h0; have h0:N.mX acc x.aY=0:=h0; rw [h0] at hd; cases hd
    | false=>rfl
   have:=Tv r _ h
   rw [cond_false,this,e,List.append_assoc]; rfl
theorem aaN:∀ (r acc:List aO),(N.tN acc r).2 ≠ 0->(N.tN acc r).1=[]
 | [],_,h=>absurd rfl h
 | x::r,acc,h=>by
  unfold N.tN at h ⊢
  cases hc:(N.kU acc x).2 != 0 with
  | true=>rfl
  | false=>rw [hc] at h; exact aaN r _ h
theorem YQ:∀ (r acc:List aO),Eu acc->r.all eX=true->N.Jk acc r=N.tN acc r
 | [],_,_,_=>rfl
 | x::r,acc,h,hs=>by
  rw [List.all_cons,Bool.and_eq_true] at hs
  unfold N.Jk N.tN
  rw [aaM h.sorted]
  cases (N.kU acc x).2 != 0 with
  | true=>rfl
  | false=>exact YQ r _ (V7 h hs.1) hs.2
theorem Gl:∀ (r acc:List aO),Eu acc->r.all eX=true->Eu (N.tN acc r).1
 | [],_,h,_=>h
 | x::r,acc,h,hs=>by
  rw [List.all_cons,Bool.and_eq_true] at hs
  unfold N.tN
  cases (N.kU acc x).2 != 0 with
  | true=>exact NI
  | false=>exact Gl r _ (V7 h hs.1) hs.2
theorem zF (p:aO->Bool):∀ (l:List aO) (i:Int),0<=i->(N.ix p l i = -1∧∀ x∈l,p x=false)∨∃ k:Nat,N.ix p l i=i+k∧k<l.length∧p (l.getD k kK)=true∧∀ j,j<k->p (l.getD j kK)=false
 | [],i,_=>.inl ⟨rfl,fun x hx=>by cases hx⟩
 | x::r,i,hi=>by
  unfold N.ix
  cases hc:p x with
  | true=>exact .inr ⟨0,by simp,by simp,hc,fun j hj=>by omega⟩
  | false =>
   rcases zF p r (i+1) (by omega) with ⟨h1,h2⟩ | ⟨k,h1,h2,h3,h4⟩
   .exact .inl ⟨h1,fun y hy=>by
     rcases List.mem_cons.1 hy with rfl | hy
     .exact hc
     .exact h2 y hy⟩
   .refine .inr ⟨k+1,by rw [cond_false,h1]; omega,by simp; omega,by simpa using h3,fun j hj=>?_⟩
    cases j with
    | zero=>exact hc
    | succ j=>simpa using h4 j (by omega)
theorem QC (f:aO->aO) (l:List aO) (k:Nat):(N.setAt f l k).length=l.length:=List.length_set
theorem afV {l l' : List aO} (h:l'.Sublist l) (hs:Eu l):Eu l' :=
 ⟨List.Pairwise.sublist h hs.sorted,Nat.le_trans h.length_le hs.few,by
  rw [List.all_eq_true]
  exact fun x hx=>List.all_eq_true.1 hs.small x (h.subset hx)⟩
theorem YR (x:aO):N.DJ x x=true:=by
 unfold N.DJ
 rw [DC,beq_self_eq_true,beq_self_eq_true]; rfl
theorem NJ:∀ l:List aO,N.sO l l=true
 | []=>rfl
 | x::r=>by
  unfold N.sO
  rw [YR,NJ r]; rfl
theorem QD:∀ (a b:List aO),a.length ≠ b.length->N.sO a b=false
 | [],[],h=>absurd rfl h
 | [],_::_,_=>rfl
 | _::_,[],_=>rfl
 | a::x,b::y,h=>by
  unfold N.sO
  rw [QD x y (fun e=>h (by simp [e]))]
  cases N.DJ a b<;>rfl
theorem YS (a b:aO) (x y:List aO):N.sO (a::x) (b::y)=cond (N.DJ a b) (N.sO x y) false:=rfl
end Go.Ev

namespace Go.Ev
open Go Go.Proofs
set_option maxRecDepth 100000
-- FOLD
def aiZ (f:FuncId):U0 Unit where
 ok:=fun | [[.fn g [] []]]=>Nat.beq f g | _=>false
 enc _:=[[.fn f [] []]]
 dec _:=()
 len bx h:=by
  split at h
  .rfl
  .cases h
 law bx h j cs cs' hj hj':=by
  split at h
  .rename_i g
   have:=Nat.eq_of_beq_eq_true h; subst this
   have e:cs' = cs:=by rw [hj] at hj'; exact (Option.some.inj hj').symm
   subst e
   exact ⟨rfl,fun w J ρ k y hk hy val hv hall=>hy⟩
  .cases h
theorem jE (r:List V):(⟨⟨(r.getD 0 .undef).toInt,(r.getD 1 .undef).toStr,(r.getD 2 .undef).toStr,(r.getD 3 .undef).toRows.map fun r=>({ key:=V.toStr (List.getD r 0 .undef),kind:=V.toInt (List.getD r 1 .undef),num:=V.toInt (List.getD r 2 .undef),text:=V.toStr (List.getD r 3 .undef) }:aW),(r.getD 4 .undef).toStr,(r.getD 5 .undef).toInt,(r.getD 6 .undef).toInt⟩,(r.getD 7 .undef).toBool,(r.getD 8 .undef).toBool⟩:aO)=ak.dec r:=rfl
theorem rM (x:aO):[V.int .u64 x.aY.id,.str x.aY.bZ,.str x.aY.key,.slc yP (x.aY.head.map fun p=>[V.str p.key,V.int .u8 p.kind,V.int .i64 p.num,V.str p.text]),.str x.aY.body,.int .u64 x.aY.due,.int .u8 x.aY.hops,.bool x.iT,.bool x.again]=ak.enc x:=rfl
theorem NK (x:aO):(⟨x.aY,x.iT,x.again⟩:aO)=x:=rfl
theorem acD (r:List V):ah.dec r=(ak.dec r).aY:=rfl
def Gm:Den:=den (aT (bJ ak)) dV (oV (bJ ak)) (fun x _=>eX x) fun x _=>(x,())
def aaO:Den:=den (bg (bJ gY) (aT (bJ ah))) dV (oV (dA .i64)) (fun a _=>Nat.ble a.1.length 1000) fun a _=>(N.mX a.1 a.2,())
def afW:Den:=den (bg (bJ gY) (aT (bJ ak))) dV (vF (bg (bJ gY) (aT (dA .i64)))) (fun a _=>cond (Nat.ble a.1.length 1000) (eX a.2) false) fun a _=>(N.kU a.1 a.2,())
def afX:Den:=den (bg (bJ gY) (aT (bJ ah))) dV (vF (bg (bJ gY) (aT (dA .i64)))) (fun a _=>cond (Nat.ble a.1.length 1000) (iQ a.2) false) fun a _=>(N.kU a.1 ⟨a.2,false,false⟩,())
def Tz (g:aO->aO):Den:=den (aT (jL 0)) (jr ak) (vF aew) (fun _ _=>true) fun _ x=>((),g x)
def akm:Den:=den (aT (bJ ah)) dV (oV lC) (fun _ _=>true) fun _ _=>(true,())
def aaP (f:FuncId):Den:=den (bg (bJ ak) (aT (jL 0))) (aiZ f) (oV lC) (fun _ _=>true) fun a _=>(N.isReady a.1,())
def anB:Den:=den (bg (bJ ak) (aT (jL 0))) (jr (vw .u64)) (oV lC) (fun _ _=>true) fun a id=>(N.isId id a.1,id)
def anC (f g:FuncId):Den:=den (bg (qw ak) (aT (vFn f 0))) (aiZ g) (oV (dA .i64)) (fun a _=>Nat.ble a.1.length 1000) fun a _=>(N.ix N.isReady a.1 0,())
def anD (f:FuncId):Den:=den (bg (qw ak) (aT (vFn f 0))) (jr (vw .u64)) (oV (dA .i64)) (fun a _=>Nat.ble a.1.length 1000) fun a id=>(N.ix (N.isId id) a.1 0,id)
def TA (g:FuncId):Den:=den (bg (bJ gY) (aT (afG g))) dV (oV (dA .i64)) (fun a _=>Nat.ble a.1.length 1000) fun a _=>(N.ix N.isReady a.1 0,())
def alT:Den:=den (bg (bJ gY) (aT (dA .u64))) dV (oV (dA .i64)) (fun a _=>Nat.ble a.1.length 1000) fun a _=>(N.ix (N.isId a.2) a.1 0,())
def Ew (l:List aO) (k:Int):Bool:=cond (bW 0 k) (cond (aU k l.length) (Nat.ble l.length 1000) false) false
def NM:Den:=den (aT (qw ak)) dV (ak9 ak) (fun l _=>cond (Nat.beq l.length 0) false (Nat.ble l.length 1000)) fun l _=>(l,())
def aaQ (f:FuncId) (g:aO->aO):Den:=den (bg (bJ gY) (bg (dA .i64) (aT (afG f)))) dV (oV (bJ gY)) (fun a _=>Ew a.1 a.2.1) fun a _=>(N.setAt g a.1 a.2.1.toNat,())
noncomputable def aaR:Env:=env Tryz.prog [(171,uF)] [] []
theorem afY (x:aO):bV aaR 125 ((aT (bJ ak)).enc x) ([]) some =
 cond (iQ {id:=au.id x.aY,bZ:=au.bZ x.aY,key:=au.key x.aY,head:=List.map yD (List.map yE (au.head x.aY)),body:=au.body x.aY,due:=au.due x.aY,hops:=au.hops x.aY:au}) (some {v:=.agg [V.int .u64 (au.id x.aY),.str (au.bZ x.aY),.str (au.key x.aY),.slc yP (List.map yE (List.map yD (List.map yE (au.head x.aY)))),.str (au.body x.aY),.int .u64 (au.due x.aY),.int .u8 (au.hops x.aY),.bool x.iT,.bool x.again],bx:=[]:aJ}) none:=by kernel_rfl
noncomputable def aaS:Env:=env Tryz.prog [(45,lH)] [] []
theorem afZ (l:List aO) (m:au):type_of% (by
  have h:bV aaS 176 ((bg (bJ gY) (aT (bJ ah))).enc (l,m)) ([]) some =(
   let z0:=(↑(List.length (List.map (aj.enc ak) l)):Int);let z1:=(List.map yE m.head);let z2:=(cond (bW 64 z0) (some {v:=.int .i64 12,bx:=[]:aJ}) (some {v:=.int .i64 0,bx:=[]:aJ}));cond (N.aP {id:=au.id m,bZ:=au.bZ m,key:=au.key m,head:=List.map yD z1,body:=au.body m,due:=au.due m,hops:=au.hops m:au} != 0) (some {v:=.int .i64 (N.aP {id:=au.id m,bZ:=au.bZ m,key:=au.key m,head:=List.map yD z1,body:=au.body m,due:=au.due m,hops:=au.hops m:au}),bx:=[]:aJ}) (cond (aU 0 z0) (cond (decide (0<=IntKind.wrap .i64 (z0-1)∧IntKind.wrap .i64 (z0-1)<z0)) (cond (bW m.id (V.toInt (List.getD (List.getD (List.map (aj.enc ak) l) (Int.toNat (IntKind.wrap .i64 (z0-1))) []) 0 V.undef))) (some {v:=.int .i64 13,bx:=[]:aJ}) z2) none) z2)):=by kernel_rfl
  dsimp only at h;exact h):=by kernel_rfl
noncomputable def akn:Env:=env Tryz.prog [(176,aaO),(125,Gm),(126,zA ak)] [] []
theorem alU (l:List aO) (x:aO):type_of% (by
  have h:bV akn 127 ((bg (bJ gY) (aT (bJ ak))).enc (l,x)) ([]) some =(
   let z0:=(List.map yE (au.head x.aY));let z1:=(List.map (aj.dec ak) (List.map (aj.enc ak) l));cond (Nat.ble (List.length z1) 1000) (cond (N.mX z1 {id:=au.id x.aY,bZ:=au.bZ x.aY,key:=au.key x.aY,head:=List.map yD z0,body:=au.body x.aY,due:=au.due x.aY,hops:=au.hops x.aY:au} != 0) (some {v:=.jc [V.agg [V.slc yI (List.map (aj.enc ak) l)],.int .i64 (N.mX z1 {id:=au.id x.aY,bZ:=au.bZ x.aY,key:=au.key x.aY,head:=List.map yD z0,body:=au.body x.aY,due:=au.due x.aY,hops:=au.hops x.aY:au})],bx:=[]:aJ}) (cond (eX {aY:={id:=au.id x.aY,bZ:=au.bZ x.aY,key:=au.key x.aY,head:=List.map yD z0,body:=au.body x.aY,due:=au.due x.aY,hops:=au.hops x.aY:au},iT:=aO.iT x,again:=aO.again x:aO}) (cond (Nat.ble (List.length z1+1) 100000) (some {v:=.jc [V.agg [V.slc yI (List.map (aj.enc ak) (N.flat [List.map (aj.dec ak) (List.map (aj.enc ak) l),List.map (aj.dec ak) [[V.int .u64 (au.id x.aY),.str (au.bZ x.aY),.str (au.key x.aY),.slc yP (List.map yE (List.map yD z0)),.str (au.body x.aY),.int .u64 (au.due x.aY),.int .u8 (au.hops x.aY),.bool x.iT,.bool x.again]]]))],.int .i64 0],bx:=[]:aJ}) none) none)) none):=by kernel_rfl
  dsimp only at h;exact h):=by kernel_rfl
noncomputable def ako:Env:=env Tryz.prog [(127,afW)] [] []
theorem alV (l:List aO) (m:au):type_of% (by
  have h:bV ako 49 ((bg (bJ gY) (aT (bJ ah))).enc (l,m)) ([]) some =(
   let z2:=(List.map (aj.dec ak) (List.map (aj.enc ak) l));let z1:=(List.map yE m.head);let z0:=(N.kU z2 {aY:={id:=au.id m,bZ:=au.bZ m,key:=au.key m,head:=List.map yD z1,body:=au.body m,due:=au.due m,hops:=au.hops m:au},iT:=false,again:=false:aO});cond (bif Nat.ble (List.length z2) 1000 then eX {aY:={id:=au.id m,bZ:=au.bZ m,key:=au.key m,head:=List.map yD z1,body:=au.body m,due:=au.due m,hops:=au.hops m:au},iT:=false,again:=false:aO} else false) (some {v:=.jc [V.agg [V.slc yI (List.map (aj.enc ak) z0.1)],.int .i64 z0.2],bx:=[]:aJ}) none):=by kernel_rfl
  dsimp only at h;exact h):=by kernel_rfl
noncomputable def DK:Env:=env Tryz.prog [] [] []
theorem ai0 (x:aO):bV DK 130 ((aT (jL 0)).enc ()) ((jr ak).enc x) some =
 some {v:=.jc [],bx:=[[V.int .u64 (au.id x.aY),.str (au.bZ x.aY),.str (au.key x.aY),.slc yP (List.map yE (au.head x.aY)),.str (au.body x.aY),.int .u64 (au.due x.aY),.int .u8 (au.hops x.aY),.bool true,.bool x.again]]:aJ}:=by kernel_rfl
theorem ai1 (x:aO):bV DK 145 ((aT (jL 0)).enc ()) ((jr ak).enc x) some =
 some {v:=.jc [],bx:=[[V.int .u64 (au.id x.aY),.str (au.bZ x.aY),.str (au.key x.aY),.slc yP (List.map yE (au.head x.aY)),.str (au.body x.aY),.int .u64 (au.due x.aY),.int .u8 (au.hops x.aY),.bool false,.bool true]]:aJ}:=by kernel_rfl
theorem alW (m:au):bV DK 123 ((aT (bJ ah)).enc m) ([]) some =
 some {v:=.bool true,bx:=[]:aJ}:=by kernel_rfl
noncomputable def aaT:Env:=env Tryz.prog [(123,akm)] [] []
theorem af0 (x:aO):bV aaT 173 ((bg (bJ ak) (aT (jL 0))).enc (x,())) ((aiZ 123).enc ()) some =
 cond (!aO.iT x) (some {v:=.bool true,bx:=[[V.fn 123 [] []]]:aJ}) (some {v:=.bool false,bx:=[[V.fn 123 [] []]]:aJ}):=by kernel_rfl
theorem anE (x:aO) (id:Int):bV DK 174 ((bg (bJ ak) (aT (jL 0))).enc (x,())) ((jr (vw .u64)).enc id) some =
 some {v:=.bool (au.id x.aY==id),bx:=[[V.int .u64 id]]:aJ}:=by kernel_rfl
noncomputable def V8:Env:=env Tryz.prog [] [] [] [177]
theorem acE (l:List aO):bV V8 177 ((aT (qw ak)).enc l) ([]) some =
 cond (!Nat.beq (List.length (List.map (aj.enc ak) l)) 0) (cond (Nat.beq (List.length (List.map (aj.enc ak) l)) 0) (some {v:=.slc yI [],bx:=[]:aJ}) (cond (decide (List.length (List.map (aj.enc ak) l)*104<=140737488355328)) (some {v:=.own 1000 0,bx:=[],nb:=[Box.sl yI (List.map (aj.enc ak) l) 0]:aJ}) none)) none:=by kernel_rfl
theorem Dj:bH Tryz.prog 125 Gm:=by
 refine aN (aQ ((gu.nil _).cons sN)) (E:=aaR) Tryz.func125 [] (by kernel_rfl) none0 fun x _ h=>?_
 refine (afY x).trans ?_
 have h:iQ x.aY=true:=h
 show _=some (⟨.agg (ak.enc x),[],[]⟩:aJ)
 simp only [zB,h,cond_true,gB]
 try rfl
theorem acF:bH Tryz.prog 176 aaO:=by
 refine aN (aQ ((gu.nil _).cons qG)) (E:=aaS) Tryz.func176 [] (by kernel_rfl) none0 fun a _ h=>?_
 obtain ⟨l,m⟩:=a
 have h:l.length<=1000:=aV h
 refine (afZ l m).trans ?_
 show _=some (⟨.int .i64 (N.mX l m),[],[]⟩:aJ)
 simp only [zB,List.length_map]
 unfold N.mX
 cases N.aP m != 0 with
 | true=>rfl
 | false =>
  by_cases hl:0<l.length
  .have w:IntKind.wrap .i64 ((l.length:Int)-1)=(l.length:Int)-1:=dQ (by omega) (by omega)
   have ei:((l.length:Int)-1).toNat=l.length-1:=by omega
   have eg:=qH ak l (l.length-1) kK (by omega)
   rw [w,ei,eg]
   simp (disch:=omega) only [evs]
   show cond (bW m.id (l.getD (l.length-1) kK).aY.id) _ _=_
   cases bW m.id (l.getD (l.length-1) kK).aY.id with
   | true=>rfl
   | false=>cases bW 64 (l.length:Int)<;>rfl
  .simp (disch:=omega) only [evs]
theorem af2:bH Tryz.prog 130 (Tz N.Bo):=aN (aQ (gu.nil _)) (E:=DK) Tryz.func130 [] (by kernel_rfl) none0 fun _ x _=>ai0 x
theorem af4:bH Tryz.prog 145 (Tz N.Ji):=aN (aQ (gu.nil _)) (E:=DK) Tryz.func145 [] (by kernel_rfl) none0 fun _ x _=>ai1 x
theorem ai2:bH Tryz.prog 123 akm:=aN (aQ (gu.nil _)) (E:=DK) Tryz.func123 [] (by kernel_rfl) none0 fun m _ _=>alW m
theorem acG:bH Tryz.prog 173 (aaP 123):=by
 refine aN (aQ ((gu.nil _).cons ai2)) (E:=aaT) Tryz.func173 [] (by kernel_rfl) none0 fun a _ _=>?_
 obtain ⟨x,⟨⟩⟩:=a
 refine (af0 x).trans ?_
 show _=some (⟨.bool (N.isReady x),[[V.fn 123 [] []]],[]⟩:aJ)
 unfold N.isReady
 cases x.iT<;>rfl
theorem alX:bH Tryz.prog 174 anB:=aN (aQ (gu.nil _)) (E:=DK) Tryz.func174 [] (by kernel_rfl) none0 fun a id _=>anE a.1 id
theorem NP:bH Tryz.prog 177 NM:=by
 refine aN (aQ (gu.nil _)) (E:=V8) Tryz.func177 [] (by kernel_rfl) none0 fun l _ h=>?_
 have h:cond (Nat.beq l.length 0) false (Nat.ble l.length 1000)=true:=h
 cases e:Nat.beq l.length 0 with
 | true=>rw [e] at h; cases h
 | false =>
  rw [e] at h
  have h1:l.length<=1000:=aV h
  refine (acE l).trans ?_
  simp (disch:=omega) only [evs,e,Bool.not_false]
  try rfl
theorem aaU:bH Tryz.prog 127 afW:=by
 refine aN (aQ ((((gu.nil _).cons NH).cons Dj).cons acF)) (E:=akn) Tryz.func127 [] (by kernel_rfl) none0 fun a _ h=>?_
 obtain ⟨l,x⟩:=a
 obtain ⟨h1,h2⟩:=aX h
 have h1:l.length<=1000:=aV h1
 have h2:eX x=true:=h2
 refine (alU l x).trans ?_
 show _=some (⟨.jc [.agg (gY.enc (N.kU l x).1),.int .i64 (N.kU l x).2],[],[]⟩:aJ)
 simp only [zB,bT,NK]
 unfold N.kU
 cases N.mX l x.aY != 0 with
 | true=>simp (disch:=omega) only [evs]; rfl
 | false =>
  have hf:N.flat [l,List.map ak.dec [ak.enc x]]=l++[x]:=by
   rw [List.map_cons,ak.de x,List.map_nil,Gg]
  simp (disch:=omega) only [evs,gB,NK,rM,h2,hf]
  try rfl
end Go.Ev

namespace Go.Ev
open Go Go.Proofs
set_option maxRecDepth 100000
-- FOLD
theorem Dk {r:List (List V)} {i:Nat} (h:i<r.length):(r.drop i).map ak.dec=ak.dec (r.getD i [])::(r.drop (i+1)).map ak.dec:=by
 rw [lD h]; rfl
theorem aaV (p:aO->Bool) (x:aO) (r:List aO) (i:Int):N.ix p (x::r) i=cond (p x) i (N.ix p r (i+1)):=rfl
theorem af5 {p:aO->Bool} {l:List aO} (h:bW 0 (N.ix p l 0)=false):N.ix p l 0 = -1:=by
 rcases zF p l 0 (Int.le_refl _) with ⟨h1,_⟩ | ⟨k,h1,_⟩
 .exact h1
 .rw [h1,dY (by omega)] at h; cases h
def alY:fK:={ fr:=[(0,.slc yI),(1,.fn 173 [] [.ptr 0 0 0]),(7,.int .i64),(8,.int .i64)],tab:=[(0,.var [.fn 123 [] []])] }
def anF:List Leaf->(Ex->St->Option R)->Option R
 | [.r r,.i n,.i i],K=>cond (n==r.length) (cond (i==0) (cond (Nat.ble r.length 1000) (cond (bW 0 (N.ix N.isReady (r.map ak.dec) 0)) (K .ret { fr:=[(4,.int .i64 (N.ix N.isReady (r.map ak.dec) 0))],tab:=[(0,.var [.fn 123 [] []])] }) (K (.exit 0) { fr:=[],tab:=[(0,.var [.fn 123 [] []])] })) none) none) none
 | _,_=>none
noncomputable def ai3:Env:=env Tryz.prog [(173,aaP 123)] [(2,dO alY anF)] [(2,[(0,[0,1,7,8]),(1,[]),(1000,[4])])]
theorem anG (l:List aO):bV ai3 172 ((bg (qw ak) (aT (vFn 173 0))).enc (l,())) ((aiZ 123).enc ()) some =
 cond ((↑(List.length (List.map (aj.enc ak) l)):Int)==(↑(List.length (List.map (aj.enc ak) l)):Int)) (cond (Nat.ble (List.length (List.map (aj.enc ak) l)) 1000) (cond (bW 0 (N.ix N.isReady (List.map (aj.dec ak) (List.map (aj.enc ak) l)) 0)) (some {v:=.int .i64 (N.ix N.isReady (List.map (aj.dec ak) (List.map (aj.enc ak) l)) 0),bx:=[[V.fn 123 [] []]]:aJ}) (some {v:=.int .i64 (-1:Int),bx:=[[V.fn 123 [] []]]:aJ})) none) none:=by kernel_rfl
theorem YT (r:List (List V)) (n i:Int) (K:Ex->St->Option R):bI ai3 172 2 { fr:=[(0,.slc yI r),(1,.fn 173 [] [.ptr 0 0 0 0]),(7,.int .i64 n),(8,.int .i64 i)],tab:=[(0,.var [.fn 123 [] []])] } K =
 cond (aU i n) (cond (decide (0<=i∧i<(↑(List.length r):Int))) (cond (N.isReady (ak.dec (List.getD r (Int.toNat i) []))) (K .ret {fr:=[(4,.int .i64 i)],tab:=[(0,.var [V.fn 123 [] []])]:St}) (K .normal {fr:=[(0,.slc yI r),(1,.fn 173 [] [V.ptr 0 0 0 0]),(7,.int .i64 n),(8,.int .i64 (IntKind.wrap .i64 (i+1)))],tab:=[(0,.var [V.fn 123 [] []])]:St})) none) (K (.exit 0) {fr:=[],tab:=[(0,.var [V.fn 123 [] []])]:St}):=by kernel_rfl
theorem alZ:bH Tryz.prog 172 (anC 173 123):=by
 refine aN (aQ ((gu.nil _).cons acG)) (E:=ai3) Tryz.func172 [2] (by kernel_rfl) (one1 (bn rfl fun l K q h=>?_)) fun a id hp=>?_
 .unfold anF at h
  split at h
  .rename_i r n i
   replace h:=RH h;obtain ⟨h1,h2,h3,h⟩:=h
   have e1:=aZ h1
   have e2:=aZ h2
   subst e1 e2
   have h3:r.length<=1000:=aV h3
   have main:=dN (E:=ai3) (f:=172) (id:=2) (σ:=Nat) (fun i=>{ fr:=[(0,.slc yI r),(1,.fn 173 [] [.ptr 0 0 0 0]),(7,.int .i64 r.length),(8,.int .i64 (i:Int))],tab:=[(0,.var [.fn 123 [] []])] }) (fun i=>i<=r.length) (fun i=>r.length-i)
    (fun i K=>cond (bW 0 (N.ix N.isReady ((r.drop i).map ak.dec) i)) (K .ret { fr:=[(4,.int .i64 (N.ix N.isReady ((r.drop i).map ak.dec) i))],tab:=[(0,.var [.fn 123 [] []])] }) (K (.exit 0) { fr:=[],tab:=[(0,.var [.fn 123 [] []])] })) (fun i hi=>?_) 0 (Nat.zero_le _) K q (by assumption)
   .exact main
   .by_cases hl:i<r.length
    .rw [Dk hl,aaV]
     cases hc:N.isReady (ak.dec (r.getD i [])) with
     | true =>
      refine .inr ⟨.ret,{ fr:=[(4,.int .i64 ((i:Int)))],tab:=[(0,.var [.fn 123 [] []])] },by simp,fun K=>?_,fun K=>?_⟩
      .rw [YT]
       simp (disch:=omega) only [evs,Int.toNat_natCast,jE,hc]
      .simp only [cond_true]
       rw [dY (by omega)]; rfl
     | false =>
      refine .inl ⟨i+1,hl,by omega,fun K=>?_,fun K=>rfl⟩
      rw [YT]
      simp (disch:=omega) only [evs,Int.toNat_natCast,jE,hc]
      try rfl
    .refine .inr ⟨.exit 0,{ fr:=[],tab:=[(0,.var [.fn 123 [] []])] },by simp,fun K=>?_,fun K=>?_⟩
     .rw [YT]
      simp (disch:=omega) only [evs]
     .rw [List.drop_eq_nil_of_le (by omega)]; rfl
  .cases h
 .obtain ⟨l,⟨⟩⟩:=a
  have hp:Nat.ble l.length 1000=true:=hp
  refine (anG l ).trans ?_
  simp only [List.length_map,bT,hp,beq_self_eq_true,cond_true]
  show _=some (⟨.int .i64 (N.ix N.isReady l 0),[[.fn 123 [] []]],[]⟩:aJ)
  cases hc:bW 0 (N.ix N.isReady l 0) with
  | true=>rfl
  | false=>rw [af5 hc]; rfl
def al0:fK:={ fr:=[(0,.slc yI),(1,.fn 174 [] [.ptr 0 0 0]),(7,.int .i64),(8,.int .i64)],tab:=[(0,.var [.int .u64])] }
def anH:List Leaf->(Ex->St->Option R)->Option R
 | [.r r,.i n,.i i,.i id],K=>cond (n==r.length) (cond (i==0) (cond (Nat.ble r.length 1000) (cond (bW 0 (N.ix (N.isId id) (r.map ak.dec) 0)) (K .ret { fr:=[(4,.int .i64 (N.ix (N.isId id) (r.map ak.dec) 0))],tab:=[(0,.var [.int .u64 id])] }) (K (.exit 0) { fr:=[],tab:=[(0,.var [.int .u64 id])] })) none) none) none
 | _,_=>none
noncomputable def ai4:Env:=env Tryz.prog [(174,anB)] [(2,dO al0 anH)] [(2,[(0,[0,1,7,8]),(1,[]),(1000,[4])])]
theorem anI (l:List aO) (id:Int):bV ai4 172 ((bg (qw ak) (aT (vFn 174 0))).enc (l,())) ((jr (vw .u64)).enc id) some =
 cond ((↑(List.length (List.map (aj.enc ak) l)):Int)==(↑(List.length (List.map (aj.enc ak) l)):Int)) (cond (Nat.ble (List.length (List.map (aj.enc ak) l)) 1000) (cond (bW 0 (N.ix (N.isId id) (List.map (aj.dec ak) (List.map (aj.enc ak) l)) 0)) (some {v:=.int .i64 (N.ix (N.isId id) (List.map (aj.dec ak) (List.map (aj.enc ak) l)) 0),bx:=[[V.int .u64 id]]:aJ}) (some {v:=.int .i64 (-1:Int),bx:=[[V.int .u64 id]]:aJ})) none) none:=by kernel_rfl
theorem YU (r:List (List V)) (n i:Int) (id:Int) (K:Ex->St->Option R):bI ai4 172 2 { fr:=[(0,.slc yI r),(1,.fn 174 [] [.ptr 0 0 0 0]),(7,.int .i64 n),(8,.int .i64 i)],tab:=[(0,.var [.int .u64 id])] } K =
 cond (aU i n) (cond (decide (0<=i∧i<(↑(List.length r):Int))) (cond (N.isId id (ak.dec (List.getD r (Int.toNat i) []))) (K .ret {fr:=[(4,.int .i64 i)],tab:=[(0,.var [V.int .u64 id])]:St}) (K .normal {fr:=[(0,.slc yI r),(1,.fn 174 [] [V.ptr 0 0 0 0]),(7,.int .i64 n),(8,.int .i64 (IntKind.wrap .i64 (i+1)))],tab:=[(0,.var [V.int .u64 id])]:St})) none) (K (.exit 0) {fr:=[],tab:=[(0,.var [V.int .u64 id])]:St}):=by kernel_rfl
theorem al1:bH Tryz.prog 172 (anD 174):=by
 refine aN (aQ ((gu.nil _).cons alX)) (E:=ai4) Tryz.func172 [2] (by kernel_rfl) (one1 (bn rfl fun l K q h=>?_)) fun a id hp=>?_
 .unfold anH at h
  split at h
  .rename_i r n i id
   replace h:=RH h;obtain ⟨h1,h2,h3,h⟩:=h
   have e1:=aZ h1
   have e2:=aZ h2
   subst e1 e2
   have h3:r.length<=1000:=aV h3
   have main:=dN (E:=ai4) (f:=172) (id:=2) (σ:=Nat) (fun i=>{ fr:=[(0,.slc yI r),(1,.fn 174 [] [.ptr 0 0 0 0]),(7,.int .i64 r.length),(8,.int .i64 (i:Int))],tab:=[(0,.var [.int .u64 id])] }) (fun i=>i<=r.length) (fun i=>r.length-i)
    (fun i K=>cond (bW 0 (N.ix (N.isId id) ((r.drop i).map ak.dec) i)) (K .ret { fr:=[(4,.int .i64 (N.ix (N.isId id) ((r.drop i).map ak.dec) i))],tab:=[(0,.var [.int .u64 id])] }) (K (.exit 0) { fr:=[],tab:=[(0,.var [.int .u64 id])] })) (fun i hi=>?_) 0 (Nat.zero_le _) K q (by assumption)
   .exact main
   .by_cases hl:i<r.length
    .rw [Dk hl,aaV]
     cases hc:(N.isId id) (ak.dec (r.getD i [])) with
     | true =>
      refine .inr ⟨.ret,{ fr:=[(4,.int .i64 ((i:Int)))],tab:=[(0,.var [.int .u64 id])] },by simp,fun K=>?_,fun K=>?_⟩
      .rw [YU]
       simp (disch:=omega) only [evs,Int.toNat_natCast,jE,hc]
      .simp only [cond_true]
       rw [dY (by omega)]; rfl
     | false =>
      refine .inl ⟨i+1,hl,by omega,fun K=>?_,fun K=>rfl⟩
      rw [YU]
      simp (disch:=omega) only [evs,Int.toNat_natCast,jE,hc]
      try rfl
    .refine .inr ⟨.exit 0,{ fr:=[],tab:=[(0,.var [.int .u64 id])] },by simp,fun K=>?_,fun K=>?_⟩
     .rw [YU]
      simp (disch:=omega) only [evs]
     .rw [List.drop_eq_nil_of_le (by omega)]; rfl
  .cases h
 .obtain ⟨l,⟨⟩⟩:=a
  have hp:Nat.ble l.length 1000=true:=hp
  refine (anI l id).trans ?_
  simp only [List.length_map,bT,hp,beq_self_eq_true,cond_true]
  show _=some (⟨.int .i64 (N.ix (N.isId id) l 0),[[.int .u64 id]],[]⟩:aJ)
  cases hc:bW 0 (N.ix (N.isId id) l 0) with
  | true=>rfl
  | false=>rw [af5 hc]; rfl
noncomputable def af6:Env:=env Tryz.prog [(177,NM),(130,Tz N.Bo)] [] []
theorem ai5 (l:List aO) (k:Int):type_of% (by
  have h:bV af6 129 ((bg (bJ gY) (bg (dA .i64) (aT (afG 130)))).enc (l,k,())) ([]) some =(
   let z1:=(List.map (aj.dec ak) (List.map (aj.enc ak) l));let z3:=(List.map (aj.enc ak) z1);let z2:=(List.getD z3 (Int.toNat k) []);let z0:=(N.Bo (ak.dec z2));cond (bif Nat.beq (List.length z1) 0 then false else Nat.ble (List.length z1) 1000) (cond (decide (0<=k∧k<(↑(List.length z3):Int))) (some {v:=.agg [V.slc yI (List.set z3 (Int.toNat k) [V.int .u64 (au.id z0.aY),.str (au.bZ z0.aY),.str (au.key z0.aY),.slc yP (List.map yE (au.head z0.aY)),.str (au.body z0.aY),.int .u64 (au.due z0.aY),.int .u8 (au.hops z0.aY),.bool z0.iT,.bool z0.again])],bx:=[]:aJ}) none) none):=by kernel_rfl
  dsimp only at h;exact h):=by kernel_rfl
theorem af7:bH Tryz.prog 129 (aaQ 130 N.Bo):=by
 refine aN (aQ (((gu.nil _).cons af2).cons NP)) (E:=af6) Tryz.func129 [] (by kernel_rfl) none0 fun a _ h=>?_
 obtain ⟨l,k,⟨⟩⟩:=a
 obtain ⟨h1,h2⟩:=aX h
 obtain ⟨h2,h3⟩:=aX h2
 have h1:0<=k:=bK h1
 have h2:k<l.length:=jv h2
 have h3:Nat.ble l.length 1000=true:=h3
 have hn:Nat.beq l.length 0=false:=by
  rw [Bool.eq_false_iff]
  intro e
  have:=Nat.eq_of_beq_eq_true e
  omega
 refine (ai5 l k).trans ?_
 have hg:=qH ak l k.toNat kK (by omega)
 simp only [bT,List.length_map,hn,h3,hg,jE,ak.de,rM,<- List.map_set]
 simp (disch:=omega) only [evs]
 try rfl
noncomputable def af8:Env:=env Tryz.prog [(177,NM),(145,Tz N.Ji)] [] []
theorem ai6 (l:List aO) (k:Int):type_of% (by
  have h:bV af8 129 ((bg (bJ gY) (bg (dA .i64) (aT (afG 145)))).enc (l,k,())) ([]) some =(
   let z1:=(List.map (aj.dec ak) (List.map (aj.enc ak) l));let z3:=(List.map (aj.enc ak) z1);let z2:=(List.getD z3 (Int.toNat k) []);let z0:=(N.Ji (ak.dec z2));cond (bif Nat.beq (List.length z1) 0 then false else Nat.ble (List.length z1) 1000) (cond (decide (0<=k∧k<(↑(List.length z3):Int))) (some {v:=.agg [V.slc yI (List.set z3 (Int.toNat k) [V.int .u64 (au.id z0.aY),.str (au.bZ z0.aY),.str (au.key z0.aY),.slc yP (List.map yE (au.head z0.aY)),.str (au.body z0.aY),.int .u64 (au.due z0.aY),.int .u8 (au.hops z0.aY),.bool z0.iT,.bool z0.again])],bx:=[]:aJ}) none) none):=by kernel_rfl
  dsimp only at h;exact h):=by kernel_rfl
theorem af9:bH Tryz.prog 129 (aaQ 145 N.Ji):=by
 refine aN (aQ (((gu.nil _).cons af4).cons NP)) (E:=af8) Tryz.func129 [] (by kernel_rfl) none0 fun a _ h=>?_
 obtain ⟨l,k,⟨⟩⟩:=a
 obtain ⟨h1,h2⟩:=aX h
 obtain ⟨h2,h3⟩:=aX h2
 have h1:0<=k:=bK h1
 have h2:k<l.length:=jv h2
 have h3:Nat.ble l.length 1000=true:=h3
 have hn:Nat.beq l.length 0=false:=by
  rw [Bool.eq_false_iff]
  intro e
  have:=Nat.eq_of_beq_eq_true e
  omega
 refine (ai6 l k).trans ?_
 have hg:=qH ak l k.toNat kK (by omega)
 simp only [bT,List.length_map,hn,h3,hg,jE,ak.de,rM,<- List.map_set]
 simp (disch:=omega) only [evs]
 try rfl
end Go.Ev

namespace Go.Ev
open Go Go.Proofs
set_option maxRecDepth 100000
-- FOLD
def aga:Den:=den (aT (bJ gY)) dV (vF (bg (bJ gY) (bg (bJ ak) (aT lC)))) (fun l _=>jD l) fun l _=>(N.QA l,())
def agb:Den:=den (bg (bJ gY) (aT (dA .u64))) dV (vF (bg (bJ gY) (aT (dA .i64)))) (fun a _=>jD a.1) fun a _=>(N.V4 a.1 a.2,())
def V9:Den:=den (bg (bJ gY) (aT (dA .u64))) dV (vF (bg (bJ gY) (bg (bJ ak) (aT (dA .i64))))) (fun a _=>jD a.1) fun a _=>(N.oJ a.1 a.2,())
def Gn (l:List aO) (k:Int):Bool:=cond (jD l) (cond (aU k 0) true (aU k l.length)) false
def agc:Den:=den (bg (bJ gY) (aT (dA .i64))) dV (vF (bg (bJ ah) (aT lC))) (fun a _=>Gn a.1 a.2) fun a _=>(N.ND a.1 a.2,())
def TB:Den:=den (aT (bJ gY)) dV (vF (bg (bJ ah) (aT lC))) (fun l _=>jD l) fun l _=>(N.kD l,())
def aaW:Den:=den (aT (bJ gY)) dV (oV (dA .i64)) (fun _ _=>true) fun l _=>((l.length:Int),())
def agd:Den:=den (aT (bJ gY)) dV (oV (qw ak)) (fun l _=>jD l) fun l _=>(l,())
def agf:Den:=den (bg (bJ ak) (aT (bJ ak))) dV (oV lC) (fun a _=>eX a.1) fun a _=>(N.DJ a.1 a.2,())
noncomputable def aaX:Env:=env Tryz.prog [(172,anC 173 123)] [] []
theorem agh (l:List aO):bV aaX 122 ((bg (bJ gY) (aT (afG 123))).enc (l,())) ([]) some =
 cond (Nat.ble (List.length (List.map (aj.dec ak) (List.map (aj.enc ak) l))) 1000) (some {v:=.int .i64 (N.ix N.isReady (List.map (aj.dec ak) (List.map (aj.enc ak) l)) 0),bx:=[]:aJ}) none:=by kernel_rfl
noncomputable def anJ:Env:=env Tryz.prog [(172,anD 174)] [] []
theorem anK (l:List aO) (id:Int):bV anJ 124 ((bg (bJ gY) (aT (dA .u64))).enc (l,id)) ([]) some =
 cond (Nat.ble (List.length (List.map (aj.dec ak) (List.map (aj.enc ak) l))) 1000) (some {v:=.int .i64 (N.ix (N.isId id) (List.map (aj.dec ak) (List.map (aj.enc ak) l)) 0),bx:=[]:aJ}) none:=by kernel_rfl
noncomputable def agi:Env:=env Tryz.prog [(122,TA 123),(129,aaQ 130 N.Bo),(125,Gm)] [] []
theorem ai7 (l:List aO):type_of% (by
  have h:bV agi 51 ((aT (bJ gY)).enc l) ([]) some =(
   let z1:=(List.map (aj.dec ak) (List.map (aj.enc ak) l));let z3:=(N.ix N.isReady z1 0);let z2:=(List.map (aj.enc ak) (N.setAt N.Bo z1 (Int.toNat z3)));let z0:=(List.getD z2 (Int.toNat z3) []);cond (Nat.ble (List.length z1) 1000) (cond (aU z3 0) (some {v:=.jc [V.agg [V.slc yI (List.map (aj.enc ak) l)],.agg [V.int .u64 0,.str [],.str [],.slc yP [],.str [],.int .u64 0,.int .u8 0,.bool false,.bool false],.bool false],bx:=[]:aJ}) (cond (Ew z1 z3) (cond (decide (0<=N.ix N.isReady z1 0∧N.ix N.isReady z1 0<(↑(List.length z2):Int))) (cond (eX (ak.dec z0)) (some {v:=.jc [V.agg [V.slc yI z2],.agg [V.int .u64 (V.toInt (z0.getD 0 .undef)),.str (V.toStr (z0.getD 1 .undef)),.str (V.toStr (z0.getD 2 .undef)),.slc yP (List.map yE (List.map yD (V.toRows (z0.getD 3 .undef)))),.str (V.toStr (z0.getD 4 .undef)),.int .u64 (V.toInt (z0.getD 5 .undef)),.int .u8 (V.toInt (z0.getD 6 .undef)),.bool (V.toBool (z0.getD 7 .undef)),.bool (V.toBool (z0.getD 8 .undef))],.bool true],bx:=[]:aJ}) none) none) none)) none):=by kernel_rfl
  dsimp only at h;exact h):=by kernel_rfl
noncomputable def agj:Env:=env Tryz.prog [(124,alT),(129,aaQ 145 N.Ji)] [] []
theorem ai8 (l:List aO) (id:Int):type_of% (by
  have h:bV agj 71 ((bg (bJ gY) (aT (dA .u64))).enc (l,id)) ([]) some =(
   let z2:=(List.map (aj.enc ak) l);let z0:=(List.map (aj.dec ak) z2);let z1:=(N.ix (N.isId id) z0 0);cond (Nat.ble (List.length z0) 1000) (cond (aU z1 0) (some {v:=.jc [V.agg [V.slc yI z2],.int .i64 10],bx:=[]:aJ}) (cond (decide (0<=N.ix (N.isId id) z0 0∧N.ix (N.isId id) z0 0<(↑(List.length z2):Int))) (cond (!V.toBool (List.getD (List.getD z2 (Int.toNat z1) []) 7 V.undef)) (some {v:=.jc [V.agg [V.slc yI z2],.int .i64 13],bx:=[]:aJ}) (cond (Ew z0 z1) (some {v:=.jc [V.agg [V.slc yI (List.map (aj.enc ak) (N.setAt N.Ji z0 (Int.toNat z1)))],.int .i64 0],bx:=[]:aJ}) none)) none)) none):=by kernel_rfl
  dsimp only at h;exact h):=by kernel_rfl
noncomputable def Wh:Env:=env Tryz.prog [(124,alT),(125,Gm),(126,zA ak)] [] []
theorem acH (l:List aO) (id:Int):type_of% (by
  have h:bV Wh 47 ((bg (bJ gY) (aT (dA .u64))).enc (l,id)) ([]) some =(
   let z2:=(List.map (aj.enc ak) l);let z1:=(List.map (aj.dec ak) z2);let z6:=(N.ix (N.isId id) z1 0);let z0:=(List.getD z2 (Int.toNat z6) []);let z3:=(N.ix (N.isId id) z1 (0 : Int)+1);let z4:=(List.drop (Int.toNat (IntKind.wrap .i64 z3)) (List.take (List.length z2) z2));let z5:=(List.drop 0 (List.take (Int.toNat z6) z2));cond (Nat.ble (List.length z1) 1000) (cond (aU z6 0) (some {v:=.jc [V.agg [V.slc yI z2],.agg [V.int .u64 0,.str [],.str [],.slc yP [],.str [],.int .u64 0,.int .u8 0,.bool false,.bool false],.int .i64 10],bx:=[]:aJ}) (cond (decide (0<=N.ix (N.isId id) z1 0∧N.ix (N.isId id) z1 0<(↑(List.length z2):Int))) (cond (eX (ak.dec z0)) (cond (decide (0<=N.ix (N.isId id) z1 0∧N.ix (N.isId id) z1 0<=(↑(List.length z2):Int))) (cond (decide (0<=IntKind.wrap .i64 z3∧IntKind.wrap .i64 z3<=(↑(List.length z2):Int))) (cond (Nat.ble (List.length (List.map (aj.dec ak) z5)+(List.length (List.map (aj.dec ak) z4)+0)) 100000) (some {v:=.jc [V.agg [V.slc yI (List.map (aj.enc ak) (N.flat [List.map (aj.dec ak) z5,List.map (aj.dec ak) z4]))],.agg [V.int .u64 (V.toInt (z0.getD 0 .undef)),.str (V.toStr (z0.getD 1 .undef)),.str (V.toStr (z0.getD 2 .undef)),.slc yP (List.map yE (List.map yD (V.toRows (z0.getD 3 .undef)))),.str (V.toStr (z0.getD 4 .undef)),.int .u64 (V.toInt (z0.getD 5 .undef)),.int .u8 (V.toInt (z0.getD 6 .undef)),.bool (V.toBool (z0.getD 7 .undef)),.bool (V.toBool (z0.getD 8 .undef))],.int .i64 0],bx:=[]:aJ}) none) none) none) none) none)) none):=by kernel_rfl
  dsimp only at h;exact h):=by kernel_rfl
noncomputable def agk:Env:=env Tryz.prog [(171,uF)] [] []
theorem ai9 (l:List aO) (k:Int):type_of% (by
  have h:bV agk 121 ((bg (bJ gY) (aT (dA .i64))).enc (l,k)) ([]) some =(
   let z0:=(List.getD (List.map (aj.enc ak) l) (Int.toNat k) []);cond (aU k 0) (some {v:=.jc [V.agg [V.int .u64 0,.str [],.str [],.slc yP [],.str [],.int .u64 0,.int .u8 0],.bool false],bx:=[]:aJ}) (cond (decide (0<=k∧k<(↑(List.length (List.map (aj.enc ak) l)):Int))) (cond (iQ (ah.dec z0)) (some {v:=.jc [V.agg [V.int .u64 (V.toInt (z0.getD 0 .undef)),.str (V.toStr (z0.getD 1 .undef)),.str (V.toStr (z0.getD 2 .undef)),.slc yP (List.map yE (List.map yD (V.toRows (z0.getD 3 .undef)))),.str (V.toStr (z0.getD 4 .undef)),.int .u64 (V.toInt (z0.getD 5 .undef)),.int .u8 (V.toInt (z0.getD 6 .undef))],.bool true],bx:=[]:aJ}) none) none)):=by kernel_rfl
  dsimp only at h;exact h):=by kernel_rfl
noncomputable def aaY:Env:=env Tryz.prog [(122,TA 123),(121,agc)] [] []
theorem agl (l:List aO):type_of% (by
  have h:bV aaY 46 ((aT (bJ gY)).enc l) ([]) some =(
   let z1:=(List.map (aj.dec ak) (List.map (aj.enc ak) l));let z0:=(N.ND z1 (N.ix N.isReady z1 0));cond (Nat.ble (List.length z1) 1000) (cond (Gn z1 (N.ix N.isReady z1 0)) (some {v:=.jc [V.agg [V.int .u64 (au.id z0.1),.str (au.bZ z0.1),.str (au.key z0.1),.slc yP (List.map yE (au.head z0.1)),.str (au.body z0.1),.int .u64 (au.due z0.1),.int .u8 (au.hops z0.1)],.bool z0.2],bx:=[]:aJ}) none) none):=by kernel_rfl
  dsimp only at h;exact h):=by kernel_rfl
theorem al2 (l:List aO):bV DK 15 ((aT (bJ gY)).enc l) ([]) some =
 some {v:=.int .i64 (↑(List.length (List.map (aj.enc ak) l)):Int),bx:=[]:aJ}:=by kernel_rfl
theorem Ey (r:List V):[V.int .u64 (V.toInt (List.getD r 0 .undef)),V.str (V.toStr (List.getD r 1 .undef)),V.str (V.toStr (List.getD r 2 .undef)),V.slc yP (((V.toRows (List.getD r 3 .undef)).map fun r=>({ key:=V.toStr (List.getD r 0 .undef),kind:=V.toInt (List.getD r 1 .undef),num:=V.toInt (List.getD r 2 .undef),text:=V.toStr (List.getD r 3 .undef) }:aW)).map fun p=>[V.str p.key,V.int .u8 p.kind,V.int .i64 p.num,V.str p.text]),
  V.str (V.toStr (List.getD r 4 .undef)),V.int .u64 (V.toInt (List.getD r 5 .undef)),V.int .u8 (V.toInt (List.getD r 6 .undef)),V.bool (V.toBool (List.getD r 7 .undef)),V.bool (V.toBool (List.getD r 8 .undef))]=ak.enc (ak.dec r):=rfl
theorem qj {l:List aO} (h:jD l=true):l.length<=1000∧Nat.ble l.length 1000=true∧l.all eX=true:=by
 obtain ⟨h1,h2⟩:=aX h
 exact ⟨aV h1,h1,h2⟩
theorem acI (f:aO->aO) {l:List aO} {k:Nat} (h:k<l.length):(N.setAt f l k).getD k kK=f (l.getD k kK):=by
 unfold N.setAt
 rw [List.getD_eq_getElem?_getD,List.getElem?_set_self h]; rfl
theorem NQ {l:List aO} (h:l.all eX=true) {k:Nat} (hk:k<l.length):eX (l.getD k kK)=true:=Np h k kK hk
theorem QE:bH Tryz.prog 122 (TA 123):=by
 refine aN (aQ ((gu.nil _).cons alZ)) (E:=aaX) Tryz.func122 [] (by kernel_rfl) none0 fun a _ h=>?_
 obtain ⟨l,⟨⟩⟩:=a
 have h:Nat.ble l.length 1000=true:=h
 refine (agh l).trans ?_
 simp only [bT,h,cond_true]
 try rfl
theorem agm:bH Tryz.prog 124 alT:=by
 refine aN (aQ ((gu.nil _).cons al1)) (E:=anJ) Tryz.func124 [] (by kernel_rfl) none0 fun a _ h=>?_
 obtain ⟨l,id⟩:=a
 have h:Nat.ble l.length 1000=true:=h
 refine (anK l id).trans ?_
 simp only [bT,h,cond_true]
 try rfl
theorem agn:bH Tryz.prog 51 aga:=by
 refine aN (aQ ((((gu.nil _).cons Dj).cons af7).cons QE)) (E:=agi) Tryz.func51 [] (by kernel_rfl) none0 fun l _ h=>?_
 obtain ⟨h1,h2,h3⟩:=qj h
 refine (ai7 l).trans ?_
 show _=some (⟨.jc [.agg (gY.enc (N.QA l).1),.agg (ak.enc (N.QA l).2.1),.bool (N.QA l).2.2],[],[]⟩:aJ)
 unfold N.QA
 simp only [bT]
 rcases zF N.isReady l 0 (Int.le_refl _) with ⟨e,_⟩ | ⟨k,e,hk,_⟩
 .rw [e]
  simp (disch:=omega) only [evs,h2]
  try rfl
 .rw [Int.zero_add] at e
  have hg:=qH ak (N.setAt N.Bo l k) k kK (by rw [QC]; exact hk)
  rw [acI N.Bo hk] at hg
  have hs:eX (N.Bo (l.getD k kK))=true:=NQ h3 hk
  have ga:Ew l k=true:=by unfold Ew; rw [dY (by omega),eF (by omega),h2]; rfl
  rw [e]
  simp (disch:=omega) only [evs,h2,ga,Int.toNat_natCast,QC,hg,jE,ak.de,hs,rM,Ey]
  try rfl
theorem agp:bH Tryz.prog 71 agb:=by
 refine aN (aQ (((gu.nil _).cons af9).cons agm)) (E:=agj) Tryz.func71 [] (by kernel_rfl) none0 fun a _ h=>?_
 obtain ⟨l,id⟩:=a
 obtain ⟨h1,h2,h3⟩:=qj (l:=l) h
 refine (ai8 l id).trans ?_
 show _=some (⟨.jc [.agg (gY.enc (N.V4 l id).1),.int .i64 (N.V4 l id).2],[],[]⟩:aJ)
 unfold N.V4
 simp only [bT]
 rcases zF (N.isId id) l 0 (Int.le_refl _) with ⟨e,_⟩ | ⟨k,e,hk,_⟩
 .rw [e]
  simp (disch:=omega) only [evs,h2]
  try rfl
 .rw [Int.zero_add] at e
  have hg:=qH ak l k kK hk
  have ga:Ew l k=true:=by unfold Ew; rw [dY (by omega),eF (by omega),h2]; rfl
  rw [e]
  simp (disch:=omega) only [evs,h2,ga,Int.toNat_natCast,hg]
  show cond (!(l.getD k kK).iT) _ _=_
  cases (l.getD k kK).iT<;>rfl
theorem YV:bH Tryz.prog 47 V9:=by
 refine aN (aQ ((((gu.nil _).cons NH).cons Dj).cons agm)) (E:=Wh) Tryz.func47 [] (by kernel_rfl) none0 fun a _ h=>?_
 obtain ⟨l,id⟩:=a
 obtain ⟨h1,h2,h3⟩:=qj (l:=l) h
 refine (acH l id).trans ?_
 show _=some (⟨.jc [.agg (gY.enc (N.oJ l id).1),.agg (ak.enc (N.oJ l id).2.1),.int .i64 (N.oJ l id).2.2],[],[]⟩:aJ)
 unfold N.oJ
 simp only [bT]
 rcases zF (N.isId id) l 0 (Int.le_refl _) with ⟨e,_⟩ | ⟨k,e,hk,_⟩
 .rw [e]
  simp (disch:=omega) only [evs,h2]
  try rfl
 .rw [Int.zero_add] at e
  have hg:=qH ak l k kK hk
  have hs:eX (l.getD k kK)=true:=NQ h3 hk
  rw [e]
  have w:IntKind.wrap .i64 ((k:Int)+1)=(k:Int)+1:=dQ (by omega) (by omega)
  have e1:((k:Int)+1).toNat=k+1:=by omega
  have t1:(l.map ak.enc).take l.length=l.map ak.enc:=List.take_of_length_le (by rw [List.length_map]; exact Nat.le_refl _)
  have hl:(l.take k).length+((l.drop (k+1)).length+0)<=100000:=by simp; omega
  have hb:Nat.ble ((l.take k).length+((l.drop (k+1)).length+0)) 100000=true:=fA hl
  simp (disch:=omega) only [evs,h2,Int.toNat_natCast,hg,jE,ak.de,hs,rM,Ey,w,e1,t1,List.drop_zero,<- List.map_take,<- List.map_drop,bT,Gg,hb]
  try rfl
theorem agq:bH Tryz.prog 121 agc:=by
 refine aN (aQ ((gu.nil _).cons sN)) (E:=agk) Tryz.func121 [] (by kernel_rfl) none0 fun a _ h=>?_
 obtain ⟨l,k⟩:=a
 obtain ⟨h,h4⟩:=aX h
 obtain ⟨h1,h2,h3⟩:=qj (l:=l) h
 have h4:cond (aU k 0) true (aU k l.length)=true:=h4
 refine (ai9 l k).trans ?_
 show _=some (⟨.jc [.agg (ah.enc (N.ND l k).1),.bool (N.ND l k).2],[],[]⟩:aJ)
 unfold N.ND
 cases hk:aU k 0 with
 | true=>rfl
 | false =>
  rw [hk] at h4
  have h4:k<l.length:=jv h4
  have hk:=dP hk
  have hg:=qH ak l k.toNat kK (by omega)
  have hs:iQ (l.getD k.toNat kK).aY=true:=NQ h3 (by omega)
  simp (disch:=omega) only [evs,hg,nH,aaI,acD,ak.de,hs]
theorem QF:bH Tryz.prog 46 TB:=by
 refine aN (aQ (((gu.nil _).cons agq).cons QE)) (E:=aaY) Tryz.func46 [] (by kernel_rfl) none0 fun l _ h=>?_
 have h:jD l=true:=h
 obtain ⟨h1,h2,h3⟩:=qj h
 refine (agl l).trans ?_
 show _=some (⟨.jc [.agg (ah.enc (N.kD l).1),.bool (N.kD l).2],[],[]⟩:aJ)
 have hg:Gn l (N.ix N.isReady l 0)=true:=by
  unfold Gn
  rw [h]
  rcases zF N.isReady l 0 (Int.le_refl _) with ⟨e,_⟩ | ⟨k,e,hk,_⟩
  .rw [e]; rfl
  .rw [e,gZ (by omega),eF (by omega)]; rfl
 unfold N.kD
 simp (disch:=omega) only [evs,bT,h2,hg,zB,gB,Nq]
theorem TD:bH Tryz.prog 15 aaW:=by
 refine aN (aQ (gu.nil _)) (E:=DK) Tryz.func15 [] (by kernel_rfl) none0 fun l _ _=>?_
 refine (al2 l).trans ?_
 rw [List.length_map]; rfl
theorem aaZ:bH Tryz.prog 49 afX:=by
 refine aN (aQ ((gu.nil _).cons aaU)) (E:=ako) Tryz.func49 [] (by kernel_rfl) none0 fun a _ h=>?_
 obtain ⟨l,m⟩:=a
 obtain ⟨h1,h2⟩:=aX h
 have h1:Nat.ble l.length 1000=true:=h1
 have h2:eX ⟨m,false,false⟩=true:=h2
 refine (alV l m).trans ?_
 simp only [bT,zB,h1,h2,cond_true]
 try rfl
end Go.Ev

namespace Go.Ev
open Go Go.Proofs
set_option maxRecDepth 100000
-- FOLD
namespace N
end N
end Go.Ev

namespace Go.Ev
open Go
set_option maxRecDepth 100000
structure fV where
 name:Bytes
 most:Int
 life:Int
 dead:Bytes
structure fE where
 q:fV
 line:List aO
structure dW (α:Type) where
 a0:α
 a1:α
 a2:α
 a3:α
 a4:α
 a5:α
 a6:α
 a7:α
 a8:α
 a9:α
 a10:α
 a11:α
 a12:α
 NR:α
 NS:α
 NT:α
structure aI where
 next:Int
 bytes:Int
 rows:List fE
 rises:dW aG
def agr (r:List V):fV:=⟨(r.getD 0 .undef).toStr,(r.getD 1 .undef).toInt,(r.getD 2 .undef).toInt,(r.getD 3 .undef).toStr⟩
def lX:aj fV:=((oH.and ((vw .u64).and ((vw .u64).and oH))).iso (fun p=>(⟨p.1,p.2.1,p.2.2.1,p.2.2.2⟩:fV)) (fun o=>(o.name,o.most,o.life,o.dead)) (fun _=>rfl) fun _=>rfl).spelt
 yQ (fun q=>[.str q.name,.int .u64 q.most,.int .u64 q.life,.str q.dead]) agr rfl (fun _=>rfl) fun r=>by
  show (⟨((r.take 1).getD 0 .undef).toStr,(((r.drop 1).take 1).getD 0 .undef).toInt,((((r.drop 1).drop 1).take 1).getD 0 .undef).toInt,(((r.drop 1).drop 1).drop 1 |>.getD 0 .undef).toStr⟩:fV)=agr r
  simp only [nG,pq]; rfl
def al3 (r:List V):fE:=⟨agr r,(r.getD 4 .undef).toRows.map ak.dec⟩
def bf:aj fE:=((lX.and (vC ak)).iso (fun p=>(⟨p.1,p.2⟩:fE)) (fun o=>(o.q,o.line)) (fun _=>rfl) fun _=>rfl).spelt
 yR (fun x=>[.str x.q.name,.int .u64 x.q.most,.int .u64 x.q.life,.str x.q.dead,.slc yI (x.line.map ak.enc)])
 al3 rfl (fun _=>rfl) fun r=>by
  show (⟨agr (r.take 4),((r.drop 4).getD 0 .undef).toRows.map ak.dec⟩:fE)=al3 r
  unfold al3 agr
  rw [jk (by decide),jk (by decide),jk (by decide),jk (by decide),mW]
def aon {α:Type} (c:aj α):aj (dW α):=(c.and (c.and (c.and (c.and (c.and (c.and (c.and (c.and (c.and (c.and (c.and (c.and (c.and (c.and (c.and c))))))))))))))).iso (fun p=>(⟨p.1,p.2.1,p.2.2.1,p.2.2.2.1,p.2.2.2.2.1,p.2.2.2.2.2.1,p.2.2.2.2.2.2.1,p.2.2.2.2.2.2.2.1,p.2.2.2.2.2.2.2.2.1,p.2.2.2.2.2.2.2.2.2.1,p.2.2.2.2.2.2.2.2.2.2.1,p.2.2.2.2.2.2.2.2.2.2.2.1,p.2.2.2.2.2.2.2.2.2.2.2.2.1,p.2.2.2.2.2.2.2.2.2.2.2.2.2.1,p.2.2.2.2.2.2.2.2.2.2.2.2.2.2.1,p.2.2.2.2.2.2.2.2.2.2.2.2.2.2.2⟩:dW α)) (fun o=>(o.a0,o.a1,o.a2,o.a3,o.a4,o.a5,o.a6,o.a7,o.a8,o.a9,o.a10,o.a11,o.a12,o.NR,o.NS,o.NT)) (fun _=>rfl) fun _=>rfl
def qm (r:List V) (j:Nat):aG:=⟨(r.getD j .undef).toInt,(r.getD (j+1) .undef).toRows.map ah.dec⟩
def ags (r:List V):aI:=⟨(r.getD 0 .undef).toInt,(r.getD 1 .undef).toInt,(r.getD 2 .undef).toRows.map bf.dec,⟨qm r 3,qm r 5,qm r 7,qm r 9,qm r 11,qm r 13,qm r 15,qm r 17,qm r 19,qm r 21,qm r 23,qm r 25,qm r 27,qm r 29,qm r 31,qm r 33⟩⟩
theorem acJ {r:List V} {k:Nat}:jA ((r.drop k).take 2)=qm r k:=by
 unfold jA qm
 rw [jk (by decide),jk (by decide),mW,mW]; rfl
theorem acK {r:List V} {k:Nat}:jA (r.drop k)=qm r k:=by
 unfold jA qm
 rw [mW,mW]; rfl
def dn (a:dW aG):List V:=[.int .u64 a.a0.total,.slc yM (a.a0.kept.map ah.enc),.int .u64 a.a1.total,.slc yM (a.a1.kept.map ah.enc),.int .u64 a.a2.total,.slc yM (a.a2.kept.map ah.enc),.int .u64 a.a3.total,.slc yM (a.a3.kept.map ah.enc),.int .u64 a.a4.total,.slc yM (a.a4.kept.map ah.enc),.int .u64 a.a5.total,.slc yM (a.a5.kept.map ah.enc),.int .u64 a.a6.total,.slc yM (a.a6.kept.map ah.enc),.int .u64 a.a7.total,.slc yM (a.a7.kept.map ah.enc),.int .u64 a.a8.total,.slc yM (a.a8.kept.map ah.enc),.int .u64 a.a9.total,.slc yM (a.a9.kept.map ah.enc),.int .u64 a.a10.total,.slc yM (a.a10.kept.map ah.enc),.int .u64 a.a11.total,.slc yM (a.a11.kept.map ah.enc),.int .u64 a.a12.total,.slc yM (a.a12.kept.map ah.enc),.int .u64 a.NR.total,.slc yM (a.NR.kept.map ah.enc),.int .u64 a.NS.total,.slc yM (a.NS.kept.map ah.enc),.int .u64 a.NT.total,.slc yM (a.NT.kept.map ah.enc)]
def aH:aj aI:=(((vw .u64).and ((vw .i64).and ((vC bf).and (aon bC)))).iso (fun p=>(⟨p.1,p.2.1,p.2.2.1,p.2.2.2⟩:aI)) (fun o=>(o.next,o.bytes,o.rows,o.rises)) (fun _=>rfl) fun _=>rfl).spelt
 [.int .u64,.int .i64,.slc yR,.int .u64,.slc yM,.int .u64,.slc yM,.int .u64,.slc yM,.int .u64,.slc yM,.int .u64,.slc yM,.int .u64,.slc yM,.int .u64,.slc yM,.int .u64,.slc yM,.int .u64,.slc yM,.int .u64,.slc yM,.int .u64,.slc yM,.int .u64,.slc yM,.int .u64,.slc yM,.int .u64,.slc yM,.int .u64,.slc yM,.int .u64,.slc yM]
 (fun s=>(.int .u64 s.next::.int .i64 s.bytes::.slc yR (s.rows.map bf.enc)::dn s.rises))
 ags rfl (fun _=>rfl) fun r=>by
  show (⟨((r.take 1).getD 0 .undef).toInt,(((r.drop 1).take 1).getD 0 .undef).toInt,((((r.drop 1).drop 1).take 1).getD 0 .undef).toRows.map bf.dec,⟨jA ((((r.drop 1).drop 1).drop 1).take 2),jA (((((r.drop 1).drop 1).drop 1).drop 2).take 2),jA ((((((r.drop 1).drop 1).drop 1).drop 2).drop 2).take 2),jA (((((((r.drop 1).drop 1).drop 1).drop 2).drop 2).drop 2).take 2),jA ((((((((r.drop 1).drop 1).drop 1).drop 2).drop 2).drop 2).drop 2).take 2),jA (((((((((r.drop 1).drop 1).drop 1).drop 2).drop 2).drop 2).drop 2).drop 2).take 2),jA ((((((((((r.drop 1).drop 1).drop 1).drop 2).drop 2).drop 2).drop 2).drop 2).drop 2).take 2),jA (((((((((((r.drop 1).drop 1).drop 1).drop 2).drop 2).drop 2).drop 2).drop 2).drop 2).drop 2).take 2),jA ((((((((((((r.drop 1).drop 1).drop 1).drop 2).drop 2).drop 2).drop 2).drop 2).drop 2).drop 2).drop 2).take 2),jA (((((((((((((r.drop 1).drop 1).drop 1).drop 2).drop 2).drop 2).drop 2).drop 2).drop 2).drop 2).drop 2).drop 2).take 2),jA ((((((((((((((r.drop 1).drop 1).drop 1).drop 2).drop 2).drop 2).drop 2).drop 2).drop 2).drop 2).drop 2).drop 2).drop 2).take 2),jA (((((((((((((((r.drop 1).drop 1).drop 1).drop 2).drop 2).drop 2).drop 2).drop 2).drop 2).drop 2).drop 2).drop 2).drop 2).drop 2).take 2),jA ((((((((((((((((r.drop 1).drop 1).drop 1).drop 2).drop 2).drop 2).drop 2).drop 2).drop 2).drop 2).drop 2).drop 2).drop 2).drop 2).drop 2).take 2),jA (((((((((((((((((r.drop 1).drop 1).drop 1).drop 2).drop 2).drop 2).drop 2).drop 2).drop 2).drop 2).drop 2).drop 2).drop 2).drop 2).drop 2).drop 2).take 2),jA ((((((((((((((((((r.drop 1).drop 1).drop 1).drop 2).drop 2).drop 2).drop 2).drop 2).drop 2).drop 2).drop 2).drop 2).drop 2).drop 2).drop 2).drop 2).drop 2).take 2),jA ((((((((((((((((((r.drop 1).drop 1).drop 1).drop 2).drop 2).drop 2).drop 2).drop 2).drop 2).drop 2).drop 2).drop 2).drop 2).drop 2).drop 2).drop 2).drop 2).drop 2)⟩⟩:aI)=ags r
  simp only [List.drop_drop,acJ,acK,nG,mW]
  try rfl
def eH:List Sh:=yM
def agt:List Sh:=yR
def nS:List Sh:=yQ
def iD:List Sh:=[.int .u64,.slc eH,.int .u64,.slc eH,.int .u64,.slc eH,.int .u64,.slc eH,.int .u64,.slc eH,.int .u64,.slc eH,.int .u64,.slc eH,.int .u64,.slc eH,.int .u64,.slc eH,.int .u64,.slc eH,.int .u64,.slc eH,.int .u64,.slc eH,.int .u64,.slc eH,.int .u64,.slc eH,.int .u64,.slc eH,.int .u64,.slc eH]
def aA:List Sh:=.int .u64::.int .i64::.slc agt::iD
def reA (a:dW aG):dW aG:=⟨bC.dec (bC.enc a.a0),bC.dec (bC.enc a.a1),bC.dec (bC.enc a.a2),bC.dec (bC.enc a.a3),bC.dec (bC.enc a.a4),bC.dec (bC.enc a.a5),bC.dec (bC.enc a.a6),bC.dec (bC.enc a.a7),bC.dec (bC.enc a.a8),bC.dec (bC.enc a.a9),bC.dec (bC.enc a.a10),bC.dec (bC.enc a.a11),bC.dec (bC.enc a.a12),bC.dec (bC.enc a.NR),bC.dec (bC.enc a.NS),bC.dec (bC.enc a.NT)⟩
theorem al4 (a:dW aG):reA a=a:=by
 unfold reA
 simp only [bC.de]
def setCells (a:dW aG) (i:Nat) (v:aG):List V:=[.int .u64 (cond (Nat.beq i 0) v.total a.a0.total),.slc eH (cond (Nat.beq i 0) (v.kept.map ah.enc) (a.a0.kept.map ah.enc)),.int .u64 (cond (Nat.beq i 1) v.total a.a1.total),.slc eH (cond (Nat.beq i 1) (v.kept.map ah.enc) (a.a1.kept.map ah.enc)),.int .u64 (cond (Nat.beq i 2) v.total a.a2.total),.slc eH (cond (Nat.beq i 2) (v.kept.map ah.enc) (a.a2.kept.map ah.enc)),.int .u64 (cond (Nat.beq i 3) v.total a.a3.total),.slc eH (cond (Nat.beq i 3) (v.kept.map ah.enc) (a.a3.kept.map ah.enc)),.int .u64 (cond (Nat.beq i 4) v.total a.a4.total),.slc eH (cond (Nat.beq i 4) (v.kept.map ah.enc) (a.a4.kept.map ah.enc)),.int .u64 (cond (Nat.beq i 5) v.total a.a5.total),.slc eH (cond (Nat.beq i 5) (v.kept.map ah.enc) (a.a5.kept.map ah.enc)),.int .u64 (cond (Nat.beq i 6) v.total a.a6.total),.slc eH (cond (Nat.beq i 6) (v.kept.map ah.enc) (a.a6.kept.map ah.enc)),.int .u64 (cond (Nat.beq i 7) v.total a.a7.total),.slc eH (cond (Nat.beq i 7) (v.kept.map ah.enc) (a.a7.kept.map ah.enc)),.int .u64 (cond (Nat.beq i 8) v.total a.a8.total),.slc eH (cond (Nat.beq i 8) (v.kept.map ah.enc) (a.a8.kept.map ah.enc)),.int .u64 (cond (Nat.beq i 9) v.total a.a9.total),.slc eH (cond (Nat.beq i 9) (v.kept.map ah.enc) (a.a9.kept.map ah.enc)),.int .u64 (cond (Nat.beq i 10) v.total a.a10.total),.slc eH (cond (Nat.beq i 10) (v.kept.map ah.enc) (a.a10.kept.map ah.enc)),.int .u64 (cond (Nat.beq i 11) v.total a.a11.total),.slc eH (cond (Nat.beq i 11) (v.kept.map ah.enc) (a.a11.kept.map ah.enc)),.int .u64 (cond (Nat.beq i 12) v.total a.a12.total),.slc eH (cond (Nat.beq i 12) (v.kept.map ah.enc) (a.a12.kept.map ah.enc)),.int .u64 (cond (Nat.beq i 13) v.total a.NR.total),.slc eH (cond (Nat.beq i 13) (v.kept.map ah.enc) (a.NR.kept.map ah.enc)),.int .u64 (cond (Nat.beq i 14) v.total a.NS.total),.slc eH (cond (Nat.beq i 14) (v.kept.map ah.enc) (a.NS.kept.map ah.enc)),.int .u64 (cond (Nat.beq i 15) v.total a.NT.total),.slc eH (cond (Nat.beq i 15) (v.kept.map ah.enc) (a.NT.kept.map ah.enc))]
def lq (a:dW aG):List (List V):=[bC.enc a.a0,bC.enc a.a1,bC.enc a.a2,bC.enc a.a3,bC.enc a.a4,bC.enc a.a5,bC.enc a.a6,bC.enc a.a7,bC.enc a.a8,bC.enc a.a9,bC.enc a.a10,bC.enc a.a11,bC.enc a.a12,bC.enc a.NR,bC.enc a.NS,bC.enc a.NT]
def bG (c:List V) (j:Nat):List (List V):=[[.int .u64 (c.getD (j+0) .undef).toInt,.slc eH (c.getD (j+1) .undef).toRows],[.int .u64 (c.getD (j+2) .undef).toInt,.slc eH (c.getD (j+3) .undef).toRows],[.int .u64 (c.getD (j+4) .undef).toInt,.slc eH (c.getD (j+5) .undef).toRows],[.int .u64 (c.getD (j+6) .undef).toInt,.slc eH (c.getD (j+7) .undef).toRows],[.int .u64 (c.getD (j+8) .undef).toInt,.slc eH (c.getD (j+9) .undef).toRows],[.int .u64 (c.getD (j+10) .undef).toInt,.slc eH (c.getD (j+11) .undef).toRows],[.int .u64 (c.getD (j+12) .undef).toInt,.slc eH (c.getD (j+13) .undef).toRows],[.int .u64 (c.getD (j+14) .undef).toInt,.slc eH (c.getD (j+15) .undef).toRows],[.int .u64 (c.getD (j+16) .undef).toInt,.slc eH (c.getD (j+17) .undef).toRows],[.int .u64 (c.getD (j+18) .undef).toInt,.slc eH (c.getD (j+19) .undef).toRows],[.int .u64 (c.getD (j+20) .undef).toInt,.slc eH (c.getD (j+21) .undef).toRows],[.int .u64 (c.getD (j+22) .undef).toInt,.slc eH (c.getD (j+23) .undef).toRows],[.int .u64 (c.getD (j+24) .undef).toInt,.slc eH (c.getD (j+25) .undef).toRows],[.int .u64 (c.getD (j+26) .undef).toInt,.slc eH (c.getD (j+27) .undef).toRows],[.int .u64 (c.getD (j+28) .undef).toInt,.slc eH (c.getD (j+29) .undef).toRows],[.int .u64 (c.getD (j+30) .undef).toInt,.slc eH (c.getD (j+31) .undef).toRows]]
def fD:aI:=⟨0,0,[],⟨jQ,jQ,jQ,jQ,jQ,jQ,jQ,jQ,jQ,jQ,jQ,jQ,jQ,jQ,jQ,jQ⟩⟩
def dW.list {α:Type} (x:dW α):List α:=[x.a0,x.a1,x.a2,x.a3,x.a4,x.a5,x.a6,x.a7,x.a8,x.a9,x.a10,x.a11,x.a12,x.NR,x.NS,x.NT]
def dW.set {α:Type} (x:dW α) (i:Nat) (v:α):dW α:=⟨cond (Nat.beq i 0) v x.a0,cond (Nat.beq i 1) v x.a1,cond (Nat.beq i 2) v x.a2,cond (Nat.beq i 3) v x.a3,cond (Nat.beq i 4) v x.a4,cond (Nat.beq i 5) v x.a5,cond (Nat.beq i 6) v x.a6,cond (Nat.beq i 7) v x.a7,cond (Nat.beq i 8) v x.a8,cond (Nat.beq i 9) v x.a9,cond (Nat.beq i 10) v x.a10,cond (Nat.beq i 11) v x.a11,cond (Nat.beq i 12) v x.a12,cond (Nat.beq i 13) v x.NR,cond (Nat.beq i 14) v x.NS,cond (Nat.beq i 15) v x.NT⟩
theorem dW.lG {α:Type} (x:dW α):x.list.length=16:=rfl
theorem dW.NU {α:Type} (a:dW α) (v:α):∀ i,(a.set i v).list=a.list.set i v
 | 0=>rfl
 | 1=>rfl
 | 2=>rfl
 | 3=>rfl
 | 4=>rfl
 | 5=>rfl
 | 6=>rfl
 | 7=>rfl
 | 8=>rfl
 | 9=>rfl
 | 10=>rfl
 | 11=>rfl
 | 12=>rfl
 | 13=>rfl
 | 14=>rfl
 | 15=>rfl
 | _+16=>rfl
end Go.Ev

namespace Go.Ev
open Go Go.Proofs
set_option maxRecDepth 100000
-- FOLD
noncomputable def agu:Env:={ env Tryz.prog [] [] [] [115] with tr:=true }
theorem aja (n:Int):bV agu 115 ((bg (aaG bf) (aT (dA .i64))).enc ((),n)) ([]) some =
 cond (aU n 0) none (cond (aU 0 (IntKind.wrap .i64 (n-IntKind.wrap .i64 ((0 : Int)-0)))) (cond (decide (0<=IntKind.wrap .i64 (n-IntKind.wrap .i64 ((0 : Int)-0))∧IntKind.wrap .i64 (n-IntKind.wrap .i64 ((0 : Int)-0))*(↑(72:Nat):Int)<=140737488355328∧IntKind.wrap .i64 (n-IntKind.wrap .i64 ((0 : Int)-0))<=140737488355328)) (some {v:=.own 1000 0,bx:=[],nb:=[Box.sl yR [] 0]:aJ}) none) (some {v:=.own 1000 0,bx:=[],nb:=[Box.sl yR [] 0]:aJ})):=by kernel_rfl
theorem agv:bH Tryz.prog 115 (Qo bf):=by
 refine aN (E:=agu) (aQ (gu.nil _)) Tryz.func115 [] (by kernel_rfl) none0 fun a _ h=>?_
 obtain ⟨⟨⟩,n⟩:=a
 obtain ⟨h1,h2⟩:=aX h
 have h1:0<=n:=bK h1
 have h2:n<=1000000:=bK h2
 refine (aja n).trans ?_
 have w0:IntKind.wrap .i64 ((0:Int)-0)=0:=rfl
 have w:IntKind.wrap .i64 (n-0)=n:=by rw [Int.sub_zero]; exact dQ (by omega) (by omega)
 rw [w0,w]
 have d:decide (0<=n∧n*((72:Nat):Int)<=140737488355328∧n<=140737488355328)=true:=decide_eq_true (by omega)
 rw [d,gZ h1]
 cases aU 0 n<;>rfl
def Wi:fK:={ fr:=[(0,.slc [.slc yR]),(3,.int .i64),(9,.slc [.slc yR]),(10,.int .i64),(11,.int .i64)],tab:=[] }
def QG:List Leaf->(Ex->St->Option R)->Option R
 | [.r r0,.i i3,.r r9,.i i10,.i i11],K=>cond (i10==r9.length) (cond (i11==0) (cond (i3==0) (cond (Nat.ble (fJ r9).length uJ) (cond (Nat.ble r9.length uJ)
   (K (.exit 0) { fr:=[(0,.slc [.slc yR] r0),(3,.int .i64 (fJ r9).length)],tab:=[] }) none) none) none) none) none
 | _,_=>none
def TF:fK:={ fr:=[(6,.own 10000),(25,.slc [.slc yR]),(26,.int .i64),(27,.int .i64)],tab:=[(10000,.sl yR)] }
def NV:List Leaf->(Ex->St->Option R)->Option R
 | [.r r25,.i i26,.i i27,.r mG],K=>cond (i26==r25.length) (cond (i27==0) (cond (Nat.beq mG.length 0) (cond (Nat.ble (fJ r25).length uJ) (cond (Nat.ble r25.length uJ)
   (K (.exit 2) { fr:=[(6,.own 10000 0)],tab:=[(10000,.sl yR (fJ r25) 0)] }) none) none) none) none) none
 | _,_=>none
noncomputable def yj:Env:=env Tryz.prog [(115,Qo bf)] [(11,dO TF NV),(3,dO Wi QG)] [(3,[(0,[0,3,9,10,11]),(1,[0,3]),(1000,[2])]),(11,[(0,[6,25,26,27]),(3,[6]),(1000,[2])])]
theorem acL (l:List (List fE)):bV yj 41 ((aT (qw (vC bf))).enc l) ([]) some =
 cond ((↑(List.length (List.map (aj.enc (vC bf)) l)):Int)==(↑(List.length (List.map (aj.enc (vC bf)) l)):Int)) (cond (Nat.ble (List.length (fJ (List.map (aj.enc (vC bf)) l))) 1000000) (cond (Nat.ble (List.length (List.map (aj.enc (vC bf)) l)) 1000000) (cond (bW (↑(List.length (fJ (List.map (aj.enc (vC bf)) l))):Int) 1000000) (cond ((↑(List.length (List.map (aj.enc (vC bf)) l)):Int)==(↑(List.length (List.map (aj.enc (vC bf)) l)):Int)) (cond (Nat.ble (List.length (fJ (List.map (aj.enc (vC bf)) l))) 1000000) (cond (Nat.ble (List.length (List.map (aj.enc (vC bf)) l)) 1000000) (some {v:=.slc yR (fJ (List.map (aj.enc (vC bf)) l)),bx:=[]:aJ}) none) none) none) none) none) none) none:=by kernel_rfl
theorem Jm (r0:List (List V)) (i3:Int) (r9:List (List V)) (i10:Int) (i11:Int) (K:Ex->St->Option R):bI yj 41 3 { fr:=[(0,.slc [.slc yR] r0),(3,.int .i64 i3),(9,.slc [.slc yR] r9),(10,.int .i64 i10),(11,.int .i64 i11)],tab:=[] } K =
 cond (aU i11 i10) (cond (decide (0<=i11∧i11<(↑(List.length r9):Int))) (cond (aU (IntKind.wrap .i64 (i3+(↑(List.length (V.toRows (List.getD (List.getD r9 (Int.toNat i11) []) 0 V.undef))):Int))) 0) none (K .normal {fr:=[(0,.slc [.slc yR] r0),(3,.int .i64 (IntKind.wrap .i64 (i3+(↑(List.length (V.toRows (List.getD (List.getD r9 (Int.toNat i11) []) 0 V.undef))):Int)))),(9,.slc [.slc yR] r9),(10,.int .i64 i10),(11,.int .i64 (IntKind.wrap .i64 (i11+1)))],tab:=[]:St})) none) (K (.exit 0) {fr:=[(0,.slc [.slc yR] r0),(3,.int .i64 i3)],tab:=[]:St}):=by kernel_rfl
theorem Gp (r25:List (List V)) (i26:Int) (i27:Int) (mG:List (List V)) (K:Ex->St->Option R):bI yj 41 11 { fr:=[(6,.own 10000 0),(25,.slc [.slc yR] r25),(26,.int .i64 i26),(27,.int .i64 i27)],tab:=[(10000,.sl yR mG 0)] } K =
 cond (aU i27 i26) (cond (decide (0<=i27∧i27<(↑(List.length r25):Int))) (cond (decide ((List.length mG+List.length (V.toRows (List.getD (List.getD r25 (Int.toNat i27) []) 0 V.undef)))*72<=140737488355328)) (K .normal {fr:=[(6,.own 10000 0),(25,.slc [.slc yR] r25),(26,.int .i64 i26),(27,.int .i64 (IntKind.wrap .i64 (i27+1)))],tab:=[(10000,.sl yR (mG++V.toRows (List.getD (List.getD r25 (Int.toNat i27) []) 0 V.undef)) 0)]:St}) none) none) (K (.exit 2) {fr:=[(6,.own 10000 0)],tab:=[(10000,.sl yR mG 0)]:St}):=by kernel_rfl
theorem YW:bH Tryz.prog 41 (zA bf):=by
 refine aN (aQ ((gu.nil _).cons agv)) (E:=yj) Tryz.func41 [3,11] (by kernel_rfl) (FH (bn rfl fun l K q h=>?_) (bn rfl fun l K q h=>?_)) fun a _ h=>?_
 .unfold QG at h
  split at h
  .rename_i r0 i3 r i10 i11
   replace h:=EY h;obtain ⟨h1,h2,h3,h4,h5,h⟩:=h
   have e1:=aZ h1
   have e2:=aZ h2
   have e3:=aZ h3
   subst e1 e2 e3
   have h4:(fJ r).length<=1000000:=aV h4
   have h5:r.length<=1000000:=aV h5
   refine dH (E:=yj) (f:=41) (id:=3) (A:=Int) r (fun n i=>{ fr:=[(0,.slc [.slc yR] r0),(3,.int .i64 n),(9,.slc [.slc yR] r),(10,.int .i64 r.length),(11,.int .i64 i)],tab:=[] })
    (fun n i=>0<=n∧n+((fJ (r.drop i)).length:Int)<=1000000)
    (fun n l K=>K (.exit 0) { fr:=[(0,.slc [.slc yR] r0),(3,.int .i64 (n+((fJ l).length:Int)))],tab:=[] }) (fun n i ⟨hn,hn2⟩ hi=>?_) (fun n _=>?_) 0 0 (Int.le_refl _) (by omega) ⟨Int.le_refl _,by simp; omega⟩ K q (by simpa using h)
   .rw [lD hi,jT,List.length_append] at hn2
    have w:=dQ (n:=n+((V.toRows (List.getD (r.getD i []) 0 .undef)).length:Int)) (by omega) (by omega)
    have w2:=dQ (n:=(i:Int)+1) (by omega) (by omega)
    refine .inl ⟨n+((V.toRows (List.getD (r.getD i []) 0 .undef)).length:Int),⟨by omega,by omega⟩,fun K=>?_,fun K=>?_⟩
    .rw [Jm,eF (by omega),decide_eq_true (by omega),Int.toNat_natCast,w,w2,gZ (by omega)]
     try rfl
    .show K _ _=K _ _
     rw [jT,List.length_append,Int.natCast_add,Int.add_assoc]
   .refine ⟨.exit 0,{ fr:=[(0,.slc [.slc yR] r0),(3,.int .i64 n)],tab:=[] },by simp,fun K=>?_,fun K=>?_⟩
    .rw [Jm,gZ (Int.le_refl _)]
     try rfl
    .show K _ _=K _ _
     rw [show ((fJ []).length:Int)=0 from rfl,Int.add_zero]
  .cases h
 .unfold NV at h
  split at h
  .rename_i r i26 i27 acc
   replace h:=EY h;obtain ⟨h1,h2,h3,h4,h5,h⟩:=h
   have e1:=aZ h1
   have e2:=aZ h2
   subst e1 e2
   have h3:acc.length=0:=Nat.eq_of_beq_eq_true h3
   obtain rfl:acc=[]:=List.length_eq_zero_iff.1 h3
   have h4:(fJ r).length<=1000000:=aV h4
   have h5:r.length<=1000000:=aV h5
   refine dH (E:=yj) (f:=41) (id:=11) (A:=List (List V)) r (fun n i=>{ fr:=[(6,.own 10000 0),(25,.slc [.slc yR] r),(26,.int .i64 r.length),(27,.int .i64 i)],tab:=[(10000,.sl yR n 0)] })
    (fun n i=>n.length+(fJ (r.drop i)).length<=1000000)
    (fun n l K=>K (.exit 2) { fr:=[(6,.own 10000 0)],tab:=[(10000,.sl yR (n++fJ l) 0)] }) (fun n i hn hi=>?_) (fun n _=>?_) [] 0 (Int.le_refl _) (by omega) (by simp; omega) K q (by simpa using h)
   .rw [lD hi,jT,List.length_append] at hn
    have w2:=dQ (n:=(i:Int)+1) (by omega) (by omega)
    refine .inl ⟨n++V.toRows (List.getD (r.getD i []) 0 .undef),by rw [List.length_append]; omega,fun K=>?_,fun K=>?_⟩
    .rw [Gp,eF (by omega),decide_eq_true (by omega),Int.toNat_natCast,w2]
     rw [decide_eq_true (by omega)]
     try rfl
    .show K _ _=K _ _
     rw [jT,List.append_assoc]
   .refine ⟨.exit 2,{ fr:=[(6,.own 10000 0)],tab:=[(10000,.sl yR n 0)] },by simp,fun K=>?_,fun K=>?_⟩
    .rw [Gp,gZ (Int.le_refl _)]
     try rfl
    .show K _ _=K _ _
     rw [show fJ []=[] from rfl,List.append_nil]
  .cases h
 .obtain ⟨h1,h2⟩:=aX h
  have h1:a.length<=1000:=aV h1
  have h2:tJ a<=100000:=aV h2
  refine (acL a).trans ?_
  have e:(fJ (a.map (vC bf).enc)).length=tJ a:=by rw [rH,List.length_map,F9]
  rw [e,List.length_map,fA (show tJ a<=1000000 by omega),fA (show a.length<=1000000 by omega),dY (by omega),rH]
  rw [show (((a.length:Int))==(a.length:Int))=true from beq_self_eq_true _]
  try rfl
end Go.Ev

namespace Go.Ev
open Go Go.Proofs
set_option maxRecDepth 100000
-- FOLD
theorem NW {p:aO->Bool} {r:List (List V)} (h:(r.map ak.dec).all p=true) {i:Nat} (hi:i<r.length):p (ak.dec (r.getD i []))=true:=by
 refine List.all_eq_true.1 h _ (List.mem_map_of_mem ?_)
 rw [List.getD_eq_getElem?_getD,List.getElem?_eq_getElem hi]
 exact List.getElem_mem hi
theorem YX {r:List (List V)} {i:Nat} (h:i<r.length):((r.take (i+1)).map ak.dec).map ak.enc=((r.take i).map ak.dec).map ak.enc++[ak.enc (ak.dec (r.getD i []))]:=by
 rw [List.take_add_one,List.getD_eq_getElem?_getD,List.getElem?_eq_getElem h]
 simp only [Option.toList_some,List.map_append,List.map_cons,List.map_nil,Option.getD_some]
def ajb:fK:={ fr:=[(3,.own 10000),(7,.slc yI),(8,.int .i64),(9,.int .i64)],tab:=[(10000,.sl yI)] }
def akp:List Leaf->(Ex->St->Option R)->Option R
 | [.r r7,.i i8,.i i9,.r mG],K=>cond (i8==r7.length) (cond (i9==0) (cond (Nat.beq mG.length 0) (cond (Nat.ble r7.length 1000) (cond ((r7.map ak.dec).all eX)
   (K (.exit 0) { fr:=[(3,.own 10000 0)],tab:=[(10000,.sl yI ((r7.map ak.dec).map ak.enc) 0)] }) none) none) none) none) none
 | _,_=>none
noncomputable def aa0:Env:=env Tryz.prog [(125,Gm)] [(3,dO ajb akp)] [(3,[(0,[3,7,8,9]),(1,[3]),(1000,[2])])]
theorem al5 (l:List aO):bV aa0 97 ((aT (bJ gY)).enc l) ([]) some =
 cond ((↑(List.length (List.map (aj.enc ak) l)):Int)==(↑(List.length (List.map (aj.enc ak) l)):Int)) (cond (Nat.ble (List.length (List.map (aj.enc ak) l)) 1000) (cond (List.all (List.map (aj.dec ak) (List.map (aj.enc ak) l)) eX) (some {v:=.slc yI (List.map (aj.enc ak) (List.map (aj.dec ak) (List.map (aj.enc ak) l))),bx:=[]:aJ}) none) none) none:=by kernel_rfl
theorem aa1 (r7:List (List V)) (i8:Int) (i9:Int) (mG:List (List V)) (K:Ex->St->Option R):type_of% (by
  have h:bI aa0 97 3 { fr:=[(3,.own 10000 0),(7,.slc yI r7),(8,.int .i64 i8),(9,.int .i64 i9)],tab:=[(10000,.sl yI mG 0)] } K =(
   let z0:=(List.getD r7 (Int.toNat i9) []);cond (aU i9 i8) (cond (decide (0<=i9∧i9<(↑(List.length r7):Int))) (cond (eX (ak.dec z0)) (cond (decide ((List.length mG+1)*104<=140737488355328)) (K .normal {fr:=[(3,.own 10000 0),(7,.slc yI r7),(8,.int .i64 i8),(9,.int .i64 (IntKind.wrap .i64 (i9+1)))],tab:=[(10000,.sl yI (mG++[[V.int .u64 (V.toInt (z0.getD 0 .undef)),.str (V.toStr (z0.getD 1 .undef)),.str (V.toStr (z0.getD 2 .undef)),.slc yP (List.map yE (List.map yD (V.toRows (z0.getD 3 .undef)))),.str (V.toStr (z0.getD 4 .undef)),.int .u64 (V.toInt (z0.getD 5 .undef)),.int .u8 (V.toInt (z0.getD 6 .undef)),.bool (V.toBool (z0.getD 7 .undef)),.bool (V.toBool (z0.getD 8 .undef))]]) 0)]:St}) none) none) none) (K (.exit 0) {fr:=[(3,.own 10000 0)],tab:=[(10000,.sl yI mG 0)]:St})):=by kernel_rfl
  dsimp only at h;exact h):=by kernel_rfl
theorem aa2:bH Tryz.prog 97 agd:=by
 refine aN (aQ ((gu.nil _).cons Dj)) (E:=aa0) Tryz.func97 [3] (by kernel_rfl) (one1 (bn rfl fun l K q h=>?_)) fun l _ hp=>?_
 .unfold akp at h
  split at h
  .rename_i r n i o
   replace h:=EY h;obtain ⟨h1,h2,h3,h4,h5,h⟩:=h
   have e1:=aZ h1
   have e2:=aZ h2
   have e3:=List.eq_nil_of_length_eq_zero (kT h3)
   subst e1 e2 e3
   have h4:r.length<=1000:=aV h4
   have main:=dH (E:=aa0) (f:=97) (id:=3) (A:=Unit) r (fun _ i=>{ fr:=[(3,.own 10000 0),(7,.slc yI r),(8,.int .i64 r.length),(9,.int .i64 i)],tab:=[(10000,.sl yI (((r.take i.toNat).map ak.dec).map ak.enc) 0)] }) (fun _ _=>True)
    (fun _ _ K=>K (.exit 0) { fr:=[(3,.own 10000 0)],tab:=[(10000,.sl yI ((r.map ak.dec).map ak.enc) 0)] }) (fun _ i _ hi=>?_) (fun _ _=>?_) () 0 (Int.le_refl _) (by omega) trivial K q (by assumption)
   .exact main
   .refine .inl ⟨(),trivial,fun K=>?_,fun K=>rfl⟩
    rw [aa1]
    have hl:(((r.take i).map ak.dec).map ak.enc).length=i:=by simp; omega
    have ht:=YX hi
    have hs:=NW h5 hi
    simp (disch:=omega) only [evs,Int.toNat_natCast,jE,Ey,hs,hl]
    rw [<- ht]
    try rfl
   .refine ⟨.exit 0,_,by simp,fun K=>?_,fun K=>rfl⟩
    rw [aa1]
    simp (disch:=omega) only [evs,Int.toNat_natCast,List.take_length]
  .cases h
 .refine (al5 l).trans ?_
  have hp:jD l=true:=hp
  obtain ⟨_,h1,h2⟩:=qj hp
  show _=some (⟨.slc yI (l.map ak.enc),[],[]⟩:aJ)
  simp only [List.length_map,bT,beq_self_eq_true,cond_true,h1,h2]
namespace N
end N
def al6:fK:={ fr:=[(2,.ptr 10000 0 0),(4,.ptr 10001 0 0),(9,.slc yI),(10,.int .i64),(11,.int .i64)],tab:=[(10000,.var [.slc yI]),(10001,.var [.slc yI])] }
def anL:List Leaf->(Ex->St->Option R)->Option R
 | [.r r,.i n,.i i,.r z,.r a],K=>cond (n==r.length) (cond (i==0) (cond (Nat.beq a.length 0) (cond (Nat.ble r.length 300) (cond ((r.map ak.dec).all eX)
   (cond ((N.tN [] (r.map ak.dec)).2==0) (K (.exit 0) { fr:=[(2,.ptr 10000 0 0 0),(4,.ptr 10001 0 0 0)],tab:=[(10000,.var [.slc yI z]),(10001,.var [.slc yI ((N.tN [] (r.map ak.dec)).1.map ak.enc)])] })
    (K .ret { fr:=[(2,.ptr 10000 0 0 0),(3,.int .i64 (N.tN [] (r.map ak.dec)).2)],tab:=[(10000,.var [.slc yI []])] })) none) none) none) none) none
 | _,_=>none
noncomputable def agw:Env:={ env Tryz.prog [(127,afW)] [(3,dO al6 anL)] [(3,[(0,[2,4,9,10,11]),(1,[2,4]),(1000,[2,3])])] with fz:=true }
theorem anM (l:List aO):bV agw 149 ((aT (qw ak)).enc l) ([]) some =
 cond ((↑(List.length (List.map (aj.enc ak) l)):Int)==(↑(List.length (List.map (aj.enc ak) l)):Int)) (cond (Nat.ble (List.length (List.map (aj.enc ak) l)) 300) (cond (List.all (List.map (aj.dec ak) (List.map (aj.enc ak) l)) eX) (cond (Prod.snd (N.tN [] (List.map (aj.dec ak) (List.map (aj.enc ak) l)))==0) (some {v:=.jc [V.agg [V.slc yI (List.map (aj.enc ak) (Prod.fst (N.tN [] (List.map (aj.dec ak) (List.map (aj.enc ak) l)))))],.int .i64 0],bx:=[]:aJ}) (some {v:=.jc [V.agg [V.slc yI []],.int .i64 (Prod.snd (N.tN [] (List.map (aj.dec ak) (List.map (aj.enc ak) l))))],bx:=[]:aJ})) none) none) none:=by kernel_rfl
theorem YZ (r:List (List V)) (n i:Int) (z a:List (List V)) (K:Ex->St->Option R):type_of% (by
  have h:bI agw 149 3 { fr:=[(2,.ptr 10000 0 0 0),(4,.ptr 10001 0 0 0),(9,.slc yI r),(10,.int .i64 n),(11,.int .i64 i)],tab:=[(10000,.var [.slc yI z]),(10001,.var [.slc yI a])] } K =(
   let z0:=(N.kU (List.map (aj.dec ak) a) (ak.dec (List.getD r (Int.toNat i) [])));cond (aU i n) (cond (decide (0<=i∧i<(↑(List.length r):Int))) (cond (bif Nat.ble (List.length (List.map (aj.dec ak) a)) 1000 then eX (ak.dec (List.getD r (Int.toNat i) [])) else false) (cond (Prod.snd z0 != 0) (K .ret {fr:=[(2,.ptr 10000 0 0 0),(3,.int .i64 z0.2)],tab:=[(10000,.var [V.slc yI []])]:St}) (K .normal {fr:=[(2,.ptr 10000 0 0 0),(4,.ptr 10001 0 0 0),(9,.slc yI r),(10,.int .i64 n),(11,.int .i64 (IntKind.wrap .i64 (i+1)))],tab:=[(10000,.var [V.slc yI z]),(10001,.var [V.slc yI (List.map (aj.enc ak) z0.1)])]:St})) none) none) (K (.exit 0) {fr:=[(2,.ptr 10000 0 0 0),(4,.ptr 10001 0 0 0)],tab:=[(10000,.var [V.slc yI z]),(10001,.var [V.slc yI a])]:St})):=by kernel_rfl
  dsimp only at h;exact h):=by kernel_rfl
def anN:Den:=den (aT (qw ak)) dV (vF (bg (bJ gY) (aT (dA .i64)))) (fun l _=>cond (Nat.ble l.length 300) (l.all eX) false) fun l _=>(N.tN [] l,())
theorem agx (l:List aO) (x:aO):(N.kU l x).1.length<=l.length+1:=by
 unfold N.kU
 cases N.mX l x.aY != 0<;>simp
theorem ajc:dM agw 149 3:=by
 refine bn rfl fun l K q h=>?_
 unfold anL at h
 split at h
 .rename_i r n i z a
  replace h:=EY h;obtain ⟨h1,h2,h3,h4,h5,h⟩:=h
  have e1:=aZ h1
  have e2:=aZ h2
  have e3:=List.eq_nil_of_length_eq_zero (kT h3)
  subst e1 e2 e3
  have h4:r.length<=300:=aV h4
  have main:=dH (E:=agw) (f:=149) (id:=3) (A:=List aO) r (fun acc i=>{ fr:=[(2,.ptr 10000 0 0 0),(4,.ptr 10001 0 0 0),(9,.slc yI r),(10,.int .i64 r.length),(11,.int .i64 i)],tab:=[(10000,.var [.slc yI z]),(10001,.var [.slc yI (acc.map ak.enc)])] })
   (fun acc i=>acc.length<=i)
   (fun acc rows K=>cond ((N.tN acc (rows.map ak.dec)).2==0) (K (.exit 0) { fr:=[(2,.ptr 10000 0 0 0),(4,.ptr 10001 0 0 0)],tab:=[(10000,.var [.slc yI z]),(10001,.var [.slc yI ((N.tN acc (rows.map ak.dec)).1.map ak.enc)])] })
    (K .ret { fr:=[(2,.ptr 10000 0 0 0),(3,.int .i64 (N.tN acc (rows.map ak.dec)).2)],tab:=[(10000,.var [.slc yI []])] })) (fun acc i ha hi=>?_) (fun acc _=>?_) [] 0 (Int.le_refl _) (by omega) (Nat.zero_le _) K q (by assumption)
  .exact main
  .have hs:=NW h5 hi
   have e:N.tN acc ((r.getD i []::r.drop (i+1)).map ak.dec)=cond ((N.kU acc (ak.dec (r.getD i []))).2 != 0) ([],(N.kU acc (ak.dec (r.getD i []))).2) (N.tN (N.kU acc (ak.dec (r.getD i []))).1 ((r.drop (i+1)).map ak.dec)):=rfl
   rw [e]
   cases hc:(N.kU acc (ak.dec (r.getD i []))).2 != 0 with
   | true =>
    have hz:((N.kU acc (ak.dec (r.getD i []))).2==0)=false:=by rw [bne] at hc; simpa using hc
    refine .inr ⟨.ret,{ fr:=[(2,.ptr 10000 0 0 0),(3,.int .i64 (N.kU acc (ak.dec (r.getD i []))).2)],tab:=[(10000,.var [.slc yI []])] },by simp,fun K=>?_,fun K=>?_⟩
    .rw [YZ]
     simp (disch:=omega) only [evs,Int.toNat_natCast,jE,bT,hs,hc]
    .simp only [cond_true,hz,cond_false]
   | false =>
    have hp:=agx acc (ak.dec (r.getD i []))
    refine .inl ⟨(N.kU acc (ak.dec (r.getD i []))).1,by omega,fun K=>?_,fun K=>rfl⟩
    rw [YZ]
    simp (disch:=omega) only [evs,Int.toNat_natCast,jE,bT,hs,hc]
  .refine ⟨.exit 0,_,by simp,fun K=>?_,fun K=>rfl⟩
   rw [YZ]
   simp (disch:=omega) only [evs]
   try rfl
 .cases h
theorem al7:bH Tryz.prog 149 anN:=by
 refine aN (aQ ((gu.nil _).cons aaU)) (E:=agw) Tryz.func149 [3] (by kernel_rfl) (one1 ajc) fun l _ hp=>?_
 obtain ⟨h1,h2⟩:=aX hp
 have h1:Nat.ble l.length 300=true:=h1
 have h2:l.all eX=true:=h2
 refine (anM l).trans ?_
 show _=some (⟨.jc [.agg (gY.enc (N.tN [] l).1),.int .i64 (N.tN [] l).2],[],[]⟩:aJ)
 simp only [List.length_map,bT,h1,h2,beq_self_eq_true,cond_true]
 cases hc:(N.tN [] l).2==0 with
 | true=>rw [aZ hc]; rfl
 | false =>
  have hb:=aaN l [] (fun e=>by rw [e] at hc; cases hc)
  rw [hb]; rfl
end Go.Ev

namespace Go.Ev
open Go Go.Proofs
set_option maxRecDepth 100000
-- FOLD
def N.geE (id:Int) (l:List aO) (e:Int):Int:=cond (cond (e==0) (l.any fun y=>bW id y.aY.id) false) 13 e
def akq:Den:=den (bg (qw ak) (aT (bJ ak))) dV (vF (bg (qw ak) (aT (dA .i64)))) (fun a _=>Nat.ble a.1.length 1000) fun a _=>(N.uU a.1 a.2,())
def agz:Den:=den (bg (qw ak) (aT (qw ak))) dV (oV lC) (fun a _=>jD a.1) fun a _=>(N.sO a.1 a.2,())
def anO:Den:=den (aT (qw ak)) dV (vF (bg (qw ak) (aT (dA .i64)))) (fun l _=>Nat.ble l.length 300) fun l _=>(N.Jk [] l,())
def ajd:fK:={ fr:=[(0,.slc yI),(3,.ptr 10000 0 0),(6,.int .i64),(13,.slc yI),(14,.int .i64),(15,.int .i64)],tab:=[(10000,.var [.int .u64,.str,.str,.slc yP,.str,.int .u64,.int .u8,.bool,.bool])] }
def akr:List Leaf->(Ex->St->Option R)->Option R
 | [.r l0,.i e,.r r,.i n,.i i,.i id,.s s1,.s s2,.r hd,.s s3,.i due,.i hops,.b b1,.b b2],K=>cond (n==r.length) (cond (i==0) (cond (Nat.ble r.length 1000)
   (K (.exit 0) { fr:=[(0,.slc yI l0),(3,.ptr 10000 0 0 0),(6,.int .i64 (N.geE id (r.map ak.dec) e))],tab:=[(10000,.var [.int .u64 id,.str s1,.str s2,.slc yP hd,.str s3,.int .u64 due,.int .u8 hops,.bool b1,.bool b2])] }) none) none) none
 | _,_=>none
noncomputable def Wj:Env:=env Tryz.prog [(12,lH)] [(3,dO ajd akr)] [(3,[(0,[0,3,6,13,14,15]),(1,[0,3,6]),(1000,[4,5])])]
theorem al8 (l:List aO) (x:aO):type_of% (by
  have h:bV Wj 187 ((bg (qw ak) (aT (bJ ak))).enc (l,x)) ([]) some =(
   let z4:=(au.id x.aY);let z1:=(List.map (aj.enc ak) l);let z5:=(List.map (aj.dec ak) z1);let z3:=(List.map yE (au.head x.aY));let z2:=(N.aP {id:=au.id x.aY,bZ:=au.bZ x.aY,key:=au.key x.aY,head:=List.map yD z3,body:=au.body x.aY,due:=au.due x.aY,hops:=au.hops x.aY:au});let z0:=(cond (N.geE z4 z5 z2 != 0) (some {v:=.jc [V.slc yI z1,.int .i64 (N.geE z4 z5 z2)],bx:=[]:aJ}) (cond (decide (List.length z1*104<=140737488355328)) (cond (decide ((List.length z1+1)*104<=140737488355328)) (some {v:=.jc [V.slc yI (List.map (aj.enc ak) l++[[V.int .u64 z4,.str (au.bZ x.aY),.str (au.key x.aY),.slc yP z3,.str (au.body x.aY),.int .u64 (au.due x.aY),.int .u8 (au.hops x.aY),.bool x.iT,.bool x.again]]),.int .i64 0],bx:=[]:aJ}) none) none));cond ((↑(List.length z1):Int)==(↑(List.length z1):Int)) (cond (Nat.ble (List.length z1) 1000) (cond (N.geE z4 z5 z2==0) (cond (bW 64 (↑(List.length z1):Int)) (some {v:=.jc [V.slc yI z1,.int .i64 12],bx:=[]:aJ}) z0) z0) none) none):=by kernel_rfl
  dsimp only at h;exact h):=by kernel_rfl
theorem aa3 (l0:List (List V)) (e:Int) (r:List (List V)) (n i id:Int) (s1 s2:Bytes) (hd:List (List V)) (s3:Bytes) (due hops:Int) (b1 b2:Bool) (K:Ex->St->Option R):type_of% (by
  have h:bI Wj 187 3 { fr:=[(0,.slc yI l0),(3,.ptr 10000 0 0 0),(6,.int .i64 e),(13,.slc yI r),(14,.int .i64 n),(15,.int .i64 i)],tab:=[(10000,.var [.int .u64 id,.str s1,.str s2,.slc yP hd,.str s3,.int .u64 due,.int .u8 hops,.bool b1,.bool b2])] } K =(
   let z0:=(K .normal {fr:=[(0,.slc yI l0),(3,.ptr 10000 0 0 0),(6,.int .i64 e),(13,.slc yI r),(14,.int .i64 n),(15,.int .i64 (IntKind.wrap .i64 (i+1)))],tab:=[(10000,.var [V.int .u64 id,.str s1,.str s2,.slc yP hd,.str s3,.int .u64 due,.int .u8 hops,.bool b1,.bool b2])]:St});cond (aU i n) (cond (decide (0<=i∧i<(↑(List.length r):Int))) (cond (e==0) (cond (bW id (V.toInt (List.getD (List.getD r (Int.toNat i) []) 0 V.undef))) (K .normal {fr:=[(0,.slc yI l0),(3,.ptr 10000 0 0 0),(6,.int .i64 13),(13,.slc yI r),(14,.int .i64 n),(15,.int .i64 (IntKind.wrap .i64 (i+1)))],tab:=[(10000,.var [V.int .u64 id,.str s1,.str s2,.slc yP hd,.str s3,.int .u64 due,.int .u8 hops,.bool b1,.bool b2])]:St}) z0) z0) none) (K (.exit 0) {fr:=[(0,.slc yI l0),(3,.ptr 10000 0 0 0),(6,.int .i64 e)],tab:=[(10000,.var [V.int .u64 id,.str s1,.str s2,.slc yP hd,.str s3,.int .u64 due,.int .u8 hops,.bool b1,.bool b2])]:St})):=by kernel_rfl
  dsimp only at h;exact h):=by kernel_rfl
theorem agA:dM Wj 187 3:=by
 refine bn rfl fun l K q h=>?_
 unfold akr at h
 split at h
 .rename_i l0 e r n i id s1 s2 hd s3 due hops b1 b2
  replace h:=RH h;obtain ⟨h1,h2,h3,h⟩:=h
  have e1:=aZ h1
  have e2:=aZ h2
  subst e1 e2
  have h3:r.length<=1000:=aV h3
  have main:=dH (E:=Wj) (f:=187) (id:=3) (A:=Int) r (fun e i=>{ fr:=[(0,.slc yI l0),(3,.ptr 10000 0 0 0),(6,.int .i64 e),(13,.slc yI r),(14,.int .i64 r.length),(15,.int .i64 i)],tab:=[(10000,.var [.int .u64 id,.str s1,.str s2,.slc yP hd,.str s3,.int .u64 due,.int .u8 hops,.bool b1,.bool b2])] }) (fun _ _=>True)
   (fun e rows K=>K (.exit 0) { fr:=[(0,.slc yI l0),(3,.ptr 10000 0 0 0),(6,.int .i64 (N.geE id (rows.map ak.dec) e))],tab:=[(10000,.var [.int .u64 id,.str s1,.str s2,.slc yP hd,.str s3,.int .u64 due,.int .u8 hops,.bool b1,.bool b2])] }) (fun e i _ hi=>?_) (fun e _=>?_) e 0 (Int.le_refl _) (by omega) trivial K q (by assumption)
  .exact main
  .refine .inl ⟨cond (cond (e==0) (bW id (ak.dec (r.getD i [])).aY.id) false) 13 e,trivial,fun K=>?_,fun K=>?_⟩
   .rw [aa3]
    have hm:V.toInt (List.getD (List.getD r i []) 0 V.undef)=(ak.dec (r.getD i [])).aY.id:=rfl
    simp (disch:=omega) only [evs,Int.toNat_natCast,hm]
    cases e==0 with
    | false=>rfl
    | true=>cases bW id (ak.dec (r.getD i [])).aY.id<;>rfl
   .have he:N.geE id ((r.getD i []::r.drop (i+1)).map ak.dec) e=N.geE id ((r.drop (i+1)).map ak.dec) (cond (cond (e==0) (bW id (ak.dec (r.getD i [])).aY.id) false) 13 e):=by
     unfold N.geE
     rw [List.map_cons,List.any_cons]
     cases hz:e==0 with
     | false=>simp only [cond_false,hz]
     | true =>
      cases bW id (ak.dec (r.getD i [])).aY.id with
      | true=>rfl
      | false=>simp only [cond_true,cond_false,hz,Bool.false_or]
    rw [he]
  .have he:N.geE id (([]:List (List V)).map ak.dec) e=e:=by
    unfold N.geE
    cases e==0<;>rfl
   refine ⟨.exit 0,{ fr:=[(0,.slc yI l0),(3,.ptr 10000 0 0 0),(6,.int .i64 (e))],tab:=[(10000,.var [.int .u64 id,.str s1,.str s2,.slc yP hd,.str s3,.int .u64 due,.int .u8 hops,.bool b1,.bool b2])] },by simp,fun K=>?_,fun K=>by rw [he]⟩
   rw [aa3]
   simp (disch:=omega) only [evs]
 .cases h
noncomputable def aa4:Env:=env Tryz.prog [(25,Ic)] [] []
theorem agB (a b:aO):bV aa4 56 ((bg (bJ ak) (aT (bJ ak))).enc (a,b)) ([]) some =
 cond (iQ {id:=au.id a.aY,bZ:=au.bZ a.aY,key:=au.key a.aY,head:=List.map yD (List.map yE (au.head a.aY)),body:=au.body a.aY,due:=au.due a.aY,hops:=au.hops a.aY:au}) (cond (N.lU {id:=au.id a.aY,bZ:=au.bZ a.aY,key:=au.key a.aY,head:=List.map yD (List.map yE (au.head a.aY)),body:=au.body a.aY,due:=au.due a.aY,hops:=au.hops a.aY:au} {id:=au.id b.aY,bZ:=au.bZ b.aY,key:=au.key b.aY,head:=List.map yD (List.map yE (au.head b.aY)),body:=au.body b.aY,due:=au.due b.aY,hops:=au.hops b.aY:au}) (cond (aO.iT a==aO.iT b) (some {v:=.bool (aO.again a==aO.again b),bx:=[]:aJ}) (some {v:=.bool false,bx:=[]:aJ})) (some {v:=.bool false,bx:=[]:aJ})) none:=by kernel_rfl
theorem acM:bH Tryz.prog 56 agf:=by
 refine aN (aQ ((gu.nil _).cons Ba)) (E:=aa4) Tryz.func56 [] (by kernel_rfl) none0 fun a _ h=>?_
 obtain ⟨a,b⟩:=a
 have h:iQ a.aY=true:=h
 refine (agB a b).trans ?_
 show _=some (⟨.bool (N.DJ a b),[],[]⟩:aJ)
 unfold N.DJ
 simp only [zB,h,cond_true]
 cases N.lU a.aY b.aY<;>cases a.iT==b.iT<;>rfl
def agC:fK:={ fr:=[(0,.slc yI),(1,.slc yI),(12,.int .i64),(13,.int .i64)],tab:=[] }
def agD:List Leaf->(Ex->St->Option R)->Option R
 | [.r r,.r r1,.i n,.i i],K=>cond (n==r.length) (cond (i==0) (cond (Nat.beq r.length r1.length) (cond (Nat.ble r.length 1000) (cond ((r.map ak.dec).all eX)
   (cond (N.sO (r.map ak.dec) (r1.map ak.dec)) (K (.exit 0) { fr:=[],tab:=[] }) (K .ret { fr:=[(4,.bool false)],tab:=[] })) none) none) none) none) none
 | _,_=>none
noncomputable def Bq:Env:=env Tryz.prog [(56,agf)] [(4,dO agC agD)] [(4,[(0,[0,1,12,13]),(1,[]),(1000,[4])])]
theorem acN (a b:List aO):bV Bq 85 ((bg (qw ak) (aT (qw ak))).enc (a,b)) ([]) some =
 cond ((↑(List.length (List.map (aj.enc ak) a)):Int) != (↑(List.length (List.map (aj.enc ak) b)):Int)) (some {v:=.bool false,bx:=[]:aJ}) (cond ((↑(List.length (List.map (aj.enc ak) a)):Int)==(↑(List.length (List.map (aj.enc ak) a)):Int)) (cond (Nat.beq (List.length (List.map (aj.enc ak) a)) (List.length (List.map (aj.enc ak) b))) (cond (Nat.ble (List.length (List.map (aj.enc ak) a)) 1000) (cond (List.all (List.map (aj.dec ak) (List.map (aj.enc ak) a)) eX) (cond (N.sO (List.map (aj.dec ak) (List.map (aj.enc ak) a)) (List.map (aj.dec ak) (List.map (aj.enc ak) b))) (some {v:=.bool true,bx:=[]:aJ}) (some {v:=.bool false,bx:=[]:aJ})) none) none) none) none):=by kernel_rfl
theorem Ez (r r1:List (List V)) (n i:Int) (K:Ex->St->Option R):bI Bq 85 4 { fr:=[(0,.slc yI r),(1,.slc yI r1),(12,.int .i64 n),(13,.int .i64 i)],tab:=[] } K =
 cond (aU i n) (cond (decide (0<=i∧i<(↑(List.length r):Int))) (cond (decide (0<=i∧i<(↑(List.length r1):Int))) (cond (eX (ak.dec (List.getD r (Int.toNat i) []))) (cond (!N.DJ (ak.dec (List.getD r (Int.toNat i) [])) (ak.dec (List.getD r1 (Int.toNat i) []))) (K .ret {fr:=[(4,.bool false)],tab:=[]:St}) (K .normal {fr:=[(0,.slc yI r),(1,.slc yI r1),(12,.int .i64 n),(13,.int .i64 (IntKind.wrap .i64 (i+1)))],tab:=[]:St})) none) none) none) (K (.exit 0) {fr:=[],tab:=[]:St}):=by kernel_rfl
theorem acO:dM Bq 85 4:=by
 refine bn rfl fun l K q h=>?_
 unfold agD at h
 split at h
 .rename_i r r1 n i
  replace h:=EY h;obtain ⟨h1,h2,h3,h4,h5,h⟩:=h
  have e1:=aZ h1
  have e2:=aZ h2
  have e3:=kT h3
  subst e1 e2
  have h4:r.length<=1000:=aV h4
  refine dN (E:=Bq) (f:=85) (id:=4) (σ:=Nat) (fun i=>{ fr:=[(0,.slc yI r),(1,.slc yI r1),(12,.int .i64 r.length),(13,.int .i64 i)],tab:=[] }) (fun i=>i<=r.length) (fun i=>r.length-i)
   (fun i K=>cond (N.sO ((r.drop i).map ak.dec) ((r1.drop i).map ak.dec)) (K (.exit 0) { fr:=[],tab:=[] }) (K .ret { fr:=[(4,.bool false)],tab:=[] })) (fun i hi=>?_) 0 (Nat.zero_le _) K q (by assumption)
  by_cases hl:i<r.length
  .rw [Dk hl,Dk (show i<r1.length by omega),YS]
   have hs:=NW h5 hl
   cases hc:N.DJ (ak.dec (r.getD i [])) (ak.dec (r1.getD i [])) with
   | true =>
    refine .inl ⟨i+1,hl,by omega,fun K=>?_,fun K=>rfl⟩
    rw [Ez]
    simp (disch:=omega) only [evs,Int.toNat_natCast,jE,hs,hc,Bool.not_true]
    try rfl
   | false =>
    refine .inr ⟨.ret,{ fr:=[(4,.bool false)],tab:=[] },by simp,fun K=>?_,fun K=>rfl⟩
    rw [Ez]
    simp (disch:=omega) only [evs,Int.toNat_natCast,jE,hs,hc,Bool.not_false]
  .refine .inr ⟨.exit 0,{ fr:=[],tab:=[] },by simp,fun K=>?_,fun K=>?_⟩
   .rw [Ez]
    simp (disch:=omega) only [evs]
   .rw [List.drop_eq_nil_of_le (show r.length<=i by omega),List.drop_eq_nil_of_le (show r1.length<=i by omega)]; rfl
 .cases h
theorem Y0:bH Tryz.prog 85 agz:=by
 refine aN (aQ ((gu.nil _).cons acM)) (E:=Bq) Tryz.func85 [4] (by kernel_rfl) (one1 acO) fun a _ h=>?_
 obtain ⟨a,b⟩:=a
 have h:jD a=true:=h
 obtain ⟨h0,h2,h3⟩:=qj h
 refine (acN a b).trans ?_
 show _=some (⟨.bool (N.sO a b),[],[]⟩:aJ)
 by_cases hl:a.length=b.length
 .simp (disch:=omega) only [evs,bT,hl,h3,Nat.beq_refl]
  cases N.sO a b<;>rfl
 .rw [QD _ _ hl]
  simp (disch:=omega) only [evs]
def al9:fK:={ fr:=[(4,.slc yI),(9,.slc yI),(10,.int .i64),(11,.int .i64)],tab:=[] }
def anP:List Leaf->(Ex->St->Option R)->Option R
 | [.r a,.r r,.i n,.i i],K=>cond (n==r.length) (cond (i==0) (cond (Nat.beq a.length 0) (cond (Nat.ble r.length 300)
   (cond ((N.Jk [] (r.map ak.dec)).2==0) (K (.exit 0) { fr:=[(4,.slc yI ((N.Jk [] (r.map ak.dec)).1.map ak.enc))],tab:=[] })
    (K .ret { fr:=[(2,.slc yI []),(3,.int .i64 (N.Jk [] (r.map ak.dec)).2)],tab:=[] })) none) none) none) none
 | _,_=>none
noncomputable def agE:Env:={ env Tryz.prog [(187,akq)] [(3,dO al9 anP)] [(3,[(0,[4,9,10,11]),(1,[4]),(1000,[2,3])])] with fy:=true }
theorem anQ (l:List aO):bV agE 155 ((aT (qw ak)).enc l) ([]) some =
 cond ((↑(List.length (List.map (aj.enc ak) l)):Int)==(↑(List.length (List.map (aj.enc ak) l)):Int)) (cond (Nat.ble (List.length (List.map (aj.enc ak) l)) 300) (cond (Prod.snd (N.Jk [] (List.map (aj.dec ak) (List.map (aj.enc ak) l)))==0) (some {v:=.jc [V.slc yI (List.map (aj.enc ak) (Prod.fst (N.Jk [] (List.map (aj.dec ak) (List.map (aj.enc ak) l))))),.int .i64 0],bx:=[]:aJ}) (some {v:=.jc [V.slc yI [],.int .i64 (Prod.snd (N.Jk [] (List.map (aj.dec ak) (List.map (aj.enc ak) l))))],bx:=[]:aJ})) none) none:=by kernel_rfl
theorem Y1 (a r:List (List V)) (n i:Int) (K:Ex->St->Option R):type_of% (by
  have h:bI agE 155 3 { fr:=[(4,.slc yI a),(9,.slc yI r),(10,.int .i64 n),(11,.int .i64 i)],tab:=[] } K =(
   let z0:=(N.uU (List.map (aj.dec ak) a) (ak.dec (List.getD r (Int.toNat i) [])));cond (aU i n) (cond (decide (0<=i∧i<(↑(List.length r):Int))) (cond (Nat.ble (List.length (List.map (aj.dec ak) a)) 1000) (cond (Prod.snd z0 != 0) (K .ret {fr:=[(2,.slc yI []),(3,.int .i64 z0.2)],tab:=[]:St}) (K .normal {fr:=[(4,.slc yI (List.map (aj.enc ak) z0.1)),(9,.slc yI r),(10,.int .i64 n),(11,.int .i64 (IntKind.wrap .i64 (i+1)))],tab:=[]:St})) none) none) (K (.exit 0) {fr:=[(4,.slc yI a)],tab:=[]:St})):=by kernel_rfl
  dsimp only at h;exact h):=by kernel_rfl
theorem agF (l:List aO) (x:aO):(N.uU l x).1.length<=l.length+1:=by
 unfold N.uU
 cases N.rRc l x.aY != 0<;>simp
theorem aa5:∀ (r acc:List aO),(N.Jk acc r).2 ≠ 0->(N.Jk acc r).1=[]
 | [],_,h=>absurd rfl h
 | x::r,acc,h=>by
  unfold N.Jk at h ⊢
  cases hc:(N.uU acc x).2 != 0 with
  | true=>rfl
  | false=>rw [hc] at h; exact aa5 r _ h
theorem aje:bH Tryz.prog 187 akq:=by
 refine aN (aQ ((gu.nil _).cons tH)) (E:=Wj) Tryz.func187 [3] (by kernel_rfl) (one1 agA) fun a _ h=>?_
 obtain ⟨l,x⟩:=a
 have h1:Nat.ble l.length 1000=true:=h
 have h2:l.length<=1000:=aV h1
 refine (al8 l x).trans ?_
 show _=some (⟨.jc [.slc yI ((N.uU l x).1.map ak.enc),.int .i64 (N.uU l x).2],[],[]⟩:aJ)
 simp only [zB,bT,List.length_map,h1,beq_self_eq_true,cond_true]
 unfold N.uU N.rRc N.geE
 cases hc:N.aP x.aY != 0 with
 | true =>
  have hz:(N.aP x.aY==0)=false:=by rw [bne] at hc; simpa using hc
  simp (disch:=omega) only [evs,hz,hc]
 | false =>
  have hz:N.aP x.aY=0:=by simpa using hc
  rw [hz]
  cases ha:l.any fun y=>bW x.aY.id y.aY.id with
  | true=>simp (disch:=omega) only [evs,ha]
  | false =>
   by_cases h64:64<=l.length
   .simp (disch:=omega) only [evs,ha]
   .simp (disch:=omega) only [evs,ha,gB,rM]
    rw [show List.map ak.enc l++[ak.enc x]=List.map ak.enc (l++[x]) by simp]
theorem ajf:dM agE 155 3:=by
 refine bn rfl fun l K q h=>?_
 unfold anP at h
 split at h
 .rename_i a r n i
  replace h:=Z4 h;obtain ⟨h1,h2,h3,h4,h⟩:=h
  have e1:=aZ h1
  have e2:=aZ h2
  have e3:=List.eq_nil_of_length_eq_zero (kT h3)
  subst e1 e2 e3
  have h4:r.length<=300:=aV h4
  have main:=dH (E:=agE) (f:=155) (id:=3) (A:=List aO) r (fun acc i=>{ fr:=[(4,.slc yI (acc.map ak.enc)),(9,.slc yI r),(10,.int .i64 r.length),(11,.int .i64 i)],tab:=[] })
   (fun acc i=>acc.length<=i)
   (fun acc rows K=>cond ((N.Jk acc (rows.map ak.dec)).2==0) (K (.exit 0) { fr:=[(4,.slc yI ((N.Jk acc (rows.map ak.dec)).1.map ak.enc))],tab:=[] })
    (K .ret { fr:=[(2,.slc yI []),(3,.int .i64 (N.Jk acc (rows.map ak.dec)).2)],tab:=[] })) (fun acc i ha hi=>?_) (fun acc _=>?_) [] 0 (Int.le_refl _) (by omega) (Nat.zero_le _) K q (by assumption)
  .exact main
  .have e:N.Jk acc ((r.getD i []::r.drop (i+1)).map ak.dec)=cond ((N.uU acc (ak.dec (r.getD i []))).2 != 0) ([],(N.uU acc (ak.dec (r.getD i []))).2) (N.Jk (N.uU acc (ak.dec (r.getD i []))).1 ((r.drop (i+1)).map ak.dec)):=rfl
   rw [e]
   cases hc:(N.uU acc (ak.dec (r.getD i []))).2 != 0 with
   | true =>
    have hz:((N.uU acc (ak.dec (r.getD i []))).2==0)=false:=by rw [bne] at hc; simpa using hc
    refine .inr ⟨.ret,{ fr:=[(2,.slc yI []),(3,.int .i64 (N.uU acc (ak.dec (r.getD i []))).2)],tab:=[] },by simp,fun K=>?_,fun K=>?_⟩
    .rw [Y1]
     simp (disch:=omega) only [evs,Int.toNat_natCast,jE,bT,hc]
    .simp only [cond_true,hz,cond_false]
   | false =>
    have hp:=agF acc (ak.dec (r.getD i []))
    refine .inl ⟨(N.uU acc (ak.dec (r.getD i []))).1,by omega,fun K=>?_,fun K=>rfl⟩
    rw [Y1]
    simp (disch:=omega) only [evs,Int.toNat_natCast,jE,bT,hc]
  .refine ⟨.exit 0,_,by simp,fun K=>?_,fun K=>rfl⟩
   rw [Y1]
   simp (disch:=omega) only [evs]
   try rfl
 .cases h
theorem ama:bH Tryz.prog 155 anO:=by
 refine aN (aQ ((gu.nil _).cons aje)) (E:=agE) Tryz.func155 [3] (by kernel_rfl) (one1 ajf) fun l _ hp=>?_
 have h1:Nat.ble l.length 300=true:=hp
 refine (anQ l).trans ?_
 show _=some (⟨.jc [.slc yI ((N.Jk [] l).1.map ak.enc),.int .i64 (N.Jk [] l).2],[],[]⟩:aJ)
 simp only [List.length_map,bT,h1,beq_self_eq_true,cond_true]
 cases hc:(N.Jk [] l).2==0 with
 | true=>rw [aZ hc]; rfl
 | false =>
  have hb:=aa5 l [] (fun e=>by rw [e] at hc; cases hc)
  rw [hb]; rfl
end Go.Ev

namespace Go.Ev
open Go Go.Proofs
set_option maxRecDepth 100000
-- FOLD
noncomputable def aks:Env:=env Tryz.prog [(49,afX),(51,aga),(71,agb),(46,TB),(166,mJ)] [] []
theorem amb  : bV aks 109 [] [] some =
 some {v:=.bool true,bx:=[]:aJ}:=by kernel_rfl
theorem ajg (hN:bH Tryz.prog 95 fP):bH Tryz.prog 109 mJ :=
 aN (aQ ((((((gu.nil _).cons (VK hN)).cons QF).cons agp).cons agn).cons aaZ)) (E:=aks) Tryz.func109 [] (by kernel_rfl) none0 fun _ _ _=>amb
def Y2 (r:List V):List V:=[V.int .u64 (V.toInt (List.getD r 0 .undef)),V.str (V.toStr (List.getD r 1 .undef)),V.str (V.toStr (List.getD r 2 .undef)),V.slc yP (V.toRows (List.getD r 3 .undef)),V.str (V.toStr (List.getD r 4 .undef)),V.int .u64 (V.toInt (List.getD r 5 .undef)),V.int .u8 (V.toInt (List.getD r 6 .undef)),V.bool (V.toBool (List.getD r 7 .undef)),V.bool (V.toBool (List.getD r 8 .undef))]
def N.qI (r:List (List V)):List (List V):=r.map Y2
theorem Wn (r:List V):[V.int .u64 (V.toInt (List.getD r 0 .undef)),V.str (V.toStr (List.getD r 1 .undef)),V.str (V.toStr (List.getD r 2 .undef)),V.slc yP (V.toRows (List.getD r 3 .undef)),V.str (V.toStr (List.getD r 4 .undef)),V.int .u64 (V.toInt (List.getD r 5 .undef)),V.int .u8 (V.toInt (List.getD r 6 .undef)),V.bool (V.toBool (List.getD r 7 .undef)),V.bool (V.toBool (List.getD r 8 .undef))]=Y2 r:=rfl
theorem Wp (l:List aO):N.qI (l.map ak.enc)=l.map ak.enc:=by
 unfold N.qI
 rw [List.map_map]; rfl
theorem TG {r:List (List V)} {i:Nat} (h:i<r.length):N.qI (r.take (i+1))=N.qI (r.take i)++[Y2 (r.getD i [])]:=by
 unfold N.qI
 rw [List.take_add_one,List.getD_eq_getElem?_getD,List.getElem?_eq_getElem h]
 simp only [Option.toList_some,List.map_append,List.map_cons,List.map_nil,Option.getD_some]
def agG:Den:=den (aT (bJ gY)) dV (oV (qw ak)) (fun l _=>jD l) fun l _=>(l,())
def agH:fK:={ fr:=[(3,.own 10000),(7,.slc yI),(8,.int .i64),(9,.int .i64)],tab:=[(10000,.sl yI)] }
def agI:List Leaf->(Ex->St->Option R)->Option R
 | [.r r,.i n,.i i,.r a],K=>cond (n==r.length) (cond (i==0) (cond (Nat.beq a.length 0) (cond (Nat.ble r.length 1000)
   (K (.exit 0) { fr:=[(3,.own 10000 0)],tab:=[(10000,.sl yI (N.qI r) 0)] }) none) none) none) none
 | _,_=>none
noncomputable def TI:Env:=env Tryz.prog [(97,agd)] [(3,dO agH agI)] [(3,[(0,[3,7,8,9]),(1,[3]),(1000,[2])])]
theorem ajh (l:List aO):bV TI 87 ((aT (bJ gY)).enc l) ([]) some =
 cond (jD (List.map (aj.dec ak) (List.map (aj.enc ak) l))) (cond ((↑(List.length (List.map (aj.enc ak) (List.map (aj.dec ak) (List.map (aj.enc ak) l)))):Int)==(↑(List.length (List.map (aj.enc ak) (List.map (aj.dec ak) (List.map (aj.enc ak) l)))):Int)) (cond (Nat.ble (List.length (List.map (aj.enc ak) (List.map (aj.dec ak) (List.map (aj.enc ak) l)))) 1000) (some {v:=.slc yI (N.qI (List.map (aj.enc ak) (List.map (aj.dec ak) (List.map (aj.enc ak) l)))),bx:=[]:aJ}) none) none) none:=by kernel_rfl
theorem Wq (r:List (List V)) (n i:Int) (a:List (List V)) (K:Ex->St->Option R):bI TI 87 3 { fr:=[(3,.own 10000 0),(7,.slc yI r),(8,.int .i64 n),(9,.int .i64 i)],tab:=[(10000,.sl yI a 0)] } K =
 cond (aU i n) (cond (decide (0<=i∧i<(↑(List.length r):Int))) (cond (decide ((List.length a+1)*104<=140737488355328)) (K .normal {fr:=[(3,.own 10000 0),(7,.slc yI r),(8,.int .i64 n),(9,.int .i64 (IntKind.wrap .i64 (i+1)))],tab:=[(10000,.sl yI (a++[[V.int .u64 (V.toInt (List.getD (List.getD r (Int.toNat i) []) 0 V.undef)),.str (V.toStr (List.getD (List.getD r (Int.toNat i) []) 1 V.undef)),.str (V.toStr (List.getD (List.getD r (Int.toNat i) []) 2 V.undef)),.slc yP (V.toRows (List.getD (List.getD r (Int.toNat i) []) 3 V.undef)),.str (V.toStr (List.getD (List.getD r (Int.toNat i) []) 4 V.undef)),.int .u64 (V.toInt (List.getD (List.getD r (Int.toNat i) []) 5 V.undef)),.int .u8 (V.toInt (List.getD (List.getD r (Int.toNat i) []) 6 V.undef)),.bool (V.toBool (List.getD (List.getD r (Int.toNat i) []) 7 V.undef)),.bool (V.toBool (List.getD (List.getD r (Int.toNat i) []) 8 V.undef))]]) 0)]:St}) none) none) (K (.exit 0) {fr:=[(3,.own 10000 0)],tab:=[(10000,.sl yI a 0)]:St}):=by kernel_rfl
theorem agJ:bH Tryz.prog 87 agG:=by
 refine aN (aQ ((gu.nil _).cons aa2)) (E:=TI) Tryz.func87 [3] (by kernel_rfl) (one1 (bn rfl fun l K q h=>?_)) fun l _ hp=>?_
 .unfold agI at h
  split at h
  .rename_i r n i o
   replace h:=Z4 h;obtain ⟨h1,h2,h3,h4,h⟩:=h
   have e1:=aZ h1
   have e2:=aZ h2
   have e3:=List.eq_nil_of_length_eq_zero (kT h3)
   subst e1 e2 e3
   have h4:r.length<=1000:=aV h4
   have main:=dH (E:=TI) (f:=87) (id:=3) (A:=Unit) r (fun _ i=>{ fr:=[(3,.own 10000 0),(7,.slc yI r),(8,.int .i64 r.length),(9,.int .i64 i)],tab:=[(10000,.sl yI (N.qI (r.take i.toNat)) 0)] }) (fun _ _=>True)
    (fun _ _ K=>K (.exit 0) { fr:=[(3,.own 10000 0)],tab:=[(10000,.sl yI (N.qI r) 0)] }) (fun _ i _ hi=>?_) (fun _ _=>?_) () 0 (Int.le_refl _) (by omega) trivial K q (by assumption)
   .exact main
   .refine .inl ⟨(),trivial,fun K=>?_,fun K=>rfl⟩
    rw [Wq]
    have hl:(N.qI (r.take i)).length=i:=by unfold N.qI; simp; omega
    have ht:=TG hi
    simp (disch:=omega) only [evs,Int.toNat_natCast,Wn,hl]
    rw [<- ht]
    try rfl
   .refine ⟨.exit 0,_,by simp,fun K=>?_,fun K=>rfl⟩
    rw [Wq]
    simp (disch:=omega) only [evs,Int.toNat_natCast,List.take_length]
  .cases h
 .refine (ajh l).trans ?_
  have hp:jD l=true:=hp
  obtain ⟨_,h1,h2⟩:=qj hp
  show _=some (⟨.slc yI (l.map ak.enc),[],[]⟩:aJ)
  simp only [List.length_map,bT,beq_self_eq_true,cond_true,h1,hp,Wp]
theorem Eu.jD {l:List aO} (h:Eu l):Go.Ev.jD l=true:=by
 unfold Go.Ev.jD
 rw [fA (Nat.le_trans h.few (by decide)),h.small]; rfl
end Go.Ev

namespace Go.Ev
open Go
set_option maxRecDepth 100000
structure anR where
 op:Int
 aY:au
namespace N
def act (l:List aO) (a:anR):List aO :=
 cond (Int.tmod a.op 6==2) (QA l).1 (cond (Int.tmod a.op 6==3) (V4 l a.aY.id).1 (cond (Int.tmod a.op 6==4) (oJ l a.aY.id).1 (cond (Int.tmod a.op 6==5) (anA l) (kU l ⟨a.aY,false,false⟩).1)))
def acts:List aO->List anR->List aO
 | l,[]=>l
 | l,a::r=>acts (act l a) r
def rises:List aO->Bool->Int->Bool
 | [],_,_=>true
 | x::r,first,last=>cond (cond first false (bW x.aY.id last)) false (rises r false x.aY.id)
end N
end Go.Ev

namespace Go.Ev
open Go Go.Proofs
set_option maxRecDepth 100000
-- FOLD
end Go.Ev

namespace Go.Ev
open Go Go.Proofs
set_option maxRecDepth 100000
-- FOLD
namespace N
end N
end Go.Ev

namespace Go.Ev
open Go Go.Proofs
set_option maxRecDepth 100000
-- FOLD
end Go.Ev

namespace Go.Ev
open Go
set_option maxRecDepth 100000
def allM (p:au->Bool) (l:List aO):Bool:=l.all fun x=>p x.aY
end Go.Ev

namespace Go.Ev
open Go Go.Proofs
set_option maxRecDepth 100000
-- FOLD
def aa6:Den:=den (aT (qw ak)) dV (oV (dA .i64)) (fun l _=>cond (Nat.ble l.length 1000) (allM N.lJ l) false) fun l _=>(N.jX l,())
def acP:fK:={ fr:=[(3,.int .i64),(6,.slc yI),(7,.int .i64),(8,.int .i64)],tab:=[] }
def aa7:List Leaf->(Ex->St->Option R)->Option R
 | [.i a,.r r,.i n,.i i],K=>cond (n==r.length) (cond (i==0) (cond (a==0) (cond (Nat.ble r.length 1000) (cond (allM N.lJ (r.map ak.dec))
   (K (.exit 0) { fr:=[(3,.int .i64 (N.jX (r.map ak.dec)))],tab:=[] }) none) none) none) none) none
 | _,_=>none
noncomputable def Kq:Env:=env Tryz.prog [(189,Ef)] [(3,dO acP aa7)] [(3,[(0,[3,6,7,8]),(1,[3]),(1000,[2])])]
theorem agK (l:List aO):bV Kq 159 ((aT (qw ak)).enc l) ([]) some =
 cond ((↑(List.length (List.map (aj.enc ak) l)):Int)==(↑(List.length (List.map (aj.enc ak) l)):Int)) (cond (Nat.ble (List.length (List.map (aj.enc ak) l)) 1000) (cond (List.all (List.map (aj.dec ak) (List.map (aj.enc ak) l)) fun x=>N.lJ x.aY) (some {v:=.int .i64 (N.jX (List.map (aj.dec ak) (List.map (aj.enc ak) l))),bx:=[]:aJ}) none) none) none:=by kernel_rfl
theorem QH (a:Int) (r:List (List V)) (n i:Int) (K:Ex->St->Option R):bI Kq 159 3 { fr:=[(3,.int .i64 a),(6,.slc yI r),(7,.int .i64 n),(8,.int .i64 i)],tab:=[] } K =
 cond (aU i n) (cond (decide (0<=i∧i<(↑(List.length r):Int))) (cond (bif N.yF (ah.dec (List.getD r (Int.toNat i) [])) then List.all (List.map yD (V.toRows (List.getD (List.getD r (Int.toNat i) []) 3 V.undef))) N.O1 else false) (K .normal {fr:=[(3,.int .i64 (IntKind.wrap .i64 (a+N.dB (ah.dec (List.getD r (Int.toNat i) []))))),(6,.slc yI r),(7,.int .i64 n),(8,.int .i64 (IntKind.wrap .i64 (i+1)))],tab:=[]:St}) none) none) (K (.exit 0) {fr:=[(3,.int .i64 a)],tab:=[]:St}):=by kernel_rfl
theorem acQ:bH Tryz.prog 159 aa6:=by
 refine aN (aQ ((gu.nil _).cons Bh)) (E:=Kq) Tryz.func159 [3] (by kernel_rfl) (one1 (bn rfl fun l K q h=>?_)) fun l _ hp=>?_
 .unfold aa7 at h
  split at h
  .rename_i a r n i
   replace h:=EY h;obtain ⟨h1,h2,h3,h4,h5,h⟩:=h
   have e1:=aZ h1
   have e2:=aZ h2
   have e3:=aZ h3
   subst e1 e2 e3
   have h4:r.length<=1000:=aV h4
   have main:=dH (E:=Kq) (f:=159) (id:=3) (A:=Int) r (fun a i=>{ fr:=[(3,.int .i64 a),(6,.slc yI r),(7,.int .i64 r.length),(8,.int .i64 i)],tab:=[] }) (fun a i=>0<=a∧a<=1570*i)
    (fun a rows K=>K (.exit 0) { fr:=[(3,.int .i64 (a+N.jX (rows.map ak.dec)))],tab:=[] }) (fun a i ha hi=>?_) (fun a _=>?_) 0 0 (Int.le_refl _) (by omega) ⟨Int.le_refl _,by decide⟩ K q (by rw [Int.zero_add]; exact h)
   .exact main
   .have hb:=lF (ak.dec (r.getD i [])).aY
    have hm:ah.dec (r.getD i [])=(ak.dec (r.getD i [])).aY:=rfl
    have hs:N.lJ (ak.dec (r.getD i [])).aY=true:=List.all_eq_true.1 h5 _ (List.mem_map_of_mem (by rw [List.getD_eq_getElem?_getD,List.getElem?_eq_getElem hi]; exact List.getElem_mem hi))
    refine .inl ⟨a+N.dB (ak.dec (r.getD i [])).aY,⟨by omega,by omega⟩,fun K=>?_,fun K=>?_⟩
    .rw [QH]
     simp (disch:=omega) only [evs,Int.toNat_natCast,nH,hm]
     show cond (N.lJ (ak.dec (r.getD i [])).aY) _ _=_
     rw [hs]; rfl
    .show K _ { fr:=[(3,.int .i64 (a+(N.dB (ak.dec (r.getD i [])).aY+N.jX ((r.drop (i+1)).map ak.dec))))],tab:=[] }=_
     rw [Int.add_assoc]
   .refine ⟨.exit 0,_,by simp,fun K=>?_,fun K=>rfl⟩
    rw [QH]
    simp (disch:=omega) only [evs,List.map_nil]
    show _=K _ { fr:=[(3,.int .i64 (a+0))],tab:=[] }
    rw [Int.add_zero]
  .cases h
 .obtain ⟨h1,h2⟩:=aX hp
  refine (agK l).trans ?_
  show _=some (⟨.int .i64 (N.jX l),[],[]⟩:aJ)
  have h2:_=true:=h2
  unfold allM at h2
  simp only [List.length_map,bT,beq_self_eq_true,cond_true,h1,h2]
def aa8:Den:=den (aT (bJ gY)) dV (oV (dA .i64)) (fun l _=>cond (Nat.ble l.length 1000) (allM N.yF l) false) fun l _=>(N.jX l,())
def acR:fK:={ fr:=[(3,.int .i64),(7,.slc yI),(8,.int .i64),(9,.int .i64)],tab:=[] }
def aa9:List Leaf->(Ex->St->Option R)->Option R
 | [.i a,.r r,.i n,.i i],K=>cond (n==r.length) (cond (i==0) (cond (a==0) (cond (Nat.ble r.length 1000) (cond (allM N.yF (r.map ak.dec))
   (K (.exit 0) { fr:=[(3,.int .i64 (N.jX (r.map ak.dec)))],tab:=[] }) none) none) none) none) none
 | _,_=>none
noncomputable def Kr:Env:=env Tryz.prog [(48,CU)] [(3,dO acR aa9)] [(3,[(0,[3,7,8,9]),(1,[3]),(1000,[2])])]
theorem agL (l:List aO):bV Kr 65 ((aT (bJ gY)).enc l) ([]) some =
 cond ((↑(List.length (List.map (aj.enc ak) l)):Int)==(↑(List.length (List.map (aj.enc ak) l)):Int)) (cond (Nat.ble (List.length (List.map (aj.enc ak) l)) 1000) (cond (List.all (List.map (aj.dec ak) (List.map (aj.enc ak) l)) fun x=>N.yF x.aY) (some {v:=.int .i64 (N.jX (List.map (aj.dec ak) (List.map (aj.enc ak) l))),bx:=[]:aJ}) none) none) none:=by kernel_rfl
theorem QI (a:Int) (r:List (List V)) (n i:Int) (K:Ex->St->Option R):bI Kr 65 3 { fr:=[(3,.int .i64 a),(7,.slc yI r),(8,.int .i64 n),(9,.int .i64 i)],tab:=[] } K =
 cond (aU i n) (cond (decide (0<=i∧i<(↑(List.length r):Int))) (cond (N.yF (ah.dec (List.getD r (Int.toNat i) []))) (K .normal {fr:=[(3,.int .i64 (IntKind.wrap .i64 (a+N.dB (ah.dec (List.getD r (Int.toNat i) []))))),(7,.slc yI r),(8,.int .i64 n),(9,.int .i64 (IntKind.wrap .i64 (i+1)))],tab:=[]:St}) none) none) (K (.exit 0) {fr:=[(3,.int .i64 a)],tab:=[]:St}):=by kernel_rfl
theorem acS (hN:bH Tryz.prog 95 fP):bH Tryz.prog 65 aa8:=by
 refine aN (aQ ((gu.nil _).cons (Bc hN))) (E:=Kr) Tryz.func65 [3] (by kernel_rfl) (one1 (bn rfl fun l K q h=>?_)) fun l _ hp=>?_
 .unfold aa9 at h
  split at h
  .rename_i a r n i
   replace h:=EY h;obtain ⟨h1,h2,h3,h4,h5,h⟩:=h
   have e1:=aZ h1
   have e2:=aZ h2
   have e3:=aZ h3
   subst e1 e2 e3
   have h4:r.length<=1000:=aV h4
   have main:=dH (E:=Kr) (f:=65) (id:=3) (A:=Int) r (fun a i=>{ fr:=[(3,.int .i64 a),(7,.slc yI r),(8,.int .i64 r.length),(9,.int .i64 i)],tab:=[] }) (fun a i=>0<=a∧a<=1570*i)
    (fun a rows K=>K (.exit 0) { fr:=[(3,.int .i64 (a+N.jX (rows.map ak.dec)))],tab:=[] }) (fun a i ha hi=>?_) (fun a _=>?_) 0 0 (Int.le_refl _) (by omega) ⟨Int.le_refl _,by decide⟩ K q (by rw [Int.zero_add]; exact h)
   .exact main
   .have hb:=lF (ak.dec (r.getD i [])).aY
    have hm:ah.dec (r.getD i [])=(ak.dec (r.getD i [])).aY:=rfl
    have hs:N.yF (ak.dec (r.getD i [])).aY=true:=List.all_eq_true.1 h5 _ (List.mem_map_of_mem (by rw [List.getD_eq_getElem?_getD,List.getElem?_eq_getElem hi]; exact List.getElem_mem hi))
    refine .inl ⟨a+N.dB (ak.dec (r.getD i [])).aY,⟨by omega,by omega⟩,fun K=>?_,fun K=>?_⟩
    .rw [QI]
     simp (disch:=omega) only [evs,Int.toNat_natCast,nH,hm,hs]
     try rfl
    .show K _ { fr:=[(3,.int .i64 (a+(N.dB (ak.dec (r.getD i [])).aY+N.jX ((r.drop (i+1)).map ak.dec))))],tab:=[] }=_
     rw [Int.add_assoc]
   .refine ⟨.exit 0,_,by simp,fun K=>?_,fun K=>rfl⟩
    rw [QI]
    simp (disch:=omega) only [evs,List.map_nil]
    show _=K _ { fr:=[(3,.int .i64 (a+0))],tab:=[] }
    rw [Int.add_zero]
  .cases h
 .obtain ⟨h1,h2⟩:=aX hp
  refine (agL l).trans ?_
  show _=some (⟨.int .i64 (N.jX l),[],[]⟩:aJ)
  have h2:_=true:=h2
  unfold allM at h2
  simp only [List.length_map,bT,beq_self_eq_true,cond_true,h1,h2]
end Go.Ev

namespace Go.Ev
open Go
set_option maxRecDepth 100000
def N.EH {α:Type} (p:α->Bool):List α->Int->Int
 | [],_=>-1
 | x::r,i=>cond (p x) i (N.EH p r (i+1))
theorem Ws {α:Type} (p:α->Bool) (x:α) (r:List α) (i:Int):N.EH p (x::r) i=cond (p x) i (N.EH p r (i+1)):=rfl
theorem Bv {α:Type} (p:α->Bool):∀ (l:List α) (i:Int),(N.EH p l i = -1∧l.any p=false)∨∃ (a:List α) (x:α) (b:List α),l=a++x::b∧N.EH p l i=i+a.length∧p x=true∧a.any p=false∧l.any p=true
 | [],i=>.inl ⟨rfl,rfl⟩
 | x::r,i=>by
  unfold N.EH
  rw [List.any_cons]
  cases hc:p x with
  | true=>exact .inr ⟨[],x,r,rfl,by simp,hc,rfl,rfl⟩
  | false =>
   rcases Bv p r (i+1) with ⟨h1,h2⟩ | ⟨a,y,b,h1,h2,h3,h4,h5⟩
   .exact .inl ⟨h1,by rw [h2]; rfl⟩
   .exact .inr ⟨x::a,y,b,by rw [h1]; rfl,by rw [cond_false,h2]; simp; omega,h3,by rw [List.any_cons,hc,h4]; rfl,by rw [h5]; rfl⟩
theorem abb {α:Type} {p:α->Bool} {l:List α} (h:bW 0 (N.EH p l 0)=false):N.EH p l 0 = -1:=by
 rcases Bv p l 0 with ⟨h1,_⟩ | ⟨a,x,b,_,h1,_⟩
 .exact h1
 .rw [h1,dY (by omega)] at h; cases h
theorem agM {α:Type} (p:α->Bool) (l:List α):bW 0 (N.EH p l 0)=l.any p:=by
 rcases Bv p l 0 with ⟨h1,h2⟩ | ⟨a,x,b,_,h1,_,_,h5⟩
 .rw [h1,h2]; rfl
 .rw [h1,h5,dY (by omega)]
theorem amc {α:Type} (p:α->Bool) (l:List α):aU (N.EH p l 0) 0 = !l.any p:=by
 show (!bW 0 (N.EH p l 0))=_
 rw [agM]
def amd:fV:=⟨[],0,0,[]⟩
def row0:fE:=⟨amd,[]⟩
namespace N
def iW (q:fV):Int:=cond (name q.name != 0) (name q.name) (cond (cond (aU q.most 1) true (aU 64 q.most)) 7 (cond (q.dead==[]) 0 (name q.dead)))
def isRow (n:Bytes) (x:fE):Bool:=x.q.name==n
def iK (s:aI) (n:Bytes):Int:=EH (isRow n) s.rows 0
def kV (s:aI) (k:Int):fE:=s.rows.getD k.toNat row0
def eqQ (a b:fV):Bool:=cond (a.name==b.name) (cond (a.most==b.most) (cond (a.life==b.life) (a.dead==b.dead) false) false) false
def sNew (base bytes:Int):aI:=⟨base,cond (aU 0 bytes) bytes 0,[],fD.rises⟩
def iE (s:aI) (q:fV):aI × Int :=
 cond (iW q != 0) (s,iW q) (cond (bW 0 (iK s q.name)) (cond (eqQ (kV s (iK s q.name)).q q) (s,0) (s,9)) (cond (bW 8 s.rows.length) (s,12) (⟨s.next,s.bytes,s.rows++[⟨q,[]⟩],s.rises⟩,0)))
def Bz (s:aI) (n:Bytes):List aO:=cond (aU (iK s n) 0) [] (kV s (iK s n)).line
def Jo (s:aI) (p:Int):aG:=cond (aU p 0) jQ (cond (bW 16 p) jQ (s.rises.list.getD p.toNat jQ))
def zT (s:aI) (k:Int) (l:List aO):aI:=⟨s.next,s.bytes,s.rows.set k.toNat ⟨(s.rows.getD k.toNat row0).q,l⟩,s.rises⟩
def eU:List fE->Int
 | []=>0
 | x::r=>jX x.line+eU r
def jm:List aG->Int
 | []=>0
 | x::r=>gJ x.kept+jm r
def sQ (s:aI):Int:=eU s.rows+jm s.rises.list
def og (s:aI):Int:=s.bytes-sQ s
def EC (m:au) (n:Int):au:=⟨n,m.bZ,m.key,m.head,m.body,m.due,m.hops⟩
def abe (s:aI) (k:Int) (m out:au) (l:List aO):aI × Int × au × Int :=
 cond (aU (og s+dB out) (dB (EC m s.next))) (s,0,kY,12)
  (cond ((kU l ⟨EC m s.next,false,false⟩).2 != 0) (s,0,kY,(kU l ⟨EC m s.next,false,false⟩).2)
   (⟨IntKind.wrap .u64 (s.next+1),s.bytes,(zT s k (kU l ⟨EC m s.next,false,false⟩).1).rows,s.rises⟩,s.next,out,0))
def acT (s:aI) (n:Bytes) (m:au):aI × Int × au × Int :=
 cond (aU (iK s n) 0) (s,0,kY,10) (cond (aP m != 0) (s,0,kY,aP m) (cond (s.next==0) (s,0,kY,18)
  (cond (bW (kV s (iK s n)).q.most (kV s (iK s n)).line.length)
   (cond (kD (kV s (iK s n)).line).2 (abe s (iK s n) m (kD (kV s (iK s n)).line).1 (oJ (kV s (iK s n)).line (kD (kV s (iK s n)).line).1.id).1) (s,0,kY,12))
   (abe s (iK s n) m kY (kV s (iK s n)).line))))
def sameRow (a b:fE):Bool:=cond (eqQ a.q b.q) (sO a.line b.line) false
def oh:List fE->List fE->Bool
 | [],[]=>true
 | a::x,b::y=>cond (sameRow a b) (oh x y) false
 | _,_=>false
def xk:List aG->List aG->Bool
 | [],[]=>true
 | a::x,b::y=>cond (DF a b) (xk x y) false
 | _,_=>false
def NY (a b:aI):Bool:=cond (a.next==b.next) (cond (a.bytes==b.bytes) (cond (oh a.rows b.rows) (xk a.rises.list b.rises.list) false) false) false
def o7 (x:aO):Int:=cond x.again (cond x.iT 3 2) (cond x.iT 1 0)
end N
def qJ (l:List aO):Bool:=cond (Nat.ble l.length 300) (cond (l.all eX) (allM N.yF l) false) false
def oK (x:fE):Bool:=qJ x.line
def qK (s:aI):Bool:=Nat.ble s.rows.length 100
def yu (s:aI):Bool:=cond (Nat.ble s.rows.length 100) (s.rows.all oK) false
def QJ (s:aI):Bool:=s.rises.list.all rZ
theorem agN (m:au) (n:Int):(⟨n,m.bZ,m.key,m.head,m.body,m.due,m.hops⟩:au)=N.EC m n:=rfl
end Go.Ev

namespace Go.Ev
open Go Go.Proofs
set_option maxRecDepth 100000
-- FOLD
theorem agO (r:List V):({ q:={ name:=V.toStr (List.getD r 0 .undef),most:=V.toInt (List.getD r 1 .undef),life:=V.toInt (List.getD r 2 .undef),dead:=V.toStr (List.getD r 3 .undef) },line:=List.map ak.dec (V.toRows (List.getD r 4 .undef)) }:fE)=bf.dec r:=rfl
noncomputable def xq:Env:=env Tryz.prog [] [] []
def agP:Den:=den (bg (dA .u64) (aT (dA .i64))) dV (oV (bJ aH)) (fun _ _=>true) fun a _=>(N.sNew a.1 a.2,())
theorem ame (b n:Int):bV xq 10 ((bg (dA .u64) (aT (dA .i64))).enc (b,n)) ([]) some =
 some {v:=.agg [V.int .u64 b,.int .i64 (bif aU 0 n then n else 0),.slc yR [],.int .u64 0,.slc yM [],.int .u64 0,.slc yM [],.int .u64 0,.slc yM [],.int .u64 0,.slc yM [],.int .u64 0,.slc yM [],.int .u64 0,.slc yM [],.int .u64 0,.slc yM [],.int .u64 0,.slc yM [],.int .u64 0,.slc yM [],.int .u64 0,.slc yM [],.int .u64 0,.slc yM [],.int .u64 0,.slc yM [],.int .u64 0,.slc yM [],.int .u64 0,.slc yM [],.int .u64 0,.slc yM [],.int .u64 0,.slc yM []],bx:=[]:aJ}:=by kernel_rfl
theorem abf:bH Tryz.prog 10 agP:=by
 refine aN (aQ (gu.nil _)) (E:=xq) Tryz.func10 [] (by kernel_rfl) none0 fun a _ _=>?_
 exact ame a.1 a.2
def Kt:Den:=den (aT (bJ lX)) dV (oV (dA .i64)) (fun _ _=>true) fun q _=>(N.iW q,())
noncomputable def abg:Env:=env Tryz.prog [(112,FP)] [] []
theorem agQ (q:fV):bV abg 39 ((aT (bJ lX)).enc q) ([]) some =
 cond (N.name q.name != 0) (some {v:=.int .i64 (N.name q.name),bx:=[]:aJ}) (cond (aU q.most 1) (some {v:=.int .i64 7,bx:=[]:aJ}) (cond (aU 64 q.most) (some {v:=.int .i64 7,bx:=[]:aJ}) (cond (!fV.dead q==[]) (some {v:=.int .i64 (N.name q.dead),bx:=[]:aJ}) (some {v:=.int .i64 0,bx:=[]:aJ})))):=by kernel_rfl
theorem acU:bH Tryz.prog 39 Kt:=by
 refine aN (aQ ((gu.nil _).cons J6)) (E:=abg) Tryz.func39 [] (by kernel_rfl) none0 fun q _ _=>?_
 refine (agQ q).trans ?_
 show _=some (⟨.int .i64 (N.iW q),[],[]⟩:aJ)
 unfold N.iW
 cases h1:N.name q.name != 0 with
 | true=>rfl
 | false =>
  cases h2:aU q.most 1<;>cases h3:aU 64 q.most<;>first | rfl | (cases h4:q.dead==[]<;>rfl)
def anS:Den:=den (bg (bJ bf) (aT (jL 0))) (jr oH) (oV lC) (fun _ _=>true) fun a n=>(N.isRow n a.1,n)
theorem anT (x:fE) (n:Bytes):bV xq 114 ((bg (bJ bf) (aT (jL 0))).enc (x,())) ((jr oH).enc n) some =
 some {v:=.bool (fV.name x.q==n),bx:=[[V.str n]]:aJ}:=by kernel_rfl
theorem amf:bH Tryz.prog 114 anS:=aN (aQ (gu.nil _)) (E:=xq) Tryz.func114 [] (by kernel_rfl) none0 fun a n _=>anT a.1 n
def agR:Den:=den (bg (qw bf) (aT (vFn 114 0))) (jr oH) (oV (dA .i64)) (fun a _=>Nat.ble a.1.length 1000) fun a n=>(N.EH (N.isRow n) a.1 0,n)
def agS:fK:={ fr:=[(0,.slc yR),(1,.fn 114 [] [.ptr 0 0 0]),(7,.int .i64),(8,.int .i64)],tab:=[(0,.var [.str])] }
def agT:List Leaf->(Ex->St->Option R)->Option R
 | [.r r,.i n,.i i,.s s],K=>cond (n==r.length) (cond (i==0) (cond (Nat.ble r.length 1000) (cond (bW 0 (N.EH (N.isRow s) (r.map bf.dec) 0)) (K .ret { fr:=[(4,.int .i64 (N.EH (N.isRow s) (r.map bf.dec) 0))],tab:=[(0,.var [.str s])] }) (K (.exit 0) { fr:=[],tab:=[(0,.var [.str s])] })) none) none) none
 | _,_=>none
noncomputable def NZ:Env:=env Tryz.prog [(114,anS)] [(2,dO agS agT)] [(2,[(0,[0,1,7,8]),(1,[]),(1000,[4])])]
theorem aji (l:List fE) (s:Bytes):bV NZ 113 ((bg (qw bf) (aT (vFn 114 0))).enc (l,())) ((jr oH).enc s) some =
 cond ((↑(List.length (List.map (aj.enc bf) l)):Int)==(↑(List.length (List.map (aj.enc bf) l)):Int)) (cond (Nat.ble (List.length (List.map (aj.enc bf) l)) 1000) (cond (bW 0 (N.EH (N.isRow s) (List.map (aj.dec bf) (List.map (aj.enc bf) l)) 0)) (some {v:=.int .i64 (N.EH (N.isRow s) (List.map (aj.dec bf) (List.map (aj.enc bf) l)) 0),bx:=[[V.str s]]:aJ}) (some {v:=.int .i64 (-1:Int),bx:=[[V.str s]]:aJ})) none) none:=by kernel_rfl
theorem Wu (r:List (List V)) (n i:Int) (s:Bytes) (K:Ex->St->Option R):bI NZ 113 2 { fr:=[(0,.slc yR r),(1,.fn 114 [] [.ptr 0 0 0 0]),(7,.int .i64 n),(8,.int .i64 i)],tab:=[(0,.var [.str s])] } K =
 cond (aU i n) (cond (decide (0<=i∧i<(↑(List.length r):Int))) (cond (N.isRow s {q:={name:=V.toStr (List.getD (List.getD r (Int.toNat i) []) 0 V.undef),most:=V.toInt (List.getD (List.getD r (Int.toNat i) []) 1 V.undef),life:=V.toInt (List.getD (List.getD r (Int.toNat i) []) 2 V.undef),dead:=V.toStr (List.getD (List.getD r (Int.toNat i) []) 3 V.undef):fV},line:=List.map (aj.dec ak) (V.toRows (List.getD (List.getD r (Int.toNat i) []) 4 V.undef)):fE}) (K .ret {fr:=[(4,.int .i64 i)],tab:=[(0,.var [V.str s])]:St}) (K .normal {fr:=[(0,.slc yR r),(1,.fn 114 [] [V.ptr 0 0 0 0]),(7,.int .i64 n),(8,.int .i64 (IntKind.wrap .i64 (i+1)))],tab:=[(0,.var [V.str s])]:St})) none) (K (.exit 0) {fr:=[],tab:=[(0,.var [V.str s])]:St}):=by kernel_rfl
theorem Y3:dM NZ 113 2:=by
 refine bn rfl fun l K q h=>?_
 unfold agT at h
 split at h
 .rename_i r n i s
  replace h:=RH h;obtain ⟨h1,h2,h3,h⟩:=h
  have e1:=aZ h1
  have e2:=aZ h2
  subst e1 e2
  have h3:r.length<=1000:=aV h3
  have main:=dN (E:=NZ) (f:=113) (id:=2) (σ:=Nat) (fun i=>{ fr:=[(0,.slc yR r),(1,.fn 114 [] [.ptr 0 0 0 0]),(7,.int .i64 r.length),(8,.int .i64 (i:Int))],tab:=[(0,.var [.str s])] }) (fun i=>i<=r.length) (fun i=>r.length-i)
   (fun i K=>cond (bW 0 (N.EH (N.isRow s) ((r.drop i).map bf.dec) i)) (K .ret { fr:=[(4,.int .i64 (N.EH (N.isRow s) ((r.drop i).map bf.dec) i))],tab:=[(0,.var [.str s])] }) (K (.exit 0) { fr:=[],tab:=[(0,.var [.str s])] })) (fun i hi=>?_) 0 (Nat.zero_le _) K q (by assumption)
  .exact main
  .by_cases hl:i<r.length
   .rw [lD hl,List.map_cons,Ws]
    have hq:=fun K=>Wu r r.length i s K
    have t1:aU (i:Int) r.length=true:=eF (by omega)
    have t2:decide ((0:Int)<=i∧(i:Int)<r.length)=true:=decide_eq_true (by omega)
    have t3:IntKind.wrap .i64 ((i:Int)+1)=(i:Int)+1:=dQ (by omega) (by omega)
    simp only [Int.toNat_natCast,agO] at hq
    simp only [t1,t2,t3,cond_true] at hq
    cases hc:(N.isRow s) (bf.dec (r.getD i [])) with
    | true =>
     refine .inr ⟨.ret,{ fr:=[(4,.int .i64 (i:Int))],tab:=[(0,.var [.str s])] },by simp,fun K=>?_,fun K=>?_⟩
     .rw [hq,hc]; rfl
     .simp only [cond_true]
      rw [dY (by omega)]; rfl
    | false =>
     refine .inl ⟨i+1,hl,by omega,fun K=>?_,fun K=>rfl⟩
     rw [hq,hc]
     try rfl
   .refine .inr ⟨.exit 0,{ fr:=[],tab:=[(0,.var [.str s])] },by simp,fun K=>?_,fun K=>?_⟩
    .rw [Wu]
     simp (disch:=omega) only [evs]
    .rw [List.drop_eq_nil_of_le (by omega)]; rfl
 .cases h
theorem agU:bH Tryz.prog 113 agR:=by
 refine aN (aQ ((gu.nil _).cons amf)) (E:=NZ) Tryz.func113 [2] (by kernel_rfl) (one1 Y3) fun a b hp=>?_
 obtain ⟨l,⟨⟩⟩:=a
 refine (aji l b).trans ?_
 have hp:Nat.ble l.length 1000=true:=hp
 simp only [List.length_map,bT,hp,beq_self_eq_true,cond_true]
 show _=some (⟨.int .i64 (N.EH (N.isRow b) l 0),[[.str b]],[]⟩:aJ)
 cases hc:bW 0 (N.EH (N.isRow b) l 0) with
 | true=>rfl
 | false=>rw [abb hc]; rfl
def Y4:Den:=den (bg (bJ aH) (aT gy)) dV (oV (dA .i64)) (fun a _=>qK a.1) fun a _=>(N.iK a.1 a.2,())
noncomputable def anU:Env:=env Tryz.prog [(113,agR)] [] []
theorem anV (s:aI) (n:Bytes):bV anU 40 ((bg (bJ aH) (aT gy)).enc (s,n)) ([]) some =
 cond (Nat.ble (List.length (List.map (aj.dec bf) (List.map (aj.enc bf) s.rows))) 1000) (some {v:=.int .i64 (N.EH (N.isRow n) (List.map (aj.dec bf) (List.map (aj.enc bf) s.rows)) 0),bx:=[]:aJ}) none:=by kernel_rfl
theorem Io {s:aI} (h:qK s=true):s.rows.length<=100:=aV h
theorem TJ:bH Tryz.prog 40 Y4:=by
 refine aN (aQ ((gu.nil _).cons agU)) (E:=anU) Tryz.func40 [] (by kernel_rfl) none0 fun a _ h=>?_
 obtain ⟨s,n⟩:=a
 have h:s.rows.length<=100:=Io h
 refine (anV s n).trans ?_
 simp only [bT]
 rw [fA (show s.rows.length<=1000 by omega)]
 try rfl
noncomputable def abh:Env:=env Tryz.prog [] [] [] [128]
theorem agV (l:List fE):bV abh 128 ((aT (qw bf)).enc l) ([]) some =
 cond (!Nat.beq (List.length (List.map (aj.enc bf) l)) 0) (cond (Nat.beq (List.length (List.map (aj.enc bf) l)) 0) (some {v:=.slc yR [],bx:=[]:aJ}) (cond (decide (List.length (List.map (aj.enc bf) l)*72<=140737488355328)) (some {v:=.own 1000 0,bx:=[],nb:=[Box.sl yR (List.map (aj.enc bf) l) 0]:aJ}) none)) none:=by kernel_rfl
def abj:Den:=den (aT (qw bf)) dV (ak9 bf) (fun l _=>cond (Nat.beq l.length 0) false (Nat.ble l.length 1000)) fun l _=>(l,())
theorem acV:bH Tryz.prog 128 abj:=by
 refine aN (aQ (gu.nil _)) (E:=abh) Tryz.func128 [] (by kernel_rfl) none0 fun l _ h=>?_
 cases hl:l with
 | nil=>subst hl; cases h
 | cons p r =>
  rw [hl] at h
  have h:(p::r).length<=1000:=aV h
  refine (agV (p::r)).trans ?_
  simp only [List.length_map]
  rw [show Nat.beq (p::r).length 0=false from rfl,decide_eq_true (show _ from by omega)]
  try rfl
def yw (s:aI) (k:Int):Bool:=cond (qK s) (cond (bW 0 k) (aU k s.rows.length) false) false
theorem Wv {s:aI} {k:Int} (h:yw s k=true):s.rows.length<=100∧0<=k∧k<s.rows.length:=by
 obtain ⟨h1,h2⟩:=aX h
 obtain ⟨h2,h3⟩:=aX h2
 exact ⟨Io h1,bK h2,jv h3⟩
def Y5:Den:=den (bg (bJ aH) (bg (dA .i64) (aT (bJ gY)))) dV (oV (bJ aH)) (fun a _=>yw a.1 a.2.1) fun a _=>(N.zT a.1 a.2.1 a.2.2,())
noncomputable def agW:Env:=env Tryz.prog [(128,abj)] [] []
theorem ajj (s:aI) (k:Int) (l:List aO):type_of% (by
  have h:bV agW 50 ((bg (bJ aH) (bg (dA .i64) (aT (bJ gY)))).enc (s,k,l)) ([]) some =(
   let z3:=(List.map (aj.dec bf) (List.map (aj.enc bf) s.rows));let z0:=(List.map (aj.enc bf) z3);let z1:=(List.getD z0 (Int.toNat k) []);let z2:=(List.length z3);cond (bif Nat.beq z2 0 then false else Nat.ble z2 1000) (cond (decide (0<=k∧k<(↑(List.length z0):Int))) (some {v:=.agg [V.int .u64 s.next,.int .i64 s.bytes,.slc yR (List.set z0 (Int.toNat k) [V.str (V.toStr (z1.getD 0 .undef)),.int .u64 (V.toInt (z1.getD 1 .undef)),.int .u64 (V.toInt (z1.getD 2 .undef)),.str (V.toStr (z1.getD 3 .undef)),.slc yI (List.map (aj.enc ak) l)]),.int .u64 (aG.total (dW.a0 s.rises)),.slc yM (List.map (aj.enc ah) (aG.kept (dW.a0 s.rises))),.int .u64 (aG.total (dW.a1 s.rises)),.slc yM (List.map (aj.enc ah) (aG.kept (dW.a1 s.rises))),.int .u64 (aG.total (dW.a2 s.rises)),.slc yM (List.map (aj.enc ah) (aG.kept (dW.a2 s.rises))),.int .u64 (aG.total (dW.a3 s.rises)),.slc yM (List.map (aj.enc ah) (aG.kept (dW.a3 s.rises))),.int .u64 (aG.total (dW.a4 s.rises)),.slc yM (List.map (aj.enc ah) (aG.kept (dW.a4 s.rises))),.int .u64 (aG.total (dW.a5 s.rises)),.slc yM (List.map (aj.enc ah) (aG.kept (dW.a5 s.rises))),.int .u64 (aG.total (dW.a6 s.rises)),.slc yM (List.map (aj.enc ah) (aG.kept (dW.a6 s.rises))),.int .u64 (aG.total (dW.a7 s.rises)),.slc yM (List.map (aj.enc ah) (aG.kept (dW.a7 s.rises))),.int .u64 (aG.total (dW.a8 s.rises)),.slc yM (List.map (aj.enc ah) (aG.kept (dW.a8 s.rises))),.int .u64 (aG.total (dW.a9 s.rises)),.slc yM (List.map (aj.enc ah) (aG.kept (dW.a9 s.rises))),.int .u64 (aG.total (dW.a10 s.rises)),.slc yM (List.map (aj.enc ah) (aG.kept (dW.a10 s.rises))),.int .u64 (aG.total (dW.a11 s.rises)),.slc yM (List.map (aj.enc ah) (aG.kept (dW.a11 s.rises))),.int .u64 (aG.total (dW.a12 s.rises)),.slc yM (List.map (aj.enc ah) (aG.kept (dW.a12 s.rises))),.int .u64 (aG.total (dW.NR s.rises)),.slc yM (List.map (aj.enc ah) (aG.kept (dW.NR s.rises))),.int .u64 (aG.total (dW.NS s.rises)),.slc yM (List.map (aj.enc ah) (aG.kept (dW.NS s.rises))),.int .u64 (aG.total (dW.NT s.rises)),.slc yM (List.map (aj.enc ah) (aG.kept (dW.NT s.rises)))],bx:=[]:aJ}) none) none):=by kernel_rfl
  dsimp only at h;exact h):=by kernel_rfl
theorem agX {s:aI} {k:Int} (h:yw s k=true):Nat.beq s.rows.length 0=false:=by
 obtain ⟨_,h2,h3⟩:=Wv h
 cases hl:s.rows with
 | nil=>rw [hl] at h3; simp at h3; omega
 | cons _ _=>rfl
theorem Ku (s:aI) (k:Nat) (hk:k<s.rows.length):(s.rows.map bf.enc).getD k []=bf.enc (s.rows.getD k row0):=by
 simp [List.getD_eq_getElem?_getD,List.getElem?_eq_getElem hk]
theorem Wx:bH Tryz.prog 50 Y5:=by
 refine aN (aQ ((gu.nil _).cons acV)) (E:=agW) Tryz.func50 [] (by kernel_rfl) none0 fun a _ h=>?_
 obtain ⟨s,k,l⟩:=a
 have h:yw s k=true:=h
 obtain ⟨h1,h2,h3⟩:=Wv h
 have h4:=agX h
 have hk:k.toNat<s.rows.length:=by omega
 refine (ajj s k l).trans ?_
 simp only [bT,List.length_map,h4,cond_false,fA (show s.rows.length<=1000 by omega),decide_eq_true (show 0<=k∧k<(s.rows.length:Int) from ⟨h2,h3⟩),cond_true,Ku s _ hk]
 show _=some (⟨.agg (aH.enc (N.zT s k l)),[],[]⟩:aJ)
 unfold N.zT
 rw [show aH.enc (⟨s.next,s.bytes,s.rows.set k.toNat ⟨(s.rows.getD k.toNat row0).q,l⟩,s.rises⟩:aI)=V.int .u64 s.next::V.int .i64 s.bytes::V.slc bf.sh ((s.rows.set k.toNat ⟨(s.rows.getD k.toNat row0).q,l⟩).map bf.enc)::(aH.enc s).drop 3 from rfl,List.map_set]
 try rfl
end Go.Ev

namespace Go.Ev
open Go Go.Proofs
set_option maxRecDepth 100000
-- FOLD2
theorem Ip {s:aI} {n:Bytes} (h:bW 0 (N.iK s n)=true):0<=N.iK s n∧N.iK s n<s.rows.length∧N.iK s n=(N.iK s n).toNat∧(N.iK s n).toNat<s.rows.length:=by
 have h0:=bK h
 rcases Bv (N.isRow n) s.rows 0 with ⟨h1,_⟩ | ⟨a,x,b,h1,h2,_⟩
 .have:N.iK s n = -1:=h1
  omega
 .have h2:N.iK s n=0+(a.length:Int):=h2
  have h3:s.rows.length=a.length+(b.length+1):=by rw [h1]; simp
  omega
theorem Y6 {x:Int} (h:aU x 0=false):bW 0 x=true:=dY (dP h)
def Y7:Den:=den (bg (bJ aH) (aT (bJ lX))) dV (vF (bg (bJ aH) (aT (dA .i64)))) (fun a _=>qK a.1) fun a _=>(N.iE a.1 a.2,())
noncomputable def agY:Env:=env Tryz.prog [(39,Kt),(40,Y4),(41,zA bf)] [] []
theorem ajk (s:aI) (q:fV):type_of% (by
  have h:bV agY 11 ((bg (bJ aH) (aT (bJ lX))).enc (s,q)) ([]) some =(
   let z2:=(aj.dec aH (aj.enc aH s));let z3:=(List.map (aj.enc bf) s.rows);let z0:=(cond (bW 0 (N.iK z2 q.name)) (some {v:=.jc [V.agg (aj.enc aH s),.int .i64 9],bx:=[]:aJ}) (cond (bW 8 (↑(List.length z3):Int)) (some {v:=.jc [V.agg (aj.enc aH s),.int .i64 12],bx:=[]:aJ}) (cond (Nat.ble (List.length (List.map (aj.dec bf) z3)+1) 100000) (some {v:=.jc [V.agg (V.int .u64 s.next::V.int .i64 s.bytes::V.slc yR (List.map (aj.enc bf) (N.flat [List.map (aj.dec bf) z3,List.map (aj.dec bf) [[V.str q.name,.int .u64 q.most,.int .u64 q.life,.str q.dead,.iZ yI]]]))::dn s.rises),.int .i64 0],bx:=[]:aJ}) none)));let z1:=(List.getD z3 (Int.toNat (N.iK z2 q.name)) []);cond (N.iW q != 0) (some {v:=.jc [V.agg (aj.enc aH s),.int .i64 (N.iW q)],bx:=[]:aJ}) (cond (Nat.ble (List.length (List.map (aj.dec bf) z3)) 100) (cond (bW 0 (N.iK z2 q.name)) (cond (decide (0<=N.iK z2 q.name∧N.iK z2 q.name<(↑(List.length z3):Int))) (cond (V.toStr (z1.getD 0 .undef)==fV.name q && (V.toInt (z1.getD 1 .undef)==fV.most q && (V.toInt (z1.getD 2 .undef)==fV.life q && (V.toStr (z1.getD 3 .undef)==fV.dead q && true)))) (some {v:=.jc [V.agg (aj.enc aH s),.int .i64 0],bx:=[]:aJ}) z0) none) z0) none)):=by kernel_rfl
  dsimp only at h;exact h):=by kernel_rfl
theorem abk (a b:fV):(a.name==b.name && (a.most==b.most && (a.life==b.life && (a.dead==b.dead && true))))=N.eqQ a b:=by
 unfold N.eqQ
 cases a.name==b.name<;>cases a.most==b.most<;>cases a.life==b.life<;>cases a.dead==b.dead<;>rfl
theorem Wy:bH Tryz.prog 11 Y7:=by
 refine aN (aQ (((gu.nil _).cons YW).cons TJ |>.cons acU)) (E:=agY) Tryz.func11 [] (by kernel_rfl) none0 fun a _ h=>?_
 obtain ⟨s,q⟩:=a
 have h:s.rows.length<=100:=Io h
 refine (ajk s q).trans ?_
 simp only [bT,aH.de,List.length_map,fA h,cond_true,fA (show s.rows.length+1<=100000 by omega)]
 show _=some (⟨.jc [.agg (aH.enc (N.iE s q).1),.int .i64 (N.iE s q).2],[],[]⟩:aJ)
 unfold N.iE
 cases h1:N.iW q != 0 with
 | true=>rfl
 | false =>
  have aoo:∀ x:List V,bf.dec x=(⟨q,[]⟩:fE)->(N.flat [s.rows,List.map bf.dec [x]]).map bf.enc=(s.rows++[(⟨q,[]⟩:fE)]).map bf.enc:=fun x hx=>by
   rw [Gg,List.map_cons,List.map_nil,hx]
  cases h2:bW 0 (N.iK s q.name) with
  | true =>
   obtain ⟨g1,g2,g3,g4⟩:=Ip h2
   simp only [decide_eq_true (show 0<=N.iK s q.name∧N.iK s q.name<(s.rows.length:Int) from ⟨g1,g2⟩),cond_true,cond_false,Ku s _ g4]
   have e:=abk (N.kV s (N.iK s q.name)).q q
   cases h3:N.eqQ (N.kV s (N.iK s q.name)).q q with
   | true =>
    rw [h3] at e
    show cond ((N.kV s (N.iK s q.name)).q.name==q.name && _) _ _=_
    rw [show (V.toInt (List.getD (aj.enc bf (s.rows.getD (N.iK s q.name).toNat row0)) 1 V.undef)==q.most && (V.toInt (List.getD (aj.enc bf (s.rows.getD (N.iK s q.name).toNat row0)) 2 V.undef)==q.life && (V.toStr (List.getD (aj.enc bf (s.rows.getD (N.iK s q.name).toNat row0)) 3 V.undef)==q.dead && true)))=((N.kV s (N.iK s q.name)).q.most==q.most && ((N.kV s (N.iK s q.name)).q.life==q.life && ((N.kV s (N.iK s q.name)).q.dead==q.dead && true))) from rfl,e]
    try rfl
   | false =>
    rw [h3] at e
    show cond ((N.kV s (N.iK s q.name)).q.name==q.name && _) _ _=_
    rw [show (V.toInt (List.getD (aj.enc bf (s.rows.getD (N.iK s q.name).toNat row0)) 1 V.undef)==q.most && (V.toInt (List.getD (aj.enc bf (s.rows.getD (N.iK s q.name).toNat row0)) 2 V.undef)==q.life && (V.toStr (List.getD (aj.enc bf (s.rows.getD (N.iK s q.name).toNat row0)) 3 V.undef)==q.dead && true)))=((N.kV s (N.iK s q.name)).q.most==q.most && ((N.kV s (N.iK s q.name)).q.life==q.life && ((N.kV s (N.iK s q.name)).q.dead==q.dead && true))) from rfl,e]
    try rfl
  | false =>
   simp only [cond_false]
   cases h3:bW 8 s.rows.length with
   | true=>rfl
   | false =>
    simp only [cond_false]
    rw [aoo]
    .rfl
    .rfl
noncomputable def akt:Env:=env Tryz.prog [(40,Y4)] [] []
def agZ:Den:=den (bg (bJ aH) (aT gy)) dV (oV (bJ gY)) (fun a _=>qK a.1) fun a _=>(N.Bz a.1 a.2,())
theorem ajl (s:aI) (n:Bytes):bV akt 14 ((bg (bJ aH) (aT gy)).enc (s,n)) ([]) some =
 cond (Nat.ble (List.length (List.map (aj.dec bf) (List.map (aj.enc bf) s.rows))) 100) (cond (aU (N.iK (aj.dec aH (aj.enc aH s)) n) 0) (some {v:=.agg [V.slc yI []],bx:=[]:aJ}) (cond (decide (0<=N.iK (aj.dec aH (aj.enc aH s)) n∧N.iK (aj.dec aH (aj.enc aH s)) n<(↑(List.length (List.map (aj.enc bf) s.rows)):Int))) (some {v:=.agg [V.slc yI (V.toRows (List.getD (List.getD (List.map (aj.enc bf) s.rows) (Int.toNat (N.iK (aj.dec aH (aj.enc aH s)) n)) []) 4 V.undef))],bx:=[]:aJ}) none)) none:=by kernel_rfl
theorem ag0:bH Tryz.prog 14 agZ:=by
 refine aN (aQ ((gu.nil _).cons TJ)) (E:=akt) Tryz.func14 [] (by kernel_rfl) none0 fun a _ h=>?_
 obtain ⟨s,n⟩:=a
 have h:s.rows.length<=100:=Io h
 refine (ajl s n).trans ?_
 simp only [bT,aH.de,List.length_map,fA h,cond_true]
 show _=some (⟨.agg (gY.enc (N.Bz s n)),[],[]⟩:aJ)
 unfold N.Bz
 cases h1:aU (N.iK s n) 0 with
 | true=>rfl
 | false =>
  obtain ⟨g1,g2,g3,g4⟩:=Ip (Y6 h1)
  simp only [decide_eq_true (show 0<=N.iK s n∧N.iK s n<(s.rows.length:Int) from ⟨g1,g2⟩),cond_true,cond_false,Ku s _ g4]
  try rfl
def ag1:Den:=den (aT (bJ aH)) dV (oV (dA .u64)) (fun _ _=>true) fun s _=>(s.next,())
theorem ajm (s:aI):bV xq 26 ((aT (bJ aH)).enc s) ([]) some =
 some {v:=.int .u64 s.next,bx:=[]:aJ}:=by kernel_rfl
theorem ag2:bH Tryz.prog 26 ag1:=aN (aQ (gu.nil _)) (E:=xq) Tryz.func26 [] (by kernel_rfl) none0 fun s _ _=>ajm s
def ag3:Den:=den (bg (bJ aH) (aT (dA .i64))) dV (oV (bJ bC)) (fun _ _=>true) fun a _=>(N.Jo a.1 a.2,())
theorem ajn (s:aI) (p:Int):bV xq 89 ((bg (bJ aH) (aT (dA .i64))).enc (s,p)) ([]) some =
 cond (aU p 0) (some {v:=.agg [V.int .u64 0,.slc yM []],bx:=[]:aJ}) (cond (bW 16 p) (some {v:=.agg [V.int .u64 0,.slc yM []],bx:=[]:aJ}) (cond (decide (0<=p∧p<(↑(16:Nat):Int))) (some {v:=.agg [V.int .u64 (V.toInt (List.getD (List.getD (lq s.rises) (Int.toNat p) []) 0 V.undef)),.slc yM (V.toRows (List.getD (List.getD (lq s.rises) (Int.toNat p) []) 1 V.undef))],bx:=[]:aJ}) none)):=by kernel_rfl
theorem oL (a:dW aG):lq a=a.list.map bC.enc:=rfl
theorem ag4 (a:dW aG) (k:Nat) (hk:k<16):(lq a).getD k []=bC.enc (a.list.getD k jQ):=by
 rw [oL]
 simp [List.getD_eq_getElem?_getD,List.getElem?_eq_getElem (show k<a.list.length from hk)]
theorem ag5:bH Tryz.prog 89 ag3:=by
 refine aN (aQ (gu.nil _)) (E:=xq) Tryz.func89 [] (by kernel_rfl) none0 fun a _ _=>?_
 obtain ⟨s,p⟩:=a
 refine (ajn s p).trans ?_
 show _=some (⟨.agg (bC.enc (N.Jo s p)),[],[]⟩:aJ)
 unfold N.Jo
 cases h1:aU p 0 with
 | true=>rfl
 | false =>
  cases h2:bW 16 p with
  | true=>rfl
  | false =>
   have g1:=dP h1
   have g2:=nP h2
   simp only [cond_false,decide_eq_true (show 0<=p∧p<((16:Nat):Int) from ⟨g1,by omega⟩),cond_true,ag4 s.rises p.toNat (by omega)]
   try rfl
def WA:Den:=den (aT (bJ aH)) dV (oV (qw lX)) (fun s _=>qK s) fun s _=>(s.rows.map fE.q,())
end Go.Ev
