/- A full queue pushes out its oldest ready message: lemmas; the function that writes numbers is a premise. -/
import Derived.Test.YtojpdhfnmodinaaGreatDoorGe
import Derived.Test.YtojpdhfnmodinaaGreatDoorGc
import Derived.Test.YtojpdhfnmodinaaGreatDoorProg
import Derived.KernelRfl
import Derived.Shelf.Strings.Builder1
import Derived.RegionTactic
import Derived.Deep.RegionWith
namespace Go.Ev
open Go Go.Proofs
set_option maxRecDepth 100000
-- FOLD2
structure PSta where
 s:HStock
 held:Int
 next:Int
 old:Int
def N.pushes (m lent:Int):List HMail→Int→Bool
 | [],_=>false
 | x::r,h=>cond (N.mailCheck x != 0) (N.pushes m lent r h) (cond (h==m) true (N.pushes m lent r (cond (cond (ilt h (Int.tmod lent 9)) (ilt h m) false) (h+1) h)))
theorem pushes_cons (m lent:Int) (x:HMail) (r:List HMail) (h:Int):N.pushes m lent (x::r) h=cond (N.mailCheck x != 0) (N.pushes m lent r h) (cond (h==m) true (N.pushes m lent r (cond (cond (ilt h (Int.tmod lent 9)) (ilt h m) false) (h+1) h))):=rfl
def stk (m:Int) (l:List HItem) (n:Int):HStock:=⟨n,1048576,[⟨⟨[113],m,0,[]⟩,l⟩],stock0.rises⟩
structure PLn (m:Int) (a:PSta) (l:List HItem):Prop where
 eq:a.s=stk m l a.next
 inv:SInv a.s
 m1:1≤m
 m8:m≤8
 len:(l.length:Int)≤m
 held:N.lReady l=l.length-a.held
 held0:0≤a.held
 held1:a.held≤m
 next:1≤a.next
 old0:0≤a.old
 old1:a.old<a.next
 ids:∀ x∈l,1≤x.mail.id∧(x.lent=false→a.old<x.mail.id)
def PSt (m:Int) (a:PSta):Prop:=∃ l,PLn m a l
def goodMl (m:HMail):Bool:=cond (N.fineM m) (smallM m) false
theorem lReady_cons (x:HItem) (r:List HItem):N.lReady (x::r)=cond x.lent (N.lReady r) (1+N.lReady r):=rfl
theorem lReady_app:∀ (a b:List HItem),N.lReady (a++b)=N.lReady a+N.lReady b
 | [],b=>(Int.zero_add _).symm
 | x::r,b=>by
  rw [List.cons_append,lReady_cons,lReady_cons,lReady_app r b]
  cases x.lent with
  | true=>rfl
  | false=>show 1+(_+_)=1+_+_; omega
theorem cut_ready {l:List HItem} {k:Nat} (h:k<l.length) (hk:(l.getD k item0).lent=false):N.lReady (N.cutAt l k)=N.lReady l-1:=by
 have e:=congrArg N.lReady (split_at h)
 rw [lReady_app,lReady_cons,hk,cond_false] at e
 unfold N.cutAt
 rw [lReady_app]
 omega
theorem stk_at (m:Int) (l:List HItem) (n:Int):N.sAt (stk m l n) [113]=0:=rfl
theorem stk_line (m:Int) (l:List HItem) (n:Int):N.sLine (stk m l n) [113]=l:=rfl
theorem stk_size (m:Int) (l:List HItem) (n:Int):N.sSize (stk m l n)=N.lSize l:=by
 show N.lSize l+0+0=N.lSize l
 omega
theorem push_full {m:Int} {a:PSta} (h:PSt m a) (he:a.held=m) {x:HMail} (hx:N.mailCheck x=0):N.sPut a.s [113] x=(a.s,0,mail0,12):=by
 obtain ⟨l,h⟩:=h
 have h1:=h.held
 have h2:=h.len
 have h3:=(ready_le l).1
 have h4:=h.next
 have hl:(l.length:Int)=m:=by omega
 have hf:(N.lFirst l).2=false:=by
  show (N.lTold l (N.ix N.isReady l 0)).2=false
  rw [told_some,← ready_pos,ilt_f (by omega)]
 rw [h.eq]
 unfold N.sPut
 rw [stk_at,hx]
 show cond (a.next==0) _ (cond (ile m l.length) (cond (N.lFirst l).2 _ _) _)=_
 rw [show (a.next==0)=false from beq_eq_false_iff_ne.2 (by omega),ile_t (by omega),hf]; rfl
theorem push_step {m:Int} {a:PSta} (h:PSt m a) (he:a.held ≠ m) (hn:a.next≤1000) {x:HMail} (hf:N.fineM x=true) (hs:smallM x=true) (hx:N.mailCheck x=0) :
  ∃ t out,N.sPut a.s [113] x=(t,a.next,out,0)∧PSt m ⟨t,a.held,a.next+1,cond (ilt a.old out.id) out.id a.old⟩∧(out.id != 0)=(((N.sLine a.s [113]).length:Int)==m)∧(out.id ≠ 0→a.old<out.id)∧0<N.lReady (N.sLine t [113]):=by
 obtain ⟨l,h⟩:=h
 have h1:=h.held
 have h2:=h.len
 have h4:=h.next
 have h5:=h.held1
 have h6:=h.m1
 have h7:=h.m8
 have h8:=h.held0
 have h9:=h.old1
 have h10:=h.old0
 have hi:=h.inv
 rw [h.eq] at hi
 have hr:=hi.row ⟨⟨[113],m,0,[]⟩,l⟩ (List.mem_singleton.2 rfl)
 have hlow:∀ y∈l,y.mail.id<a.next:=hr.low.resolve_left (by show a.next ≠ 0; omega)
 have hsz:=(lSize_le l).2
 have hxs:=(mailSize_le x).2
 have hw:IntKind.wrap .u64 (a.next+1)=a.next+1:=wr_u64 (by omega) (by omega)
 cases hc:ile m l.length with
 | false =>
  have hc':=ile_nof hc
  have hpe:=put_end (s:=stk m l a.next) (k:=0) (m:=x) (out:=mail0) hi (by show a.next ≠ 0; omega) (Int.le_refl _) (show (0:Int)<((1:Nat):Int) by decide) hf hs hx (l:=l) (.mails rfl) hc' (Int.add_zero _)
  have e:N.sPut a.s [113] x=(stk m (l++[⟨N.numM x a.next,false,false⟩]) (a.next+1),a.next,mail0,0):=by
   have e1:N.sPut (stk m l a.next) [113] x=N.sPutE (stk m l a.next) 0 x mail0 l:=by
    unfold N.sPut
    rw [stk_at,hx]
    show cond (a.next==0) _ (cond (ile m l.length) _ _)=_
    rw [show (a.next==0)=false from beq_eq_false_iff_ne.2 (by omega),hc]; rfl
   rw [h.eq,e1,hpe.prog]
   unfold N.sRoom
   rw [stk_size]
   show cond (ilt (1048576-N.lSize l+0) (N.mailSize x)) _ ((⟨IntKind.wrap .u64 (a.next+1),_,_,_⟩:HStock),_)=_
   rw [ilt_f (by omega),hw]; rfl
  have hinv:=(put_ok h.inv [113] hf hs).inv
  rw [e] at hinv
  refine ⟨_,_,e,⟨l++[⟨N.numM x a.next,false,false⟩],⟨rfl,hinv,h6,h7,?_,?_,h8,h5,by show 1≤a.next+1; omega,?_,?_,?_⟩⟩,?_,fun hne=>(hne rfl).elim,?_⟩
  ·rw [List.length_append]; simp only [List.length_cons,List.length_nil]; omega
  ·rw [lReady_app,List.length_append]
   show N.lReady l+1=((l.length+1:Nat):Int)-a.held
   omega
  ·show 0≤cond (ilt a.old 0) 0 a.old
   rw [ilt_f (by omega)]; exact h10
  ·show cond (ilt a.old 0) 0 a.old<a.next+1
   rw [ilt_f (by omega),cond_false]; omega
  ·intro y hy
   show 1≤y.mail.id∧(y.lent=false→cond (ilt a.old 0) 0 a.old<y.mail.id)
   rw [ilt_f (by omega)]
   rcases List.mem_append.1 hy with hy | hy
   ·exact h.ids y hy
   ·rw [List.mem_singleton.1 hy]
    exact ⟨h4,fun _=>h9⟩
  ·rw [h.eq,stk_line]
   show false=((l.length:Int)==m)
   exact (beq_eq_false_iff_ne.2 (by omega)).symm
  ·show 0<N.lReady (l++[⟨N.numM x a.next,false,false⟩])
   rw [lReady_app]
   have:=(ready_le l).1
   show 0<N.lReady l+1
   omega
 | true =>
  have hc':=ile_of hc
  have hf2:(N.lFirst l).2=true:=by
   show (N.lTold l (N.ix N.isReady l 0)).2=true
   rw [told_some,← ready_pos,ilt_t (by omega)]
  obtain ⟨k,k1,k2,k3,k4,k5,_⟩:=first_at (l:=l) hr.line.sorted hf2
  have hcl:=cut_len k1
  have hkm:=getD_mem item0 k1
  have hcr:=cut_ready k1 k2
  have hko:=(h.ids _ hkm)
  have hkl:=hlow _ hkm
  have hpe:=put_end (s:=stk m l a.next) (k:=0) (m:=x) (out:=(l.getD k item0).mail) hi (by show a.next ≠ 0; omega) (Int.le_refl _) (show (0:Int)<((1:Nat):Int) by decide) hf hs hx (l:=N.cutAt l k) (.sub (cut_sub _ k)) (by show ((N.cutAt l k).length:Int)<m; omega) (cut_size k1)
  have e:N.sPut a.s [113] x=(stk m (N.cutAt l k++[⟨N.numM x a.next,false,false⟩]) (a.next+1),a.next,(l.getD k item0).mail,0):=by
   have e1:N.sPut (stk m l a.next) [113] x=N.sPutE (stk m l a.next) 0 x (l.getD k item0).mail (N.cutAt l k):=by
    unfold N.sPut
    rw [stk_at,hx]
    show cond (a.next==0) _ (cond (ile m l.length) (cond (N.lFirst l).2 (N.sPutE _ _ _ (N.lFirst l).1 (N.lRemove l (N.lFirst l).1.id).1) _) _)=_
    rw [show (a.next==0)=false from beq_eq_false_iff_ne.2 (by omega),hc,k4]
    show N.sPutE _ _ _ _ (N.lRemove l (l.getD k item0).mail.id).1=_
    rw [k5]
   have h0:=(mailSize_le (l.getD k item0).mail).1
   rw [h.eq,e1,hpe.prog]
   unfold N.sRoom
   rw [stk_size]
   show cond (ilt (1048576-N.lSize l+N.mailSize (l.getD k item0).mail) (N.mailSize x)) _ ((⟨IntKind.wrap .u64 (a.next+1),_,_,_⟩:HStock),_)=_
   rw [ilt_f (by omega),hw]; rfl
  have hinv:=(put_ok h.inv [113] hf hs).inv
  rw [e] at hinv
  have ho:a.old<(l.getD k item0).mail.id:=hko.2 k2
  refine ⟨_,_,e,⟨N.cutAt l k++[⟨N.numM x a.next,false,false⟩],⟨rfl,hinv,h6,h7,?_,?_,h8,h5,by show 1≤a.next+1; omega,?_,?_,?_⟩⟩,?_,fun _=>ho,?_⟩
  ·rw [List.length_append]; simp only [List.length_cons,List.length_nil]; omega
  ·rw [lReady_app,List.length_append,hcr]
   show N.lReady l-1+1=(((N.cutAt l k).length+1:Nat):Int)-a.held
   omega
  ·show 0≤cond (ilt a.old (l.getD k item0).mail.id) (l.getD k item0).mail.id a.old
   rw [ilt_t ho,cond_true]; omega
  ·show cond (ilt a.old (l.getD k item0).mail.id) (l.getD k item0).mail.id a.old<a.next+1
   rw [ilt_t ho,cond_true]; omega
  ·intro y hy
   show 1≤y.mail.id∧(y.lent=false→cond (ilt a.old (l.getD k item0).mail.id) (l.getD k item0).mail.id a.old<y.mail.id)
   rw [ilt_t ho,cond_true]
   rcases List.mem_append.1 hy with hy | hy
   ·refine ⟨(h.ids y ((cut_sub l k).subset hy)).1,fun hyl=>?_⟩
    rcases List.mem_append.1 (show y∈l.take k++l.drop (k+1) from hy) with hy | hy
    ·obtain ⟨j,hj,e⟩:=List.mem_take_iff_getElem.1 hy
     have:=k3 j (by omega)
     rw [List.getD_eq_getElem?_getD,List.getElem?_eq_getElem (by omega)] at this
     simp only [Option.getD_some] at this
     rw [e,hyl] at this; cases this
    ·have hso:=hr.line.sorted
     have hso:Sorted l:=hso
     rw [split_at k1] at hso
     exact (List.pairwise_cons.1 (List.pairwise_append.1 hso).2.1).1 y hy
   ·rw [List.mem_singleton.1 hy]
    exact ⟨h4,fun _=>hkl⟩
  ·rw [h.eq,stk_line,show (l.length:Int)=m from by omega,beq_self_eq_true]
   have:=hko.1
   simp only [bne_iff_ne,ne_eq]
   omega
  ·show 0<N.lReady (N.cutAt l k++[⟨N.numM x a.next,false,false⟩])
   rw [lReady_app]
   have:=(ready_le (N.cutAt l k)).1
   show 0<N.lReady (N.cutAt l k)+1
   omega
theorem lend_step {m:Int} {a:PSta} (h:PSt m a) (he:a.held<m) (hr:0<N.lReady (N.sLine a.s [113])) :
  ∃ u y,N.sLend a.s [113]=(u,y,true)∧PSt m ⟨u,a.held+1,a.next,a.old⟩∧a.old<y.mail.id:=by
 obtain ⟨l,h⟩:=h
 have hi:=h.inv
 rw [h.eq] at hi
 have hrw:=hi.row ⟨⟨[113],m,0,[]⟩,l⟩ (List.mem_singleton.2 rfl)
 rw [h.eq,stk_line] at hr
 have hf2:(N.lFirst l).2=true:=by
  show (N.lTold l (N.ix N.isReady l 0)).2=true
  rw [told_some,← ready_pos,ilt_t hr]
 obtain ⟨k,k1,k2,k3,k4,k5,k6⟩:=first_at (l:=l) hrw.line.sorted hf2
 have hl:N.lLend l=(N.setAt N.lendI l k,N.lendI (l.getD k item0),true):=by
  unfold N.lLend
  rw [k6,ilt_f (by omega),Int.toNat_natCast]; rfl
 have e:N.sLend a.s [113]=(stk m (N.setAt N.lendI l k) a.next,N.lendI (l.getD k item0),true):=by
  rw [h.eq]
  show (N.sWith (stk m l a.next) 0 (N.lLend l).1,(N.lLend l).2)=_
  rw [hl]; rfl
 have hinv:=lend_inv h.inv [113]
 rw [e] at hinv
 have h1:=h.held
 have h2:=h.held0
 refine ⟨_,_,e,⟨N.setAt N.lendI l k,⟨rfl,hinv,h.m1,h.m8,by rw [setAt_len]; exact h.len,?_,by show 0≤a.held+1; omega,by show a.held+1≤m; omega,h.next,h.old0,h.old1,?_⟩⟩,(h.ids _ (getD_mem item0 k1)).2 k2⟩
 ·rw [ready_set l k k1 k2,setAt_len]
  show N.lReady l-1=l.length-(a.held+1)
  omega
 ·intro y hy
  rcases List.mem_or_eq_of_mem_set hy with hy | hy
  ·exact h.ids y hy
  ·rw [hy]
   exact ⟨(h.ids _ (getD_mem item0 k1)).1,fun e=>by cases e⟩
theorem push_ends {m:Int} {a:PSta} (h:PSt m a):a.s.rows.length=1∧((N.sLine a.s [113]).length:Int)≤m∧((N.sLine a.s [113]).length:Int)-N.lReady (N.sLine a.s [113])=a.held∧SInv a.s∧m≤8∧(0≤a.held∧a.held≤m):=by
 obtain ⟨l,h⟩:=h
 have h1:=h.held
 have h2:=h.len
 refine ⟨by rw [h.eq]; rfl,by rw [h.eq]; exact h2,?_,h.inv,h.m8,h.held0,h.held1⟩
 rw [h.eq,stk_line]; omega
open Classical in
noncomputable def goodPushC (m held next old:Int) (c:List V):Bool:=decide (∃ a:PSta,PSt m a∧a.held=held∧a.next=next∧a.old=old∧cStock.enc a.s=etaRow xsStock 0 c)
open Classical in
theorem goodPushC_of {m held next old:Int} {c:List V} (h:goodPushC m held next old c=true):∃ a:PSta,PSt m a∧a.held=held∧a.next=next∧a.old=old∧cStock.enc a.s=etaRow xsStock 0 c:=of_decide_eq_true h
open Classical in
theorem goodPushC_t {m:Int} {a:PSta} (h:PSt m a):goodPushC m a.held a.next a.old (cStock.enc a.s)=true:=decide_eq_true ⟨a,h,rfl,rfl,rfl,rfl⟩
theorem rows_encS (s:HStock):V.toRows (List.getD (cStock.enc s) 2 V.undef)=s.rows.map cRow.enc:=rfl
theorem tmod_wrap {x k:Int} (h:0<k) (h1:k≤1000):IntKind.wrap .i64 (Int.tmod x k)=Int.tmod x k:=by
 have h2:=Int.tmod_lt_of_pos x h
 have h3:=Int.lt_tmod_of_pos x h
 exact wr_i64 (by omega) (by omega)
def dSPushes:Den:=den (aCons (vSl cMail) (aCons (vInt .u8) (aOne (vInt .u8)))) bNil (oV vBool) (fun a _=>cond (Nat.ble a.1.length 9223372036854775807) (cond (a.1.all N.fineM) (ile 0 a.2.1) false) false) fun _ _=>(true,())
theorem make_stk {m:Int} (h1:1≤m) (h2:m≤8):N.sMake (N.sNew 1 1048576) ⟨[113],m,0,[]⟩=(stk m [] 1,0):=by
 unfold N.sMake N.qCheck
 show cond (cond (cond (ilt m 1) true (ilt 64 m)) 7 0 != 0) _ _=_
 rw [ilt_f h1,ilt_f (show m≤64 by omega)]; rfl
theorem push_start {m:Int} (h1:1≤m) (h2:m≤8):PSt m ⟨stk m [] 1,0,1,0⟩:=by
 have hi:=make_inv (new_inv 1 1048576 (by decide) (by decide) (by decide)) (q:=⟨[113],m,0,[]⟩) rfl
 rw [make_stk h1 h2] at hi
 exact ⟨[],⟨rfl,hi,h1,h2,by show (0:Int)≤m; omega,rfl,Int.le_refl 0,by show (0:Int)≤m; omega,Int.le_refl 1,Int.le_refl 0,by show (0:Int)<1; decide,fun x hx=>(List.not_mem_nil hx).elim⟩⟩
theorem u8_wf {n:Int} (h:wfL ((rInt .u8).enc n)=true):ile 0 n=true:=by
 have h:cond (wfV (.int .u8 n)) true false=true:=h
 obtain ⟨a,_⟩:=int_wf (bcond h).1
 exact ile_t a
theorem sPushes_wf {l:List HMail} {n:Int} (h0:wfL ((rSl cMail).enc l)=true) (h1:wfL ((rInt .u8).enc n)=true):cond (Nat.ble l.length 9223372036854775807) (cond (l.all N.fineM) (ile 0 n) false) false=true:=by
 rw [len_wf h0,mails_wf h0,u8_wf h1]; rfl
def schSPushes:SSch:={ fr:=[(2,.int .u8),(7,.int .i64),(8,.ptr 10000 0 0),(10,.int .i64),(11,.int .u64),(12,.int .u64),(41,.slc [.int .u64,.str,.str,.slc [.str,.int .u8,.int .i64,.str],.str,.int .u64,.int .u8]),(42,.int .i64),(43,.int .i64)],tab:=[(10000,.row [] xsStock)] }
noncomputable def gSPushes:List Leaf→(Ex→St→Option R)→Option R
 | [.i i2,.i i7,.i i10,.i i11,.i i12,.r r41,.i i42,.i i43,.c cx0],K=>cond (i42==r41.length) (cond (i43==0) (cond (Nat.ble r41.length 40) (cond (goodPushC i7 i10 i11 i12 cx0) (cond ((r41.map cMail.dec).all goodMl) (cond (ile i11 1) (cond (N.pushes i7 i2 (r41.map cMail.dec) i10) (K .ret { fr:=[(6,.bool true)],tab:=[] }) (K (.exit 0) { fr:=[],tab:=[] })) none) none) none) none) none) none
 | _,_=>none
noncomputable def eSPushes:Env:=env Tryz.prog [(8,dTrue),(9,dLight20),(10,dSNew),(11,dSMake),(12,dMailCheck),(13,dSPut),(14,dSLine),(15,dLLen),(16,dSLend),(17,dLReadyN)] [(11,loopF schSPushes gSPushes)] [(11,[(0,[2,7,8,10,11,12,41,42,43]),(1,[]),(1000,[6])])]
theorem q_sPushes (l:List HMail) (most lent:Int):evFn eSPushes 3 ((aCons (vSl cMail) (aCons (vInt .u8) (aOne (vInt .u8)))).enc (l,most,lent)) ([]) some =
 cond (Nat.ble (List.length (List.map (RCod.dec cMail) (List.map (RCod.enc cMail) l))) 9223372036854775807) (cond (!bif N.lightMs (List.map (RCod.dec cMail) (List.map (RCod.enc cMail) l)) then ile (↑(List.length (List.map (RCod.dec cMail) (List.map (RCod.enc cMail) l))):Int) (40:Int) else false) (some {v:=V.bool true,bx:=[]:DRes}) (cond (Prod.snd (N.sMake (RCod.dec cStock (RCod.enc cStock (N.sNew (1:Int) (1048576:Int)))) {name:=[(113:UInt8)],most:=IntKind.wrap .u64 (IntKind.wrap .i64 ((1:Int)+IntKind.wrap .i64 (Int.tmod most (8:Int)))),life:=(0:Int),dead:=[]:HQueue}) != (0:Int)) (some {v:=V.bool false,bx:=[]:DRes}) (cond ((↑(List.length (List.map (RCod.enc cMail) l)):Int)==(↑(List.length (List.map (RCod.enc cMail) l)):Int)) (cond (Nat.ble (List.length (List.map (RCod.enc cMail) l)) 40) (cond (goodPushC (IntKind.wrap .i64 ((1:Int)+IntKind.wrap .i64 (Int.tmod most (8:Int)))) (0:Int) (1:Int) (0:Int) (RCod.enc cStock (Prod.fst (N.sMake (RCod.dec cStock (RCod.enc cStock (N.sNew (1:Int) (1048576:Int)))) {name:=[(113:UInt8)],most:=IntKind.wrap .u64 (IntKind.wrap .i64 ((1:Int)+IntKind.wrap .i64 (Int.tmod most (8:Int)))),life:=(0:Int),dead:=[]:HQueue})))) (cond (List.all (List.map (RCod.dec cMail) (List.map (RCod.enc cMail) l)) goodMl) (cond (N.pushes (IntKind.wrap .i64 ((1:Int)+IntKind.wrap .i64 (Int.tmod most (8:Int)))) lent (List.map (RCod.dec cMail) (List.map (RCod.enc cMail) l)) (0:Int)) (some {v:=V.bool true,bx:=[]:DRes}) (some {v:=V.bool true,bx:=[]:DRes})) (none)) (none)) (none)) (none)))) (none):=by kernel_rfl
theorem q_sPushesR (i2:Int) (i7:Int) (i10:Int) (i11:Int) (i12:Int) (r41:List (List V)) (i42:Int) (i43:Int) (cx0:List V) (K:Ex→St→Option R):evRound eSPushes 3 11 { fr:=[(2,.int .u8 i2),(7,.int .i64 i7),(8,.ptr 10000 0 0 0),(10,.int .i64 i10),(11,.int .u64 i11),(12,.int .u64 i12),(41,.slc [.int .u64,.str,.str,.slc [.str,.int .u8,.int .i64,.str],.str,.int .u64,.int .u8] r41),(42,.int .i64 i42),(43,.int .i64 i43)],tab:=[(10000,.var (etaRow xsStock 0 cx0))] } K =
 cond (ilt i43 i42) (cond (decide ((0:Int)≤i43∧i43<(↑(List.length r41):Int))) (cond (N.mailCheck (RCod.dec cMail (List.getD r41 (Int.toNat i43) [])) != (0:Int)) (K Ex.normal {fr:=[(2,V.int .u8 i2),(7,V.int .i64 i7),(8,V.ptr 10000 0 0 0),(10,V.int .i64 i10),(11,V.int .u64 i11),(12,V.int .u64 i12),(41,V.slc [.int .u64,.str,.str,.slc [.str,.int .u8,.int .i64,.str],.str,.int .u64,.int .u8] r41),(42,V.int .i64 i42),(43,V.int .i64 (IntKind.wrap .i64 (i43+(1:Int))))],tab:=[(10000,Box.var (etaRow xsStock 0 cx0))]:St}) (cond (bif goodN (RCod.dec cStock cx0) then bif N.okM (RCod.dec cMail (List.getD r41 (Int.toNat i43) [])) then smallM (RCod.dec cMail (List.getD r41 (Int.toNat i43) [])) else false else false) (cond (i10==i7) (cond (Prod.snd (Prod.snd (Prod.snd (N.sPut (RCod.dec cStock cx0) [(113:UInt8)] (RCod.dec cMail (List.getD r41 (Int.toNat i43) [])))))==(12:Int)) (K Ex.ret {fr:=[(6,V.bool (Prod.fst (Prod.snd (N.sPut (RCod.dec cStock cx0) [(113:UInt8)] (RCod.dec cMail (List.getD r41 (Int.toNat i43) []))))==(0:Int)))],tab:=[]:St}) (K Ex.ret {fr:=[(6,V.bool false)],tab:=[]:St})) (cond (Prod.snd (Prod.snd (Prod.snd (N.sPut (RCod.dec cStock cx0) [(113:UInt8)] (RCod.dec cMail (List.getD r41 (Int.toNat i43) []))))) != (0:Int)) (K Ex.ret {fr:=[(6,V.bool false)],tab:=[]:St}) (cond (Prod.fst (Prod.snd (N.sPut (RCod.dec cStock cx0) [(113:UInt8)] (RCod.dec cMail (List.getD r41 (Int.toNat i43) [])))) != i11) (K Ex.ret {fr:=[(6,V.bool false)],tab:=[]:St}) (cond (HMail.id (Prod.fst (Prod.snd (Prod.snd (N.sPut (RCod.dec cStock cx0) [(113:UInt8)] (RCod.dec cMail (List.getD r41 (Int.toNat i43) [])))))) != (0:Int)) (cond (ile (HMail.id (Prod.fst (Prod.snd (Prod.snd (N.sPut (RCod.dec cStock cx0) [(113:UInt8)] (RCod.dec cMail (List.getD r41 (Int.toNat i43) []))))))) i12) (K Ex.ret {fr:=[(6,V.bool false)],tab:=[]:St}) (cond (Nat.ble (List.length (List.map (RCod.dec cRow) (V.toRows (List.getD cx0 2 .undef)))) 100) (cond (!(HMail.id (Prod.fst (Prod.snd (Prod.snd (N.sPut (RCod.dec cStock cx0) [(113:UInt8)] (RCod.dec cMail (List.getD r41 (Int.toNat i43) [])))))) != (0:Int))==((↑(List.length (List.map (RCod.dec cItem) (List.map (RCod.enc cItem) (N.sLine (RCod.dec cStock cx0) [(113:UInt8)])))):Int)==i7)) (K Ex.ret {fr:=[(6,V.bool false)],tab:=[]:St}) (cond (ilt i10 (IntKind.wrap .i64 (Int.tmod i2 (9:Int)))) (cond (ilt i10 i7) (cond (goodRows (RCod.dec cStock (RCod.enc cStock (Prod.fst (N.sPut (RCod.dec cStock cx0) [(113:UInt8)] (RCod.dec cMail (List.getD r41 (Int.toNat i43) []))))))) (cond (!Prod.snd (Prod.snd (N.sLend (RCod.dec cStock (RCod.enc cStock (Prod.fst (N.sPut (RCod.dec cStock cx0) [(113:UInt8)] (RCod.dec cMail (List.getD r41 (Int.toNat i43) [])))))) [(113:UInt8)]))) (K Ex.ret {fr:=[(6,V.bool false)],tab:=[]:St}) (cond (ile (HMail.id (HItem.mail (Prod.fst (Prod.snd (N.sLend (RCod.dec cStock (RCod.enc cStock (Prod.fst (N.sPut (RCod.dec cStock cx0) [(113:UInt8)] (RCod.dec cMail (List.getD r41 (Int.toNat i43) [])))))) [(113:UInt8)]))))) (bif ilt i12 (HMail.id (Prod.fst (Prod.snd (Prod.snd (N.sPut (RCod.dec cStock cx0) [(113:UInt8)] (RCod.dec cMail (List.getD r41 (Int.toNat i43) []))))))) then HMail.id (Prod.fst (Prod.snd (Prod.snd (N.sPut (RCod.dec cStock cx0) [(113:UInt8)] (RCod.dec cMail (List.getD r41 (Int.toNat i43) [])))))) else i12)) (cond (ilt (0:Int) i10) (cond (HMail.id (HItem.mail (Prod.fst (Prod.snd (N.sLend (RCod.dec cStock (RCod.enc cStock (Prod.fst (N.sPut (RCod.dec cStock cx0) [(113:UInt8)] (RCod.dec cMail (List.getD r41 (Int.toNat i43) [])))))) [(113:UInt8)]))))==HMail.id (Prod.fst (Prod.snd (Prod.snd (N.sPut (RCod.dec cStock cx0) [(113:UInt8)] (RCod.dec cMail (List.getD r41 (Int.toNat i43) []))))))) (K Ex.ret {fr:=[(6,V.bool false)],tab:=[]:St}) (cond (Nat.ble (List.length (List.map (RCod.dec cRow) (List.map (RCod.enc cRow) (HStock.rows (Prod.fst (N.sLend (RCod.dec cStock (RCod.enc cStock (Prod.fst (N.sPut (RCod.dec cStock cx0) [(113:UInt8)] (RCod.dec cMail (List.getD r41 (Int.toNat i43) [])))))) [(113:UInt8)])))))) 100) (cond (ilt i7 (↑(List.length (List.map (RCod.dec cItem) (List.map (RCod.enc cItem) (N.sLine (RCod.dec cStock (RCod.enc cStock (Prod.fst (N.sLend (RCod.dec cStock (RCod.enc cStock (Prod.fst (N.sPut (RCod.dec cStock cx0) [(113:UInt8)] (RCod.dec cMail (List.getD r41 (Int.toNat i43) [])))))) [(113:UInt8)])))) [(113:UInt8)])))):Int)) (K Ex.ret {fr:=[(6,V.bool false)],tab:=[]:St}) (cond (Nat.ble (List.length (List.map (RCod.dec cRow) (List.map (RCod.enc cRow) (HStock.rows (Prod.fst (N.sLend (RCod.dec cStock (RCod.enc cStock (Prod.fst (N.sPut (RCod.dec cStock cx0) [(113:UInt8)] (RCod.dec cMail (List.getD r41 (Int.toNat i43) [])))))) [(113:UInt8)])))))) 100) (cond (Nat.ble (List.length (List.map (RCod.dec cRow) (List.map (RCod.enc cRow) (HStock.rows (Prod.fst (N.sLend (RCod.dec cStock (RCod.enc cStock (Prod.fst (N.sPut (RCod.dec cStock cx0) [(113:UInt8)] (RCod.dec cMail (List.getD r41 (Int.toNat i43) [])))))) [(113:UInt8)])))))) 100) (cond (Nat.ble (List.length (List.map (RCod.dec cItem) (List.map (RCod.enc cItem) (N.sLine (RCod.dec cStock (RCod.enc cStock (Prod.fst (N.sLend (RCod.dec cStock (RCod.enc cStock (Prod.fst (N.sPut (RCod.dec cStock cx0) [(113:UInt8)] (RCod.dec cMail (List.getD r41 (Int.toNat i43) [])))))) [(113:UInt8)])))) [(113:UInt8)])))) 1000) (cond (IntKind.wrap .i64 ((↑(List.length (List.map (RCod.dec cItem) (List.map (RCod.enc cItem) (N.sLine (RCod.dec cStock (RCod.enc cStock (Prod.fst (N.sLend (RCod.dec cStock (RCod.enc cStock (Prod.fst (N.sPut (RCod.dec cStock cx0) [(113:UInt8)] (RCod.dec cMail (List.getD r41 (Int.toNat i43) [])))))) [(113:UInt8)])))) [(113:UInt8)])))):Int)-N.lReady (List.map (RCod.dec cItem) (List.map (RCod.enc cItem) (N.sLine (RCod.dec cStock (RCod.enc cStock (Prod.fst (N.sLend (RCod.dec cStock (RCod.enc cStock (Prod.fst (N.sPut (RCod.dec cStock cx0) [(113:UInt8)] (RCod.dec cMail (List.getD r41 (Int.toNat i43) [])))))) [(113:UInt8)])))) [(113:UInt8)])))) != IntKind.wrap .i64 (i10+(1:Int))) (K Ex.ret {fr:=[(6,V.bool false)],tab:=[]:St}) (K Ex.normal {fr:=[(2,V.int .u8 i2),(7,V.int .i64 i7),(8,V.ptr 10000 0 0 0),(10,V.int .i64 (IntKind.wrap .i64 (i10+(1:Int)))),(11,V.int .u64 (IntKind.wrap .u64 (i11+(1:Int)))),(12,V.int .u64 (bif ilt i12 (HMail.id (Prod.fst (Prod.snd (Prod.snd (N.sPut (RCod.dec cStock cx0) [(113:UInt8)] (RCod.dec cMail (List.getD r41 (Int.toNat i43) []))))))) then HMail.id (Prod.fst (Prod.snd (Prod.snd (N.sPut (RCod.dec cStock cx0) [(113:UInt8)] (RCod.dec cMail (List.getD r41 (Int.toNat i43) [])))))) else i12)),(41,V.slc [.int .u64,.str,.str,.slc [.str,.int .u8,.int .i64,.str],.str,.int .u64,.int .u8] r41),(42,V.int .i64 i42),(43,V.int .i64 (IntKind.wrap .i64 (i43+(1:Int))))],tab:=[(10000,Box.var (RCod.enc cStock (Prod.fst (N.sLend (RCod.dec cStock (RCod.enc cStock (Prod.fst (N.sPut (RCod.dec cStock cx0) [(113:UInt8)] (RCod.dec cMail (List.getD r41 (Int.toNat i43) [])))))) [(113:UInt8)]))))]:St})) (none)) (none)) (none))) (none))) (cond (Nat.ble (List.length (List.map (RCod.dec cRow) (List.map (RCod.enc cRow) (HStock.rows (Prod.fst (N.sLend (RCod.dec cStock (RCod.enc cStock (Prod.fst (N.sPut (RCod.dec cStock cx0) [(113:UInt8)] (RCod.dec cMail (List.getD r41 (Int.toNat i43) [])))))) [(113:UInt8)])))))) 100) (cond (ilt i7 (↑(List.length (List.map (RCod.dec cItem) (List.map (RCod.enc cItem) (N.sLine (RCod.dec cStock (RCod.enc cStock (Prod.fst (N.sLend (RCod.dec cStock (RCod.enc cStock (Prod.fst (N.sPut (RCod.dec cStock cx0) [(113:UInt8)] (RCod.dec cMail (List.getD r41 (Int.toNat i43) [])))))) [(113:UInt8)])))) [(113:UInt8)])))):Int)) (K Ex.ret {fr:=[(6,V.bool false)],tab:=[]:St}) (cond (Nat.ble (List.length (List.map (RCod.dec cRow) (List.map (RCod.enc cRow) (HStock.rows (Prod.fst (N.sLend (RCod.dec cStock (RCod.enc cStock (Prod.fst (N.sPut (RCod.dec cStock cx0) [(113:UInt8)] (RCod.dec cMail (List.getD r41 (Int.toNat i43) [])))))) [(113:UInt8)])))))) 100) (cond (Nat.ble (List.length (List.map (RCod.dec cRow) (List.map (RCod.enc cRow) (HStock.rows (Prod.fst (N.sLend (RCod.dec cStock (RCod.enc cStock (Prod.fst (N.sPut (RCod.dec cStock cx0) [(113:UInt8)] (RCod.dec cMail (List.getD r41 (Int.toNat i43) [])))))) [(113:UInt8)])))))) 100) (cond (Nat.ble (List.length (List.map (RCod.dec cItem) (List.map (RCod.enc cItem) (N.sLine (RCod.dec cStock (RCod.enc cStock (Prod.fst (N.sLend (RCod.dec cStock (RCod.enc cStock (Prod.fst (N.sPut (RCod.dec cStock cx0) [(113:UInt8)] (RCod.dec cMail (List.getD r41 (Int.toNat i43) [])))))) [(113:UInt8)])))) [(113:UInt8)])))) 1000) (cond (IntKind.wrap .i64 ((↑(List.length (List.map (RCod.dec cItem) (List.map (RCod.enc cItem) (N.sLine (RCod.dec cStock (RCod.enc cStock (Prod.fst (N.sLend (RCod.dec cStock (RCod.enc cStock (Prod.fst (N.sPut (RCod.dec cStock cx0) [(113:UInt8)] (RCod.dec cMail (List.getD r41 (Int.toNat i43) [])))))) [(113:UInt8)])))) [(113:UInt8)])))):Int)-N.lReady (List.map (RCod.dec cItem) (List.map (RCod.enc cItem) (N.sLine (RCod.dec cStock (RCod.enc cStock (Prod.fst (N.sLend (RCod.dec cStock (RCod.enc cStock (Prod.fst (N.sPut (RCod.dec cStock cx0) [(113:UInt8)] (RCod.dec cMail (List.getD r41 (Int.toNat i43) [])))))) [(113:UInt8)])))) [(113:UInt8)])))) != IntKind.wrap .i64 (i10+(1:Int))) (K Ex.ret {fr:=[(6,V.bool false)],tab:=[]:St}) (K Ex.normal {fr:=[(2,V.int .u8 i2),(7,V.int .i64 i7),(8,V.ptr 10000 0 0 0),(10,V.int .i64 (IntKind.wrap .i64 (i10+(1:Int)))),(11,V.int .u64 (IntKind.wrap .u64 (i11+(1:Int)))),(12,V.int .u64 (bif ilt i12 (HMail.id (Prod.fst (Prod.snd (Prod.snd (N.sPut (RCod.dec cStock cx0) [(113:UInt8)] (RCod.dec cMail (List.getD r41 (Int.toNat i43) []))))))) then HMail.id (Prod.fst (Prod.snd (Prod.snd (N.sPut (RCod.dec cStock cx0) [(113:UInt8)] (RCod.dec cMail (List.getD r41 (Int.toNat i43) [])))))) else i12)),(41,V.slc [.int .u64,.str,.str,.slc [.str,.int .u8,.int .i64,.str],.str,.int .u64,.int .u8] r41),(42,V.int .i64 i42),(43,V.int .i64 (IntKind.wrap .i64 (i43+(1:Int))))],tab:=[(10000,Box.var (RCod.enc cStock (Prod.fst (N.sLend (RCod.dec cStock (RCod.enc cStock (Prod.fst (N.sPut (RCod.dec cStock cx0) [(113:UInt8)] (RCod.dec cMail (List.getD r41 (Int.toNat i43) [])))))) [(113:UInt8)]))))]:St})) (none)) (none)) (none))) (none))) (cond (Nat.ble (List.length (List.map (RCod.dec cRow) (List.map (RCod.enc cRow) (HStock.rows (Prod.fst (N.sLend (RCod.dec cStock (RCod.enc cStock (Prod.fst (N.sPut (RCod.dec cStock cx0) [(113:UInt8)] (RCod.dec cMail (List.getD r41 (Int.toNat i43) [])))))) [(113:UInt8)])))))) 100) (cond (ilt i7 (↑(List.length (List.map (RCod.dec cItem) (List.map (RCod.enc cItem) (N.sLine (RCod.dec cStock (RCod.enc cStock (Prod.fst (N.sLend (RCod.dec cStock (RCod.enc cStock (Prod.fst (N.sPut (RCod.dec cStock cx0) [(113:UInt8)] (RCod.dec cMail (List.getD r41 (Int.toNat i43) [])))))) [(113:UInt8)])))) [(113:UInt8)])))):Int)) (K Ex.ret {fr:=[(6,V.bool false)],tab:=[]:St}) (cond (Nat.ble (List.length (List.map (RCod.dec cRow) (List.map (RCod.enc cRow) (HStock.rows (Prod.fst (N.sLend (RCod.dec cStock (RCod.enc cStock (Prod.fst (N.sPut (RCod.dec cStock cx0) [(113:UInt8)] (RCod.dec cMail (List.getD r41 (Int.toNat i43) [])))))) [(113:UInt8)])))))) 100) (cond (Nat.ble (List.length (List.map (RCod.dec cRow) (List.map (RCod.enc cRow) (HStock.rows (Prod.fst (N.sLend (RCod.dec cStock (RCod.enc cStock (Prod.fst (N.sPut (RCod.dec cStock cx0) [(113:UInt8)] (RCod.dec cMail (List.getD r41 (Int.toNat i43) [])))))) [(113:UInt8)])))))) 100) (cond (Nat.ble (List.length (List.map (RCod.dec cItem) (List.map (RCod.enc cItem) (N.sLine (RCod.dec cStock (RCod.enc cStock (Prod.fst (N.sLend (RCod.dec cStock (RCod.enc cStock (Prod.fst (N.sPut (RCod.dec cStock cx0) [(113:UInt8)] (RCod.dec cMail (List.getD r41 (Int.toNat i43) [])))))) [(113:UInt8)])))) [(113:UInt8)])))) 1000) (cond (IntKind.wrap .i64 ((↑(List.length (List.map (RCod.dec cItem) (List.map (RCod.enc cItem) (N.sLine (RCod.dec cStock (RCod.enc cStock (Prod.fst (N.sLend (RCod.dec cStock (RCod.enc cStock (Prod.fst (N.sPut (RCod.dec cStock cx0) [(113:UInt8)] (RCod.dec cMail (List.getD r41 (Int.toNat i43) [])))))) [(113:UInt8)])))) [(113:UInt8)])))):Int)-N.lReady (List.map (RCod.dec cItem) (List.map (RCod.enc cItem) (N.sLine (RCod.dec cStock (RCod.enc cStock (Prod.fst (N.sLend (RCod.dec cStock (RCod.enc cStock (Prod.fst (N.sPut (RCod.dec cStock cx0) [(113:UInt8)] (RCod.dec cMail (List.getD r41 (Int.toNat i43) [])))))) [(113:UInt8)])))) [(113:UInt8)])))) != IntKind.wrap .i64 (i10+(1:Int))) (K Ex.ret {fr:=[(6,V.bool false)],tab:=[]:St}) (K Ex.normal {fr:=[(2,V.int .u8 i2),(7,V.int .i64 i7),(8,V.ptr 10000 0 0 0),(10,V.int .i64 (IntKind.wrap .i64 (i10+(1:Int)))),(11,V.int .u64 (IntKind.wrap .u64 (i11+(1:Int)))),(12,V.int .u64 (bif ilt i12 (HMail.id (Prod.fst (Prod.snd (Prod.snd (N.sPut (RCod.dec cStock cx0) [(113:UInt8)] (RCod.dec cMail (List.getD r41 (Int.toNat i43) []))))))) then HMail.id (Prod.fst (Prod.snd (Prod.snd (N.sPut (RCod.dec cStock cx0) [(113:UInt8)] (RCod.dec cMail (List.getD r41 (Int.toNat i43) [])))))) else i12)),(41,V.slc [.int .u64,.str,.str,.slc [.str,.int .u8,.int .i64,.str],.str,.int .u64,.int .u8] r41),(42,V.int .i64 i42),(43,V.int .i64 (IntKind.wrap .i64 (i43+(1:Int))))],tab:=[(10000,Box.var (RCod.enc cStock (Prod.fst (N.sLend (RCod.dec cStock (RCod.enc cStock (Prod.fst (N.sPut (RCod.dec cStock cx0) [(113:UInt8)] (RCod.dec cMail (List.getD r41 (Int.toNat i43) [])))))) [(113:UInt8)]))))]:St})) (none)) (none)) (none))) (none)))) (none)) (cond (Nat.ble (List.length (List.map (RCod.dec cRow) (List.map (RCod.enc cRow) (HStock.rows (Prod.fst (N.sPut (RCod.dec cStock cx0) [(113:UInt8)] (RCod.dec cMail (List.getD r41 (Int.toNat i43) [])))))))) 100) (cond (ilt i7 (↑(List.length (List.map (RCod.dec cItem) (List.map (RCod.enc cItem) (N.sLine (RCod.dec cStock (RCod.enc cStock (Prod.fst (N.sPut (RCod.dec cStock cx0) [(113:UInt8)] (RCod.dec cMail (List.getD r41 (Int.toNat i43) [])))))) [(113:UInt8)])))):Int)) (K Ex.ret {fr:=[(6,V.bool false)],tab:=[]:St}) (cond (Nat.ble (List.length (List.map (RCod.dec cRow) (List.map (RCod.enc cRow) (HStock.rows (Prod.fst (N.sPut (RCod.dec cStock cx0) [(113:UInt8)] (RCod.dec cMail (List.getD r41 (Int.toNat i43) [])))))))) 100) (cond (Nat.ble (List.length (List.map (RCod.dec cRow) (List.map (RCod.enc cRow) (HStock.rows (Prod.fst (N.sPut (RCod.dec cStock cx0) [(113:UInt8)] (RCod.dec cMail (List.getD r41 (Int.toNat i43) [])))))))) 100) (cond (Nat.ble (List.length (List.map (RCod.dec cItem) (List.map (RCod.enc cItem) (N.sLine (RCod.dec cStock (RCod.enc cStock (Prod.fst (N.sPut (RCod.dec cStock cx0) [(113:UInt8)] (RCod.dec cMail (List.getD r41 (Int.toNat i43) [])))))) [(113:UInt8)])))) 1000) (cond (IntKind.wrap .i64 ((↑(List.length (List.map (RCod.dec cItem) (List.map (RCod.enc cItem) (N.sLine (RCod.dec cStock (RCod.enc cStock (Prod.fst (N.sPut (RCod.dec cStock cx0) [(113:UInt8)] (RCod.dec cMail (List.getD r41 (Int.toNat i43) [])))))) [(113:UInt8)])))):Int)-N.lReady (List.map (RCod.dec cItem) (List.map (RCod.enc cItem) (N.sLine (RCod.dec cStock (RCod.enc cStock (Prod.fst (N.sPut (RCod.dec cStock cx0) [(113:UInt8)] (RCod.dec cMail (List.getD r41 (Int.toNat i43) [])))))) [(113:UInt8)])))) != i10) (K Ex.ret {fr:=[(6,V.bool false)],tab:=[]:St}) (K Ex.normal {fr:=[(2,V.int .u8 i2),(7,V.int .i64 i7),(8,V.ptr 10000 0 0 0),(10,V.int .i64 i10),(11,V.int .u64 (IntKind.wrap .u64 (i11+(1:Int)))),(12,V.int .u64 (bif ilt i12 (HMail.id (Prod.fst (Prod.snd (Prod.snd (N.sPut (RCod.dec cStock cx0) [(113:UInt8)] (RCod.dec cMail (List.getD r41 (Int.toNat i43) []))))))) then HMail.id (Prod.fst (Prod.snd (Prod.snd (N.sPut (RCod.dec cStock cx0) [(113:UInt8)] (RCod.dec cMail (List.getD r41 (Int.toNat i43) [])))))) else i12)),(41,V.slc [.int .u64,.str,.str,.slc [.str,.int .u8,.int .i64,.str],.str,.int .u64,.int .u8] r41),(42,V.int .i64 i42),(43,V.int .i64 (IntKind.wrap .i64 (i43+(1:Int))))],tab:=[(10000,Box.var (RCod.enc cStock (Prod.fst (N.sPut (RCod.dec cStock cx0) [(113:UInt8)] (RCod.dec cMail (List.getD r41 (Int.toNat i43) []))))))]:St})) (none)) (none)) (none))) (none))) (cond (Nat.ble (List.length (List.map (RCod.dec cRow) (List.map (RCod.enc cRow) (HStock.rows (Prod.fst (N.sPut (RCod.dec cStock cx0) [(113:UInt8)] (RCod.dec cMail (List.getD r41 (Int.toNat i43) [])))))))) 100) (cond (ilt i7 (↑(List.length (List.map (RCod.dec cItem) (List.map (RCod.enc cItem) (N.sLine (RCod.dec cStock (RCod.enc cStock (Prod.fst (N.sPut (RCod.dec cStock cx0) [(113:UInt8)] (RCod.dec cMail (List.getD r41 (Int.toNat i43) [])))))) [(113:UInt8)])))):Int)) (K Ex.ret {fr:=[(6,V.bool false)],tab:=[]:St}) (cond (Nat.ble (List.length (List.map (RCod.dec cRow) (List.map (RCod.enc cRow) (HStock.rows (Prod.fst (N.sPut (RCod.dec cStock cx0) [(113:UInt8)] (RCod.dec cMail (List.getD r41 (Int.toNat i43) [])))))))) 100) (cond (Nat.ble (List.length (List.map (RCod.dec cRow) (List.map (RCod.enc cRow) (HStock.rows (Prod.fst (N.sPut (RCod.dec cStock cx0) [(113:UInt8)] (RCod.dec cMail (List.getD r41 (Int.toNat i43) [])))))))) 100) (cond (Nat.ble (List.length (List.map (RCod.dec cItem) (List.map (RCod.enc cItem) (N.sLine (RCod.dec cStock (RCod.enc cStock (Prod.fst (N.sPut (RCod.dec cStock cx0) [(113:UInt8)] (RCod.dec cMail (List.getD r41 (Int.toNat i43) [])))))) [(113:UInt8)])))) 1000) (cond (IntKind.wrap .i64 ((↑(List.length (List.map (RCod.dec cItem) (List.map (RCod.enc cItem) (N.sLine (RCod.dec cStock (RCod.enc cStock (Prod.fst (N.sPut (RCod.dec cStock cx0) [(113:UInt8)] (RCod.dec cMail (List.getD r41 (Int.toNat i43) [])))))) [(113:UInt8)])))):Int)-N.lReady (List.map (RCod.dec cItem) (List.map (RCod.enc cItem) (N.sLine (RCod.dec cStock (RCod.enc cStock (Prod.fst (N.sPut (RCod.dec cStock cx0) [(113:UInt8)] (RCod.dec cMail (List.getD r41 (Int.toNat i43) [])))))) [(113:UInt8)])))) != i10) (K Ex.ret {fr:=[(6,V.bool false)],tab:=[]:St}) (K Ex.normal {fr:=[(2,V.int .u8 i2),(7,V.int .i64 i7),(8,V.ptr 10000 0 0 0),(10,V.int .i64 i10),(11,V.int .u64 (IntKind.wrap .u64 (i11+(1:Int)))),(12,V.int .u64 (bif ilt i12 (HMail.id (Prod.fst (Prod.snd (Prod.snd (N.sPut (RCod.dec cStock cx0) [(113:UInt8)] (RCod.dec cMail (List.getD r41 (Int.toNat i43) []))))))) then HMail.id (Prod.fst (Prod.snd (Prod.snd (N.sPut (RCod.dec cStock cx0) [(113:UInt8)] (RCod.dec cMail (List.getD r41 (Int.toNat i43) [])))))) else i12)),(41,V.slc [.int .u64,.str,.str,.slc [.str,.int .u8,.int .i64,.str],.str,.int .u64,.int .u8] r41),(42,V.int .i64 i42),(43,V.int .i64 (IntKind.wrap .i64 (i43+(1:Int))))],tab:=[(10000,Box.var (RCod.enc cStock (Prod.fst (N.sPut (RCod.dec cStock cx0) [(113:UInt8)] (RCod.dec cMail (List.getD r41 (Int.toNat i43) []))))))]:St})) (none)) (none)) (none))) (none)))) (none))) (cond (Nat.ble (List.length (List.map (RCod.dec cRow) (V.toRows (List.getD cx0 2 .undef)))) 100) (cond (!(HMail.id (Prod.fst (Prod.snd (Prod.snd (N.sPut (RCod.dec cStock cx0) [(113:UInt8)] (RCod.dec cMail (List.getD r41 (Int.toNat i43) [])))))) != (0:Int))==((↑(List.length (List.map (RCod.dec cItem) (List.map (RCod.enc cItem) (N.sLine (RCod.dec cStock cx0) [(113:UInt8)])))):Int)==i7)) (K Ex.ret {fr:=[(6,V.bool false)],tab:=[]:St}) (cond (ilt i10 (IntKind.wrap .i64 (Int.tmod i2 (9:Int)))) (cond (ilt i10 i7) (cond (goodRows (RCod.dec cStock (RCod.enc cStock (Prod.fst (N.sPut (RCod.dec cStock cx0) [(113:UInt8)] (RCod.dec cMail (List.getD r41 (Int.toNat i43) []))))))) (cond (!Prod.snd (Prod.snd (N.sLend (RCod.dec cStock (RCod.enc cStock (Prod.fst (N.sPut (RCod.dec cStock cx0) [(113:UInt8)] (RCod.dec cMail (List.getD r41 (Int.toNat i43) [])))))) [(113:UInt8)]))) (K Ex.ret {fr:=[(6,V.bool false)],tab:=[]:St}) (cond (ile (HMail.id (HItem.mail (Prod.fst (Prod.snd (N.sLend (RCod.dec cStock (RCod.enc cStock (Prod.fst (N.sPut (RCod.dec cStock cx0) [(113:UInt8)] (RCod.dec cMail (List.getD r41 (Int.toNat i43) [])))))) [(113:UInt8)]))))) (bif ilt i12 (HMail.id (Prod.fst (Prod.snd (Prod.snd (N.sPut (RCod.dec cStock cx0) [(113:UInt8)] (RCod.dec cMail (List.getD r41 (Int.toNat i43) []))))))) then HMail.id (Prod.fst (Prod.snd (Prod.snd (N.sPut (RCod.dec cStock cx0) [(113:UInt8)] (RCod.dec cMail (List.getD r41 (Int.toNat i43) [])))))) else i12)) (cond (ilt (0:Int) i10) (cond (HMail.id (HItem.mail (Prod.fst (Prod.snd (N.sLend (RCod.dec cStock (RCod.enc cStock (Prod.fst (N.sPut (RCod.dec cStock cx0) [(113:UInt8)] (RCod.dec cMail (List.getD r41 (Int.toNat i43) [])))))) [(113:UInt8)]))))==HMail.id (Prod.fst (Prod.snd (Prod.snd (N.sPut (RCod.dec cStock cx0) [(113:UInt8)] (RCod.dec cMail (List.getD r41 (Int.toNat i43) []))))))) (K Ex.ret {fr:=[(6,V.bool false)],tab:=[]:St}) (cond (Nat.ble (List.length (List.map (RCod.dec cRow) (List.map (RCod.enc cRow) (HStock.rows (Prod.fst (N.sLend (RCod.dec cStock (RCod.enc cStock (Prod.fst (N.sPut (RCod.dec cStock cx0) [(113:UInt8)] (RCod.dec cMail (List.getD r41 (Int.toNat i43) [])))))) [(113:UInt8)])))))) 100) (cond (ilt i7 (↑(List.length (List.map (RCod.dec cItem) (List.map (RCod.enc cItem) (N.sLine (RCod.dec cStock (RCod.enc cStock (Prod.fst (N.sLend (RCod.dec cStock (RCod.enc cStock (Prod.fst (N.sPut (RCod.dec cStock cx0) [(113:UInt8)] (RCod.dec cMail (List.getD r41 (Int.toNat i43) [])))))) [(113:UInt8)])))) [(113:UInt8)])))):Int)) (K Ex.ret {fr:=[(6,V.bool false)],tab:=[]:St}) (cond (Nat.ble (List.length (List.map (RCod.dec cRow) (List.map (RCod.enc cRow) (HStock.rows (Prod.fst (N.sLend (RCod.dec cStock (RCod.enc cStock (Prod.fst (N.sPut (RCod.dec cStock cx0) [(113:UInt8)] (RCod.dec cMail (List.getD r41 (Int.toNat i43) [])))))) [(113:UInt8)])))))) 100) (cond (Nat.ble (List.length (List.map (RCod.dec cRow) (List.map (RCod.enc cRow) (HStock.rows (Prod.fst (N.sLend (RCod.dec cStock (RCod.enc cStock (Prod.fst (N.sPut (RCod.dec cStock cx0) [(113:UInt8)] (RCod.dec cMail (List.getD r41 (Int.toNat i43) [])))))) [(113:UInt8)])))))) 100) (cond (Nat.ble (List.length (List.map (RCod.dec cItem) (List.map (RCod.enc cItem) (N.sLine (RCod.dec cStock (RCod.enc cStock (Prod.fst (N.sLend (RCod.dec cStock (RCod.enc cStock (Prod.fst (N.sPut (RCod.dec cStock cx0) [(113:UInt8)] (RCod.dec cMail (List.getD r41 (Int.toNat i43) [])))))) [(113:UInt8)])))) [(113:UInt8)])))) 1000) (cond (IntKind.wrap .i64 ((↑(List.length (List.map (RCod.dec cItem) (List.map (RCod.enc cItem) (N.sLine (RCod.dec cStock (RCod.enc cStock (Prod.fst (N.sLend (RCod.dec cStock (RCod.enc cStock (Prod.fst (N.sPut (RCod.dec cStock cx0) [(113:UInt8)] (RCod.dec cMail (List.getD r41 (Int.toNat i43) [])))))) [(113:UInt8)])))) [(113:UInt8)])))):Int)-N.lReady (List.map (RCod.dec cItem) (List.map (RCod.enc cItem) (N.sLine (RCod.dec cStock (RCod.enc cStock (Prod.fst (N.sLend (RCod.dec cStock (RCod.enc cStock (Prod.fst (N.sPut (RCod.dec cStock cx0) [(113:UInt8)] (RCod.dec cMail (List.getD r41 (Int.toNat i43) [])))))) [(113:UInt8)])))) [(113:UInt8)])))) != IntKind.wrap .i64 (i10+(1:Int))) (K Ex.ret {fr:=[(6,V.bool false)],tab:=[]:St}) (K Ex.normal {fr:=[(2,V.int .u8 i2),(7,V.int .i64 i7),(8,V.ptr 10000 0 0 0),(10,V.int .i64 (IntKind.wrap .i64 (i10+(1:Int)))),(11,V.int .u64 (IntKind.wrap .u64 (i11+(1:Int)))),(12,V.int .u64 (bif ilt i12 (HMail.id (Prod.fst (Prod.snd (Prod.snd (N.sPut (RCod.dec cStock cx0) [(113:UInt8)] (RCod.dec cMail (List.getD r41 (Int.toNat i43) []))))))) then HMail.id (Prod.fst (Prod.snd (Prod.snd (N.sPut (RCod.dec cStock cx0) [(113:UInt8)] (RCod.dec cMail (List.getD r41 (Int.toNat i43) [])))))) else i12)),(41,V.slc [.int .u64,.str,.str,.slc [.str,.int .u8,.int .i64,.str],.str,.int .u64,.int .u8] r41),(42,V.int .i64 i42),(43,V.int .i64 (IntKind.wrap .i64 (i43+(1:Int))))],tab:=[(10000,Box.var (RCod.enc cStock (Prod.fst (N.sLend (RCod.dec cStock (RCod.enc cStock (Prod.fst (N.sPut (RCod.dec cStock cx0) [(113:UInt8)] (RCod.dec cMail (List.getD r41 (Int.toNat i43) [])))))) [(113:UInt8)]))))]:St})) (none)) (none)) (none))) (none))) (cond (Nat.ble (List.length (List.map (RCod.dec cRow) (List.map (RCod.enc cRow) (HStock.rows (Prod.fst (N.sLend (RCod.dec cStock (RCod.enc cStock (Prod.fst (N.sPut (RCod.dec cStock cx0) [(113:UInt8)] (RCod.dec cMail (List.getD r41 (Int.toNat i43) [])))))) [(113:UInt8)])))))) 100) (cond (ilt i7 (↑(List.length (List.map (RCod.dec cItem) (List.map (RCod.enc cItem) (N.sLine (RCod.dec cStock (RCod.enc cStock (Prod.fst (N.sLend (RCod.dec cStock (RCod.enc cStock (Prod.fst (N.sPut (RCod.dec cStock cx0) [(113:UInt8)] (RCod.dec cMail (List.getD r41 (Int.toNat i43) [])))))) [(113:UInt8)])))) [(113:UInt8)])))):Int)) (K Ex.ret {fr:=[(6,V.bool false)],tab:=[]:St}) (cond (Nat.ble (List.length (List.map (RCod.dec cRow) (List.map (RCod.enc cRow) (HStock.rows (Prod.fst (N.sLend (RCod.dec cStock (RCod.enc cStock (Prod.fst (N.sPut (RCod.dec cStock cx0) [(113:UInt8)] (RCod.dec cMail (List.getD r41 (Int.toNat i43) [])))))) [(113:UInt8)])))))) 100) (cond (Nat.ble (List.length (List.map (RCod.dec cRow) (List.map (RCod.enc cRow) (HStock.rows (Prod.fst (N.sLend (RCod.dec cStock (RCod.enc cStock (Prod.fst (N.sPut (RCod.dec cStock cx0) [(113:UInt8)] (RCod.dec cMail (List.getD r41 (Int.toNat i43) [])))))) [(113:UInt8)])))))) 100) (cond (Nat.ble (List.length (List.map (RCod.dec cItem) (List.map (RCod.enc cItem) (N.sLine (RCod.dec cStock (RCod.enc cStock (Prod.fst (N.sLend (RCod.dec cStock (RCod.enc cStock (Prod.fst (N.sPut (RCod.dec cStock cx0) [(113:UInt8)] (RCod.dec cMail (List.getD r41 (Int.toNat i43) [])))))) [(113:UInt8)])))) [(113:UInt8)])))) 1000) (cond (IntKind.wrap .i64 ((↑(List.length (List.map (RCod.dec cItem) (List.map (RCod.enc cItem) (N.sLine (RCod.dec cStock (RCod.enc cStock (Prod.fst (N.sLend (RCod.dec cStock (RCod.enc cStock (Prod.fst (N.sPut (RCod.dec cStock cx0) [(113:UInt8)] (RCod.dec cMail (List.getD r41 (Int.toNat i43) [])))))) [(113:UInt8)])))) [(113:UInt8)])))):Int)-N.lReady (List.map (RCod.dec cItem) (List.map (RCod.enc cItem) (N.sLine (RCod.dec cStock (RCod.enc cStock (Prod.fst (N.sLend (RCod.dec cStock (RCod.enc cStock (Prod.fst (N.sPut (RCod.dec cStock cx0) [(113:UInt8)] (RCod.dec cMail (List.getD r41 (Int.toNat i43) [])))))) [(113:UInt8)])))) [(113:UInt8)])))) != IntKind.wrap .i64 (i10+(1:Int))) (K Ex.ret {fr:=[(6,V.bool false)],tab:=[]:St}) (K Ex.normal {fr:=[(2,V.int .u8 i2),(7,V.int .i64 i7),(8,V.ptr 10000 0 0 0),(10,V.int .i64 (IntKind.wrap .i64 (i10+(1:Int)))),(11,V.int .u64 (IntKind.wrap .u64 (i11+(1:Int)))),(12,V.int .u64 (bif ilt i12 (HMail.id (Prod.fst (Prod.snd (Prod.snd (N.sPut (RCod.dec cStock cx0) [(113:UInt8)] (RCod.dec cMail (List.getD r41 (Int.toNat i43) []))))))) then HMail.id (Prod.fst (Prod.snd (Prod.snd (N.sPut (RCod.dec cStock cx0) [(113:UInt8)] (RCod.dec cMail (List.getD r41 (Int.toNat i43) [])))))) else i12)),(41,V.slc [.int .u64,.str,.str,.slc [.str,.int .u8,.int .i64,.str],.str,.int .u64,.int .u8] r41),(42,V.int .i64 i42),(43,V.int .i64 (IntKind.wrap .i64 (i43+(1:Int))))],tab:=[(10000,Box.var (RCod.enc cStock (Prod.fst (N.sLend (RCod.dec cStock (RCod.enc cStock (Prod.fst (N.sPut (RCod.dec cStock cx0) [(113:UInt8)] (RCod.dec cMail (List.getD r41 (Int.toNat i43) [])))))) [(113:UInt8)]))))]:St})) (none)) (none)) (none))) (none))) (cond (Nat.ble (List.length (List.map (RCod.dec cRow) (List.map (RCod.enc cRow) (HStock.rows (Prod.fst (N.sLend (RCod.dec cStock (RCod.enc cStock (Prod.fst (N.sPut (RCod.dec cStock cx0) [(113:UInt8)] (RCod.dec cMail (List.getD r41 (Int.toNat i43) [])))))) [(113:UInt8)])))))) 100) (cond (ilt i7 (↑(List.length (List.map (RCod.dec cItem) (List.map (RCod.enc cItem) (N.sLine (RCod.dec cStock (RCod.enc cStock (Prod.fst (N.sLend (RCod.dec cStock (RCod.enc cStock (Prod.fst (N.sPut (RCod.dec cStock cx0) [(113:UInt8)] (RCod.dec cMail (List.getD r41 (Int.toNat i43) [])))))) [(113:UInt8)])))) [(113:UInt8)])))):Int)) (K Ex.ret {fr:=[(6,V.bool false)],tab:=[]:St}) (cond (Nat.ble (List.length (List.map (RCod.dec cRow) (List.map (RCod.enc cRow) (HStock.rows (Prod.fst (N.sLend (RCod.dec cStock (RCod.enc cStock (Prod.fst (N.sPut (RCod.dec cStock cx0) [(113:UInt8)] (RCod.dec cMail (List.getD r41 (Int.toNat i43) [])))))) [(113:UInt8)])))))) 100) (cond (Nat.ble (List.length (List.map (RCod.dec cRow) (List.map (RCod.enc cRow) (HStock.rows (Prod.fst (N.sLend (RCod.dec cStock (RCod.enc cStock (Prod.fst (N.sPut (RCod.dec cStock cx0) [(113:UInt8)] (RCod.dec cMail (List.getD r41 (Int.toNat i43) [])))))) [(113:UInt8)])))))) 100) (cond (Nat.ble (List.length (List.map (RCod.dec cItem) (List.map (RCod.enc cItem) (N.sLine (RCod.dec cStock (RCod.enc cStock (Prod.fst (N.sLend (RCod.dec cStock (RCod.enc cStock (Prod.fst (N.sPut (RCod.dec cStock cx0) [(113:UInt8)] (RCod.dec cMail (List.getD r41 (Int.toNat i43) [])))))) [(113:UInt8)])))) [(113:UInt8)])))) 1000) (cond (IntKind.wrap .i64 ((↑(List.length (List.map (RCod.dec cItem) (List.map (RCod.enc cItem) (N.sLine (RCod.dec cStock (RCod.enc cStock (Prod.fst (N.sLend (RCod.dec cStock (RCod.enc cStock (Prod.fst (N.sPut (RCod.dec cStock cx0) [(113:UInt8)] (RCod.dec cMail (List.getD r41 (Int.toNat i43) [])))))) [(113:UInt8)])))) [(113:UInt8)])))):Int)-N.lReady (List.map (RCod.dec cItem) (List.map (RCod.enc cItem) (N.sLine (RCod.dec cStock (RCod.enc cStock (Prod.fst (N.sLend (RCod.dec cStock (RCod.enc cStock (Prod.fst (N.sPut (RCod.dec cStock cx0) [(113:UInt8)] (RCod.dec cMail (List.getD r41 (Int.toNat i43) [])))))) [(113:UInt8)])))) [(113:UInt8)])))) != IntKind.wrap .i64 (i10+(1:Int))) (K Ex.ret {fr:=[(6,V.bool false)],tab:=[]:St}) (K Ex.normal {fr:=[(2,V.int .u8 i2),(7,V.int .i64 i7),(8,V.ptr 10000 0 0 0),(10,V.int .i64 (IntKind.wrap .i64 (i10+(1:Int)))),(11,V.int .u64 (IntKind.wrap .u64 (i11+(1:Int)))),(12,V.int .u64 (bif ilt i12 (HMail.id (Prod.fst (Prod.snd (Prod.snd (N.sPut (RCod.dec cStock cx0) [(113:UInt8)] (RCod.dec cMail (List.getD r41 (Int.toNat i43) []))))))) then HMail.id (Prod.fst (Prod.snd (Prod.snd (N.sPut (RCod.dec cStock cx0) [(113:UInt8)] (RCod.dec cMail (List.getD r41 (Int.toNat i43) [])))))) else i12)),(41,V.slc [.int .u64,.str,.str,.slc [.str,.int .u8,.int .i64,.str],.str,.int .u64,.int .u8] r41),(42,V.int .i64 i42),(43,V.int .i64 (IntKind.wrap .i64 (i43+(1:Int))))],tab:=[(10000,Box.var (RCod.enc cStock (Prod.fst (N.sLend (RCod.dec cStock (RCod.enc cStock (Prod.fst (N.sPut (RCod.dec cStock cx0) [(113:UInt8)] (RCod.dec cMail (List.getD r41 (Int.toNat i43) [])))))) [(113:UInt8)]))))]:St})) (none)) (none)) (none))) (none)))) (none)) (cond (Nat.ble (List.length (List.map (RCod.dec cRow) (List.map (RCod.enc cRow) (HStock.rows (Prod.fst (N.sPut (RCod.dec cStock cx0) [(113:UInt8)] (RCod.dec cMail (List.getD r41 (Int.toNat i43) [])))))))) 100) (cond (ilt i7 (↑(List.length (List.map (RCod.dec cItem) (List.map (RCod.enc cItem) (N.sLine (RCod.dec cStock (RCod.enc cStock (Prod.fst (N.sPut (RCod.dec cStock cx0) [(113:UInt8)] (RCod.dec cMail (List.getD r41 (Int.toNat i43) [])))))) [(113:UInt8)])))):Int)) (K Ex.ret {fr:=[(6,V.bool false)],tab:=[]:St}) (cond (Nat.ble (List.length (List.map (RCod.dec cRow) (List.map (RCod.enc cRow) (HStock.rows (Prod.fst (N.sPut (RCod.dec cStock cx0) [(113:UInt8)] (RCod.dec cMail (List.getD r41 (Int.toNat i43) [])))))))) 100) (cond (Nat.ble (List.length (List.map (RCod.dec cRow) (List.map (RCod.enc cRow) (HStock.rows (Prod.fst (N.sPut (RCod.dec cStock cx0) [(113:UInt8)] (RCod.dec cMail (List.getD r41 (Int.toNat i43) [])))))))) 100) (cond (Nat.ble (List.length (List.map (RCod.dec cItem) (List.map (RCod.enc cItem) (N.sLine (RCod.dec cStock (RCod.enc cStock (Prod.fst (N.sPut (RCod.dec cStock cx0) [(113:UInt8)] (RCod.dec cMail (List.getD r41 (Int.toNat i43) [])))))) [(113:UInt8)])))) 1000) (cond (IntKind.wrap .i64 ((↑(List.length (List.map (RCod.dec cItem) (List.map (RCod.enc cItem) (N.sLine (RCod.dec cStock (RCod.enc cStock (Prod.fst (N.sPut (RCod.dec cStock cx0) [(113:UInt8)] (RCod.dec cMail (List.getD r41 (Int.toNat i43) [])))))) [(113:UInt8)])))):Int)-N.lReady (List.map (RCod.dec cItem) (List.map (RCod.enc cItem) (N.sLine (RCod.dec cStock (RCod.enc cStock (Prod.fst (N.sPut (RCod.dec cStock cx0) [(113:UInt8)] (RCod.dec cMail (List.getD r41 (Int.toNat i43) [])))))) [(113:UInt8)])))) != i10) (K Ex.ret {fr:=[(6,V.bool false)],tab:=[]:St}) (K Ex.normal {fr:=[(2,V.int .u8 i2),(7,V.int .i64 i7),(8,V.ptr 10000 0 0 0),(10,V.int .i64 i10),(11,V.int .u64 (IntKind.wrap .u64 (i11+(1:Int)))),(12,V.int .u64 (bif ilt i12 (HMail.id (Prod.fst (Prod.snd (Prod.snd (N.sPut (RCod.dec cStock cx0) [(113:UInt8)] (RCod.dec cMail (List.getD r41 (Int.toNat i43) []))))))) then HMail.id (Prod.fst (Prod.snd (Prod.snd (N.sPut (RCod.dec cStock cx0) [(113:UInt8)] (RCod.dec cMail (List.getD r41 (Int.toNat i43) [])))))) else i12)),(41,V.slc [.int .u64,.str,.str,.slc [.str,.int .u8,.int .i64,.str],.str,.int .u64,.int .u8] r41),(42,V.int .i64 i42),(43,V.int .i64 (IntKind.wrap .i64 (i43+(1:Int))))],tab:=[(10000,Box.var (RCod.enc cStock (Prod.fst (N.sPut (RCod.dec cStock cx0) [(113:UInt8)] (RCod.dec cMail (List.getD r41 (Int.toNat i43) []))))))]:St})) (none)) (none)) (none))) (none))) (cond (Nat.ble (List.length (List.map (RCod.dec cRow) (List.map (RCod.enc cRow) (HStock.rows (Prod.fst (N.sPut (RCod.dec cStock cx0) [(113:UInt8)] (RCod.dec cMail (List.getD r41 (Int.toNat i43) [])))))))) 100) (cond (ilt i7 (↑(List.length (List.map (RCod.dec cItem) (List.map (RCod.enc cItem) (N.sLine (RCod.dec cStock (RCod.enc cStock (Prod.fst (N.sPut (RCod.dec cStock cx0) [(113:UInt8)] (RCod.dec cMail (List.getD r41 (Int.toNat i43) [])))))) [(113:UInt8)])))):Int)) (K Ex.ret {fr:=[(6,V.bool false)],tab:=[]:St}) (cond (Nat.ble (List.length (List.map (RCod.dec cRow) (List.map (RCod.enc cRow) (HStock.rows (Prod.fst (N.sPut (RCod.dec cStock cx0) [(113:UInt8)] (RCod.dec cMail (List.getD r41 (Int.toNat i43) [])))))))) 100) (cond (Nat.ble (List.length (List.map (RCod.dec cRow) (List.map (RCod.enc cRow) (HStock.rows (Prod.fst (N.sPut (RCod.dec cStock cx0) [(113:UInt8)] (RCod.dec cMail (List.getD r41 (Int.toNat i43) [])))))))) 100) (cond (Nat.ble (List.length (List.map (RCod.dec cItem) (List.map (RCod.enc cItem) (N.sLine (RCod.dec cStock (RCod.enc cStock (Prod.fst (N.sPut (RCod.dec cStock cx0) [(113:UInt8)] (RCod.dec cMail (List.getD r41 (Int.toNat i43) [])))))) [(113:UInt8)])))) 1000) (cond (IntKind.wrap .i64 ((↑(List.length (List.map (RCod.dec cItem) (List.map (RCod.enc cItem) (N.sLine (RCod.dec cStock (RCod.enc cStock (Prod.fst (N.sPut (RCod.dec cStock cx0) [(113:UInt8)] (RCod.dec cMail (List.getD r41 (Int.toNat i43) [])))))) [(113:UInt8)])))):Int)-N.lReady (List.map (RCod.dec cItem) (List.map (RCod.enc cItem) (N.sLine (RCod.dec cStock (RCod.enc cStock (Prod.fst (N.sPut (RCod.dec cStock cx0) [(113:UInt8)] (RCod.dec cMail (List.getD r41 (Int.toNat i43) [])))))) [(113:UInt8)])))) != i10) (K Ex.ret {fr:=[(6,V.bool false)],tab:=[]:St}) (K Ex.normal {fr:=[(2,V.int .u8 i2),(7,V.int .i64 i7),(8,V.ptr 10000 0 0 0),(10,V.int .i64 i10),(11,V.int .u64 (IntKind.wrap .u64 (i11+(1:Int)))),(12,V.int .u64 (bif ilt i12 (HMail.id (Prod.fst (Prod.snd (Prod.snd (N.sPut (RCod.dec cStock cx0) [(113:UInt8)] (RCod.dec cMail (List.getD r41 (Int.toNat i43) []))))))) then HMail.id (Prod.fst (Prod.snd (Prod.snd (N.sPut (RCod.dec cStock cx0) [(113:UInt8)] (RCod.dec cMail (List.getD r41 (Int.toNat i43) [])))))) else i12)),(41,V.slc [.int .u64,.str,.str,.slc [.str,.int .u8,.int .i64,.str],.str,.int .u64,.int .u8] r41),(42,V.int .i64 i42),(43,V.int .i64 (IntKind.wrap .i64 (i43+(1:Int))))],tab:=[(10000,Box.var (RCod.enc cStock (Prod.fst (N.sPut (RCod.dec cStock cx0) [(113:UInt8)] (RCod.dec cMail (List.getD r41 (Int.toNat i43) []))))))]:St})) (none)) (none)) (none))) (none)))) (none)))))) (none))) (none)) (K (Ex.exit 0) {fr:=[],tab:=[]:St}):=by kernel_rfl
theorem ok_sPushes_11:RoundsOk eSPushes 3 11:=by
 refine rounds_of rfl fun l K q h=>?_
 unfold gSPushes at h
 split at h
 ·rename_i i2 i7 i10 i11 i12 r41 i42 i43 cx0
  have h1:=(cond_none h).1; replace h:=(cond_none h).2; have h2:=(cond_none h).1; replace h:=(cond_none h).2; have h3:=(cond_none h).1; replace h:=(cond_none h).2; have h4:=(cond_none h).1; replace h:=(cond_none h).2; have h5:=(cond_none h).1; replace h:=(cond_none h).2; have h6:=(cond_none h).1; replace h:=(cond_none h).2
  have e1:=ieq_of h1
  have e2:=ieq_of h2
  subst e1 e2
  have h3:r41.length≤40:=ble_of h3
  obtain ⟨a0,g1,g2,g3,g4,g5⟩:=goodPushC_of h4
  have h6:=ile_of h6
  subst g2 g3 g4
  show ∃ n,iterR eSPushes 3 11 n { fr:=[(2,.int .u8 i2),(7,.int .i64 i7),(8,.ptr 10000 0 0 0),(10,.int .i64 a0.held),(11,.int .u64 a0.next),(12,.int .u64 a0.old),(41,.slc [.int .u64,.str,.str,.slc [.str,.int .u8,.int .i64,.str],.str,.int .u64,.int .u8] r41),(42,.int .i64 r41.length),(43,.int .i64 0)],tab:=[(10000,.var (etaRow xsStock 0 cx0))] } K=some q
  rw [← g5]
  have main:=range_ind (E:=eSPushes) (f:=3) (id:=11) (A:=PSta) r41 (fun a i=>{ fr:=[(2,.int .u8 i2),(7,.int .i64 i7),(8,.ptr 10000 0 0 0),(10,.int .i64 a.held),(11,.int .u64 a.next),(12,.int .u64 a.old),(41,.slc [.int .u64,.str,.str,.slc [.str,.int .u8,.int .i64,.str],.str,.int .u64,.int .u8] r41),(42,.int .i64 r41.length),(43,.int .i64 i)],tab:=[(10000,.var (etaRow xsStock 0 (cStock.enc a.s)))] }) (fun a i=>PSt i7 a∧a.next≤1+i)
   (fun a rows K=>cond (N.pushes i7 i2 (rows.map cMail.dec) a.held) (K .ret { fr:=[(6,.bool true)],tab:=[] }) (K (.exit 0) { fr:=[],tab:=[] })) (fun a i ha hi=>?_) (fun a ha=>?_) a0 0 (Int.le_refl _) (by omega) ⟨g1,h6⟩ K q (by assumption)
  ·exact main
  ·obtain ⟨hP,hnx⟩:=ha
   have hq:=fun K=>q_sPushesR i2 i7 a.held a.next a.old r41 r41.length (i:Int) (cStock.enc a.s) K
   have t1:ilt (i:Int) r41.length=true:=ilt_t (by omega)
   have t2:decide ((0:Int)≤i∧(i:Int)<r41.length)=true:=decide_eq_true (by omega)
   have t3:IntKind.wrap .i64 ((i:Int)+1)=(i:Int)+1:=wr_i64 (by omega) (by omega)
   obtain ⟨hf,hs⟩:=bcond (show goodMl (cMail.dec (r41.getD i []))=true from all_get h5 hi)
   obtain ⟨p1,p2,p3,p4,p5,p6,p7⟩:=push_ends hP
   have b1:Nat.ble a.s.rows.length 100=true:=by rw [p1]; rfl
   simp only [Int.toNat_natCast,cStock.de,dec_encs,rows_encS] at hq
   simp only [List.map_cons,pushes_cons]
   simp only [t1,t2,t3,p4.goodN,fine_ok hf,hs,b1,tmod_wrap (show (0:Int)<9 by decide) (show (9:Int)≤1000 by decide),cond_true] at hq
   cases hc:N.mailCheck (cMail.dec (r41.getD i [])) != 0 with
   | true =>
    refine .inl ⟨a,⟨hP,by omega⟩,fun K=>?_,fun K=>rfl⟩
    rw [hq,hc]; rfl
   | false =>
    have hc' : N.mailCheck (cMail.dec (r41.getD i []))=0:=by simpa using hc
    cases he:a.held==i7 with
    | true =>
     have e:=push_full hP (eq_of_beq he) hc'
     refine .inr ⟨.ret,{ fr:=[(6,.bool true)],tab:=[] },by simp,fun K=>?_,fun K=>rfl⟩
     rw [hq,hc,he,e]; rfl
    | false =>
     have he' : a.held ≠ i7:=by simpa using he
     obtain ⟨t,out,e,hP2,c1,c2,c3⟩:=push_step hP he' (by omega) hf hs hc'
     obtain ⟨u1,u2,u3,u4,_,_,_⟩:=push_ends hP2
     have u1:t.rows.length=1:=u1
     have u2:((N.sLine t [113]).length:Int)≤i7:=u2
     have u3:((N.sLine t [113]).length:Int)-N.lReady (N.sLine t [113])=a.held:=u3
     have b2:Nat.ble t.rows.length 100=true:=by rw [u1]; rfl
     have b3:Nat.ble (N.sLine t [113]).length 1000=true:=ble_t (by omega)
     have b4:ilt i7 ((N.sLine t [113]).length:Int)=false:=ilt_f u2
     have b5:goodRows t=true:=(show SInv t from u4).goodRows
     have w1:IntKind.wrap .u64 (a.next+1)=a.next+1:=wr_u64 (by have:=ile_of (show ile 0 a.next=true by have:=p4.next0; obtain ⟨l,hl⟩:=hP; exact ile_t (by have:=hl.next; omega)); omega) (by omega)
     have w2:IntKind.wrap .i64 a.held=a.held:=wr_i64 (by omega) (by omega)
     have w3:IntKind.wrap .i64 (a.held+1)=a.held+1:=wr_i64 (by omega) (by omega)
     have c4:(!((out.id != 0)==(((N.sLine a.s [113]).length:Int)==i7)))=false:=by rw [← c1,beq_self_eq_true]; rfl
     simp only [hc,he,e,cond_false,bne_self_eq_false,b2,b3,b4,b5,u3,w1,w2,w3,cond_true,c4] at hq
     cases d1:cond (ilt a.held (Int.tmod i2 9)) (ilt a.held i7) false with
     | true =>
      obtain ⟨d2,d3⟩:=bcond d1
      obtain ⟨u,y,e2,hP3,c5⟩:=lend_step hP2 (show a.held<i7 by omega) c3
      obtain ⟨v1,v2,v3,v4,_,_,_⟩:=push_ends hP3
      have v1:u.rows.length=1:=v1
      have v2:((N.sLine u [113]).length:Int)≤i7:=v2
      have v3:((N.sLine u [113]).length:Int)-N.lReady (N.sLine u [113])=a.held+1:=v3
      have e2:N.sLend t [113]=(u,y,true):=e2
      have b6:Nat.ble u.rows.length 100=true:=by rw [v1]; rfl
      have b7:Nat.ble (N.sLine u [113]).length 1000=true:=ble_t (by omega)
      have b8:ilt i7 ((N.sLine u [113]).length:Int)=false:=ilt_f v2
      have b9:ile y.mail.id (cond (ilt a.old out.id) out.id a.old)=false:=ile_f c5
      simp only [d2,d3,e2,Bool.not_true,b6,b7,b8,b9,v3,w3,bne_self_eq_false,cond_true,cond_false] at hq
      refine .inl ⟨⟨u,a.held+1,a.next+1,cond (ilt a.old out.id) out.id a.old⟩,⟨hP3,by show a.next+1≤1+((i+1:Nat):Int); omega⟩,fun K=>?_,fun K=>rfl⟩
      rw [hq]
      cases d4:out.id != 0 with
      | true=>rw [ile_f (c2 (by simpa using d4))]; rfl
      | false=>rfl
     | false =>
      refine .inl ⟨⟨t,a.held,a.next+1,cond (ilt a.old out.id) out.id a.old⟩,⟨hP2,by show a.next+1≤1+((i+1:Nat):Int); omega⟩,fun K=>?_,fun K=>rfl⟩
      rw [hq]
      cases d4:out.id != 0 with
      | true =>
       rw [ile_f (c2 (by simpa using d4))]
       cases d2:ilt a.held (Int.tmod i2 9) with
       | true=>rw [d2] at d1; rw [show ilt a.held i7=false from d1]; rfl
       | false=>rfl
      | false =>
       cases d2:ilt a.held (Int.tmod i2 9) with
       | true=>rw [d2] at d1; rw [show ilt a.held i7=false from d1]; rfl
       | false=>rfl
  ·refine ⟨.exit 0,{ fr:=[],tab:=[] },by simp,fun K=>?_,fun K=>rfl⟩
   rw [q_sPushesR,ilt_f (by omega)]
   try rfl
 ·cases h
theorem ok_sPushes (hN:FnOk Tryz.prog 95 dOutNum):FnOk Tryz.prog 3 dSPushes:=by
 refine den_okF (env_ok (((((((((((TOk.nil _).cons ok_lReadyN).cons ok_sLend).cons ok_lLen).cons ok_sLine).cons (ok_sPut hN)).cons ok_refMailCheck).cons ok_sMake).cons ok_sNew).cons ok_light20).cons (ok_aw21 hN))) (E:=eSPushes) Tryz.func3 [11] (by kernel_rfl) (one1 ok_sPushes_11) fun a b hp=>?_
 obtain ⟨l,most,lent⟩:=a
 obtain ⟨hp,hl⟩:=bcond hp
 obtain ⟨hl,h0⟩:=bcond hl
 have hp:Nat.ble l.length 9223372036854775807=true:=hp
 have hl:l.all N.fineM=true:=hl
 have h0:0≤most:=ile_of h0
 have m1:=Int.tmod_lt_of_pos most (show (0:Int)<8 by decide)
 have m2:=Int.tmod_nonneg 8 h0
 refine (q_sPushes l most lent).trans ?_
 have w1:IntKind.wrap .i64 (1+Int.tmod most 8)=1+Int.tmod most 8:=wr_i64 (by omega) (by omega)
 have w2:IntKind.wrap .u64 (1+Int.tmod most 8)=1+Int.tmod most 8:=wr_u64 (by omega) (by omega)
 have hmk:=make_stk (m:=1+Int.tmod most 8) (by omega) (by omega)
 have hst:=goodPushC_t (push_start (m:=1+Int.tmod most 8) (by omega) (by omega))
 have hst:goodPushC (1+Int.tmod most 8) 0 1 0 (cStock.enc (stk (1+Int.tmod most 8) [] 1))=true:=hst
 simp only [dec_encs,cStock.de,List.length_map,hp,tmod_wrap (show (0:Int)<8 by decide) (show (8:Int)≤1000 by decide),w1,w2,hmk,hst,bne_self_eq_false,cond_false,beq_self_eq_true,cond_true]
 cases h5:N.lightMs l with
 | false=>rfl
 | true =>
  have h6:=light_few h5
  have h7:l.all goodMl=true:=List.all_eq_true.2 fun x hx=>by
   show cond (N.fineM x) (smallM x) false=true
   rw [List.all_eq_true.1 hl x hx,List.all_eq_true.1 h6 x hx]; rfl
  rw [h7]
  cases h4:ile (l.length:Int) 40 with
  | false=>rfl
  | true =>
   rw [ble_t (show l.length≤40 by have:=ile_of h4; omega)]
   cases N.pushes (1+Int.tmod most 8) lent l 0<;>rfl
end Go.Ev

/- The library's text builder in this program,and the function that writes a number's bytes with it: lemmas,no condition but the text's length. -/
namespace Go.Ev
open Go Go.Proofs Go.RowKit Go.Shelf
theorem bSize:(Tryz.prog.info? 223).map (·.size)=some 2:=by kernel_rfl
theorem bLies:liesAt Tryz.prog Tryz.prog.depth 223 (2 / Tryz.prog.cellsOf 223) 0 223 1=true:=by kernel_rfl
theorem bByte:(Tryz.prog.info? 5).map (fun i=>(i.zero,i.size,i.bytes))=some (some (.int .u8 0),1,1):=by kernel_rfl
set_option maxHeartbeats 1000000 in
set_option maxRecDepth 100000 in
theorem cc_used (b : Nat) (w : World) (h0 : w.cell? ⟨b, 0, none⟩ = some (.pointer (some ⟨b, 0, none⟩))) :
    Calls Tryz.prog 190 #[.pointer (some ⟨b, 0, none⟩)] w fun e w' => e = .returned (.tuple #[]) ∧ w' = w := by
  obtain ⟨j, hj, _⟩ := Option.map_eq_some_iff.1 bSize
  go_enter Tryz.func190, Tryz.ntmps190
  go_wp2
  rw [Lib.run_neq_ptr_same w _ Tryz.underlying221 hj]
  go_wp2
  go_end0
  exact ⟨rfl, rfl⟩
set_option maxHeartbeats 1000000 in
set_option maxRecDepth 100000 in
theorem cc_fresh (b : Nat) (w : World) (h0 : w.cell? ⟨b, 0, none⟩ = some (.pointer none)) (hsh : w.shape? b = some (223, 2)) (hfz : w.frozen? ⟨b, 0, none⟩ = false) :
    Calls Tryz.prog 190 #[.pointer (some ⟨b, 0, none⟩)] w fun e w' => e = .returned (.tuple #[]) ∧ w' = w.setCell ⟨b, 0, none⟩ (.pointer (some ⟨b, 0, none⟩)) := by
  obtain ⟨j, hj, hjs⟩ := Option.map_eq_some_iff.1 bSize
  go_enter Tryz.func190, Tryz.ntmps190
  go_wp2
  rw [Lib.run_to_unsafe w ⟨b, 0, none⟩ Tryz.underlying221 Tryz.underlying256 hj (by rw [hjs]; decide) hsh (Nat.zero_lt_succ 1)]
  simp only [Result.andThen]
  rw [Oper.upon_value]
  go_wp2
  rw [run_callFunc_extern Tryz.func198 (by kernel_rfl) (by kernel_rfl) (by kernel_rfl) (e := Extern.AbiNoEscape.same) (by kernel_rfl)]
  rw [Lib.run_noEscape]
  simp only [Result.andThen]
  rw [Oper.upon_value]
  go_wp2
  rw [Lib.run_from_unsafe w ⟨b, 0, none⟩ Tryz.underlying256 Tryz.underlying221 hj hsh bLies]
  simp only [Result.andThen]
  rw [Oper.upon_value]
  go_wp2
  go_end0
  exact ⟨rfl, rfl⟩
theorem cc (B b:Nat) (bs:List Value) (w:World) (h:Lib.IsBuilder 223 5 B b bs w) :
  Calls Tryz.prog 190 #[.pointer (some ⟨b,0,none⟩)] w fun e w'=>e = .returned (.tuple #[])∧(Lib.BuilderAt 223 5 B b (.pointer (some ⟨b,0,none⟩)) bs w'∧Below B w w'):=by
 rcases h with h | h
 ·refine (cc_fresh b w h.cell0 h.shape h.frozen0).mono ?_
  rintro e w' ⟨rfl,rfl⟩
  exact ⟨rfl,h.used _,(Below.refl B w).setCell (p:=⟨b,0,none⟩) h.1 _⟩
 ·refine (cc_used b w h.cell0).mono ?_
  rintro e w' ⟨rfl,rfl⟩
  exact ⟨rfl,h,Below.refl B _⟩
set_option maxHeartbeats 2000000 in
set_option maxRecDepth 100000 in
theorem writeByte (B b : Nat) (bs : List Value) (c : Int) (w : World) (h : Lib.IsBuilder 223 5 B b bs w) (hlen : bs.length + 1 ≤ 140737488355328) (hBw : B ≤ w.heap.size) :
    Calls Tryz.prog 161 #[.pointer (some ⟨b, 0, none⟩), .int .u8 c] w fun e w' => e = .returned .nilIface ∧ (Lib.BuilderAt 223 5 B b (.pointer (some ⟨b, 0, none⟩)) (bs ++ [.int .u8 c]) w' ∧ Below B w w') := by
  obtain ⟨i0, hi, hz0, hz1, hz2⟩ := info_parts bByte
  go_enter Tryz.func161, Tryz.ntmps161
  go_wp2_with (go_at_call 190; refine (cc B b bs _ h).mono ?_)
  rintro e w1 ⟨rfl, h1, hb1⟩
  obtain ⟨hB, v, hbk, hown, hne⟩ := h1
  have c0 : w1.cell? ⟨b, 0, none⟩ = some (.pointer (some ⟨b, 0, none⟩)) := by rw [Lib.cell_of_heap hbk]; rfl
  have c1 : w1.cell? ⟨b, 1, none⟩ = some v := by rw [Lib.cell_of_heap hbk]; rfl
  go_wp2_with (at_builtin; refine wpList_append_own _ rfl _ _ 208 rfl B 5 i0 (.int .u8 0) 1 1 Tryz.underlying208 hi hz0 hz1 hz2 rfl (by decide) _ _ _ rfl (hown.alloc _) ⟨w1.heap.size, 0, none⟩ 1 1 [.int .u8 c] rfl rfl ?c1 ?c2 ?c3 ?c4 ?c5 ?_)
  case c1 =>
    intro j u hj
    match j, hj with
    | 0, hj => simp at hj; subst hj; simp [Addr.add]
  case c2 => intro u hu; simp at hu; subst hu; rfl
  case c3 => unfold maxLen; omega
  case c4 => omega
  case c5 => have := hb1.size; simp; omega
  intro v' w2 hown' hgrow _
  have hlt : b < w1.heap.size := by
    rcases Nat.lt_or_ge b w1.heap.size with h' | h'
    · exact h'
    · simp [Array.getElem?_eq_none h'] at hbk
  have hb2 : w2.heap[b]? = some (.cells #[.pointer (some ⟨b, 0, none⟩), v] 223 (0, 0)) := by
    rw [hgrow.block b (by simp; omega) (fun e => hne e.symm), Lib.alloc_old w1 _ b hlt]
    exact hbk
  have d0 : w2.cell? ⟨b, 0, none⟩ = some (.pointer (some ⟨b, 0, none⟩)) := by rw [Lib.cell_of_heap hb2]; rfl
  have d1 : w2.cell? ⟨b, 1, none⟩ = some v := by rw [Lib.cell_of_heap hb2]; rfl
  have f1 : w2.frozen? ⟨b, 1, none⟩ = false := Lib.frozen_of_heap hb2 1
  obtain ⟨g, cap, rfl⟩ : ∃ g cap, v' = .slice (some ⟨g, 0, none⟩) (bs.length + 1) cap := by
    rcases hown'.2 with ⟨_, h0⟩ | ⟨g, cap, cur, hv, _⟩
    · omega
    · exact ⟨g, cap, hv⟩
  go_wp2
  go_ret
  refine ⟨rfl, ?_, ?_⟩
  · exact Lib.BuilderAt.put (T := 223) (e := 5) hB hb2 (bs' := bs ++ [.int .u8 c]) (by simpa using hown') (by decide)
  · exact ((hb1.alloc (by have := hb1.size; omega) _).grown hgrow (by have := hb1.size; simp; omega) (fun k hk => (hown.lt k hk).1)).setCell (p := ⟨b, 1, none⟩) hB _
def lays169_ren:Go.Shelf.Ren:=⟨fun | 169=>162 | n=>n,fun | 70=>221 | 9=>9 | 0=>0 | 72=>223 | 37=>208 | 127=>249 | 3=>3 | 5=>5 | n=>n,fun | n=>n⟩
theorem lays169:Go.Proofs.Lays.n169 Tryz.prog lays169_ren:={
 mixed:=by kernel_rfl
 f169:=Tryz.func162.trans (congrArg some (by kernel_rfl))
 t0:=Tryz.underlying0
 a0:=Tryz.isAgg0
 z0:=Tryz.sizeOf0
 v0:=Tryz.zeroValue0
 t3:=Tryz.underlying3
 a3:=Tryz.isAgg3
 z3:=Tryz.sizeOf3
 v3:=Tryz.zeroValue3
 t9:=Tryz.underlying9
 a9:=Tryz.isAgg9
 z9:=Tryz.sizeOf9
 v9:=Tryz.zeroValue9
 t37:=Tryz.underlying208
 a37:=Tryz.isAgg208
 z37:=Tryz.sizeOf208
 v37:=Tryz.zeroValue208
 t70:=Tryz.underlying221
 a70:=Tryz.isAgg221
 z70:=Tryz.sizeOf221
 v70:=Tryz.zeroValue221
 t72:=Tryz.underlying223
 a72:=Tryz.isAgg223
 z72:=Tryz.sizeOf223
 v72:=Tryz.zeroValue223
 t127:=Tryz.underlying249
 a127:=Tryz.isAgg249
 z127:=Tryz.sizeOf249
 v127:=Tryz.zeroValue249 }
theorem extra169:Builder.Extra Tryz.prog lays169_ren:={
 sizeBuilder:=by kernel_rfl
 liesBuilder:=by kernel_rfl
 t5:=Tryz.underlying5
 a5:=Tryz.isAgg5
 z5:=Tryz.sizeOf5
 v5:=Tryz.zeroValue5
 infoByte:=by kernel_rfl
 cellsByte:=by kernel_rfl
 sizeByte:=by kernel_rfl
 neB5:=by decide }
theorem bString (B b:Nat) (l:List UInt8) (w:World) (h:Lib.IsBuilder 223 5 B b (Lib.byteCells l) w) (hBw:B≤w.heap.size) :
  Calls Tryz.prog 162 #[.pointer (some ⟨b,0,none⟩)] w fun e w'=>e = .returned (.string ⟨l.toArray⟩)∧Below B w w':=Any.Builder_String_any lays169 extra169 B b l w h hBw
end Go.Ev

/- The function that writes a number's bytes: its walk. -/
namespace Go.Ev
open Go Go.Proofs Go.RowKit Go.Shelf
theorem clamp_eq {bytes:Int}:min (max bytes 0) 8=(N.clamp bytes:Int)∧N.clamp bytes≤8:=by
 unfold N.clamp
 rw [ilt_eq,ilt_eq]
 by_cases h1:0<bytes
 ·by_cases h2:8<bytes
  ·simp [h1,h2]; omega
  ·simp [h1,h2]; omega
 ·simp [h1]; omega
theorem two_blocks {w wr:World} {o1 o2:Obj} (h:Below (w.heap.size+1+1) ((w.alloc o1).alloc o2) wr):wr.heap[w.heap.size]? = some o1∧wr.heap[w.heap.size+1]? = some o2:=by
 have e:(w.alloc o1).heap.size=w.heap.size+1:=by simp
 refine ⟨?_,?_⟩
 ·rw [h.block _ (by omega),Below.heap_alloc _ _ _ (by omega)]; exact Go.heap_alloc_new w o1
 ·rw [h.block _ (by omega),← e]; exact Go.heap_alloc_new _ o2
set_option maxHeartbeats 4000000 in
set_option maxRecDepth 1000000 in
theorem outNum_walk (s : ByteArray) (er n bytes : Int) (w : World) (hs : (s.size : Int) ≤ 9223372036854775799) :
    Calls Tryz.prog 95 #[.agg #[.string s, .int .i64 er], .int .u64 n, .int .i64 bytes] w fun e w' =>
      e = .returned (.agg #[.string ⟨(s.data.toList ++ N.numB n (N.clamp bytes)).toArray⟩, .int .i64 er]) ∧ Below w.heap.size w w' := by
  go_enter Tryz.func95, Tryz.ntmps95
  go_wp2
  go_loopw [8] (fun i wr => ∃ (k : Int) (acc : List UInt8), i = .int .i64 k ∧ Lib.IsBuilder 223 5 (w.heap.size + 1 + 1) (w.heap.size + 1 + 1) (Lib.byteCells acc) wr ∧
      Below (w.heap.size + 1 + 1) ((w.alloc (Obj.cells #[Value.string s, Value.int IntKind.i64 er] 154)).alloc (Obj.cells #[Value.string { data := #[] }, Value.int IntKind.i64 0] 154)) wr ∧
      -1 ≤ k ∧ acc ++ N.numB n (k + 1).toNat = N.numB n (N.clamp bytes) ∧ acc.length + (k + 1).toNat ≤ 8) (fun i _ => (intOf i + 1).toNat)
  case atStart =>
    obtain ⟨hcl, hc8⟩ := clamp_eq (bytes := bytes)
    have hf := Lib.fresh_isBuilder 223 5 ((w.alloc (Obj.cells #[Value.string s, Value.int IntKind.i64 er] 154)).alloc (Obj.cells #[Value.string { data := #[] }, Value.int IntKind.i64 0] 154))
    have e0 : ((w.alloc (Obj.cells #[Value.string s, Value.int IntKind.i64 er] 154)).alloc (Obj.cells #[Value.string { data := #[] }, Value.int IntKind.i64 0] 154)).heap.size = w.heap.size + 1 + 1 := by simp
    rw [e0] at hf
    refine ⟨(N.clamp bytes : Int) - 1, [], by rw [hcl], hf, (Below.refl _ _).alloc (by simp) _, by omega, ?_, ?_⟩
    · rw [show ((N.clamp bytes : Int) - 1 + 1).toNat = N.clamp bytes by omega]; rfl
    · simp only [List.length_nil]; omega
  case round =>
    obtain ⟨k, acc, rfl, hI, hB, hk, hacc, hal⟩ := hrel
    by_cases hk0 : 0 ≤ k
    · go_wp2_with (go_at_call 161; refine (writeByte (w.heap.size + 1 + 1) (w.heap.size + 1 + 1) _ _ _ hI (by rw [Lib.byteCells_length]; omega) (by have := hB.size; simp at this; omega)).mono ?_)
      rintro e w1 ⟨rfl, h1, b1⟩
      go_wp2
      go_roundw
      case rel =>
        have e1 : N.numB n (k + 1).toNat = UInt8.ofNat ((n / 2 ^ (8 * k.toNat)) % 256).toNat :: N.numB n k.toNat := by
          rw [show (k + 1).toNat = k.toNat + 1 by omega]; rfl
        have e2 : ((UInt8.ofNat ((n / 2 ^ (8 * k.toNat)) % 256).toNat).toNat : Int) = n / 2 ^ (8 * k).toNat % 256 := by
          rw [show (8 * k).toNat = 8 * k.toNat by omega]
          have h0 : 0 ≤ (n / 2 ^ (8 * k.toNat)) % 256 := Int.emod_nonneg _ (by decide)
          have h1 : (n / 2 ^ (8 * k.toNat)) % 256 < 256 := Int.emod_lt_of_pos _ (by decide)
          have h2 : (UInt8.ofNat ((n / 2 ^ (8 * k.toNat)) % 256).toNat).toNat = ((n / 2 ^ (8 * k.toNat)) % 256).toNat := UInt8.toNat_ofNat_of_lt' (by
            show ((n / 2 ^ (8 * k.toNat)) % 256).toNat < 256
            omega)
          rw [h2]; omega
        refine ⟨k - 1, acc ++ [UInt8.ofNat ((n / 2 ^ (8 * k.toNat)) % 256).toNat], rfl, ?_, hB.trans b1, by omega, ?_, ?_⟩
        · rw [Lib.byteCells_append]
          have e3 : Lib.byteCells [UInt8.ofNat ((n / 2 ^ (8 * k.toNat)) % 256).toNat] = [Value.int .u8 (n / 2 ^ (8 * k).toNat % 256)] := by
            rw [← e2]; rfl
          rw [e3]; exact Or.inr h1
        · rw [e1] at hacc
          rw [← hacc, show (k - 1 + 1).toNat = k.toNat by omega, List.append_assoc]; rfl
        · rw [List.length_append]; simp only [List.length_cons, List.length_nil]; omega
      case measure => simp [intOf]; omega
    · have hk1 : k = -1 := by omega
      subst hk1
      have hfin : N.numB n (N.clamp bytes) = acc := by rw [← hacc]; show acc ++ [] = acc; simp
      have hal : acc.length ≤ 8 := by omega
      clear hacc
      rw [hfin]
      obtain ⟨hb0, hb1⟩ := two_blocks hB
      have c0 : wr.cell? ⟨w.heap.size, 0, none⟩ = some (.string s) := by rw [Lib.cell_of_heap hb0]; rfl
      have c1 : wr.cell? ⟨w.heap.size, 1, none⟩ = some (.int .i64 er) := by rw [Lib.cell_of_heap hb0]; rfl
      have c2 : wr.cell? ⟨w.heap.size + 1, 0, none⟩ = some (.string ⟨#[]⟩) := by rw [Lib.cell_of_heap hb1]; rfl
      have c3 : wr.cell? ⟨w.heap.size + 1, 1, none⟩ = some (.int .i64 0) := by rw [Lib.cell_of_heap hb1]; rfl
      have f0 : wr.frozen? ⟨w.heap.size, 0, none⟩ = false := Lib.frozen_of_heap hb0 0
      have f1 : wr.frozen? ⟨w.heap.size, 1, none⟩ = false := Lib.frozen_of_heap hb0 1
      have f2 : wr.frozen? ⟨w.heap.size + 1, 0, none⟩ = false := Lib.frozen_of_heap hb1 0
      have f3 : wr.frozen? ⟨w.heap.size + 1, 1, none⟩ = false := Lib.frozen_of_heap hb1 1
      have hBw : w.heap.size + 1 + 1 ≤ wr.heap.size := by have := hB.size; simp at this; omega
      have hadd : ¬ 9223372036854775807 < s.size + acc.length := by omega
      have hadd2 : ¬ 9223372036854775807 < s.size + (⟨acc.toArray⟩ : ByteArray).size := by
        show ¬ 9223372036854775807 < s.size + acc.toArray.size
        rw [List.size_toArray]; exact hadd
      have hadd3 : ¬ (s.size + (⟨acc.toArray⟩ : ByteArray).size > 9223372036854775807) := hadd2
      have hadd4 : s.size + (⟨acc.toArray⟩ : ByteArray).size ≤ 9223372036854775807 := Nat.not_lt.1 hadd2
      have hadd5 : s.size + acc.length ≤ 9223372036854775807 := Nat.not_lt.1 hadd
      go_wp2
      go_region_with (go_at_call 162; refine (bString (w.heap.size + 1 + 1) (w.heap.size + 1 + 1) acc _ (by exact hI) (by exact hBw)).mono ?_; rintro e w2 ⟨rfl, b2⟩
                      have d0 : w2.cell? ⟨w.heap.size, 0, none⟩ = some (.string s) := by rw [b2.cell (by show w.heap.size < w.heap.size + 1 + 1; omega)]; exact c0
                      have d1 : w2.cell? ⟨w.heap.size, 1, none⟩ = some (.int .i64 er) := by rw [b2.cell (by show w.heap.size < w.heap.size + 1 + 1; omega)]; exact c1
                      have d2 : w2.cell? ⟨w.heap.size + 1, 0, none⟩ = some (.string ⟨#[]⟩) := by rw [b2.cell (by show w.heap.size + 1 < w.heap.size + 1 + 1; omega)]; exact c2
                      have d3 : w2.cell? ⟨w.heap.size + 1, 1, none⟩ = some (.int .i64 0) := by rw [b2.cell (by show w.heap.size + 1 < w.heap.size + 1 + 1; omega)]; exact c3
                      have e0 : w2.frozen? ⟨w.heap.size, 0, none⟩ = false := by rw [b2.frozen (by show w.heap.size < w.heap.size + 1 + 1; omega)]; exact f0
                      have e1 : w2.frozen? ⟨w.heap.size, 1, none⟩ = false := by rw [b2.frozen (by show w.heap.size < w.heap.size + 1 + 1; omega)]; exact f1
                      have e2 : w2.frozen? ⟨w.heap.size + 1, 0, none⟩ = false := by rw [b2.frozen (by show w.heap.size + 1 < w.heap.size + 1 + 1; omega)]; exact f2
                      have e3 : w2.frozen? ⟨w.heap.size + 1, 1, none⟩ = false := by rw [b2.frozen (by show w.heap.size + 1 < w.heap.size + 1 + 1; omega)]; exact f3)
      all_goals go_wp2
      all_goals
        refine ⟨rfl, .agg #[.string (s ++ ⟨acc.toArray⟩), .int .i64 er], ?_, ?_, ?_⟩
        · simp [results, Tryz.results95, go_sem, d2, d3]
        · rw [hfin, ← bytes_append]
        · have b0 : Below w.heap.size w wr := (((Below.refl _ w).alloc (Nat.le_refl _) _).alloc (by simp) _).trans (hB.mono (by omega))
          exact (((b0.drew.trans (b2.mono (by omega))).setCell (p := ⟨w.heap.size, 0, none⟩) (Nat.le_refl _) _).setCell (p := ⟨w.heap.size + 1, 0, none⟩) (Nat.le_succ _) _).setCell (p := ⟨w.heap.size + 1, 1, none⟩) (Nat.le_succ _) _
theorem keeps_below {w w' : World} (X:Nat→Nat→Prop) (h:Below w.heap.size w w'):Keeps X w w' :=
 ⟨h.os,h.tape,h.output,h.size,fun b hb=>ObjOk.same (h.block b hb)⟩
theorem outNum_ok:FnOk Tryz.prog 95 dOutNum:=by
 refine den_of fun a b hp=>?_
 obtain ⟨o,n,bytes⟩:=a
 intro x y hxy w J locs xs hlen hJ hx _ _ _
 have hxy:x=(aCons (vAgg cOut) (aCons (vInt .u64) (aOne (vInt .i64)))).enc (o,n,bytes)∧y=bNil.enc b:=by simpa using hxy
 obtain ⟨rfl,rfl⟩:=hxy
 have hlen:locs=[]:=List.eq_nil_of_length_eq_zero hlen
 subst hlen
 obtain ⟨hp1,hp⟩:=bcond hp
 obtain ⟨hp2,hp3⟩:=bcond hp
 have hp3:o.s.length≤9223372036854775799:=Nat.le_of_ble_eq_true hp3
 obtain ⟨x0,xs1,rfl,hx0,hx⟩:=hx.uncons
 obtain ⟨x1,xs2,rfl,hx1,hx⟩:=hx.uncons
 obtain ⟨x2,rfl,hx2⟩:=hx.one
 obtain ⟨cs,rfl,hc1,hc2⟩:=Rv.agg_inv (show Rv w J _ (.agg [.str o.s,.int .i64 o.err]) x0 from hx0)
 have hx1:=Rv.int_inv (show Rv w J _ (.int .u64 n) x1 from hx1)
 have hx2:=Rv.int_inv (show Rv w J _ (.int .i64 bytes) x2 from hx2)
 subst hx1 hx2
 match cs,hc1,hc2 with
 | [c0,c1],_,hc2 =>
  have h0:=Rv.str_inv (show Rv w J _ (.str o.s) c0 from hc2 0 (by simp))
  have h1:=Rv.int_inv (show Rv w J _ (.int .i64 o.err) c1 from hc2 1 (by simp))
  subst h0 h1
  refine .inl ⟨?_,?_⟩
  ·have hnm : ¬ (Tryz.f95).name = "runtime.NumGoroutine" := by
    intro e
    have : ((Tryz.f95).name == "runtime.NumGoroutine") = false := by kernel_rfl
    rw [e] at this; cases this
   obtain ⟨c,hc⟩:=Option.isSome_iff_exists.1 (show (Tryz.f95).body.isSome=true by kernel_rfl)
   simp [callFunc,Tryz.func95,hnm,hc]
  ·refine (outNum_walk ⟨o.s.toArray⟩ o.err n bytes w (by rw [bytes_size]; omega)).mono fun e w' ⟨he,hb⟩=>⟨_,he,J,?_⟩
   refine ⟨keeps_below _ hb,fun _ _ h=>h,fun b o' h=>Nat.lt_of_lt_of_le (hJ b o' h) hb.size,fun _ _ h _=>h,rfl,(fun j cs cs' p hj=>by cases hj),.inl ⟨rfl,?_⟩⟩
   refine .agg [.str (N.outNum o n bytes).s,.int .i64 (N.outNum o n bytes).err] [.string ⟨(o.s++N.numB n (N.clamp bytes)).toArray⟩,.int .i64 o.err] rfl fun i hi=>?_
   match i,hi with
   | 0,_=>exact .dat (.str _)
   | 1,_=>exact .dat (.int _ _)
end Go.Ev
