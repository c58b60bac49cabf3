/- Where an exchange leads: the program's function: lemmas. -/
import Derived.Test.YtpdaepodhfdplaaGreatDoorGd
namespace Go.Ev
open Go Go.Proofs
set_option maxRecDepth 100000
-- FOLD
def smallLd (sort:Int) (k:Bytes) (h:List HPair) (y:HBind):Bool:=smallG (N.bindRule y sort) k h
def goodLd (b:HBook) (s k:Bytes) (h:List HPair):Bool:=cond (smallBook b) (b.binds.all (smallLd (N.shopOf s b.shops).1.sort k h)) false
def dBLeads:Den:=den (aCons (vAgg cBook) (aCons vStr (aCons vStr (aOne (vSl cPair))))) bNil (oTup (aCons (vSl rStr) (aCons (vSl rStr) (aOne (vInt .i64))))) (fun a _=>goodLd a.1 a.2.1 a.2.2.1 a.2.2.2) fun a _=>(N.bLeads a.1 a.2.1 a.2.2.1 a.2.2.2,())
def schBLeads:SSch:={ fr:=[(1,.str),(2,.str),(3,.slc [.str,.int .u8,.int .i64,.str]),(11,.ptr 10000 0 0),(13,.own 10001),(14,.own 10002),(34,.slc [.str,.str,.bool,.str,.slc [.str,.int .u8,.int .i64,.str],.bool]),(35,.int .i64),(36,.int .i64)],tab:=[(10000,.var [.str,.int .u8,.str]),(10001,.sl [.str]),(10002,.sl [.str])] }
def gBLeads:List Leaf→(Ex→St→Option R)→Option R
 | [.s s,.s k,.r h0,.r r,.i n,.i i,.s _,.i x1,.s _,.r a,.r c],K=>cond (n==r.length) (cond (i==0) (cond (Nat.ble r.length 1000) (cond (Nat.beq a.length 0) (cond (Nat.beq c.length 0) (cond ((r.map cBind.dec).all (smallLd x1 k (h0.map cPair.dec)))
   (K (.exit 1) { fr:=[(13,.own 10000 0),(14,.own 10001 0)],tab:=[(10000,.sl [.str] ((N.leadsR s x1 k (h0.map cPair.dec) (r.map cBind.dec) [] []).1.map rStr.enc) 0),(10001,.sl [.str] ((N.leadsR s x1 k (h0.map cPair.dec) (r.map cBind.dec) [] []).2.map rStr.enc) 0)] }) none) none) none) none) none) none
 | _,_=>none
noncomputable def eBLeads:Env:={ env Tryz.prog [(38,dBookShop),(89,dBindRule),(90,dGoes)] [(8,loopF schBLeads gBLeads)] [(8,[(0,[1,2,3,11,13,14,34,35,36]),(2,[13,14]),(1000,[8,9,10])])] with M:=lk? [(91,mPut)] }
theorem q_bLeads (b:HBook) (s k:Bytes) (h:List HPair):evFn eBLeads 36 ((aCons (vAgg cBook) (aCons vStr (aCons vStr (aOne (vSl cPair))))).enc (b,s,k,h)) ([]) some =
 cond (Nat.ble (List.length (List.map (RCod.dec cShop) (List.map (RCod.enc cShop) (HBook.shops b)))) 1000) (cond (!Prod.snd (N.shopOf s (List.map (RCod.dec cShop) (List.map (RCod.enc cShop) (HBook.shops b))))) (some {v:=V.tup [V.slc [.str] [],V.slc [.str] [],V.int .i64 (10:Int)],bx:=[]:DRes}) (cond (HShop.sort (Prod.fst (N.shopOf s (List.map (RCod.dec cShop) (List.map (RCod.enc cShop) (HBook.shops b)))))==(4:Int)) (some {v:=V.tup [V.slc [.str] [],V.slc [.str] [[V.str (HShop.to (Prod.fst (N.shopOf s (List.map (RCod.dec cShop) (List.map (RCod.enc cShop) (HBook.shops b))))))]],V.int .i64 (0:Int)],bx:=[]:DRes}) (cond ((↑(List.length (List.map (RCod.enc cBind) (HBook.binds b))):Int)==(↑(List.length (List.map (RCod.enc cBind) (HBook.binds b))):Int)) (cond (Nat.ble (List.length (List.map (RCod.enc cBind) (HBook.binds b))) 1000) (cond (List.all (List.map (RCod.dec cBind) (List.map (RCod.enc cBind) (HBook.binds b))) (smallLd (HShop.sort (Prod.fst (N.shopOf s (List.map (RCod.dec cShop) (List.map (RCod.enc cShop) (HBook.shops b)))))) k (List.map (RCod.dec cPair) (List.map (RCod.enc cPair) h)))) (some {v:=V.tup [V.slc [.str] (List.map (RCod.enc rStr) (Prod.fst (N.leadsR s (HShop.sort (Prod.fst (N.shopOf s (List.map (RCod.dec cShop) (List.map (RCod.enc cShop) (HBook.shops b)))))) k (List.map (RCod.dec cPair) (List.map (RCod.enc cPair) h)) (List.map (RCod.dec cBind) (List.map (RCod.enc cBind) (HBook.binds b))) [] []))),V.slc [.str] (List.map (RCod.enc rStr) (Prod.snd (N.leadsR s (HShop.sort (Prod.fst (N.shopOf s (List.map (RCod.dec cShop) (List.map (RCod.enc cShop) (HBook.shops b)))))) k (List.map (RCod.dec cPair) (List.map (RCod.enc cPair) h)) (List.map (RCod.dec cBind) (List.map (RCod.enc cBind) (HBook.binds b))) [] []))),V.int .i64 (0:Int)],bx:=[]:DRes}) (none)) (none)) (none)))) (none):=by kernel_rfl
theorem q_bLeadsR (s k:Bytes) (h0 r:List (List V)) (n i:Int) (x0:Bytes) (x1:Int) (x2:Bytes) (a c:List (List V)) (K:Ex→St→Option R):evRound eBLeads 36 8 { fr:=[(1,.str s),(2,.str k),(3,.slc [.str,.int .u8,.int .i64,.str] h0),(11,.ptr 10000 0 0 0),(13,.own 10001 0),(14,.own 10002 0),(34,.slc [.str,.str,.bool,.str,.slc [.str,.int .u8,.int .i64,.str],.bool] r),(35,.int .i64 n),(36,.int .i64 i)],tab:=[(10000,.var [.str x0,.int .u8 x1,.str x2]),(10001,.sl [.str] a 0),(10002,.sl [.str] c 0)] } K =
 cond (ilt i n) (cond (decide ((0:Int)≤i∧i<(↑(List.length r):Int))) (cond (!V.toStr (List.getD (List.getD r (Int.toNat i) []) 0 V.undef)==s) (cond (!V.toStr (List.getD (List.getD r (Int.toNat i) []) 0 V.undef)==s) (K Ex.normal {fr:=[(1,V.str s),(2,V.str k),(3,V.slc [.str,.int .u8,.int .i64,.str] h0),(11,V.ptr 10000 0 0 0),(13,V.own 10001 0),(14,V.own 10002 0),(34,V.slc [.str,.str,.bool,.str,.slc [.str,.int .u8,.int .i64,.str],.bool] r),(35,V.int .i64 n),(36,V.int .i64 (IntKind.wrap .i64 (i+(1:Int))))],tab:=[(10000,Box.var [V.str x0,V.int .u8 x1,V.str x2]),(10001,Box.sl [.str] a 0),(10002,Box.sl [.str] c 0)]:St}) (cond (V.toBool (List.getD (List.getD r (Int.toNat i) []) 2 V.undef)) (cond (Nat.ble (List.length (List.map (RCod.dec rStr) c)) 1000) (K Ex.normal {fr:=[(1,V.str s),(2,V.str k),(3,V.slc [.str,.int .u8,.int .i64,.str] h0),(11,V.ptr 10000 0 0 0),(13,V.own 10001 0),(14,V.own 10002 0),(34,V.slc [.str,.str,.bool,.str,.slc [.str,.int .u8,.int .i64,.str],.bool] r),(35,V.int .i64 n),(36,V.int .i64 (IntKind.wrap .i64 (i+(1:Int))))],tab:=[(10000,Box.var [V.str x0,V.int .u8 x1,V.str x2]),(10001,Box.sl [.str] a 0),(10002,Box.sl [.str] (List.map (RCod.enc rStr) (N.putS (List.map (RCod.dec rStr) c) (V.toStr (List.getD (List.getD r (Int.toNat i) []) 1 V.undef)))) 0)]:St}) (none)) (cond (Nat.ble (List.length (List.map (RCod.dec rStr) a)) 1000) (K Ex.normal {fr:=[(1,V.str s),(2,V.str k),(3,V.slc [.str,.int .u8,.int .i64,.str] h0),(11,V.ptr 10000 0 0 0),(13,V.own 10001 0),(14,V.own 10002 0),(34,V.slc [.str,.str,.bool,.str,.slc [.str,.int .u8,.int .i64,.str],.bool] r),(35,V.int .i64 n),(36,V.int .i64 (IntKind.wrap .i64 (i+(1:Int))))],tab:=[(10000,Box.var [V.str x0,V.int .u8 x1,V.str x2]),(10001,Box.sl [.str] (List.map (RCod.enc rStr) (N.putS (List.map (RCod.dec rStr) a) (V.toStr (List.getD (List.getD r (Int.toNat i) []) 1 V.undef)))) 0),(10002,Box.sl [.str] c 0)]:St}) (none)))) (cond (smallG {sort:=HRule.sort (N.bindRule {shop:=V.toStr (List.getD (List.getD r (Int.toNat i) []) 0 V.undef),to:=V.toStr (List.getD (List.getD r (Int.toNat i) []) 1 V.undef),up:=V.toBool (List.getD (List.getD r (Int.toNat i) []) 2 V.undef),key:=V.toStr (List.getD (List.getD r (Int.toNat i) []) 3 V.undef),want:=List.map (fun r=>{key:=V.toStr (List.getD r 0 .undef),kind:=V.toInt (List.getD r 1 .undef),num:=V.toInt (List.getD r 2 .undef),text:=V.toStr (List.getD r 3 .undef):HPair}) (V.toRows (List.getD (List.getD r (Int.toNat i) []) 4 V.undef)),all:=V.toBool (List.getD (List.getD r (Int.toNat i) []) 5 V.undef):HBind} x1),key:=HRule.key (N.bindRule {shop:=V.toStr (List.getD (List.getD r (Int.toNat i) []) 0 V.undef),to:=V.toStr (List.getD (List.getD r (Int.toNat i) []) 1 V.undef),up:=V.toBool (List.getD (List.getD r (Int.toNat i) []) 2 V.undef),key:=V.toStr (List.getD (List.getD r (Int.toNat i) []) 3 V.undef),want:=List.map (fun r=>{key:=V.toStr (List.getD r 0 .undef),kind:=V.toInt (List.getD r 1 .undef),num:=V.toInt (List.getD r 2 .undef),text:=V.toStr (List.getD r 3 .undef):HPair}) (V.toRows (List.getD (List.getD r (Int.toNat i) []) 4 V.undef)),all:=V.toBool (List.getD (List.getD r (Int.toNat i) []) 5 V.undef):HBind} x1),want:=List.map (fun r=>{key:=V.toStr (List.getD r 0 .undef),kind:=V.toInt (List.getD r 1 .undef),num:=V.toInt (List.getD r 2 .undef),text:=V.toStr (List.getD r 3 .undef):HPair}) (List.map (fun p=>[V.str (HPair.key p),V.int .u8 (HPair.kind p),V.int .i64 (HPair.num p),V.str (HPair.text p)]) (HRule.want (N.bindRule {shop:=V.toStr (List.getD (List.getD r (Int.toNat i) []) 0 V.undef),to:=V.toStr (List.getD (List.getD r (Int.toNat i) []) 1 V.undef),up:=V.toBool (List.getD (List.getD r (Int.toNat i) []) 2 V.undef),key:=V.toStr (List.getD (List.getD r (Int.toNat i) []) 3 V.undef),want:=List.map (fun r=>{key:=V.toStr (List.getD r 0 .undef),kind:=V.toInt (List.getD r 1 .undef),num:=V.toInt (List.getD r 2 .undef),text:=V.toStr (List.getD r 3 .undef):HPair}) (V.toRows (List.getD (List.getD r (Int.toNat i) []) 4 V.undef)),all:=V.toBool (List.getD (List.getD r (Int.toNat i) []) 5 V.undef):HBind} x1))),all:=HRule.all (N.bindRule {shop:=V.toStr (List.getD (List.getD r (Int.toNat i) []) 0 V.undef),to:=V.toStr (List.getD (List.getD r (Int.toNat i) []) 1 V.undef),up:=V.toBool (List.getD (List.getD r (Int.toNat i) []) 2 V.undef),key:=V.toStr (List.getD (List.getD r (Int.toNat i) []) 3 V.undef),want:=List.map (fun r=>{key:=V.toStr (List.getD r 0 .undef),kind:=V.toInt (List.getD r 1 .undef),num:=V.toInt (List.getD r 2 .undef),text:=V.toStr (List.getD r 3 .undef):HPair}) (V.toRows (List.getD (List.getD r (Int.toNat i) []) 4 V.undef)),all:=V.toBool (List.getD (List.getD r (Int.toNat i) []) 5 V.undef):HBind} x1):HRule} k (List.map (RCod.dec cPair) h0)) (cond (!N.goes {sort:=HRule.sort (N.bindRule {shop:=V.toStr (List.getD (List.getD r (Int.toNat i) []) 0 V.undef),to:=V.toStr (List.getD (List.getD r (Int.toNat i) []) 1 V.undef),up:=V.toBool (List.getD (List.getD r (Int.toNat i) []) 2 V.undef),key:=V.toStr (List.getD (List.getD r (Int.toNat i) []) 3 V.undef),want:=List.map (fun r=>{key:=V.toStr (List.getD r 0 .undef),kind:=V.toInt (List.getD r 1 .undef),num:=V.toInt (List.getD r 2 .undef),text:=V.toStr (List.getD r 3 .undef):HPair}) (V.toRows (List.getD (List.getD r (Int.toNat i) []) 4 V.undef)),all:=V.toBool (List.getD (List.getD r (Int.toNat i) []) 5 V.undef):HBind} x1),key:=HRule.key (N.bindRule {shop:=V.toStr (List.getD (List.getD r (Int.toNat i) []) 0 V.undef),to:=V.toStr (List.getD (List.getD r (Int.toNat i) []) 1 V.undef),up:=V.toBool (List.getD (List.getD r (Int.toNat i) []) 2 V.undef),key:=V.toStr (List.getD (List.getD r (Int.toNat i) []) 3 V.undef),want:=List.map (fun r=>{key:=V.toStr (List.getD r 0 .undef),kind:=V.toInt (List.getD r 1 .undef),num:=V.toInt (List.getD r 2 .undef),text:=V.toStr (List.getD r 3 .undef):HPair}) (V.toRows (List.getD (List.getD r (Int.toNat i) []) 4 V.undef)),all:=V.toBool (List.getD (List.getD r (Int.toNat i) []) 5 V.undef):HBind} x1),want:=List.map (fun r=>{key:=V.toStr (List.getD r 0 .undef),kind:=V.toInt (List.getD r 1 .undef),num:=V.toInt (List.getD r 2 .undef),text:=V.toStr (List.getD r 3 .undef):HPair}) (List.map (fun p=>[V.str (HPair.key p),V.int .u8 (HPair.kind p),V.int .i64 (HPair.num p),V.str (HPair.text p)]) (HRule.want (N.bindRule {shop:=V.toStr (List.getD (List.getD r (Int.toNat i) []) 0 V.undef),to:=V.toStr (List.getD (List.getD r (Int.toNat i) []) 1 V.undef),up:=V.toBool (List.getD (List.getD r (Int.toNat i) []) 2 V.undef),key:=V.toStr (List.getD (List.getD r (Int.toNat i) []) 3 V.undef),want:=List.map (fun r=>{key:=V.toStr (List.getD r 0 .undef),kind:=V.toInt (List.getD r 1 .undef),num:=V.toInt (List.getD r 2 .undef),text:=V.toStr (List.getD r 3 .undef):HPair}) (V.toRows (List.getD (List.getD r (Int.toNat i) []) 4 V.undef)),all:=V.toBool (List.getD (List.getD r (Int.toNat i) []) 5 V.undef):HBind} x1))),all:=HRule.all (N.bindRule {shop:=V.toStr (List.getD (List.getD r (Int.toNat i) []) 0 V.undef),to:=V.toStr (List.getD (List.getD r (Int.toNat i) []) 1 V.undef),up:=V.toBool (List.getD (List.getD r (Int.toNat i) []) 2 V.undef),key:=V.toStr (List.getD (List.getD r (Int.toNat i) []) 3 V.undef),want:=List.map (fun r=>{key:=V.toStr (List.getD r 0 .undef),kind:=V.toInt (List.getD r 1 .undef),num:=V.toInt (List.getD r 2 .undef),text:=V.toStr (List.getD r 3 .undef):HPair}) (V.toRows (List.getD (List.getD r (Int.toNat i) []) 4 V.undef)),all:=V.toBool (List.getD (List.getD r (Int.toNat i) []) 5 V.undef):HBind} x1):HRule} k (List.map (RCod.dec cPair) h0)) (K Ex.normal {fr:=[(1,V.str s),(2,V.str k),(3,V.slc [.str,.int .u8,.int .i64,.str] h0),(11,V.ptr 10000 0 0 0),(13,V.own 10001 0),(14,V.own 10002 0),(34,V.slc [.str,.str,.bool,.str,.slc [.str,.int .u8,.int .i64,.str],.bool] r),(35,V.int .i64 n),(36,V.int .i64 (IntKind.wrap .i64 (i+(1:Int))))],tab:=[(10000,Box.var [V.str x0,V.int .u8 x1,V.str x2]),(10001,Box.sl [.str] a 0),(10002,Box.sl [.str] c 0)]:St}) (cond (V.toBool (List.getD (List.getD r (Int.toNat i) []) 2 V.undef)) (cond (Nat.ble (List.length (List.map (RCod.dec rStr) c)) 1000) (K Ex.normal {fr:=[(1,V.str s),(2,V.str k),(3,V.slc [.str,.int .u8,.int .i64,.str] h0),(11,V.ptr 10000 0 0 0),(13,V.own 10001 0),(14,V.own 10002 0),(34,V.slc [.str,.str,.bool,.str,.slc [.str,.int .u8,.int .i64,.str],.bool] r),(35,V.int .i64 n),(36,V.int .i64 (IntKind.wrap .i64 (i+(1:Int))))],tab:=[(10000,Box.var [V.str x0,V.int .u8 x1,V.str x2]),(10001,Box.sl [.str] a 0),(10002,Box.sl [.str] (List.map (RCod.enc rStr) (N.putS (List.map (RCod.dec rStr) c) (V.toStr (List.getD (List.getD r (Int.toNat i) []) 1 V.undef)))) 0)]:St}) (none)) (cond (Nat.ble (List.length (List.map (RCod.dec rStr) a)) 1000) (K Ex.normal {fr:=[(1,V.str s),(2,V.str k),(3,V.slc [.str,.int .u8,.int .i64,.str] h0),(11,V.ptr 10000 0 0 0),(13,V.own 10001 0),(14,V.own 10002 0),(34,V.slc [.str,.str,.bool,.str,.slc [.str,.int .u8,.int .i64,.str],.bool] r),(35,V.int .i64 n),(36,V.int .i64 (IntKind.wrap .i64 (i+(1:Int))))],tab:=[(10000,Box.var [V.str x0,V.int .u8 x1,V.str x2]),(10001,Box.sl [.str] (List.map (RCod.enc rStr) (N.putS (List.map (RCod.dec rStr) a) (V.toStr (List.getD (List.getD r (Int.toNat i) []) 1 V.undef)))) 0),(10002,Box.sl [.str] c 0)]:St}) (none)))) (none))) (none)) (K (Ex.exit 1) {fr:=[(13,V.own 10000 0),(14,V.own 10001 0)],tab:=[(10000,Box.sl [.str] a 0),(10001,Box.sl [.str] c 0)]:St}):=by kernel_rfl
theorem gok_bLeads:GOk eBLeads:=env_ok2 (T:=[(38,dBookShop),(89,dBindRule),(90,dGoes)]) (MT:=[(91,mPut)]) (XT:=[]) ((((TOk.nil _).cons ok_goes).cons ok_bindRule).cons ok_bookShop) ((MOk.nil _).cons ok_putS) (XOk.nil _) rfl rfl (by funext f; rfl)
theorem leadsR_cons (s:Bytes) (t:Int) (k:Bytes) (h:List HPair) (y:HBind) (r:List HBind) (q p:List Bytes):N.leadsR s t k h (y::r) q p=cond (cond (N.ofShop s y) (N.goes (N.bindRule y t) k h) false) (cond y.up (N.leadsR s t k h r q (N.putS p y.to)) (N.leadsR s t k h r (N.putS q y.to) p)) (N.leadsR s t k h r q p):=rfl
theorem putS_len (l:List Bytes) (s:Bytes):(N.putS l s).length≤l.length+1:=by
 unfold N.putS
 cases l.any (N.eqS s) with
 | true=>exact Nat.le_succ _
 | false=>simp
theorem ok_bLeads_8:RoundsOk eBLeads 36 8:=by
 refine rounds_of rfl fun l K q h=>?_
 unfold gBLeads at h
 split at h
 ·rename_i s k h0 r n i x0 x1 x2 a c
  have h1:=(cond_none h).1; replace h:=(cond_none h).2; have h2:=(cond_none h).1; replace h:=(cond_none h).2; have h3:=(cond_none h).1; replace h:=(cond_none h).2; have h4:=(cond_none h).1; replace h:=(cond_none h).2; have h5:=(cond_none h).1; replace h:=(cond_none h).2; have h6:=(cond_none h).1; replace h:=(cond_none h).2
  have e1:=ieq_of h1
  have e2:=ieq_of h2
  have e3:=List.eq_nil_of_length_eq_zero (nbeq_of h4)
  have e4:=List.eq_nil_of_length_eq_zero (nbeq_of h5)
  subst e1 e2 e3 e4
  have h3:r.length≤1000:=ble_of h3
  have main:=range_ind (E:=eBLeads) (f:=36) (id:=8) (A:=List Bytes × List Bytes) r (fun a i=>{ fr:=[(1,.str s),(2,.str k),(3,.slc [.str,.int .u8,.int .i64,.str] h0),(11,.ptr 10000 0 0 0),(13,.own 10001 0),(14,.own 10002 0),(34,.slc [.str,.str,.bool,.str,.slc [.str,.int .u8,.int .i64,.str],.bool] r),(35,.int .i64 r.length),(36,.int .i64 i)],tab:=[(10000,.var [.str x0,.int .u8 x1,.str x2]),(10001,.sl [.str] (a.1.map rStr.enc) 0),(10002,.sl [.str] (a.2.map rStr.enc) 0)] }) (fun a i=>a.1.length≤i∧a.2.length≤i)
   (fun a rows K=>K (.exit 1) { fr:=[(13,.own 10000 0),(14,.own 10001 0)],tab:=[(10000,.sl [.str] ((N.leadsR s x1 k (h0.map cPair.dec) (rows.map cBind.dec) a.1 a.2).1.map rStr.enc) 0),(10001,.sl [.str] ((N.leadsR s x1 k (h0.map cPair.dec) (rows.map cBind.dec) a.1 a.2).2.map rStr.enc) 0)] }) (fun a i ha hi=>?_) (fun a ha=>?_) ([],[]) 0 (Int.le_refl _) (by omega) ⟨Nat.zero_le _,Nat.zero_le _⟩ K q (by assumption)
  ·exact main
  ·obtain ⟨u,v⟩:=a
   obtain ⟨g1,g2⟩:=ha
   simp only at g1 g2
   have hs:smallLd x1 k (h0.map cPair.dec) (cBind.dec (r.getD i []))=true:=List.all_eq_true.1 h6 _ (List.mem_map_of_mem (by rw [List.getD_eq_getElem?_getD,List.getElem?_eq_getElem hi]; exact List.getElem_mem hi))
   have hs:smallG (N.bindRule (cBind.dec (r.getD i [])) x1) k (h0.map cPair.dec)=true:=hs
   have hq:=fun K=>q_bLeadsR s k h0 r r.length i x0 x1 x2 (u.map rStr.enc) (v.map rStr.enc) K
   have t1:ilt (i:Int) r.length=true:=ilt_t (by omega)
   have t2:decide ((0:Int)≤i∧(i:Int)<r.length)=true:=decide_eq_true (by omega)
   have t3:IntKind.wrap .i64 ((i:Int)+1)=(i:Int)+1:=wr_i64 (by omega) (by omega)
   have b1:Nat.ble u.length 1000=true:=ble_t (by omega)
   have b2:Nat.ble v.length 1000=true:=ble_t (by omega)
   have p1:=putS_len u (cBind.dec (r.getD i [])).to
   have p2:=putS_len v (cBind.dec (r.getD i [])).to
   have hn:V.toStr (List.getD (List.getD r i []) 0 V.undef)=(cBind.dec (r.getD i [])).shop:=rfl
   have hu:V.toBool (List.getD (List.getD r i []) 2 V.undef)=(cBind.dec (r.getD i [])).up:=rfl
   have ht:V.toStr (List.getD (List.getD r i []) 1 V.undef)=(cBind.dec (r.getD i [])).to:=rfl
   simp only [Int.toNat_natCast,fold_bind] at hq
   simp only [fold_ruleE] at hq
   simp only [t1,t2,t3,hn,hu,ht,hs,dec_encs,b1,b2,cond_true] at hq
   simp only [List.map_cons,leadsR_cons]
   generalize hy:cBind.dec (r.getD i [])=y at *
   cases hc:N.ofShop s y with
   | false =>
    refine .inl ⟨(u,v),⟨by simp only; omega,by simp only; omega⟩,fun K=>?_,fun K=>rfl⟩
    have hc:(y.shop==s)=false:=hc
    rw [hq,hc]
    try rfl
   | true =>
    have hc:(y.shop==s)=true:=hc
    cases hg:N.goes (N.bindRule y x1) k (h0.map cPair.dec) with
    | false =>
     refine .inl ⟨(u,v),⟨by simp only; omega,by simp only; omega⟩,fun K=>?_,fun K=>rfl⟩
     rw [hq,hc]
     simp only [Bool.not_true,cond_false]
     rw [hg]
     try rfl
    | true =>
     cases hup:y.up with
     | true =>
      refine .inl ⟨(u,N.putS v y.to),⟨by simp only; omega,by simp only; omega⟩,fun K=>?_,fun K=>rfl⟩
      rw [hq,hc,hup]
      simp only [Bool.not_true,cond_false]
      rw [hg]
      try rfl
     | false =>
      refine .inl ⟨(N.putS u y.to,v),⟨by simp only; omega,by simp only; omega⟩,fun K=>?_,fun K=>rfl⟩
      rw [hq,hc,hup]
      simp only [Bool.not_true,cond_false]
      rw [hg]
      try rfl
  ·refine ⟨.exit 1,_,by simp,fun K=>?_,fun K=>rfl⟩
   rw [q_bLeadsR]
   simp (disch:=omega) only [evs]
   try rfl
 ·cases h
theorem ok_bLeads:FnOk Tryz.prog 36 dBLeads:=by
 refine den_okF gok_bLeads (E:=eBLeads) Tryz.func36 [8] (by kernel_rfl) (one1 ok_bLeads_8) fun a _ hp=>?_
 obtain ⟨b,s,k,h⟩:=a
 obtain ⟨h1,h2⟩:=bcond hp
 have h1:smallBook b=true:=h1
 have h2:b.binds.all (smallLd (N.shopOf s b.shops).1.sort k h)=true:=h2
 have h3:Nat.ble b.shops.length 1000=true:=(bcond h1).1
 have h4:Nat.ble b.binds.length 1000=true:=(bcond (bcond h1).2).1
 refine (q_bLeads b s k h).trans ?_
 show _=some (⟨.tup [.slc [.str] ((N.bLeads b s k h).1.map rStr.enc),.slc [.str] ((N.bLeads b s k h).2.1.map rStr.enc),.int .i64 (N.bLeads b s k h).2.2],[],[]⟩:DRes)
 unfold N.bLeads
 simp only [List.length_map,dec_encs,h2,h3,h4,beq_self_eq_true,cond_true]
 cases (N.shopOf s b.shops).2 with
 | false=>rfl
 | true=>cases (N.shopOf s b.shops).1.sort==4<;>rfl
end Go.Ev

/- The document's functions on exchanges and bindings answer what the plain ones do: lemmas. -/
namespace Go.Ev
open Go Go.Proofs
set_option maxRecDepth 100000
-- FOLD
noncomputable def eSameB:Env:=env Tryz.prog [(59,dSameP)] [] []
theorem q_sameB (a b:HBind):evFn eSameB 95 ((aCons (vAgg cBind) (aOne (vAgg cBind))).enc (a,b)) ([]) some =
 cond (HBind.shop a==HBind.shop b) (cond (HBind.to a==HBind.to b) (cond (HBind.up a==HBind.up b) (cond (HBind.key a==HBind.key b) (cond (HBind.all a==HBind.all b) (cond (smallP (List.map (RCod.dec cPair) (List.map (fun p=>[V.str (HPair.key p),V.int .u8 (HPair.kind p),V.int .i64 (HPair.num p),V.str (HPair.text p)]) (HBind.want a)))) (some {v:=V.bool (N.samePs (List.map (RCod.dec cPair) (List.map (fun p=>[V.str (HPair.key p),V.int .u8 (HPair.kind p),V.int .i64 (HPair.num p),V.str (HPair.text p)]) (HBind.want a))) (List.map (RCod.dec cPair) (List.map (fun p=>[V.str (HPair.key p),V.int .u8 (HPair.kind p),V.int .i64 (HPair.num p),V.str (HPair.text p)]) (HBind.want b)))),bx:=[]:DRes}) (none)) (some {v:=V.bool false,bx:=[]:DRes})) (some {v:=V.bool false,bx:=[]:DRes})) (some {v:=V.bool false,bx:=[]:DRes})) (some {v:=V.bool false,bx:=[]:DRes})) (some {v:=V.bool false,bx:=[]:DRes}):=by kernel_rfl
theorem ok_sameB:FnOk Tryz.prog 95 dBindSame:=by
 refine den_okF (env_ok ((TOk.nil _).cons ok_refSame)) (E:=eSameB) Tryz.func95 [] (by kernel_rfl) none0 fun a _ h=>?_
 obtain ⟨a,b⟩:=a
 have h:smallP a.want=true:=h
 refine (q_sameB a b).trans ?_
 show _=some (⟨.bool (N.bindSame a b),[],[]⟩:DRes)
 simp only [decs_pairs,h,cond_true]
 unfold N.bindSame N.ruleSame N.bindRule
 cases a.shop==b.shop<;>cases a.to==b.to<;>cases a.up==b.up<;>cases a.key==b.key<;>cases a.all==b.all<;>first | rfl | (cases N.samePs a.want b.want<;>rfl)
theorem q_rBindRule (b:HBind) (s:Int):evFn eTNone 93 ((aCons (vAgg cBind) (aOne (vInt .u8))).enc (b,s)) ([]) some =
 some {v:=V.agg [V.int .u8 s,V.str (HBind.key b),V.slc [.str,.int .u8,.int .i64,.str] (List.map (fun p=>[V.str (HPair.key p),V.int .u8 (HPair.kind p),V.int .i64 (HPair.num p),V.str (HPair.text p)]) (HBind.want b)),V.bool (HBind.all b)],bx:=[]:DRes}:=by kernel_rfl
theorem ok_rBindRule:FnOk Tryz.prog 93 dBindRule:=by
 refine den_okF (env_ok (TOk.nil _)) (E:=eTNone) Tryz.func93 [] (by kernel_rfl) none0 fun a _ _=>?_
 exact q_rBindRule a.1 a.2
def dFindS:Den:=den (aCons (vAgg cBook) (aOne vStr)) bNil (oV (vInt .i64)) (fun a _=>Nat.ble a.1.shops.length 1000) fun a _=>(N.ixG (N.isShop a.2) a.1.shops 0,())
def schFindS:SSch:={ fr:=[(1,.str),(8,.slc [.str,.int .u8,.str]),(9,.int .i64),(10,.int .i64)],tab:=[] }
def gFindS:List Leaf→(Ex→St→Option R)→Option R
 | [.s s,.r r,.i n,.i i],K=>cond (n==r.length) (cond (i==0) (cond (Nat.ble r.length 1000) (cond (ile 0 (N.ixG (N.isShop s) (r.map cShop.dec) 0)) (K .ret { fr:=[(4,.int .i64 (N.ixG (N.isShop s) (r.map cShop.dec) 0))],tab:=[] }) (K (.exit 0) { fr:=[],tab:=[] })) none) none) none
 | _,_=>none
noncomputable def eFindS:Env:=env Tryz.prog [] [(2,loopF schFindS gFindS)] [(2,[(0,[1,8,9,10]),(1,[]),(1000,[4])])]
theorem q_findS (b:HBook) (s:Bytes):evFn eFindS 39 ((aCons (vAgg cBook) (aOne vStr)).enc (b,s)) ([]) some =
 cond ((↑(List.length (List.map (RCod.enc cShop) (HBook.shops b))):Int)==(↑(List.length (List.map (RCod.enc cShop) (HBook.shops b))):Int)) (cond (Nat.ble (List.length (List.map (RCod.enc cShop) (HBook.shops b))) 1000) (cond (ile (0:Int) (N.ixG (N.isShop s) (List.map (RCod.dec cShop) (List.map (RCod.enc cShop) (HBook.shops b))) (0:Int))) (some {v:=V.int .i64 (N.ixG (N.isShop s) (List.map (RCod.dec cShop) (List.map (RCod.enc cShop) (HBook.shops b))) (0:Int)),bx:=[]:DRes}) (some {v:=V.int .i64 (-1:Int),bx:=[]:DRes})) (none)) (none):=by kernel_rfl
theorem q_findSR (s:Bytes) (r:List (List V)) (n i:Int) (K:Ex→St→Option R):evRound eFindS 39 2 { fr:=[(1,.str s),(8,.slc [.str,.int .u8,.str] r),(9,.int .i64 n),(10,.int .i64 i)],tab:=[] } K =
 cond (ilt i n) (cond (decide ((0:Int)≤i∧i<(↑(List.length r):Int))) (cond (V.toStr (List.getD (List.getD r (Int.toNat i) []) 0 V.undef)==s) (K Ex.ret {fr:=[(4,V.int .i64 i)],tab:=[]:St}) (K Ex.normal {fr:=[(1,V.str s),(8,V.slc [.str,.int .u8,.str] r),(9,V.int .i64 n),(10,V.int .i64 (IntKind.wrap .i64 (i+(1:Int))))],tab:=[]:St})) (none)) (K (Ex.exit 0) {fr:=[],tab:=[]:St}):=by kernel_rfl
theorem ok_findS_2:RoundsOk eFindS 39 2:=by
 refine rounds_of rfl fun l K q h=>?_
 unfold gFindS at h
 split at h
 ·rename_i s r n i
  have h1:=(cond_none h).1; replace h:=(cond_none h).2; have h2:=(cond_none h).1; replace h:=(cond_none h).2; have h3:=(cond_none h).1; replace h:=(cond_none h).2
  have e1:=ieq_of h1
  have e2:=ieq_of h2
  subst e1 e2
  have h3:r.length≤1000:=ble_of h3
  have main:=loop_ind (E:=eFindS) (f:=39) (id:=2) (σ:=Nat) (fun i=>{ fr:=[(1,.str s),(8,.slc [.str,.int .u8,.str] r),(9,.int .i64 r.length),(10,.int .i64 (i:Int))],tab:=[] }) (fun i=>i≤r.length) (fun i=>r.length-i)
   (fun i K=>cond (ile 0 (N.ixG (N.isShop s) ((r.drop i).map cShop.dec) i)) (K .ret { fr:=[(4,.int .i64 (N.ixG (N.isShop s) ((r.drop i).map cShop.dec) i))],tab:=[] }) (K (.exit 0) { fr:=[],tab:=[] })) (fun i hi=>?_) 0 (Nat.zero_le _) K q (by assumption)
  ·exact main
  ·by_cases hl:i<r.length
   ·rw [drop_row hl,List.map_cons,ixG_cons]
    have hq:=fun K=>q_findSR s r r.length i K
    have t1:ilt (i:Int) r.length=true:=ilt_t (by omega)
    have t2:decide ((0:Int)≤i∧(i:Int)<r.length)=true:=decide_eq_true (by omega)
    have t3:IntKind.wrap .i64 ((i:Int)+1)=(i:Int)+1:=wr_i64 (by omega) (by omega)
    have t4:V.toStr (List.getD (List.getD r i []) 0 V.undef)=(cShop.dec (r.getD i [])).name:=rfl
    simp only [Int.toNat_natCast] at hq
    simp only [t1,t2,t3,t4,cond_true] at hq
    cases hc:N.isShop s (cShop.dec (r.getD i [])) with
    | true =>
     refine .inr ⟨.ret,{ fr:=[(4,.int .i64 (i:Int))],tab:=[] },by simp,fun K=>?_,fun K=>?_⟩
     ·rw [hq]
      have hc:((cShop.dec (r.getD i [])).name==s)=true:=hc
      rw [hc]; rfl
     ·simp only [cond_true]
      rw [ile_t (by omega)]; rfl
    | false =>
     refine .inl ⟨i+1,hl,by omega,fun K=>?_,fun K=>rfl⟩
     rw [hq]
     have hc:((cShop.dec (r.getD i [])).name==s)=false:=hc
     rw [hc]; rfl
   ·refine .inr ⟨.exit 0,{ fr:=[],tab:=[] },by simp,fun K=>?_,fun K=>?_⟩
    ·rw [q_findSR]
     simp (disch:=omega) only [evs]
    ·rw [List.drop_eq_nil_of_le (by omega)]; rfl
 ·cases h
theorem ok_findS:FnOk Tryz.prog 39 dFindS:=by
 refine den_okF (env_ok (TOk.nil _)) (E:=eFindS) Tryz.func39 [2] (by kernel_rfl) (one1 ok_findS_2) fun a _ hp=>?_
 obtain ⟨b,s⟩:=a
 refine (q_findS b s).trans ?_
 have hp:Nat.ble b.shops.length 1000=true:=hp
 simp only [List.length_map,dec_encs,hp,beq_self_eq_true,cond_true]
 show _=some (⟨.int .i64 (N.ixG (N.isShop s) b.shops 0),[],[]⟩:DRes)
 cases hc:ile 0 (N.ixG (N.isShop s) b.shops 0) with
 | true=>rfl
 | false=>rw [ixG_end hc]; rfl
end Go.Ev

/- The document's functions on exchanges and bindings answer what the plain ones do: lemmas. -/
namespace Go.Ev
open Go Go.Proofs
set_option maxRecDepth 100000
-- FOLD
def N.fltS (p:HShop→Bool):List (List V)→List (List V)
 | []=>[] | r::rs=>cond (p (cShop.dec r)) (reS r::N.fltS p rs) (N.fltS p rs)
theorem fltS_cons (p:HShop→Bool) (r:List V) (rs:List (List V)):N.fltS p (r::rs)=cond (p (cShop.dec r)) (reS r::N.fltS p rs) (N.fltS p rs):=rfl
theorem fltS_enc (p:HShop→Bool) (l:List HShop):N.fltS p (l.map cShop.enc)=(l.filter p).map cShop.enc:=by
 induction l with
 | nil=>rfl
 | cons x r ih =>
  rw [List.map_cons,fltS_cons,List.filter_cons,cShop.de x,ih]
  cases p x<;>rfl
theorem cond_or2 {α:Type} (a b:Bool) (x y:α):cond a x (cond b x y)=cond (cond a true b) x y:=by cases a<;>rfl
def dRDropB:Den:=den (aCons (vAgg cBook) (aOne vStr)) bNil (oTup (aCons (vAgg cBook) (aOne (vInt .i64)))) (fun a _=>smallBook a.1) fun a _=>(N.rDrop a.1 a.2,())
def schRDropB5:SSch:={ fr:=[(1,.str),(2,.ptr 10000 0 0),(4,.ptr 10001 0 0),(6,.ptr 10004 0 0),(17,.slc [.str,.int .u8,.str]),(18,.int .i64),(19,.int .i64)],tab:=[(10000,.var [.slc [.str,.int .u8,.str],.slc [.str,.str,.bool,.str,.slc [.str,.int .u8,.int .i64,.str],.bool]]),(10002,.sl [.str,.int .u8,.str]),(10003,.sl [.str,.str,.bool,.str,.slc [.str,.int .u8,.int .i64,.str],.bool]),(10001,.var [.own 10002,.own 10003]),(10005,.sl [.str,.int .u8,.str]),(10006,.sl [.str,.str,.bool,.str,.slc [.str,.int .u8,.int .i64,.str],.bool]),(10004,.var [.own 10005,.own 10006])] }
def gRDropB5:List Leaf→(Ex→St→Option R)→Option R
 | [.s s,.r r,.i n,.i i,.r b0,.r b1,.r c0,.r c1,.r a,.r d1],K=>cond (n==r.length) (cond (i==0) (cond (Nat.ble r.length 1000) (cond (Nat.beq a.length 0) (K (.exit 0) { fr:=[(1,.str s),(2,.ptr 10000 0 0 0),(4,.ptr 10001 0 0 0),(6,.ptr 10004 0 0 0)],tab:=[(10000,.var [.slc [.str,.int .u8,.str] b0,.slc [.str,.str,.bool,.str,.slc [.str,.int .u8,.int .i64,.str],.bool] b1]),(10002,.sl [.str,.int .u8,.str] c0 0),(10003,.sl [.str,.str,.bool,.str,.slc [.str,.int .u8,.int .i64,.str],.bool] c1 0),(10001,.var [.own 10002 0,.own 10003 0]),(10005,.sl [.str,.int .u8,.str] (N.fltS (N.offS s) r) 0),(10006,.sl [.str,.str,.bool,.str,.slc [.str,.int .u8,.int .i64,.str],.bool] d1 0),(10004,.var [.own 10005 0,.own 10006 0])] }) none) none) none) none
 | _,_=>none
def schRDropB11:SSch:={ fr:=[(1,.str),(4,.ptr 10000 0 0),(6,.ptr 10003 0 0),(35,.slc [.str,.str,.bool,.str,.slc [.str,.int .u8,.int .i64,.str],.bool]),(36,.int .i64),(37,.int .i64)],tab:=[(10001,.sl [.str,.int .u8,.str]),(10002,.sl [.str,.str,.bool,.str,.slc [.str,.int .u8,.int .i64,.str],.bool]),(10000,.var [.own 10001,.own 10002]),(10004,.sl [.str,.int .u8,.str]),(10005,.sl [.str,.str,.bool,.str,.slc [.str,.int .u8,.int .i64,.str],.bool]),(10003,.var [.own 10004,.own 10005])] }
def gRDropB11:List Leaf→(Ex→St→Option R)→Option R
 | [.s s,.r r,.i n,.i i,.r c0,.r c1,.r d0,.r a],K=>cond (n==r.length) (cond (i==0) (cond (Nat.ble r.length 1000) (cond (Nat.beq a.length 0) (K (.exit 2) { fr:=[(4,.ptr 10000 0 0 0),(6,.ptr 10003 0 0 0)],tab:=[(10001,.sl [.str,.int .u8,.str] c0 0),(10002,.sl [.str,.str,.bool,.str,.slc [.str,.int .u8,.int .i64,.str],.bool] c1 0),(10000,.var [.own 10001 0,.own 10002 0]),(10004,.sl [.str,.int .u8,.str] d0 0),(10005,.sl [.str,.str,.bool,.str,.slc [.str,.int .u8,.int .i64,.str],.bool] (N.fltB (N.offShop s) r) 0),(10003,.var [.own 10004 0,.own 10005 0])] }) none) none) none) none
 | _,_=>none
noncomputable def eRDropB:Env:=env Tryz.prog [(39,dFindS)] [(11,loopF schRDropB11 gRDropB11),(5,loopF schRDropB5 gRDropB5)] [(5,[(0,[1,2,4,6,17,18,19]),(1,[1,2,4,6]),(1000,[4,5])]),(11,[(0,[1,4,6,35,36,37]),(3,[4,6]),(1000,[4,5])])]
theorem q_rDropB (b:HBook) (s:Bytes):evFn eRDropB 82 ((aCons (vAgg cBook) (aOne vStr)).enc (b,s)) ([]) some =
 cond (Nat.ble (List.length (List.map (RCod.dec cShop) (List.map (RCod.enc cShop) (HBook.shops b)))) 1000) (cond (ilt (N.ixG (N.isShop s) (List.map (RCod.dec cShop) (List.map (RCod.enc cShop) (HBook.shops b))) (0:Int)) (0:Int)) (some {v:=V.tup [V.agg [V.slc [.str,.int .u8,.str] (List.map (RCod.enc cShop) (HBook.shops b)),V.slc [.str,.str,.bool,.str,.slc [.str,.int .u8,.int .i64,.str],.bool] (List.map (RCod.enc cBind) (HBook.binds b))],V.int .i64 (10:Int)],bx:=[]:DRes}) (cond ((↑(List.length (List.map (RCod.enc cShop) (HBook.shops b))):Int)==(↑(List.length (List.map (RCod.enc cShop) (HBook.shops b))):Int)) (cond (Nat.ble (List.length (List.map (RCod.enc cShop) (HBook.shops b))) 1000) (cond ((↑(List.length (List.map (RCod.enc cBind) (HBook.binds b))):Int)==(↑(List.length (List.map (RCod.enc cBind) (HBook.binds b))):Int)) (cond (Nat.ble (List.length (List.map (RCod.enc cBind) (HBook.binds b))) 1000) (some {v:=V.tup [V.agg [V.slc [.str,.int .u8,.str] (N.fltS (N.offS s) (List.map (RCod.enc cShop) (HBook.shops b))),V.slc [.str,.str,.bool,.str,.slc [.str,.int .u8,.int .i64,.str],.bool] (N.fltB (N.offShop s) (List.map (RCod.enc cBind) (HBook.binds b)))],V.int .i64 (0:Int)],bx:=[]:DRes}) (none)) (none)) (none)) (none))) (none):=by kernel_rfl
theorem q_rDropBR5 (s:Bytes) (r:List (List V)) (n:Int) (i:Int) (b0:List (List V)) (b1:List (List V)) (c0:List (List V)) (c1:List (List V)) (a:List (List V)) (d1:List (List V)) (K:Ex→St→Option R):evRound eRDropB 82 5 { fr:=[(1,.str s),(2,.ptr 10000 0 0 0),(4,.ptr 10001 0 0 0),(6,.ptr 10004 0 0 0),(17,.slc [.str,.int .u8,.str] r),(18,.int .i64 n),(19,.int .i64 i)],tab:=[(10000,.var [.slc [.str,.int .u8,.str] b0,.slc [.str,.str,.bool,.str,.slc [.str,.int .u8,.int .i64,.str],.bool] b1]),(10002,.sl [.str,.int .u8,.str] c0 0),(10003,.sl [.str,.str,.bool,.str,.slc [.str,.int .u8,.int .i64,.str],.bool] c1 0),(10001,.var [.own 10002 0,.own 10003 0]),(10005,.sl [.str,.int .u8,.str] a 0),(10006,.sl [.str,.str,.bool,.str,.slc [.str,.int .u8,.int .i64,.str],.bool] d1 0),(10004,.var [.own 10005 0,.own 10006 0])] } K =
 cond (ilt i n) (cond (decide ((0:Int)≤i∧i<(↑(List.length r):Int))) (cond (!V.toStr (List.getD (List.getD r (Int.toNat i) []) 0 V.undef)==s) (cond (decide ((List.length a+1)*40≤140737488355328)) (K Ex.normal {fr:=[(1,V.str s),(2,V.ptr 10000 0 0 0),(4,V.ptr 10001 0 0 0),(6,V.ptr 10004 0 0 0),(17,V.slc [.str,.int .u8,.str] r),(18,V.int .i64 n),(19,V.int .i64 (IntKind.wrap .i64 (i+(1:Int))))],tab:=[(10000,Box.var [V.slc [.str,.int .u8,.str] b0,V.slc [.str,.str,.bool,.str,.slc [.str,.int .u8,.int .i64,.str],.bool] b1]),(10002,Box.sl [.str,.int .u8,.str] c0 0),(10003,Box.sl [.str,.str,.bool,.str,.slc [.str,.int .u8,.int .i64,.str],.bool] c1 0),(10001,Box.var [V.own 10002 0,V.own 10003 0]),(10005,Box.sl [.str,.int .u8,.str] (a++[[V.str (V.toStr (List.getD (List.getD r (Int.toNat i) []) 0 V.undef)),V.int .u8 (V.toInt (List.getD (List.getD r (Int.toNat i) []) 1 V.undef)),V.str (V.toStr (List.getD (List.getD r (Int.toNat i) []) 2 V.undef))]]) 0),(10006,Box.sl [.str,.str,.bool,.str,.slc [.str,.int .u8,.int .i64,.str],.bool] d1 0),(10004,Box.var [V.own 10005 0,V.own 10006 0])]:St}) (none)) (K Ex.normal {fr:=[(1,V.str s),(2,V.ptr 10000 0 0 0),(4,V.ptr 10001 0 0 0),(6,V.ptr 10004 0 0 0),(17,V.slc [.str,.int .u8,.str] r),(18,V.int .i64 n),(19,V.int .i64 (IntKind.wrap .i64 (i+(1:Int))))],tab:=[(10000,Box.var [V.slc [.str,.int .u8,.str] b0,V.slc [.str,.str,.bool,.str,.slc [.str,.int .u8,.int .i64,.str],.bool] b1]),(10002,Box.sl [.str,.int .u8,.str] c0 0),(10003,Box.sl [.str,.str,.bool,.str,.slc [.str,.int .u8,.int .i64,.str],.bool] c1 0),(10001,Box.var [V.own 10002 0,V.own 10003 0]),(10005,Box.sl [.str,.int .u8,.str] a 0),(10006,Box.sl [.str,.str,.bool,.str,.slc [.str,.int .u8,.int .i64,.str],.bool] d1 0),(10004,Box.var [V.own 10005 0,V.own 10006 0])]:St})) (none)) (K (Ex.exit 0) {fr:=[(1,V.str s),(2,V.ptr 10000 0 0 0),(4,V.ptr 10001 0 0 0),(6,V.ptr 10004 0 0 0)],tab:=[(10000,Box.var [V.slc [.str,.int .u8,.str] b0,V.slc [.str,.str,.bool,.str,.slc [.str,.int .u8,.int .i64,.str],.bool] b1]),(10002,Box.sl [.str,.int .u8,.str] c0 0),(10003,Box.sl [.str,.str,.bool,.str,.slc [.str,.int .u8,.int .i64,.str],.bool] c1 0),(10001,Box.var [V.own 10002 0,V.own 10003 0]),(10005,Box.sl [.str,.int .u8,.str] a 0),(10006,Box.sl [.str,.str,.bool,.str,.slc [.str,.int .u8,.int .i64,.str],.bool] d1 0),(10004,Box.var [V.own 10005 0,V.own 10006 0])]:St}):=by kernel_rfl
theorem ok_rDropB_5:RoundsOk eRDropB 82 5:=by
 refine rounds_of rfl fun l K q h=>?_
 unfold gRDropB5 at h
 split at h
 ·rename_i s r n i b0 b1 c0 c1 a d1
  have h1:=(cond_none h).1; replace h:=(cond_none h).2; have h2:=(cond_none h).1; replace h:=(cond_none h).2; have h3:=(cond_none h).1; replace h:=(cond_none h).2; have h4:=(cond_none h).1; replace h:=(cond_none h).2
  have e1:=ieq_of h1
  have e2:=ieq_of h2
  have e3:=List.eq_nil_of_length_eq_zero (nbeq_of h4)
  subst e1 e2 e3
  have h3:r.length≤1000:=ble_of h3
  have main:=range_ind (E:=eRDropB) (f:=82) (id:=5) (A:=List (List V)) r (fun acc i=>{ fr:=[(1,.str s),(2,.ptr 10000 0 0 0),(4,.ptr 10001 0 0 0),(6,.ptr 10004 0 0 0),(17,.slc [.str,.int .u8,.str] r),(18,.int .i64 r.length),(19,.int .i64 i)],tab:=[(10000,.var [.slc [.str,.int .u8,.str] b0,.slc [.str,.str,.bool,.str,.slc [.str,.int .u8,.int .i64,.str],.bool] b1]),(10002,.sl [.str,.int .u8,.str] c0 0),(10003,.sl [.str,.str,.bool,.str,.slc [.str,.int .u8,.int .i64,.str],.bool] c1 0),(10001,.var [.own 10002 0,.own 10003 0]),(10005,.sl [.str,.int .u8,.str] acc 0),(10006,.sl [.str,.str,.bool,.str,.slc [.str,.int .u8,.int .i64,.str],.bool] d1 0),(10004,.var [.own 10005 0,.own 10006 0])] }) (fun acc i=>acc.length≤i)
   (fun acc rows K=>K (.exit 0) { fr:=[(1,.str s),(2,.ptr 10000 0 0 0),(4,.ptr 10001 0 0 0),(6,.ptr 10004 0 0 0)],tab:=[(10000,.var [.slc [.str,.int .u8,.str] b0,.slc [.str,.str,.bool,.str,.slc [.str,.int .u8,.int .i64,.str],.bool] b1]),(10002,.sl [.str,.int .u8,.str] c0 0),(10003,.sl [.str,.str,.bool,.str,.slc [.str,.int .u8,.int .i64,.str],.bool] c1 0),(10001,.var [.own 10002 0,.own 10003 0]),(10005,.sl [.str,.int .u8,.str] (acc++N.fltS (N.offS s) rows) 0),(10006,.sl [.str,.str,.bool,.str,.slc [.str,.int .u8,.int .i64,.str],.bool] d1 0),(10004,.var [.own 10005 0,.own 10006 0])] }) (fun acc i ha hi=>?_) (fun acc ha=>?_) [] 0 (Int.le_refl _) (by omega) (Nat.zero_le _) K q (by assumption)
  ·exact main
  ·have hq:=fun K=>q_rDropBR5 s r r.length i b0 b1 c0 c1 acc d1 K
   have t1:ilt (i:Int) r.length=true:=ilt_t (by omega)
   have t2:decide ((0:Int)≤i∧(i:Int)<r.length)=true:=decide_eq_true (by omega)
   have t3:IntKind.wrap .i64 ((i:Int)+1)=(i:Int)+1:=wr_i64 (by omega) (by omega)
   have hn:V.toStr (List.getD (List.getD r i []) 0 V.undef)=(cShop.dec (r.getD i [])).name:=rfl
   have hb:(!((cShop.dec (r.getD i [])).name==s))=N.offS s (cShop.dec (r.getD i [])):=rfl
   simp only [Int.toNat_natCast,fold_reS] at hq
   simp only [t1,t2,t3,cond_true,hn,hb] at hq
   cases hc:N.offS s (cShop.dec (r.getD i [])) with
   | true =>
    refine .inl ⟨acc++[reS (r.getD i [])],by rw [List.length_append]; simp only [List.length_cons,List.length_nil]; omega,fun K=>?_,fun K=>?_⟩
    ·rw [hq,hc]
     have t5:decide ((acc.length+1)*40≤140737488355328)=true:=decide_eq_true (by omega)
     simp only [cond_true,t5]
     try rfl
    ·simp only [fltS_cons,hc,cond_true,List.append_assoc,List.singleton_append]
   | false =>
    refine .inl ⟨acc,by omega,fun K=>?_,fun K=>?_⟩
    ·rw [hq,hc]
     try rfl
    ·simp only [fltS_cons,hc,cond_false]
  ·refine ⟨.exit 0,{ fr:=[(1,.str s),(2,.ptr 10000 0 0 0),(4,.ptr 10001 0 0 0),(6,.ptr 10004 0 0 0)],tab:=[(10000,.var [.slc [.str,.int .u8,.str] b0,.slc [.str,.str,.bool,.str,.slc [.str,.int .u8,.int .i64,.str],.bool] b1]),(10002,.sl [.str,.int .u8,.str] c0 0),(10003,.sl [.str,.str,.bool,.str,.slc [.str,.int .u8,.int .i64,.str],.bool] c1 0),(10001,.var [.own 10002 0,.own 10003 0]),(10005,.sl [.str,.int .u8,.str] (acc) 0),(10006,.sl [.str,.str,.bool,.str,.slc [.str,.int .u8,.int .i64,.str],.bool] d1 0),(10004,.var [.own 10005 0,.own 10006 0])] },by simp,fun K=>?_,fun K=>by show K _ _=K _ _; rw [show N.fltS (N.offS s) []=[] from rfl,List.append_nil]⟩
   rw [q_rDropBR5]
   simp (disch:=omega) only [evs]
   try rfl
 ·cases h
theorem q_rDropBR11 (s:Bytes) (r:List (List V)) (n:Int) (i:Int) (c0:List (List V)) (c1:List (List V)) (d0:List (List V)) (a:List (List V)) (K:Ex→St→Option R):evRound eRDropB 82 11 { fr:=[(1,.str s),(4,.ptr 10000 0 0 0),(6,.ptr 10003 0 0 0),(35,.slc [.str,.str,.bool,.str,.slc [.str,.int .u8,.int .i64,.str],.bool] r),(36,.int .i64 n),(37,.int .i64 i)],tab:=[(10001,.sl [.str,.int .u8,.str] c0 0),(10002,.sl [.str,.str,.bool,.str,.slc [.str,.int .u8,.int .i64,.str],.bool] c1 0),(10000,.var [.own 10001 0,.own 10002 0]),(10004,.sl [.str,.int .u8,.str] d0 0),(10005,.sl [.str,.str,.bool,.str,.slc [.str,.int .u8,.int .i64,.str],.bool] a 0),(10003,.var [.own 10004 0,.own 10005 0])] } K =
 cond (ilt i n) (cond (decide ((0:Int)≤i∧i<(↑(List.length r):Int))) (cond (!V.toStr (List.getD (List.getD r (Int.toNat i) []) 0 V.undef)==s) (cond (decide ((List.length a+1)*88≤140737488355328)) (K Ex.normal {fr:=[(1,V.str s),(4,V.ptr 10000 0 0 0),(6,V.ptr 10003 0 0 0),(35,V.slc [.str,.str,.bool,.str,.slc [.str,.int .u8,.int .i64,.str],.bool] r),(36,V.int .i64 n),(37,V.int .i64 (IntKind.wrap .i64 (i+(1:Int))))],tab:=[(10001,Box.sl [.str,.int .u8,.str] c0 0),(10002,Box.sl [.str,.str,.bool,.str,.slc [.str,.int .u8,.int .i64,.str],.bool] c1 0),(10000,Box.var [V.own 10001 0,V.own 10002 0]),(10004,Box.sl [.str,.int .u8,.str] d0 0),(10005,Box.sl [.str,.str,.bool,.str,.slc [.str,.int .u8,.int .i64,.str],.bool] (a++[[V.str (V.toStr (List.getD (List.getD r (Int.toNat i) []) 0 V.undef)),V.str (V.toStr (List.getD (List.getD r (Int.toNat i) []) 1 V.undef)),V.bool (V.toBool (List.getD (List.getD r (Int.toNat i) []) 2 V.undef)),V.str (V.toStr (List.getD (List.getD r (Int.toNat i) []) 3 V.undef)),V.slc [.str,.int .u8,.int .i64,.str] (V.toRows (List.getD (List.getD r (Int.toNat i) []) 4 V.undef)),V.bool (V.toBool (List.getD (List.getD r (Int.toNat i) []) 5 V.undef))]]) 0),(10003,Box.var [V.own 10004 0,V.own 10005 0])]:St}) (none)) (K Ex.normal {fr:=[(1,V.str s),(4,V.ptr 10000 0 0 0),(6,V.ptr 10003 0 0 0),(35,V.slc [.str,.str,.bool,.str,.slc [.str,.int .u8,.int .i64,.str],.bool] r),(36,V.int .i64 n),(37,V.int .i64 (IntKind.wrap .i64 (i+(1:Int))))],tab:=[(10001,Box.sl [.str,.int .u8,.str] c0 0),(10002,Box.sl [.str,.str,.bool,.str,.slc [.str,.int .u8,.int .i64,.str],.bool] c1 0),(10000,Box.var [V.own 10001 0,V.own 10002 0]),(10004,Box.sl [.str,.int .u8,.str] d0 0),(10005,Box.sl [.str,.str,.bool,.str,.slc [.str,.int .u8,.int .i64,.str],.bool] a 0),(10003,Box.var [V.own 10004 0,V.own 10005 0])]:St})) (none)) (K (Ex.exit 2) {fr:=[(4,V.ptr 10000 0 0 0),(6,V.ptr 10003 0 0 0)],tab:=[(10001,Box.sl [.str,.int .u8,.str] c0 0),(10002,Box.sl [.str,.str,.bool,.str,.slc [.str,.int .u8,.int .i64,.str],.bool] c1 0),(10000,Box.var [V.own 10001 0,V.own 10002 0]),(10004,Box.sl [.str,.int .u8,.str] d0 0),(10005,Box.sl [.str,.str,.bool,.str,.slc [.str,.int .u8,.int .i64,.str],.bool] a 0),(10003,Box.var [V.own 10004 0,V.own 10005 0])]:St}):=by kernel_rfl
theorem ok_rDropB_11:RoundsOk eRDropB 82 11:=by
 refine rounds_of rfl fun l K q h=>?_
 unfold gRDropB11 at h
 split at h
 ·rename_i s r n i c0 c1 d0 a
  have h1:=(cond_none h).1; replace h:=(cond_none h).2; have h2:=(cond_none h).1; replace h:=(cond_none h).2; have h3:=(cond_none h).1; replace h:=(cond_none h).2; have h4:=(cond_none h).1; replace h:=(cond_none h).2
  have e1:=ieq_of h1
  have e2:=ieq_of h2
  have e3:=List.eq_nil_of_length_eq_zero (nbeq_of h4)
  subst e1 e2 e3
  have h3:r.length≤1000:=ble_of h3
  have main:=range_ind (E:=eRDropB) (f:=82) (id:=11) (A:=List (List V)) r (fun acc i=>{ fr:=[(1,.str s),(4,.ptr 10000 0 0 0),(6,.ptr 10003 0 0 0),(35,.slc [.str,.str,.bool,.str,.slc [.str,.int .u8,.int .i64,.str],.bool] r),(36,.int .i64 r.length),(37,.int .i64 i)],tab:=[(10001,.sl [.str,.int .u8,.str] c0 0),(10002,.sl [.str,.str,.bool,.str,.slc [.str,.int .u8,.int .i64,.str],.bool] c1 0),(10000,.var [.own 10001 0,.own 10002 0]),(10004,.sl [.str,.int .u8,.str] d0 0),(10005,.sl [.str,.str,.bool,.str,.slc [.str,.int .u8,.int .i64,.str],.bool] acc 0),(10003,.var [.own 10004 0,.own 10005 0])] }) (fun acc i=>acc.length≤i)
   (fun acc rows K=>K (.exit 2) { fr:=[(4,.ptr 10000 0 0 0),(6,.ptr 10003 0 0 0)],tab:=[(10001,.sl [.str,.int .u8,.str] c0 0),(10002,.sl [.str,.str,.bool,.str,.slc [.str,.int .u8,.int .i64,.str],.bool] c1 0),(10000,.var [.own 10001 0,.own 10002 0]),(10004,.sl [.str,.int .u8,.str] d0 0),(10005,.sl [.str,.str,.bool,.str,.slc [.str,.int .u8,.int .i64,.str],.bool] (acc++N.fltB (N.offShop s) rows) 0),(10003,.var [.own 10004 0,.own 10005 0])] }) (fun acc i ha hi=>?_) (fun acc ha=>?_) [] 0 (Int.le_refl _) (by omega) (Nat.zero_le _) K q (by assumption)
  ·exact main
  ·have hq:=fun K=>q_rDropBR11 s r r.length i c0 c1 d0 acc K
   have t1:ilt (i:Int) r.length=true:=ilt_t (by omega)
   have t2:decide ((0:Int)≤i∧(i:Int)<r.length)=true:=decide_eq_true (by omega)
   have t3:IntKind.wrap .i64 ((i:Int)+1)=(i:Int)+1:=wr_i64 (by omega) (by omega)
   have hn:V.toStr (List.getD (List.getD r i []) 0 V.undef)=(cBind.dec (r.getD i [])).shop:=rfl
   have hb:(!((cBind.dec (r.getD i [])).shop==s))=N.offShop s (cBind.dec (r.getD i [])):=rfl
   simp only [Int.toNat_natCast,fold_reB] at hq
   simp only [t1,t2,t3,cond_true,hn,hb] at hq
   cases hc:N.offShop s (cBind.dec (r.getD i [])) with
   | true =>
    refine .inl ⟨acc++[reB (r.getD i [])],by rw [List.length_append]; simp only [List.length_cons,List.length_nil]; omega,fun K=>?_,fun K=>?_⟩
    ·rw [hq,hc]
     have t5:decide ((acc.length+1)*88≤140737488355328)=true:=decide_eq_true (by omega)
     simp only [cond_true,t5]
     try rfl
    ·simp only [fltB_cons,hc,cond_true,List.append_assoc,List.singleton_append]
   | false =>
    refine .inl ⟨acc,by omega,fun K=>?_,fun K=>?_⟩
    ·rw [hq,hc]
     try rfl
    ·simp only [fltB_cons,hc,cond_false]
  ·refine ⟨.exit 2,{ fr:=[(4,.ptr 10000 0 0 0),(6,.ptr 10003 0 0 0)],tab:=[(10001,.sl [.str,.int .u8,.str] c0 0),(10002,.sl [.str,.str,.bool,.str,.slc [.str,.int .u8,.int .i64,.str],.bool] c1 0),(10000,.var [.own 10001 0,.own 10002 0]),(10004,.sl [.str,.int .u8,.str] d0 0),(10005,.sl [.str,.str,.bool,.str,.slc [.str,.int .u8,.int .i64,.str],.bool] (acc) 0),(10003,.var [.own 10004 0,.own 10005 0])] },by simp,fun K=>?_,fun K=>by show K _ _=K _ _; rw [show N.fltB (N.offShop s) []=[] from rfl,List.append_nil]⟩
   rw [q_rDropBR11]
   simp (disch:=omega) only [evs]
   try rfl
 ·cases h
theorem ok_rDropB:FnOk Tryz.prog 82 dRDropB:=by
 refine den_okF (env_ok ((TOk.nil _).cons ok_findS)) (E:=eRDropB) Tryz.func82 [5,11] (by kernel_rfl) (two2 ok_rDropB_5 ok_rDropB_11) fun a _ hp=>?_
 obtain ⟨b,s⟩:=a
 have h1:Nat.ble b.shops.length 1000=true:=(bcond hp).1
 have h2:Nat.ble b.binds.length 1000=true:=(bcond (bcond hp).2).1
 refine (q_rDropB b s).trans ?_
 show _=some (⟨.tup [.agg (cBook.enc (N.rDrop b s).1),.int .i64 (N.rDrop b s).2],[],[]⟩:DRes)
 unfold N.rDrop
 simp only [List.length_map,dec_encs,h1,h2,beq_self_eq_true,cond_true,fltS_enc,fltB_enc]
 cases ilt (N.ixG (N.isShop s) b.shops 0) 0<;>rfl
def dRForgetB:Den:=den (aCons (vAgg cBook) (aOne vStr)) bNil (oV (vAgg cBook)) (fun a _=>smallBook a.1) fun a _=>(N.bForget a.1 a.2,())
def schRForgetB:SSch:={ fr:=[(1,.str),(2,.ptr 10000 0 0),(4,.ptr 10001 0 0),(5,.own 10002),(9,.slc [.str,.str,.bool,.str,.slc [.str,.int .u8,.int .i64,.str],.bool]),(10,.int .i64),(11,.int .i64)],tab:=[(10000,.var [.slc [.str,.int .u8,.str],.slc [.str,.str,.bool,.str,.slc [.str,.int .u8,.int .i64,.str],.bool]]),(10001,.var [.slc [.str,.int .u8,.str],.slc [.str,.str,.bool,.str,.slc [.str,.int .u8,.int .i64,.str],.bool]]),(10002,.sl [.str,.str,.bool,.str,.slc [.str,.int .u8,.int .i64,.str],.bool])] }
def gRForgetB:List Leaf→(Ex→St→Option R)→Option R
 | [.s s,.r r,.i n,.i i,.r b0,.r b1,.r c0,.r c1,.r a],K=>cond (n==r.length) (cond (i==0) (cond (Nat.ble r.length 1000) (cond (Nat.beq a.length 0) (K (.exit 0) { fr:=[(2,.ptr 10000 0 0 0),(4,.ptr 10001 0 0 0),(5,.own 10002 0)],tab:=[(10000,.var [.slc [.str,.int .u8,.str] b0,.slc [.str,.str,.bool,.str,.slc [.str,.int .u8,.int .i64,.str],.bool] b1]),(10001,.var [.slc [.str,.int .u8,.str] c0,.slc [.str,.str,.bool,.str,.slc [.str,.int .u8,.int .i64,.str],.bool] c1]),(10002,.sl [.str,.str,.bool,.str,.slc [.str,.int .u8,.int .i64,.str],.bool] (N.fltB (N.stays s) r) 0)] }) none) none) none) none
 | _,_=>none
noncomputable def eRForgetB:Env:={ env Tryz.prog [] [(3,loopF schRForgetB gRForgetB)] [(3,[(0,[1,2,4,5,9,10,11]),(1,[2,4,5]),(1000,[4])])] with fz:=true }
theorem q_rForgetB (b:HBook) (s:Bytes):evFn eRForgetB 88 ((aCons (vAgg cBook) (aOne vStr)).enc (b,s)) ([]) some =
 cond ((↑(List.length (List.map (RCod.enc cBind) (HBook.binds b))):Int)==(↑(List.length (List.map (RCod.enc cBind) (HBook.binds b))):Int)) (cond (Nat.ble (List.length (List.map (RCod.enc cBind) (HBook.binds b))) 1000) (some {v:=V.agg [V.slc [.str,.int .u8,.str] (List.map (RCod.enc cShop) (HBook.shops b)),V.slc [.str,.str,.bool,.str,.slc [.str,.int .u8,.int .i64,.str],.bool] (N.fltB (N.stays s) (List.map (RCod.enc cBind) (HBook.binds b)))],bx:=[]:DRes}) (none)) (none):=by kernel_rfl
theorem q_rForgetBR (s:Bytes) (r:List (List V)) (n:Int) (i:Int) (b0:List (List V)) (b1:List (List V)) (c0:List (List V)) (c1:List (List V)) (a:List (List V)) (K:Ex→St→Option R):evRound eRForgetB 88 3 { fr:=[(1,.str s),(2,.ptr 10000 0 0 0),(4,.ptr 10001 0 0 0),(5,.own 10002 0),(9,.slc [.str,.str,.bool,.str,.slc [.str,.int .u8,.int .i64,.str],.bool] r),(10,.int .i64 n),(11,.int .i64 i)],tab:=[(10000,.var [.slc [.str,.int .u8,.str] b0,.slc [.str,.str,.bool,.str,.slc [.str,.int .u8,.int .i64,.str],.bool] b1]),(10001,.var [.slc [.str,.int .u8,.str] c0,.slc [.str,.str,.bool,.str,.slc [.str,.int .u8,.int .i64,.str],.bool] c1]),(10002,.sl [.str,.str,.bool,.str,.slc [.str,.int .u8,.int .i64,.str],.bool] a 0)] } K =
 cond (ilt i n) (cond (decide ((0:Int)≤i∧i<(↑(List.length r):Int))) (cond (V.toBool (List.getD (List.getD r (Int.toNat i) []) 2 V.undef)) (cond (decide ((List.length a+1)*88≤140737488355328)) (K Ex.normal {fr:=[(1,V.str s),(2,V.ptr 10000 0 0 0),(4,V.ptr 10001 0 0 0),(5,V.own 10002 0),(9,V.slc [.str,.str,.bool,.str,.slc [.str,.int .u8,.int .i64,.str],.bool] r),(10,V.int .i64 n),(11,V.int .i64 (IntKind.wrap .i64 (i+(1:Int))))],tab:=[(10000,Box.var [V.slc [.str,.int .u8,.str] b0,V.slc [.str,.str,.bool,.str,.slc [.str,.int .u8,.int .i64,.str],.bool] b1]),(10001,Box.var [V.slc [.str,.int .u8,.str] c0,V.slc [.str,.str,.bool,.str,.slc [.str,.int .u8,.int .i64,.str],.bool] c1]),(10002,Box.sl [.str,.str,.bool,.str,.slc [.str,.int .u8,.int .i64,.str],.bool] (a++[[V.str (V.toStr (List.getD (List.getD r (Int.toNat i) []) 0 V.undef)),V.str (V.toStr (List.getD (List.getD r (Int.toNat i) []) 1 V.undef)),V.bool (V.toBool (List.getD (List.getD r (Int.toNat i) []) 2 V.undef)),V.str (V.toStr (List.getD (List.getD r (Int.toNat i) []) 3 V.undef)),V.slc [.str,.int .u8,.int .i64,.str] (V.toRows (List.getD (List.getD r (Int.toNat i) []) 4 V.undef)),V.bool (V.toBool (List.getD (List.getD r (Int.toNat i) []) 5 V.undef))]]) 0)]:St}) (none)) (cond (!V.toStr (List.getD (List.getD r (Int.toNat i) []) 1 V.undef)==s) (cond (decide ((List.length a+1)*88≤140737488355328)) (K Ex.normal {fr:=[(1,V.str s),(2,V.ptr 10000 0 0 0),(4,V.ptr 10001 0 0 0),(5,V.own 10002 0),(9,V.slc [.str,.str,.bool,.str,.slc [.str,.int .u8,.int .i64,.str],.bool] r),(10,V.int .i64 n),(11,V.int .i64 (IntKind.wrap .i64 (i+(1:Int))))],tab:=[(10000,Box.var [V.slc [.str,.int .u8,.str] b0,V.slc [.str,.str,.bool,.str,.slc [.str,.int .u8,.int .i64,.str],.bool] b1]),(10001,Box.var [V.slc [.str,.int .u8,.str] c0,V.slc [.str,.str,.bool,.str,.slc [.str,.int .u8,.int .i64,.str],.bool] c1]),(10002,Box.sl [.str,.str,.bool,.str,.slc [.str,.int .u8,.int .i64,.str],.bool] (a++[[V.str (V.toStr (List.getD (List.getD r (Int.toNat i) []) 0 V.undef)),V.str (V.toStr (List.getD (List.getD r (Int.toNat i) []) 1 V.undef)),V.bool (V.toBool (List.getD (List.getD r (Int.toNat i) []) 2 V.undef)),V.str (V.toStr (List.getD (List.getD r (Int.toNat i) []) 3 V.undef)),V.slc [.str,.int .u8,.int .i64,.str] (V.toRows (List.getD (List.getD r (Int.toNat i) []) 4 V.undef)),V.bool (V.toBool (List.getD (List.getD r (Int.toNat i) []) 5 V.undef))]]) 0)]:St}) (none)) (K Ex.normal {fr:=[(1,V.str s),(2,V.ptr 10000 0 0 0),(4,V.ptr 10001 0 0 0),(5,V.own 10002 0),(9,V.slc [.str,.str,.bool,.str,.slc [.str,.int .u8,.int .i64,.str],.bool] r),(10,V.int .i64 n),(11,V.int .i64 (IntKind.wrap .i64 (i+(1:Int))))],tab:=[(10000,Box.var [V.slc [.str,.int .u8,.str] b0,V.slc [.str,.str,.bool,.str,.slc [.str,.int .u8,.int .i64,.str],.bool] b1]),(10001,Box.var [V.slc [.str,.int .u8,.str] c0,V.slc [.str,.str,.bool,.str,.slc [.str,.int .u8,.int .i64,.str],.bool] c1]),(10002,Box.sl [.str,.str,.bool,.str,.slc [.str,.int .u8,.int .i64,.str],.bool] a 0)]:St}))) (none)) (K (Ex.exit 0) {fr:=[(2,V.ptr 10000 0 0 0),(4,V.ptr 10001 0 0 0),(5,V.own 10002 0)],tab:=[(10000,Box.var [V.slc [.str,.int .u8,.str] b0,V.slc [.str,.str,.bool,.str,.slc [.str,.int .u8,.int .i64,.str],.bool] b1]),(10001,Box.var [V.slc [.str,.int .u8,.str] c0,V.slc [.str,.str,.bool,.str,.slc [.str,.int .u8,.int .i64,.str],.bool] c1]),(10002,Box.sl [.str,.str,.bool,.str,.slc [.str,.int .u8,.int .i64,.str],.bool] a 0)]:St}):=by kernel_rfl
theorem ok_rForgetB_3:RoundsOk eRForgetB 88 3:=by
 refine rounds_of rfl fun l K q h=>?_
 unfold gRForgetB at h
 split at h
 ·rename_i s r n i b0 b1 c0 c1 a
  have h1:=(cond_none h).1; replace h:=(cond_none h).2; have h2:=(cond_none h).1; replace h:=(cond_none h).2; have h3:=(cond_none h).1; replace h:=(cond_none h).2; have h4:=(cond_none h).1; replace h:=(cond_none h).2
  have e1:=ieq_of h1
  have e2:=ieq_of h2
  have e3:=List.eq_nil_of_length_eq_zero (nbeq_of h4)
  subst e1 e2 e3
  have h3:r.length≤1000:=ble_of h3
  have main:=range_ind (E:=eRForgetB) (f:=88) (id:=3) (A:=List (List V)) r (fun acc i=>{ fr:=[(1,.str s),(2,.ptr 10000 0 0 0),(4,.ptr 10001 0 0 0),(5,.own 10002 0),(9,.slc [.str,.str,.bool,.str,.slc [.str,.int .u8,.int .i64,.str],.bool] r),(10,.int .i64 r.length),(11,.int .i64 i)],tab:=[(10000,.var [.slc [.str,.int .u8,.str] b0,.slc [.str,.str,.bool,.str,.slc [.str,.int .u8,.int .i64,.str],.bool] b1]),(10001,.var [.slc [.str,.int .u8,.str] c0,.slc [.str,.str,.bool,.str,.slc [.str,.int .u8,.int .i64,.str],.bool] c1]),(10002,.sl [.str,.str,.bool,.str,.slc [.str,.int .u8,.int .i64,.str],.bool] acc 0)] }) (fun acc i=>acc.length≤i)
   (fun acc rows K=>K (.exit 0) { fr:=[(2,.ptr 10000 0 0 0),(4,.ptr 10001 0 0 0),(5,.own 10002 0)],tab:=[(10000,.var [.slc [.str,.int .u8,.str] b0,.slc [.str,.str,.bool,.str,.slc [.str,.int .u8,.int .i64,.str],.bool] b1]),(10001,.var [.slc [.str,.int .u8,.str] c0,.slc [.str,.str,.bool,.str,.slc [.str,.int .u8,.int .i64,.str],.bool] c1]),(10002,.sl [.str,.str,.bool,.str,.slc [.str,.int .u8,.int .i64,.str],.bool] (acc++N.fltB (N.stays s) rows) 0)] }) (fun acc i ha hi=>?_) (fun acc ha=>?_) [] 0 (Int.le_refl _) (by omega) (Nat.zero_le _) K q (by assumption)
  ·exact main
  ·have hq:=fun K=>q_rForgetBR s r r.length i b0 b1 c0 c1 acc K
   have t1:ilt (i:Int) r.length=true:=ilt_t (by omega)
   have t2:decide ((0:Int)≤i∧(i:Int)<r.length)=true:=decide_eq_true (by omega)
   have t3:IntKind.wrap .i64 ((i:Int)+1)=(i:Int)+1:=wr_i64 (by omega) (by omega)
   have hn:V.toBool (List.getD (List.getD r i []) 2 V.undef)=(cBind.dec (r.getD i [])).up:=rfl
   have hm:V.toStr (List.getD (List.getD r i []) 1 V.undef)=(cBind.dec (r.getD i [])).to:=rfl
   simp only [Int.toNat_natCast,fold_reB] at hq
   simp only [t1,t2,t3,cond_true,hn,hm,cond_or2] at hq
   have hb:cond (cBind.dec (r.getD i [])).up true (!(cBind.dec (r.getD i [])).to==s)=N.stays s (cBind.dec (r.getD i [])):=rfl
   simp only [hb] at hq
   cases hc:N.stays s (cBind.dec (r.getD i [])) with
   | true =>
    refine .inl ⟨acc++[reB (r.getD i [])],by rw [List.length_append]; simp only [List.length_cons,List.length_nil]; omega,fun K=>?_,fun K=>?_⟩
    ·rw [hq,hc]
     have t5:decide ((acc.length+1)*88≤140737488355328)=true:=decide_eq_true (by omega)
     simp only [cond_true,t5]
     try rfl
    ·simp only [fltB_cons,hc,cond_true,List.append_assoc,List.singleton_append]
   | false =>
    refine .inl ⟨acc,by omega,fun K=>?_,fun K=>?_⟩
    ·rw [hq,hc]
     try rfl
    ·simp only [fltB_cons,hc,cond_false]
  ·refine ⟨.exit 0,{ fr:=[(2,.ptr 10000 0 0 0),(4,.ptr 10001 0 0 0),(5,.own 10002 0)],tab:=[(10000,.var [.slc [.str,.int .u8,.str] b0,.slc [.str,.str,.bool,.str,.slc [.str,.int .u8,.int .i64,.str],.bool] b1]),(10001,.var [.slc [.str,.int .u8,.str] c0,.slc [.str,.str,.bool,.str,.slc [.str,.int .u8,.int .i64,.str],.bool] c1]),(10002,.sl [.str,.str,.bool,.str,.slc [.str,.int .u8,.int .i64,.str],.bool] (acc) 0)] },by simp,fun K=>?_,fun K=>by show K _ _=K _ _; rw [show N.fltB (N.stays s) []=[] from rfl,List.append_nil]⟩
   rw [q_rForgetBR]
   simp (disch:=omega) only [evs]
   try rfl
 ·cases h
theorem ok_rForgetB:FnOk Tryz.prog 88 dRForgetB:=by
 refine den_okF (env_ok (TOk.nil _)) (E:=eRForgetB) Tryz.func88 [3] (by kernel_rfl) (one1 ok_rForgetB_3) fun a _ hp=>?_
 obtain ⟨b,s⟩:=a
 have h2:Nat.ble b.binds.length 1000=true:=(bcond (bcond hp).2).1
 refine (q_rForgetB b s).trans ?_
 simp only [List.length_map,h2,beq_self_eq_true,cond_true,fltB_enc]
 try rfl
end Go.Ev

/- The document's functions on exchanges and bindings answer what the plain ones do: lemmas. -/
namespace Go.Ev
open Go Go.Proofs
set_option maxRecDepth 100000
-- FOLD
theorem shopOf_at {n:Bytes} {l:List HShop} (h:l.any (N.isShop n)=true):N.shopOf n l=(l.getD (N.ixG (N.isShop n) l 0).toNat shop0,true)∧0≤N.ixG (N.isShop n) l 0∧N.ixG (N.isShop n) l 0<l.length:=by
 rcases ixG_spec (N.isShop n) l 0 with ⟨_,h2⟩ | ⟨a,x,c,el,e,hx,ha,_⟩
 ·rw [h2] at h; cases h
 ·rw [e]
  have e2:(0+(a.length:Int)).toNat=a.length:=by omega
  rw [e2,el]
  refine ⟨?_,by omega,by simp only [List.length_append,List.length_cons]; omega⟩
  have main:∀ a:List HShop,a.any (N.isShop n)=false→N.shopOf n (a++x::c)=(x,true):=fun a=>by
   induction a with
   | nil=>intro _; show N.shopOf n (x::c)=_; rw [shopOf_cons,hx]; rfl
   | cons y r ih =>
    intro h
    rw [List.any_cons,Bool.or_eq_false_iff] at h
    show N.shopOf n (y::(r++x::c))=_
    rw [shopOf_cons,h.1]
    exact ih h.2
  rw [main a ha]
  simp [List.getD_eq_getElem?_getD]
def dRMakeB:Den:=den (aCons (vAgg cBook) (aOne (vAgg cShop))) bNil (oTup (aCons (vAgg cBook) (aOne (vInt .i64)))) (fun a _=>smallBook a.1) fun a _=>(N.bMake a.1 a.2,())
def dRUnbindB:Den:=den (aCons (vAgg cBook) (aOne (vAgg cBind))) bNil (oTup (aCons (vAgg cBook) (aOne (vInt .i64)))) (fun a _=>cond (smallBook a.1) (smallB a.2) false) fun a _=>(N.rUnbind a.1 a.2,())
noncomputable def eRMakeB:Env:=env Tryz.prog [(125,dName),(39,dFindS)] [] []
theorem q_rMakeB (b:HBook) (x:HShop):evFn eRMakeB 80 ((aCons (vAgg cBook) (aOne (vAgg cShop))).enc (b,x)) ([]) some =
 cond (N.name (HShop.name x)==(0:Int)) (cond (ilt (4:Int) (HShop.sort x)) (some {v:=V.tup [V.agg [V.slc [.str,.int .u8,.str] (List.map (RCod.enc cShop) (HBook.shops b)),V.slc [.str,.str,.bool,.str,.slc [.str,.int .u8,.int .i64,.str],.bool] (List.map (RCod.enc cBind) (HBook.binds b))],V.int .i64 (8:Int)],bx:=[]:DRes}) (cond (N.name (HShop.name x)==(0:Int)) (cond (HShop.sort x==(4:Int)) (cond (N.name (HShop.to x)==(0:Int)) (cond (ilt (HShop.sort x) (4:Int)) (cond (!HShop.to x==[]) (some {v:=V.tup [V.agg [V.slc [.str,.int .u8,.str] (List.map (RCod.enc cShop) (HBook.shops b)),V.slc [.str,.str,.bool,.str,.slc [.str,.int .u8,.int .i64,.str],.bool] (List.map (RCod.enc cBind) (HBook.binds b))],V.int .i64 (4:Int)],bx:=[]:DRes}) (cond (N.name (HShop.to x) != (0:Int)) (some {v:=V.tup [V.agg [V.slc [.str,.int .u8,.str] (List.map (RCod.enc cShop) (HBook.shops b)),V.slc [.str,.str,.bool,.str,.slc [.str,.int .u8,.int .i64,.str],.bool] (List.map (RCod.enc cBind) (HBook.binds b))],V.int .i64 (N.name (HShop.to x))],bx:=[]:DRes}) (cond (Nat.ble (List.length (List.map (RCod.dec cShop) (List.map (RCod.enc cShop) (HBook.shops b)))) 1000) (cond (ile (0:Int) (N.ixG (N.isShop (HShop.name x)) (List.map (RCod.dec cShop) (List.map (RCod.enc cShop) (HBook.shops b))) (0:Int))) (cond (decide ((0:Int)≤N.ixG (N.isShop (HShop.name x)) (List.map (RCod.dec cShop) (List.map (RCod.enc cShop) (HBook.shops b))) (0:Int)∧N.ixG (N.isShop (HShop.name x)) (List.map (RCod.dec cShop) (List.map (RCod.enc cShop) (HBook.shops b))) (0:Int)<(↑(List.length (List.map (RCod.enc cShop) (HBook.shops b))):Int))) (cond (V.toStr (List.getD (List.getD (List.map (RCod.enc cShop) (HBook.shops b)) (Int.toNat (N.ixG (N.isShop (HShop.name x)) (List.map (RCod.dec cShop) (List.map (RCod.enc cShop) (HBook.shops b))) (0:Int))) []) 0 V.undef)==HShop.name x && (V.toInt (List.getD (List.getD (List.map (RCod.enc cShop) (HBook.shops b)) (Int.toNat (N.ixG (N.isShop (HShop.name x)) (List.map (RCod.dec cShop) (List.map (RCod.enc cShop) (HBook.shops b))) (0:Int))) []) 1 V.undef)==HShop.sort x && (V.toStr (List.getD (List.getD (List.map (RCod.enc cShop) (HBook.shops b)) (Int.toNat (N.ixG (N.isShop (HShop.name x)) (List.map (RCod.dec cShop) (List.map (RCod.enc cShop) (HBook.shops b))) (0:Int))) []) 2 V.undef)==HShop.to x && true))) (some {v:=V.tup [V.agg [V.slc [.str,.int .u8,.str] (List.map (RCod.enc cShop) (HBook.shops b)),V.slc [.str,.str,.bool,.str,.slc [.str,.int .u8,.int .i64,.str],.bool] (List.map (RCod.enc cBind) (HBook.binds b))],V.int .i64 (0:Int)],bx:=[]:DRes}) (cond (ile (0:Int) (N.ixG (N.isShop (HShop.name x)) (List.map (RCod.dec cShop) (List.map (RCod.enc cShop) (HBook.shops b))) (0:Int))) (some {v:=V.tup [V.agg [V.slc [.str,.int .u8,.str] (List.map (RCod.enc cShop) (HBook.shops b)),V.slc [.str,.str,.bool,.str,.slc [.str,.int .u8,.int .i64,.str],.bool] (List.map (RCod.enc cBind) (HBook.binds b))],V.int .i64 (9:Int)],bx:=[]:DRes}) (cond (ile (8:Int) (↑(List.length (List.map (RCod.enc cShop) (HBook.shops b))):Int)) (some {v:=V.tup [V.agg [V.slc [.str,.int .u8,.str] (List.map (RCod.enc cShop) (HBook.shops b)),V.slc [.str,.str,.bool,.str,.slc [.str,.int .u8,.int .i64,.str],.bool] (List.map (RCod.enc cBind) (HBook.binds b))],V.int .i64 (12:Int)],bx:=[]:DRes}) (cond (decide (List.length (List.map (RCod.enc cShop) (HBook.shops b))*40≤140737488355328)) (cond (decide ((List.length (List.map (RCod.enc cShop) (HBook.shops b))+1)*40≤140737488355328)) (some {v:=V.tup [V.agg [V.slc [.str,.int .u8,.str] (List.map (RCod.enc cShop) (HBook.shops b)++[[V.str (HShop.name x),V.int .u8 (HShop.sort x),V.str (HShop.to x)]]),V.slc [.str,.str,.bool,.str,.slc [.str,.int .u8,.int .i64,.str],.bool] (List.map (RCod.enc cBind) (HBook.binds b))],V.int .i64 (0:Int)],bx:=[]:DRes}) (none)) (none))))) (none)) (cond (ile (0:Int) (N.ixG (N.isShop (HShop.name x)) (List.map (RCod.dec cShop) (List.map (RCod.enc cShop) (HBook.shops b))) (0:Int))) (some {v:=V.tup [V.agg [V.slc [.str,.int .u8,.str] (List.map (RCod.enc cShop) (HBook.shops b)),V.slc [.str,.str,.bool,.str,.slc [.str,.int .u8,.int .i64,.str],.bool] (List.map (RCod.enc cBind) (HBook.binds b))],V.int .i64 (9:Int)],bx:=[]:DRes}) (cond (ile (8:Int) (↑(List.length (List.map (RCod.enc cShop) (HBook.shops b))):Int)) (some {v:=V.tup [V.agg [V.slc [.str,.int .u8,.str] (List.map (RCod.enc cShop) (HBook.shops b)),V.slc [.str,.str,.bool,.str,.slc [.str,.int .u8,.int .i64,.str],.bool] (List.map (RCod.enc cBind) (HBook.binds b))],V.int .i64 (12:Int)],bx:=[]:DRes}) (cond (decide (List.length (List.map (RCod.enc cShop) (HBook.shops b))*40≤140737488355328)) (cond (decide ((List.length (List.map (RCod.enc cShop) (HBook.shops b))+1)*40≤140737488355328)) (some {v:=V.tup [V.agg [V.slc [.str,.int .u8,.str] (List.map (RCod.enc cShop) (HBook.shops b)++[[V.str (HShop.name x),V.int .u8 (HShop.sort x),V.str (HShop.to x)]]),V.slc [.str,.str,.bool,.str,.slc [.str,.int .u8,.int .i64,.str],.bool] (List.map (RCod.enc cBind) (HBook.binds b))],V.int .i64 (0:Int)],bx:=[]:DRes}) (none)) (none))))) (none)))) (cond (N.name (HShop.to x) != (0:Int)) (some {v:=V.tup [V.agg [V.slc [.str,.int .u8,.str] (List.map (RCod.enc cShop) (HBook.shops b)),V.slc [.str,.str,.bool,.str,.slc [.str,.int .u8,.int .i64,.str],.bool] (List.map (RCod.enc cBind) (HBook.binds b))],V.int .i64 (N.name (HShop.to x))],bx:=[]:DRes}) (cond (Nat.ble (List.length (List.map (RCod.dec cShop) (List.map (RCod.enc cShop) (HBook.shops b)))) 1000) (cond (ile (0:Int) (N.ixG (N.isShop (HShop.name x)) (List.map (RCod.dec cShop) (List.map (RCod.enc cShop) (HBook.shops b))) (0:Int))) (cond (decide ((0:Int)≤N.ixG (N.isShop (HShop.name x)) (List.map (RCod.dec cShop) (List.map (RCod.enc cShop) (HBook.shops b))) (0:Int)∧N.ixG (N.isShop (HShop.name x)) (List.map (RCod.dec cShop) (List.map (RCod.enc cShop) (HBook.shops b))) (0:Int)<(↑(List.length (List.map (RCod.enc cShop) (HBook.shops b))):Int))) (cond (V.toStr (List.getD (List.getD (List.map (RCod.enc cShop) (HBook.shops b)) (Int.toNat (N.ixG (N.isShop (HShop.name x)) (List.map (RCod.dec cShop) (List.map (RCod.enc cShop) (HBook.shops b))) (0:Int))) []) 0 V.undef)==HShop.name x && (V.toInt (List.getD (List.getD (List.map (RCod.enc cShop) (HBook.shops b)) (Int.toNat (N.ixG (N.isShop (HShop.name x)) (List.map (RCod.dec cShop) (List.map (RCod.enc cShop) (HBook.shops b))) (0:Int))) []) 1 V.undef)==HShop.sort x && (V.toStr (List.getD (List.getD (List.map (RCod.enc cShop) (HBook.shops b)) (Int.toNat (N.ixG (N.isShop (HShop.name x)) (List.map (RCod.dec cShop) (List.map (RCod.enc cShop) (HBook.shops b))) (0:Int))) []) 2 V.undef)==HShop.to x && true))) (some {v:=V.tup [V.agg [V.slc [.str,.int .u8,.str] (List.map (RCod.enc cShop) (HBook.shops b)),V.slc [.str,.str,.bool,.str,.slc [.str,.int .u8,.int .i64,.str],.bool] (List.map (RCod.enc cBind) (HBook.binds b))],V.int .i64 (0:Int)],bx:=[]:DRes}) (cond (ile (0:Int) (N.ixG (N.isShop (HShop.name x)) (List.map (RCod.dec cShop) (List.map (RCod.enc cShop) (HBook.shops b))) (0:Int))) (some {v:=V.tup [V.agg [V.slc [.str,.int .u8,.str] (List.map (RCod.enc cShop) (HBook.shops b)),V.slc [.str,.str,.bool,.str,.slc [.str,.int .u8,.int .i64,.str],.bool] (List.map (RCod.enc cBind) (HBook.binds b))],V.int .i64 (9:Int)],bx:=[]:DRes}) (cond (ile (8:Int) (↑(List.length (List.map (RCod.enc cShop) (HBook.shops b))):Int)) (some {v:=V.tup [V.agg [V.slc [.str,.int .u8,.str] (List.map (RCod.enc cShop) (HBook.shops b)),V.slc [.str,.str,.bool,.str,.slc [.str,.int .u8,.int .i64,.str],.bool] (List.map (RCod.enc cBind) (HBook.binds b))],V.int .i64 (12:Int)],bx:=[]:DRes}) (cond (decide (List.length (List.map (RCod.enc cShop) (HBook.shops b))*40≤140737488355328)) (cond (decide ((List.length (List.map (RCod.enc cShop) (HBook.shops b))+1)*40≤140737488355328)) (some {v:=V.tup [V.agg [V.slc [.str,.int .u8,.str] (List.map (RCod.enc cShop) (HBook.shops b)++[[V.str (HShop.name x),V.int .u8 (HShop.sort x),V.str (HShop.to x)]]),V.slc [.str,.str,.bool,.str,.slc [.str,.int .u8,.int .i64,.str],.bool] (List.map (RCod.enc cBind) (HBook.binds b))],V.int .i64 (0:Int)],bx:=[]:DRes}) (none)) (none))))) (none)) (cond (ile (0:Int) (N.ixG (N.isShop (HShop.name x)) (List.map (RCod.dec cShop) (List.map (RCod.enc cShop) (HBook.shops b))) (0:Int))) (some {v:=V.tup [V.agg [V.slc [.str,.int .u8,.str] (List.map (RCod.enc cShop) (HBook.shops b)),V.slc [.str,.str,.bool,.str,.slc [.str,.int .u8,.int .i64,.str],.bool] (List.map (RCod.enc cBind) (HBook.binds b))],V.int .i64 (9:Int)],bx:=[]:DRes}) (cond (ile (8:Int) (↑(List.length (List.map (RCod.enc cShop) (HBook.shops b))):Int)) (some {v:=V.tup [V.agg [V.slc [.str,.int .u8,.str] (List.map (RCod.enc cShop) (HBook.shops b)),V.slc [.str,.str,.bool,.str,.slc [.str,.int .u8,.int .i64,.str],.bool] (List.map (RCod.enc cBind) (HBook.binds b))],V.int .i64 (12:Int)],bx:=[]:DRes}) (cond (decide (List.length (List.map (RCod.enc cShop) (HBook.shops b))*40≤140737488355328)) (cond (decide ((List.length (List.map (RCod.enc cShop) (HBook.shops b))+1)*40≤140737488355328)) (some {v:=V.tup [V.agg [V.slc [.str,.int .u8,.str] (List.map (RCod.enc cShop) (HBook.shops b)++[[V.str (HShop.name x),V.int .u8 (HShop.sort x),V.str (HShop.to x)]]),V.slc [.str,.str,.bool,.str,.slc [.str,.int .u8,.int .i64,.str],.bool] (List.map (RCod.enc cBind) (HBook.binds b))],V.int .i64 (0:Int)],bx:=[]:DRes}) (none)) (none))))) (none)))) (cond (N.name (HShop.to x) != (0:Int)) (some {v:=V.tup [V.agg [V.slc [.str,.int .u8,.str] (List.map (RCod.enc cShop) (HBook.shops b)),V.slc [.str,.str,.bool,.str,.slc [.str,.int .u8,.int .i64,.str],.bool] (List.map (RCod.enc cBind) (HBook.binds b))],V.int .i64 (N.name (HShop.to x))],bx:=[]:DRes}) (cond (Nat.ble (List.length (List.map (RCod.dec cShop) (List.map (RCod.enc cShop) (HBook.shops b)))) 1000) (cond (ile (0:Int) (N.ixG (N.isShop (HShop.name x)) (List.map (RCod.dec cShop) (List.map (RCod.enc cShop) (HBook.shops b))) (0:Int))) (cond (decide ((0:Int)≤N.ixG (N.isShop (HShop.name x)) (List.map (RCod.dec cShop) (List.map (RCod.enc cShop) (HBook.shops b))) (0:Int)∧N.ixG (N.isShop (HShop.name x)) (List.map (RCod.dec cShop) (List.map (RCod.enc cShop) (HBook.shops b))) (0:Int)<(↑(List.length (List.map (RCod.enc cShop) (HBook.shops b))):Int))) (cond (V.toStr (List.getD (List.getD (List.map (RCod.enc cShop) (HBook.shops b)) (Int.toNat (N.ixG (N.isShop (HShop.name x)) (List.map (RCod.dec cShop) (List.map (RCod.enc cShop) (HBook.shops b))) (0:Int))) []) 0 V.undef)==HShop.name x && (V.toInt (List.getD (List.getD (List.map (RCod.enc cShop) (HBook.shops b)) (Int.toNat (N.ixG (N.isShop (HShop.name x)) (List.map (RCod.dec cShop) (List.map (RCod.enc cShop) (HBook.shops b))) (0:Int))) []) 1 V.undef)==HShop.sort x && (V.toStr (List.getD (List.getD (List.map (RCod.enc cShop) (HBook.shops b)) (Int.toNat (N.ixG (N.isShop (HShop.name x)) (List.map (RCod.dec cShop) (List.map (RCod.enc cShop) (HBook.shops b))) (0:Int))) []) 2 V.undef)==HShop.to x && true))) (some {v:=V.tup [V.agg [V.slc [.str,.int .u8,.str] (List.map (RCod.enc cShop) (HBook.shops b)),V.slc [.str,.str,.bool,.str,.slc [.str,.int .u8,.int .i64,.str],.bool] (List.map (RCod.enc cBind) (HBook.binds b))],V.int .i64 (0:Int)],bx:=[]:DRes}) (cond (ile (0:Int) (N.ixG (N.isShop (HShop.name x)) (List.map (RCod.dec cShop) (List.map (RCod.enc cShop) (HBook.shops b))) (0:Int))) (some {v:=V.tup [V.agg [V.slc [.str,.int .u8,.str] (List.map (RCod.enc cShop) (HBook.shops b)),V.slc [.str,.str,.bool,.str,.slc [.str,.int .u8,.int .i64,.str],.bool] (List.map (RCod.enc cBind) (HBook.binds b))],V.int .i64 (9:Int)],bx:=[]:DRes}) (cond (ile (8:Int) (↑(List.length (List.map (RCod.enc cShop) (HBook.shops b))):Int)) (some {v:=V.tup [V.agg [V.slc [.str,.int .u8,.str] (List.map (RCod.enc cShop) (HBook.shops b)),V.slc [.str,.str,.bool,.str,.slc [.str,.int .u8,.int .i64,.str],.bool] (List.map (RCod.enc cBind) (HBook.binds b))],V.int .i64 (12:Int)],bx:=[]:DRes}) (cond (decide (List.length (List.map (RCod.enc cShop) (HBook.shops b))*40≤140737488355328)) (cond (decide ((List.length (List.map (RCod.enc cShop) (HBook.shops b))+1)*40≤140737488355328)) (some {v:=V.tup [V.agg [V.slc [.str,.int .u8,.str] (List.map (RCod.enc cShop) (HBook.shops b)++[[V.str (HShop.name x),V.int .u8 (HShop.sort x),V.str (HShop.to x)]]),V.slc [.str,.str,.bool,.str,.slc [.str,.int .u8,.int .i64,.str],.bool] (List.map (RCod.enc cBind) (HBook.binds b))],V.int .i64 (0:Int)],bx:=[]:DRes}) (none)) (none))))) (none)) (cond (ile (0:Int) (N.ixG (N.isShop (HShop.name x)) (List.map (RCod.dec cShop) (List.map (RCod.enc cShop) (HBook.shops b))) (0:Int))) (some {v:=V.tup [V.agg [V.slc [.str,.int .u8,.str] (List.map (RCod.enc cShop) (HBook.shops b)),V.slc [.str,.str,.bool,.str,.slc [.str,.int .u8,.int .i64,.str],.bool] (List.map (RCod.enc cBind) (HBook.binds b))],V.int .i64 (9:Int)],bx:=[]:DRes}) (cond (ile (8:Int) (↑(List.length (List.map (RCod.enc cShop) (HBook.shops b))):Int)) (some {v:=V.tup [V.agg [V.slc [.str,.int .u8,.str] (List.map (RCod.enc cShop) (HBook.shops b)),V.slc [.str,.str,.bool,.str,.slc [.str,.int .u8,.int .i64,.str],.bool] (List.map (RCod.enc cBind) (HBook.binds b))],V.int .i64 (12:Int)],bx:=[]:DRes}) (cond (decide (List.length (List.map (RCod.enc cShop) (HBook.shops b))*40≤140737488355328)) (cond (decide ((List.length (List.map (RCod.enc cShop) (HBook.shops b))+1)*40≤140737488355328)) (some {v:=V.tup [V.agg [V.slc [.str,.int .u8,.str] (List.map (RCod.enc cShop) (HBook.shops b)++[[V.str (HShop.name x),V.int .u8 (HShop.sort x),V.str (HShop.to x)]]),V.slc [.str,.str,.bool,.str,.slc [.str,.int .u8,.int .i64,.str],.bool] (List.map (RCod.enc cBind) (HBook.binds b))],V.int .i64 (0:Int)],bx:=[]:DRes}) (none)) (none))))) (none)))) (cond (N.name (HShop.name x)==(0:Int)) (cond (ilt (HShop.sort x) (4:Int)) (cond (!HShop.to x==[]) (some {v:=V.tup [V.agg [V.slc [.str,.int .u8,.str] (List.map (RCod.enc cShop) (HBook.shops b)),V.slc [.str,.str,.bool,.str,.slc [.str,.int .u8,.int .i64,.str],.bool] (List.map (RCod.enc cBind) (HBook.binds b))],V.int .i64 (4:Int)],bx:=[]:DRes}) (cond (N.name (HShop.name x) != (0:Int)) (some {v:=V.tup [V.agg [V.slc [.str,.int .u8,.str] (List.map (RCod.enc cShop) (HBook.shops b)),V.slc [.str,.str,.bool,.str,.slc [.str,.int .u8,.int .i64,.str],.bool] (List.map (RCod.enc cBind) (HBook.binds b))],V.int .i64 (N.name (HShop.name x))],bx:=[]:DRes}) (cond (Nat.ble (List.length (List.map (RCod.dec cShop) (List.map (RCod.enc cShop) (HBook.shops b)))) 1000) (cond (ile (0:Int) (N.ixG (N.isShop (HShop.name x)) (List.map (RCod.dec cShop) (List.map (RCod.enc cShop) (HBook.shops b))) (0:Int))) (cond (decide ((0:Int)≤N.ixG (N.isShop (HShop.name x)) (List.map (RCod.dec cShop) (List.map (RCod.enc cShop) (HBook.shops b))) (0:Int)∧N.ixG (N.isShop (HShop.name x)) (List.map (RCod.dec cShop) (List.map (RCod.enc cShop) (HBook.shops b))) (0:Int)<(↑(List.length (List.map (RCod.enc cShop) (HBook.shops b))):Int))) (cond (V.toStr (List.getD (List.getD (List.map (RCod.enc cShop) (HBook.shops b)) (Int.toNat (N.ixG (N.isShop (HShop.name x)) (List.map (RCod.dec cShop) (List.map (RCod.enc cShop) (HBook.shops b))) (0:Int))) []) 0 V.undef)==HShop.name x && (V.toInt (List.getD (List.getD (List.map (RCod.enc cShop) (HBook.shops b)) (Int.toNat (N.ixG (N.isShop (HShop.name x)) (List.map (RCod.dec cShop) (List.map (RCod.enc cShop) (HBook.shops b))) (0:Int))) []) 1 V.undef)==HShop.sort x && (V.toStr (List.getD (List.getD (List.map (RCod.enc cShop) (HBook.shops b)) (Int.toNat (N.ixG (N.isShop (HShop.name x)) (List.map (RCod.dec cShop) (List.map (RCod.enc cShop) (HBook.shops b))) (0:Int))) []) 2 V.undef)==HShop.to x && true))) (some {v:=V.tup [V.agg [V.slc [.str,.int .u8,.str] (List.map (RCod.enc cShop) (HBook.shops b)),V.slc [.str,.str,.bool,.str,.slc [.str,.int .u8,.int .i64,.str],.bool] (List.map (RCod.enc cBind) (HBook.binds b))],V.int .i64 (0:Int)],bx:=[]:DRes}) (cond (ile (0:Int) (N.ixG (N.isShop (HShop.name x)) (List.map (RCod.dec cShop) (List.map (RCod.enc cShop) (HBook.shops b))) (0:Int))) (some {v:=V.tup [V.agg [V.slc [.str,.int .u8,.str] (List.map (RCod.enc cShop) (HBook.shops b)),V.slc [.str,.str,.bool,.str,.slc [.str,.int .u8,.int .i64,.str],.bool] (List.map (RCod.enc cBind) (HBook.binds b))],V.int .i64 (9:Int)],bx:=[]:DRes}) (cond (ile (8:Int) (↑(List.length (List.map (RCod.enc cShop) (HBook.shops b))):Int)) (some {v:=V.tup [V.agg [V.slc [.str,.int .u8,.str] (List.map (RCod.enc cShop) (HBook.shops b)),V.slc [.str,.str,.bool,.str,.slc [.str,.int .u8,.int .i64,.str],.bool] (List.map (RCod.enc cBind) (HBook.binds b))],V.int .i64 (12:Int)],bx:=[]:DRes}) (cond (decide (List.length (List.map (RCod.enc cShop) (HBook.shops b))*40≤140737488355328)) (cond (decide ((List.length (List.map (RCod.enc cShop) (HBook.shops b))+1)*40≤140737488355328)) (some {v:=V.tup [V.agg [V.slc [.str,.int .u8,.str] (List.map (RCod.enc cShop) (HBook.shops b)++[[V.str (HShop.name x),V.int .u8 (HShop.sort x),V.str (HShop.to x)]]),V.slc [.str,.str,.bool,.str,.slc [.str,.int .u8,.int .i64,.str],.bool] (List.map (RCod.enc cBind) (HBook.binds b))],V.int .i64 (0:Int)],bx:=[]:DRes}) (none)) (none))))) (none)) (cond (ile (0:Int) (N.ixG (N.isShop (HShop.name x)) (List.map (RCod.dec cShop) (List.map (RCod.enc cShop) (HBook.shops b))) (0:Int))) (some {v:=V.tup [V.agg [V.slc [.str,.int .u8,.str] (List.map (RCod.enc cShop) (HBook.shops b)),V.slc [.str,.str,.bool,.str,.slc [.str,.int .u8,.int .i64,.str],.bool] (List.map (RCod.enc cBind) (HBook.binds b))],V.int .i64 (9:Int)],bx:=[]:DRes}) (cond (ile (8:Int) (↑(List.length (List.map (RCod.enc cShop) (HBook.shops b))):Int)) (some {v:=V.tup [V.agg [V.slc [.str,.int .u8,.str] (List.map (RCod.enc cShop) (HBook.shops b)),V.slc [.str,.str,.bool,.str,.slc [.str,.int .u8,.int .i64,.str],.bool] (List.map (RCod.enc cBind) (HBook.binds b))],V.int .i64 (12:Int)],bx:=[]:DRes}) (cond (decide (List.length (List.map (RCod.enc cShop) (HBook.shops b))*40≤140737488355328)) (cond (decide ((List.length (List.map (RCod.enc cShop) (HBook.shops b))+1)*40≤140737488355328)) (some {v:=V.tup [V.agg [V.slc [.str,.int .u8,.str] (List.map (RCod.enc cShop) (HBook.shops b)++[[V.str (HShop.name x),V.int .u8 (HShop.sort x),V.str (HShop.to x)]]),V.slc [.str,.str,.bool,.str,.slc [.str,.int .u8,.int .i64,.str],.bool] (List.map (RCod.enc cBind) (HBook.binds b))],V.int .i64 (0:Int)],bx:=[]:DRes}) (none)) (none))))) (none)))) (cond (N.name (HShop.name x) != (0:Int)) (some {v:=V.tup [V.agg [V.slc [.str,.int .u8,.str] (List.map (RCod.enc cShop) (HBook.shops b)),V.slc [.str,.str,.bool,.str,.slc [.str,.int .u8,.int .i64,.str],.bool] (List.map (RCod.enc cBind) (HBook.binds b))],V.int .i64 (N.name (HShop.name x))],bx:=[]:DRes}) (cond (Nat.ble (List.length (List.map (RCod.dec cShop) (List.map (RCod.enc cShop) (HBook.shops b)))) 1000) (cond (ile (0:Int) (N.ixG (N.isShop (HShop.name x)) (List.map (RCod.dec cShop) (List.map (RCod.enc cShop) (HBook.shops b))) (0:Int))) (cond (decide ((0:Int)≤N.ixG (N.isShop (HShop.name x)) (List.map (RCod.dec cShop) (List.map (RCod.enc cShop) (HBook.shops b))) (0:Int)∧N.ixG (N.isShop (HShop.name x)) (List.map (RCod.dec cShop) (List.map (RCod.enc cShop) (HBook.shops b))) (0:Int)<(↑(List.length (List.map (RCod.enc cShop) (HBook.shops b))):Int))) (cond (V.toStr (List.getD (List.getD (List.map (RCod.enc cShop) (HBook.shops b)) (Int.toNat (N.ixG (N.isShop (HShop.name x)) (List.map (RCod.dec cShop) (List.map (RCod.enc cShop) (HBook.shops b))) (0:Int))) []) 0 V.undef)==HShop.name x && (V.toInt (List.getD (List.getD (List.map (RCod.enc cShop) (HBook.shops b)) (Int.toNat (N.ixG (N.isShop (HShop.name x)) (List.map (RCod.dec cShop) (List.map (RCod.enc cShop) (HBook.shops b))) (0:Int))) []) 1 V.undef)==HShop.sort x && (V.toStr (List.getD (List.getD (List.map (RCod.enc cShop) (HBook.shops b)) (Int.toNat (N.ixG (N.isShop (HShop.name x)) (List.map (RCod.dec cShop) (List.map (RCod.enc cShop) (HBook.shops b))) (0:Int))) []) 2 V.undef)==HShop.to x && true))) (some {v:=V.tup [V.agg [V.slc [.str,.int .u8,.str] (List.map (RCod.enc cShop) (HBook.shops b)),V.slc [.str,.str,.bool,.str,.slc [.str,.int .u8,.int .i64,.str],.bool] (List.map (RCod.enc cBind) (HBook.binds b))],V.int .i64 (0:Int)],bx:=[]:DRes}) (cond (ile (0:Int) (N.ixG (N.isShop (HShop.name x)) (List.map (RCod.dec cShop) (List.map (RCod.enc cShop) (HBook.shops b))) (0:Int))) (some {v:=V.tup [V.agg [V.slc [.str,.int .u8,.str] (List.map (RCod.enc cShop) (HBook.shops b)),V.slc [.str,.str,.bool,.str,.slc [.str,.int .u8,.int .i64,.str],.bool] (List.map (RCod.enc cBind) (HBook.binds b))],V.int .i64 (9:Int)],bx:=[]:DRes}) (cond (ile (8:Int) (↑(List.length (List.map (RCod.enc cShop) (HBook.shops b))):Int)) (some {v:=V.tup [V.agg [V.slc [.str,.int .u8,.str] (List.map (RCod.enc cShop) (HBook.shops b)),V.slc [.str,.str,.bool,.str,.slc [.str,.int .u8,.int .i64,.str],.bool] (List.map (RCod.enc cBind) (HBook.binds b))],V.int .i64 (12:Int)],bx:=[]:DRes}) (cond (decide (List.length (List.map (RCod.enc cShop) (HBook.shops b))*40≤140737488355328)) (cond (decide ((List.length (List.map (RCod.enc cShop) (HBook.shops b))+1)*40≤140737488355328)) (some {v:=V.tup [V.agg [V.slc [.str,.int .u8,.str] (List.map (RCod.enc cShop) (HBook.shops b)++[[V.str (HShop.name x),V.int .u8 (HShop.sort x),V.str (HShop.to x)]]),V.slc [.str,.str,.bool,.str,.slc [.str,.int .u8,.int .i64,.str],.bool] (List.map (RCod.enc cBind) (HBook.binds b))],V.int .i64 (0:Int)],bx:=[]:DRes}) (none)) (none))))) (none)) (cond (ile (0:Int) (N.ixG (N.isShop (HShop.name x)) (List.map (RCod.dec cShop) (List.map (RCod.enc cShop) (HBook.shops b))) (0:Int))) (some {v:=V.tup [V.agg [V.slc [.str,.int .u8,.str] (List.map (RCod.enc cShop) (HBook.shops b)),V.slc [.str,.str,.bool,.str,.slc [.str,.int .u8,.int .i64,.str],.bool] (List.map (RCod.enc cBind) (HBook.binds b))],V.int .i64 (9:Int)],bx:=[]:DRes}) (cond (ile (8:Int) (↑(List.length (List.map (RCod.enc cShop) (HBook.shops b))):Int)) (some {v:=V.tup [V.agg [V.slc [.str,.int .u8,.str] (List.map (RCod.enc cShop) (HBook.shops b)),V.slc [.str,.str,.bool,.str,.slc [.str,.int .u8,.int .i64,.str],.bool] (List.map (RCod.enc cBind) (HBook.binds b))],V.int .i64 (12:Int)],bx:=[]:DRes}) (cond (decide (List.length (List.map (RCod.enc cShop) (HBook.shops b))*40≤140737488355328)) (cond (decide ((List.length (List.map (RCod.enc cShop) (HBook.shops b))+1)*40≤140737488355328)) (some {v:=V.tup [V.agg [V.slc [.str,.int .u8,.str] (List.map (RCod.enc cShop) (HBook.shops b)++[[V.str (HShop.name x),V.int .u8 (HShop.sort x),V.str (HShop.to x)]]),V.slc [.str,.str,.bool,.str,.slc [.str,.int .u8,.int .i64,.str],.bool] (List.map (RCod.enc cBind) (HBook.binds b))],V.int .i64 (0:Int)],bx:=[]:DRes}) (none)) (none))))) (none)))) (cond (N.name (HShop.name x) != (0:Int)) (some {v:=V.tup [V.agg [V.slc [.str,.int .u8,.str] (List.map (RCod.enc cShop) (HBook.shops b)),V.slc [.str,.str,.bool,.str,.slc [.str,.int .u8,.int .i64,.str],.bool] (List.map (RCod.enc cBind) (HBook.binds b))],V.int .i64 (N.name (HShop.name x))],bx:=[]:DRes}) (cond (Nat.ble (List.length (List.map (RCod.dec cShop) (List.map (RCod.enc cShop) (HBook.shops b)))) 1000) (cond (ile (0:Int) (N.ixG (N.isShop (HShop.name x)) (List.map (RCod.dec cShop) (List.map (RCod.enc cShop) (HBook.shops b))) (0:Int))) (cond (decide ((0:Int)≤N.ixG (N.isShop (HShop.name x)) (List.map (RCod.dec cShop) (List.map (RCod.enc cShop) (HBook.shops b))) (0:Int)∧N.ixG (N.isShop (HShop.name x)) (List.map (RCod.dec cShop) (List.map (RCod.enc cShop) (HBook.shops b))) (0:Int)<(↑(List.length (List.map (RCod.enc cShop) (HBook.shops b))):Int))) (cond (V.toStr (List.getD (List.getD (List.map (RCod.enc cShop) (HBook.shops b)) (Int.toNat (N.ixG (N.isShop (HShop.name x)) (List.map (RCod.dec cShop) (List.map (RCod.enc cShop) (HBook.shops b))) (0:Int))) []) 0 V.undef)==HShop.name x && (V.toInt (List.getD (List.getD (List.map (RCod.enc cShop) (HBook.shops b)) (Int.toNat (N.ixG (N.isShop (HShop.name x)) (List.map (RCod.dec cShop) (List.map (RCod.enc cShop) (HBook.shops b))) (0:Int))) []) 1 V.undef)==HShop.sort x && (V.toStr (List.getD (List.getD (List.map (RCod.enc cShop) (HBook.shops b)) (Int.toNat (N.ixG (N.isShop (HShop.name x)) (List.map (RCod.dec cShop) (List.map (RCod.enc cShop) (HBook.shops b))) (0:Int))) []) 2 V.undef)==HShop.to x && true))) (some {v:=V.tup [V.agg [V.slc [.str,.int .u8,.str] (List.map (RCod.enc cShop) (HBook.shops b)),V.slc [.str,.str,.bool,.str,.slc [.str,.int .u8,.int .i64,.str],.bool] (List.map (RCod.enc cBind) (HBook.binds b))],V.int .i64 (0:Int)],bx:=[]:DRes}) (cond (ile (0:Int) (N.ixG (N.isShop (HShop.name x)) (List.map (RCod.dec cShop) (List.map (RCod.enc cShop) (HBook.shops b))) (0:Int))) (some {v:=V.tup [V.agg [V.slc [.str,.int .u8,.str] (List.map (RCod.enc cShop) (HBook.shops b)),V.slc [.str,.str,.bool,.str,.slc [.str,.int .u8,.int .i64,.str],.bool] (List.map (RCod.enc cBind) (HBook.binds b))],V.int .i64 (9:Int)],bx:=[]:DRes}) (cond (ile (8:Int) (↑(List.length (List.map (RCod.enc cShop) (HBook.shops b))):Int)) (some {v:=V.tup [V.agg [V.slc [.str,.int .u8,.str] (List.map (RCod.enc cShop) (HBook.shops b)),V.slc [.str,.str,.bool,.str,.slc [.str,.int .u8,.int .i64,.str],.bool] (List.map (RCod.enc cBind) (HBook.binds b))],V.int .i64 (12:Int)],bx:=[]:DRes}) (cond (decide (List.length (List.map (RCod.enc cShop) (HBook.shops b))*40≤140737488355328)) (cond (decide ((List.length (List.map (RCod.enc cShop) (HBook.shops b))+1)*40≤140737488355328)) (some {v:=V.tup [V.agg [V.slc [.str,.int .u8,.str] (List.map (RCod.enc cShop) (HBook.shops b)++[[V.str (HShop.name x),V.int .u8 (HShop.sort x),V.str (HShop.to x)]]),V.slc [.str,.str,.bool,.str,.slc [.str,.int .u8,.int .i64,.str],.bool] (List.map (RCod.enc cBind) (HBook.binds b))],V.int .i64 (0:Int)],bx:=[]:DRes}) (none)) (none))))) (none)) (cond (ile (0:Int) (N.ixG (N.isShop (HShop.name x)) (List.map (RCod.dec cShop) (List.map (RCod.enc cShop) (HBook.shops b))) (0:Int))) (some {v:=V.tup [V.agg [V.slc [.str,.int .u8,.str] (List.map (RCod.enc cShop) (HBook.shops b)),V.slc [.str,.str,.bool,.str,.slc [.str,.int .u8,.int .i64,.str],.bool] (List.map (RCod.enc cBind) (HBook.binds b))],V.int .i64 (9:Int)],bx:=[]:DRes}) (cond (ile (8:Int) (↑(List.length (List.map (RCod.enc cShop) (HBook.shops b))):Int)) (some {v:=V.tup [V.agg [V.slc [.str,.int .u8,.str] (List.map (RCod.enc cShop) (HBook.shops b)),V.slc [.str,.str,.bool,.str,.slc [.str,.int .u8,.int .i64,.str],.bool] (List.map (RCod.enc cBind) (HBook.binds b))],V.int .i64 (12:Int)],bx:=[]:DRes}) (cond (decide (List.length (List.map (RCod.enc cShop) (HBook.shops b))*40≤140737488355328)) (cond (decide ((List.length (List.map (RCod.enc cShop) (HBook.shops b))+1)*40≤140737488355328)) (some {v:=V.tup [V.agg [V.slc [.str,.int .u8,.str] (List.map (RCod.enc cShop) (HBook.shops b)++[[V.str (HShop.name x),V.int .u8 (HShop.sort x),V.str (HShop.to x)]]),V.slc [.str,.str,.bool,.str,.slc [.str,.int .u8,.int .i64,.str],.bool] (List.map (RCod.enc cBind) (HBook.binds b))],V.int .i64 (0:Int)],bx:=[]:DRes}) (none)) (none))))) (none))))) (cond (N.name (HShop.name x)==(0:Int)) (cond (ilt (HShop.sort x) (4:Int)) (cond (!HShop.to x==[]) (some {v:=V.tup [V.agg [V.slc [.str,.int .u8,.str] (List.map (RCod.enc cShop) (HBook.shops b)),V.slc [.str,.str,.bool,.str,.slc [.str,.int .u8,.int .i64,.str],.bool] (List.map (RCod.enc cBind) (HBook.binds b))],V.int .i64 (4:Int)],bx:=[]:DRes}) (cond (N.name (HShop.name x) != (0:Int)) (some {v:=V.tup [V.agg [V.slc [.str,.int .u8,.str] (List.map (RCod.enc cShop) (HBook.shops b)),V.slc [.str,.str,.bool,.str,.slc [.str,.int .u8,.int .i64,.str],.bool] (List.map (RCod.enc cBind) (HBook.binds b))],V.int .i64 (N.name (HShop.name x))],bx:=[]:DRes}) (cond (Nat.ble (List.length (List.map (RCod.dec cShop) (List.map (RCod.enc cShop) (HBook.shops b)))) 1000) (cond (ile (0:Int) (N.ixG (N.isShop (HShop.name x)) (List.map (RCod.dec cShop) (List.map (RCod.enc cShop) (HBook.shops b))) (0:Int))) (cond (decide ((0:Int)≤N.ixG (N.isShop (HShop.name x)) (List.map (RCod.dec cShop) (List.map (RCod.enc cShop) (HBook.shops b))) (0:Int)∧N.ixG (N.isShop (HShop.name x)) (List.map (RCod.dec cShop) (List.map (RCod.enc cShop) (HBook.shops b))) (0:Int)<(↑(List.length (List.map (RCod.enc cShop) (HBook.shops b))):Int))) (cond (V.toStr (List.getD (List.getD (List.map (RCod.enc cShop) (HBook.shops b)) (Int.toNat (N.ixG (N.isShop (HShop.name x)) (List.map (RCod.dec cShop) (List.map (RCod.enc cShop) (HBook.shops b))) (0:Int))) []) 0 V.undef)==HShop.name x && (V.toInt (List.getD (List.getD (List.map (RCod.enc cShop) (HBook.shops b)) (Int.toNat (N.ixG (N.isShop (HShop.name x)) (List.map (RCod.dec cShop) (List.map (RCod.enc cShop) (HBook.shops b))) (0:Int))) []) 1 V.undef)==HShop.sort x && (V.toStr (List.getD (List.getD (List.map (RCod.enc cShop) (HBook.shops b)) (Int.toNat (N.ixG (N.isShop (HShop.name x)) (List.map (RCod.dec cShop) (List.map (RCod.enc cShop) (HBook.shops b))) (0:Int))) []) 2 V.undef)==HShop.to x && true))) (some {v:=V.tup [V.agg [V.slc [.str,.int .u8,.str] (List.map (RCod.enc cShop) (HBook.shops b)),V.slc [.str,.str,.bool,.str,.slc [.str,.int .u8,.int .i64,.str],.bool] (List.map (RCod.enc cBind) (HBook.binds b))],V.int .i64 (0:Int)],bx:=[]:DRes}) (cond (ile (0:Int) (N.ixG (N.isShop (HShop.name x)) (List.map (RCod.dec cShop) (List.map (RCod.enc cShop) (HBook.shops b))) (0:Int))) (some {v:=V.tup [V.agg [V.slc [.str,.int .u8,.str] (List.map (RCod.enc cShop) (HBook.shops b)),V.slc [.str,.str,.bool,.str,.slc [.str,.int .u8,.int .i64,.str],.bool] (List.map (RCod.enc cBind) (HBook.binds b))],V.int .i64 (9:Int)],bx:=[]:DRes}) (cond (ile (8:Int) (↑(List.length (List.map (RCod.enc cShop) (HBook.shops b))):Int)) (some {v:=V.tup [V.agg [V.slc [.str,.int .u8,.str] (List.map (RCod.enc cShop) (HBook.shops b)),V.slc [.str,.str,.bool,.str,.slc [.str,.int .u8,.int .i64,.str],.bool] (List.map (RCod.enc cBind) (HBook.binds b))],V.int .i64 (12:Int)],bx:=[]:DRes}) (cond (decide (List.length (List.map (RCod.enc cShop) (HBook.shops b))*40≤140737488355328)) (cond (decide ((List.length (List.map (RCod.enc cShop) (HBook.shops b))+1)*40≤140737488355328)) (some {v:=V.tup [V.agg [V.slc [.str,.int .u8,.str] (List.map (RCod.enc cShop) (HBook.shops b)++[[V.str (HShop.name x),V.int .u8 (HShop.sort x),V.str (HShop.to x)]]),V.slc [.str,.str,.bool,.str,.slc [.str,.int .u8,.int .i64,.str],.bool] (List.map (RCod.enc cBind) (HBook.binds b))],V.int .i64 (0:Int)],bx:=[]:DRes}) (none)) (none))))) (none)) (cond (ile (0:Int) (N.ixG (N.isShop (HShop.name x)) (List.map (RCod.dec cShop) (List.map (RCod.enc cShop) (HBook.shops b))) (0:Int))) (some {v:=V.tup [V.agg [V.slc [.str,.int .u8,.str] (List.map (RCod.enc cShop) (HBook.shops b)),V.slc [.str,.str,.bool,.str,.slc [.str,.int .u8,.int .i64,.str],.bool] (List.map (RCod.enc cBind) (HBook.binds b))],V.int .i64 (9:Int)],bx:=[]:DRes}) (cond (ile (8:Int) (↑(List.length (List.map (RCod.enc cShop) (HBook.shops b))):Int)) (some {v:=V.tup [V.agg [V.slc [.str,.int .u8,.str] (List.map (RCod.enc cShop) (HBook.shops b)),V.slc [.str,.str,.bool,.str,.slc [.str,.int .u8,.int .i64,.str],.bool] (List.map (RCod.enc cBind) (HBook.binds b))],V.int .i64 (12:Int)],bx:=[]:DRes}) (cond (decide (List.length (List.map (RCod.enc cShop) (HBook.shops b))*40≤140737488355328)) (cond (decide ((List.length (List.map (RCod.enc cShop) (HBook.shops b))+1)*40≤140737488355328)) (some {v:=V.tup [V.agg [V.slc [.str,.int .u8,.str] (List.map (RCod.enc cShop) (HBook.shops b)++[[V.str (HShop.name x),V.int .u8 (HShop.sort x),V.str (HShop.to x)]]),V.slc [.str,.str,.bool,.str,.slc [.str,.int .u8,.int .i64,.str],.bool] (List.map (RCod.enc cBind) (HBook.binds b))],V.int .i64 (0:Int)],bx:=[]:DRes}) (none)) (none))))) (none)))) (cond (N.name (HShop.name x) != (0:Int)) (some {v:=V.tup [V.agg [V.slc [.str,.int .u8,.str] (List.map (RCod.enc cShop) (HBook.shops b)),V.slc [.str,.str,.bool,.str,.slc [.str,.int .u8,.int .i64,.str],.bool] (List.map (RCod.enc cBind) (HBook.binds b))],V.int .i64 (N.name (HShop.name x))],bx:=[]:DRes}) (cond (Nat.ble (List.length (List.map (RCod.dec cShop) (List.map (RCod.enc cShop) (HBook.shops b)))) 1000) (cond (ile (0:Int) (N.ixG (N.isShop (HShop.name x)) (List.map (RCod.dec cShop) (List.map (RCod.enc cShop) (HBook.shops b))) (0:Int))) (cond (decide ((0:Int)≤N.ixG (N.isShop (HShop.name x)) (List.map (RCod.dec cShop) (List.map (RCod.enc cShop) (HBook.shops b))) (0:Int)∧N.ixG (N.isShop (HShop.name x)) (List.map (RCod.dec cShop) (List.map (RCod.enc cShop) (HBook.shops b))) (0:Int)<(↑(List.length (List.map (RCod.enc cShop) (HBook.shops b))):Int))) (cond (V.toStr (List.getD (List.getD (List.map (RCod.enc cShop) (HBook.shops b)) (Int.toNat (N.ixG (N.isShop (HShop.name x)) (List.map (RCod.dec cShop) (List.map (RCod.enc cShop) (HBook.shops b))) (0:Int))) []) 0 V.undef)==HShop.name x && (V.toInt (List.getD (List.getD (List.map (RCod.enc cShop) (HBook.shops b)) (Int.toNat (N.ixG (N.isShop (HShop.name x)) (List.map (RCod.dec cShop) (List.map (RCod.enc cShop) (HBook.shops b))) (0:Int))) []) 1 V.undef)==HShop.sort x && (V.toStr (List.getD (List.getD (List.map (RCod.enc cShop) (HBook.shops b)) (Int.toNat (N.ixG (N.isShop (HShop.name x)) (List.map (RCod.dec cShop) (List.map (RCod.enc cShop) (HBook.shops b))) (0:Int))) []) 2 V.undef)==HShop.to x && true))) (some {v:=V.tup [V.agg [V.slc [.str,.int .u8,.str] (List.map (RCod.enc cShop) (HBook.shops b)),V.slc [.str,.str,.bool,.str,.slc [.str,.int .u8,.int .i64,.str],.bool] (List.map (RCod.enc cBind) (HBook.binds b))],V.int .i64 (0:Int)],bx:=[]:DRes}) (cond (ile (0:Int) (N.ixG (N.isShop (HShop.name x)) (List.map (RCod.dec cShop) (List.map (RCod.enc cShop) (HBook.shops b))) (0:Int))) (some {v:=V.tup [V.agg [V.slc [.str,.int .u8,.str] (List.map (RCod.enc cShop) (HBook.shops b)),V.slc [.str,.str,.bool,.str,.slc [.str,.int .u8,.int .i64,.str],.bool] (List.map (RCod.enc cBind) (HBook.binds b))],V.int .i64 (9:Int)],bx:=[]:DRes}) (cond (ile (8:Int) (↑(List.length (List.map (RCod.enc cShop) (HBook.shops b))):Int)) (some {v:=V.tup [V.agg [V.slc [.str,.int .u8,.str] (List.map (RCod.enc cShop) (HBook.shops b)),V.slc [.str,.str,.bool,.str,.slc [.str,.int .u8,.int .i64,.str],.bool] (List.map (RCod.enc cBind) (HBook.binds b))],V.int .i64 (12:Int)],bx:=[]:DRes}) (cond (decide (List.length (List.map (RCod.enc cShop) (HBook.shops b))*40≤140737488355328)) (cond (decide ((List.length (List.map (RCod.enc cShop) (HBook.shops b))+1)*40≤140737488355328)) (some {v:=V.tup [V.agg [V.slc [.str,.int .u8,.str] (List.map (RCod.enc cShop) (HBook.shops b)++[[V.str (HShop.name x),V.int .u8 (HShop.sort x),V.str (HShop.to x)]]),V.slc [.str,.str,.bool,.str,.slc [.str,.int .u8,.int .i64,.str],.bool] (List.map (RCod.enc cBind) (HBook.binds b))],V.int .i64 (0:Int)],bx:=[]:DRes}) (none)) (none))))) (none)) (cond (ile (0:Int) (N.ixG (N.isShop (HShop.name x)) (List.map (RCod.dec cShop) (List.map (RCod.enc cShop) (HBook.shops b))) (0:Int))) (some {v:=V.tup [V.agg [V.slc [.str,.int .u8,.str] (List.map (RCod.enc cShop) (HBook.shops b)),V.slc [.str,.str,.bool,.str,.slc [.str,.int .u8,.int .i64,.str],.bool] (List.map (RCod.enc cBind) (HBook.binds b))],V.int .i64 (9:Int)],bx:=[]:DRes}) (cond (ile (8:Int) (↑(List.length (List.map (RCod.enc cShop) (HBook.shops b))):Int)) (some {v:=V.tup [V.agg [V.slc [.str,.int .u8,.str] (List.map (RCod.enc cShop) (HBook.shops b)),V.slc [.str,.str,.bool,.str,.slc [.str,.int .u8,.int .i64,.str],.bool] (List.map (RCod.enc cBind) (HBook.binds b))],V.int .i64 (12:Int)],bx:=[]:DRes}) (cond (decide (List.length (List.map (RCod.enc cShop) (HBook.shops b))*40≤140737488355328)) (cond (decide ((List.length (List.map (RCod.enc cShop) (HBook.shops b))+1)*40≤140737488355328)) (some {v:=V.tup [V.agg [V.slc [.str,.int .u8,.str] (List.map (RCod.enc cShop) (HBook.shops b)++[[V.str (HShop.name x),V.int .u8 (HShop.sort x),V.str (HShop.to x)]]),V.slc [.str,.str,.bool,.str,.slc [.str,.int .u8,.int .i64,.str],.bool] (List.map (RCod.enc cBind) (HBook.binds b))],V.int .i64 (0:Int)],bx:=[]:DRes}) (none)) (none))))) (none)))) (cond (N.name (HShop.name x) != (0:Int)) (some {v:=V.tup [V.agg [V.slc [.str,.int .u8,.str] (List.map (RCod.enc cShop) (HBook.shops b)),V.slc [.str,.str,.bool,.str,.slc [.str,.int .u8,.int .i64,.str],.bool] (List.map (RCod.enc cBind) (HBook.binds b))],V.int .i64 (N.name (HShop.name x))],bx:=[]:DRes}) (cond (Nat.ble (List.length (List.map (RCod.dec cShop) (List.map (RCod.enc cShop) (HBook.shops b)))) 1000) (cond (ile (0:Int) (N.ixG (N.isShop (HShop.name x)) (List.map (RCod.dec cShop) (List.map (RCod.enc cShop) (HBook.shops b))) (0:Int))) (cond (decide ((0:Int)≤N.ixG (N.isShop (HShop.name x)) (List.map (RCod.dec cShop) (List.map (RCod.enc cShop) (HBook.shops b))) (0:Int)∧N.ixG (N.isShop (HShop.name x)) (List.map (RCod.dec cShop) (List.map (RCod.enc cShop) (HBook.shops b))) (0:Int)<(↑(List.length (List.map (RCod.enc cShop) (HBook.shops b))):Int))) (cond (V.toStr (List.getD (List.getD (List.map (RCod.enc cShop) (HBook.shops b)) (Int.toNat (N.ixG (N.isShop (HShop.name x)) (List.map (RCod.dec cShop) (List.map (RCod.enc cShop) (HBook.shops b))) (0:Int))) []) 0 V.undef)==HShop.name x && (V.toInt (List.getD (List.getD (List.map (RCod.enc cShop) (HBook.shops b)) (Int.toNat (N.ixG (N.isShop (HShop.name x)) (List.map (RCod.dec cShop) (List.map (RCod.enc cShop) (HBook.shops b))) (0:Int))) []) 1 V.undef)==HShop.sort x && (V.toStr (List.getD (List.getD (List.map (RCod.enc cShop) (HBook.shops b)) (Int.toNat (N.ixG (N.isShop (HShop.name x)) (List.map (RCod.dec cShop) (List.map (RCod.enc cShop) (HBook.shops b))) (0:Int))) []) 2 V.undef)==HShop.to x && true))) (some {v:=V.tup [V.agg [V.slc [.str,.int .u8,.str] (List.map (RCod.enc cShop) (HBook.shops b)),V.slc [.str,.str,.bool,.str,.slc [.str,.int .u8,.int .i64,.str],.bool] (List.map (RCod.enc cBind) (HBook.binds b))],V.int .i64 (0:Int)],bx:=[]:DRes}) (cond (ile (0:Int) (N.ixG (N.isShop (HShop.name x)) (List.map (RCod.dec cShop) (List.map (RCod.enc cShop) (HBook.shops b))) (0:Int))) (some {v:=V.tup [V.agg [V.slc [.str,.int .u8,.str] (List.map (RCod.enc cShop) (HBook.shops b)),V.slc [.str,.str,.bool,.str,.slc [.str,.int .u8,.int .i64,.str],.bool] (List.map (RCod.enc cBind) (HBook.binds b))],V.int .i64 (9:Int)],bx:=[]:DRes}) (cond (ile (8:Int) (↑(List.length (List.map (RCod.enc cShop) (HBook.shops b))):Int)) (some {v:=V.tup [V.agg [V.slc [.str,.int .u8,.str] (List.map (RCod.enc cShop) (HBook.shops b)),V.slc [.str,.str,.bool,.str,.slc [.str,.int .u8,.int .i64,.str],.bool] (List.map (RCod.enc cBind) (HBook.binds b))],V.int .i64 (12:Int)],bx:=[]:DRes}) (cond (decide (List.length (List.map (RCod.enc cShop) (HBook.shops b))*40≤140737488355328)) (cond (decide ((List.length (List.map (RCod.enc cShop) (HBook.shops b))+1)*40≤140737488355328)) (some {v:=V.tup [V.agg [V.slc [.str,.int .u8,.str] (List.map (RCod.enc cShop) (HBook.shops b)++[[V.str (HShop.name x),V.int .u8 (HShop.sort x),V.str (HShop.to x)]]),V.slc [.str,.str,.bool,.str,.slc [.str,.int .u8,.int .i64,.str],.bool] (List.map (RCod.enc cBind) (HBook.binds b))],V.int .i64 (0:Int)],bx:=[]:DRes}) (none)) (none))))) (none)) (cond (ile (0:Int) (N.ixG (N.isShop (HShop.name x)) (List.map (RCod.dec cShop) (List.map (RCod.enc cShop) (HBook.shops b))) (0:Int))) (some {v:=V.tup [V.agg [V.slc [.str,.int .u8,.str] (List.map (RCod.enc cShop) (HBook.shops b)),V.slc [.str,.str,.bool,.str,.slc [.str,.int .u8,.int .i64,.str],.bool] (List.map (RCod.enc cBind) (HBook.binds b))],V.int .i64 (9:Int)],bx:=[]:DRes}) (cond (ile (8:Int) (↑(List.length (List.map (RCod.enc cShop) (HBook.shops b))):Int)) (some {v:=V.tup [V.agg [V.slc [.str,.int .u8,.str] (List.map (RCod.enc cShop) (HBook.shops b)),V.slc [.str,.str,.bool,.str,.slc [.str,.int .u8,.int .i64,.str],.bool] (List.map (RCod.enc cBind) (HBook.binds b))],V.int .i64 (12:Int)],bx:=[]:DRes}) (cond (decide (List.length (List.map (RCod.enc cShop) (HBook.shops b))*40≤140737488355328)) (cond (decide ((List.length (List.map (RCod.enc cShop) (HBook.shops b))+1)*40≤140737488355328)) (some {v:=V.tup [V.agg [V.slc [.str,.int .u8,.str] (List.map (RCod.enc cShop) (HBook.shops b)++[[V.str (HShop.name x),V.int .u8 (HShop.sort x),V.str (HShop.to x)]]),V.slc [.str,.str,.bool,.str,.slc [.str,.int .u8,.int .i64,.str],.bool] (List.map (RCod.enc cBind) (HBook.binds b))],V.int .i64 (0:Int)],bx:=[]:DRes}) (none)) (none))))) (none)))))) (cond (N.name (HShop.name x)==(0:Int)) (cond (HShop.sort x==(4:Int)) (cond (N.name (HShop.to x)==(0:Int)) (cond (ilt (HShop.sort x) (4:Int)) (cond (!HShop.to x==[]) (some {v:=V.tup [V.agg [V.slc [.str,.int .u8,.str] (List.map (RCod.enc cShop) (HBook.shops b)),V.slc [.str,.str,.bool,.str,.slc [.str,.int .u8,.int .i64,.str],.bool] (List.map (RCod.enc cBind) (HBook.binds b))],V.int .i64 (4:Int)],bx:=[]:DRes}) (cond (N.name (HShop.to x) != (0:Int)) (some {v:=V.tup [V.agg [V.slc [.str,.int .u8,.str] (List.map (RCod.enc cShop) (HBook.shops b)),V.slc [.str,.str,.bool,.str,.slc [.str,.int .u8,.int .i64,.str],.bool] (List.map (RCod.enc cBind) (HBook.binds b))],V.int .i64 (N.name (HShop.to x))],bx:=[]:DRes}) (cond (Nat.ble (List.length (List.map (RCod.dec cShop) (List.map (RCod.enc cShop) (HBook.shops b)))) 1000) (cond (ile (0:Int) (N.ixG (N.isShop (HShop.name x)) (List.map (RCod.dec cShop) (List.map (RCod.enc cShop) (HBook.shops b))) (0:Int))) (cond (decide ((0:Int)≤N.ixG (N.isShop (HShop.name x)) (List.map (RCod.dec cShop) (List.map (RCod.enc cShop) (HBook.shops b))) (0:Int)∧N.ixG (N.isShop (HShop.name x)) (List.map (RCod.dec cShop) (List.map (RCod.enc cShop) (HBook.shops b))) (0:Int)<(↑(List.length (List.map (RCod.enc cShop) (HBook.shops b))):Int))) (cond (V.toStr (List.getD (List.getD (List.map (RCod.enc cShop) (HBook.shops b)) (Int.toNat (N.ixG (N.isShop (HShop.name x)) (List.map (RCod.dec cShop) (List.map (RCod.enc cShop) (HBook.shops b))) (0:Int))) []) 0 V.undef)==HShop.name x && (V.toInt (List.getD (List.getD (List.map (RCod.enc cShop) (HBook.shops b)) (Int.toNat (N.ixG (N.isShop (HShop.name x)) (List.map (RCod.dec cShop) (List.map (RCod.enc cShop) (HBook.shops b))) (0:Int))) []) 1 V.undef)==HShop.sort x && (V.toStr (List.getD (List.getD (List.map (RCod.enc cShop) (HBook.shops b)) (Int.toNat (N.ixG (N.isShop (HShop.name x)) (List.map (RCod.dec cShop) (List.map (RCod.enc cShop) (HBook.shops b))) (0:Int))) []) 2 V.undef)==HShop.to x && true))) (some {v:=V.tup [V.agg [V.slc [.str,.int .u8,.str] (List.map (RCod.enc cShop) (HBook.shops b)),V.slc [.str,.str,.bool,.str,.slc [.str,.int .u8,.int .i64,.str],.bool] (List.map (RCod.enc cBind) (HBook.binds b))],V.int .i64 (0:Int)],bx:=[]:DRes}) (cond (ile (0:Int) (N.ixG (N.isShop (HShop.name x)) (List.map (RCod.dec cShop) (List.map (RCod.enc cShop) (HBook.shops b))) (0:Int))) (some {v:=V.tup [V.agg [V.slc [.str,.int .u8,.str] (List.map (RCod.enc cShop) (HBook.shops b)),V.slc [.str,.str,.bool,.str,.slc [.str,.int .u8,.int .i64,.str],.bool] (List.map (RCod.enc cBind) (HBook.binds b))],V.int .i64 (9:Int)],bx:=[]:DRes}) (cond (ile (8:Int) (↑(List.length (List.map (RCod.enc cShop) (HBook.shops b))):Int)) (some {v:=V.tup [V.agg [V.slc [.str,.int .u8,.str] (List.map (RCod.enc cShop) (HBook.shops b)),V.slc [.str,.str,.bool,.str,.slc [.str,.int .u8,.int .i64,.str],.bool] (List.map (RCod.enc cBind) (HBook.binds b))],V.int .i64 (12:Int)],bx:=[]:DRes}) (cond (decide (List.length (List.map (RCod.enc cShop) (HBook.shops b))*40≤140737488355328)) (cond (decide ((List.length (List.map (RCod.enc cShop) (HBook.shops b))+1)*40≤140737488355328)) (some {v:=V.tup [V.agg [V.slc [.str,.int .u8,.str] (List.map (RCod.enc cShop) (HBook.shops b)++[[V.str (HShop.name x),V.int .u8 (HShop.sort x),V.str (HShop.to x)]]),V.slc [.str,.str,.bool,.str,.slc [.str,.int .u8,.int .i64,.str],.bool] (List.map (RCod.enc cBind) (HBook.binds b))],V.int .i64 (0:Int)],bx:=[]:DRes}) (none)) (none))))) (none)) (cond (ile (0:Int) (N.ixG (N.isShop (HShop.name x)) (List.map (RCod.dec cShop) (List.map (RCod.enc cShop) (HBook.shops b))) (0:Int))) (some {v:=V.tup [V.agg [V.slc [.str,.int .u8,.str] (List.map (RCod.enc cShop) (HBook.shops b)),V.slc [.str,.str,.bool,.str,.slc [.str,.int .u8,.int .i64,.str],.bool] (List.map (RCod.enc cBind) (HBook.binds b))],V.int .i64 (9:Int)],bx:=[]:DRes}) (cond (ile (8:Int) (↑(List.length (List.map (RCod.enc cShop) (HBook.shops b))):Int)) (some {v:=V.tup [V.agg [V.slc [.str,.int .u8,.str] (List.map (RCod.enc cShop) (HBook.shops b)),V.slc [.str,.str,.bool,.str,.slc [.str,.int .u8,.int .i64,.str],.bool] (List.map (RCod.enc cBind) (HBook.binds b))],V.int .i64 (12:Int)],bx:=[]:DRes}) (cond (decide (List.length (List.map (RCod.enc cShop) (HBook.shops b))*40≤140737488355328)) (cond (decide ((List.length (List.map (RCod.enc cShop) (HBook.shops b))+1)*40≤140737488355328)) (some {v:=V.tup [V.agg [V.slc [.str,.int .u8,.str] (List.map (RCod.enc cShop) (HBook.shops b)++[[V.str (HShop.name x),V.int .u8 (HShop.sort x),V.str (HShop.to x)]]),V.slc [.str,.str,.bool,.str,.slc [.str,.int .u8,.int .i64,.str],.bool] (List.map (RCod.enc cBind) (HBook.binds b))],V.int .i64 (0:Int)],bx:=[]:DRes}) (none)) (none))))) (none)))) (cond (N.name (HShop.to x) != (0:Int)) (some {v:=V.tup [V.agg [V.slc [.str,.int .u8,.str] (List.map (RCod.enc cShop) (HBook.shops b)),V.slc [.str,.str,.bool,.str,.slc [.str,.int .u8,.int .i64,.str],.bool] (List.map (RCod.enc cBind) (HBook.binds b))],V.int .i64 (N.name (HShop.to x))],bx:=[]:DRes}) (cond (Nat.ble (List.length (List.map (RCod.dec cShop) (List.map (RCod.enc cShop) (HBook.shops b)))) 1000) (cond (ile (0:Int) (N.ixG (N.isShop (HShop.name x)) (List.map (RCod.dec cShop) (List.map (RCod.enc cShop) (HBook.shops b))) (0:Int))) (cond (decide ((0:Int)≤N.ixG (N.isShop (HShop.name x)) (List.map (RCod.dec cShop) (List.map (RCod.enc cShop) (HBook.shops b))) (0:Int)∧N.ixG (N.isShop (HShop.name x)) (List.map (RCod.dec cShop) (List.map (RCod.enc cShop) (HBook.shops b))) (0:Int)<(↑(List.length (List.map (RCod.enc cShop) (HBook.shops b))):Int))) (cond (V.toStr (List.getD (List.getD (List.map (RCod.enc cShop) (HBook.shops b)) (Int.toNat (N.ixG (N.isShop (HShop.name x)) (List.map (RCod.dec cShop) (List.map (RCod.enc cShop) (HBook.shops b))) (0:Int))) []) 0 V.undef)==HShop.name x && (V.toInt (List.getD (List.getD (List.map (RCod.enc cShop) (HBook.shops b)) (Int.toNat (N.ixG (N.isShop (HShop.name x)) (List.map (RCod.dec cShop) (List.map (RCod.enc cShop) (HBook.shops b))) (0:Int))) []) 1 V.undef)==HShop.sort x && (V.toStr (List.getD (List.getD (List.map (RCod.enc cShop) (HBook.shops b)) (Int.toNat (N.ixG (N.isShop (HShop.name x)) (List.map (RCod.dec cShop) (List.map (RCod.enc cShop) (HBook.shops b))) (0:Int))) []) 2 V.undef)==HShop.to x && true))) (some {v:=V.tup [V.agg [V.slc [.str,.int .u8,.str] (List.map (RCod.enc cShop) (HBook.shops b)),V.slc [.str,.str,.bool,.str,.slc [.str,.int .u8,.int .i64,.str],.bool] (List.map (RCod.enc cBind) (HBook.binds b))],V.int .i64 (0:Int)],bx:=[]:DRes}) (cond (ile (0:Int) (N.ixG (N.isShop (HShop.name x)) (List.map (RCod.dec cShop) (List.map (RCod.enc cShop) (HBook.shops b))) (0:Int))) (some {v:=V.tup [V.agg [V.slc [.str,.int .u8,.str] (List.map (RCod.enc cShop) (HBook.shops b)),V.slc [.str,.str,.bool,.str,.slc [.str,.int .u8,.int .i64,.str],.bool] (List.map (RCod.enc cBind) (HBook.binds b))],V.int .i64 (9:Int)],bx:=[]:DRes}) (cond (ile (8:Int) (↑(List.length (List.map (RCod.enc cShop) (HBook.shops b))):Int)) (some {v:=V.tup [V.agg [V.slc [.str,.int .u8,.str] (List.map (RCod.enc cShop) (HBook.shops b)),V.slc [.str,.str,.bool,.str,.slc [.str,.int .u8,.int .i64,.str],.bool] (List.map (RCod.enc cBind) (HBook.binds b))],V.int .i64 (12:Int)],bx:=[]:DRes}) (cond (decide (List.length (List.map (RCod.enc cShop) (HBook.shops b))*40≤140737488355328)) (cond (decide ((List.length (List.map (RCod.enc cShop) (HBook.shops b))+1)*40≤140737488355328)) (some {v:=V.tup [V.agg [V.slc [.str,.int .u8,.str] (List.map (RCod.enc cShop) (HBook.shops b)++[[V.str (HShop.name x),V.int .u8 (HShop.sort x),V.str (HShop.to x)]]),V.slc [.str,.str,.bool,.str,.slc [.str,.int .u8,.int .i64,.str],.bool] (List.map (RCod.enc cBind) (HBook.binds b))],V.int .i64 (0:Int)],bx:=[]:DRes}) (none)) (none))))) (none)) (cond (ile (0:Int) (N.ixG (N.isShop (HShop.name x)) (List.map (RCod.dec cShop) (List.map (RCod.enc cShop) (HBook.shops b))) (0:Int))) (some {v:=V.tup [V.agg [V.slc [.str,.int .u8,.str] (List.map (RCod.enc cShop) (HBook.shops b)),V.slc [.str,.str,.bool,.str,.slc [.str,.int .u8,.int .i64,.str],.bool] (List.map (RCod.enc cBind) (HBook.binds b))],V.int .i64 (9:Int)],bx:=[]:DRes}) (cond (ile (8:Int) (↑(List.length (List.map (RCod.enc cShop) (HBook.shops b))):Int)) (some {v:=V.tup [V.agg [V.slc [.str,.int .u8,.str] (List.map (RCod.enc cShop) (HBook.shops b)),V.slc [.str,.str,.bool,.str,.slc [.str,.int .u8,.int .i64,.str],.bool] (List.map (RCod.enc cBind) (HBook.binds b))],V.int .i64 (12:Int)],bx:=[]:DRes}) (cond (decide (List.length (List.map (RCod.enc cShop) (HBook.shops b))*40≤140737488355328)) (cond (decide ((List.length (List.map (RCod.enc cShop) (HBook.shops b))+1)*40≤140737488355328)) (some {v:=V.tup [V.agg [V.slc [.str,.int .u8,.str] (List.map (RCod.enc cShop) (HBook.shops b)++[[V.str (HShop.name x),V.int .u8 (HShop.sort x),V.str (HShop.to x)]]),V.slc [.str,.str,.bool,.str,.slc [.str,.int .u8,.int .i64,.str],.bool] (List.map (RCod.enc cBind) (HBook.binds b))],V.int .i64 (0:Int)],bx:=[]:DRes}) (none)) (none))))) (none)))) (cond (N.name (HShop.to x) != (0:Int)) (some {v:=V.tup [V.agg [V.slc [.str,.int .u8,.str] (List.map (RCod.enc cShop) (HBook.shops b)),V.slc [.str,.str,.bool,.str,.slc [.str,.int .u8,.int .i64,.str],.bool] (List.map (RCod.enc cBind) (HBook.binds b))],V.int .i64 (N.name (HShop.to x))],bx:=[]:DRes}) (cond (Nat.ble (List.length (List.map (RCod.dec cShop) (List.map (RCod.enc cShop) (HBook.shops b)))) 1000) (cond (ile (0:Int) (N.ixG (N.isShop (HShop.name x)) (List.map (RCod.dec cShop) (List.map (RCod.enc cShop) (HBook.shops b))) (0:Int))) (cond (decide ((0:Int)≤N.ixG (N.isShop (HShop.name x)) (List.map (RCod.dec cShop) (List.map (RCod.enc cShop) (HBook.shops b))) (0:Int)∧N.ixG (N.isShop (HShop.name x)) (List.map (RCod.dec cShop) (List.map (RCod.enc cShop) (HBook.shops b))) (0:Int)<(↑(List.length (List.map (RCod.enc cShop) (HBook.shops b))):Int))) (cond (V.toStr (List.getD (List.getD (List.map (RCod.enc cShop) (HBook.shops b)) (Int.toNat (N.ixG (N.isShop (HShop.name x)) (List.map (RCod.dec cShop) (List.map (RCod.enc cShop) (HBook.shops b))) (0:Int))) []) 0 V.undef)==HShop.name x && (V.toInt (List.getD (List.getD (List.map (RCod.enc cShop) (HBook.shops b)) (Int.toNat (N.ixG (N.isShop (HShop.name x)) (List.map (RCod.dec cShop) (List.map (RCod.enc cShop) (HBook.shops b))) (0:Int))) []) 1 V.undef)==HShop.sort x && (V.toStr (List.getD (List.getD (List.map (RCod.enc cShop) (HBook.shops b)) (Int.toNat (N.ixG (N.isShop (HShop.name x)) (List.map (RCod.dec cShop) (List.map (RCod.enc cShop) (HBook.shops b))) (0:Int))) []) 2 V.undef)==HShop.to x && true))) (some {v:=V.tup [V.agg [V.slc [.str,.int .u8,.str] (List.map (RCod.enc cShop) (HBook.shops b)),V.slc [.str,.str,.bool,.str,.slc [.str,.int .u8,.int .i64,.str],.bool] (List.map (RCod.enc cBind) (HBook.binds b))],V.int .i64 (0:Int)],bx:=[]:DRes}) (cond (ile (0:Int) (N.ixG (N.isShop (HShop.name x)) (List.map (RCod.dec cShop) (List.map (RCod.enc cShop) (HBook.shops b))) (0:Int))) (some {v:=V.tup [V.agg [V.slc [.str,.int .u8,.str] (List.map (RCod.enc cShop) (HBook.shops b)),V.slc [.str,.str,.bool,.str,.slc [.str,.int .u8,.int .i64,.str],.bool] (List.map (RCod.enc cBind) (HBook.binds b))],V.int .i64 (9:Int)],bx:=[]:DRes}) (cond (ile (8:Int) (↑(List.length (List.map (RCod.enc cShop) (HBook.shops b))):Int)) (some {v:=V.tup [V.agg [V.slc [.str,.int .u8,.str] (List.map (RCod.enc cShop) (HBook.shops b)),V.slc [.str,.str,.bool,.str,.slc [.str,.int .u8,.int .i64,.str],.bool] (List.map (RCod.enc cBind) (HBook.binds b))],V.int .i64 (12:Int)],bx:=[]:DRes}) (cond (decide (List.length (List.map (RCod.enc cShop) (HBook.shops b))*40≤140737488355328)) (cond (decide ((List.length (List.map (RCod.enc cShop) (HBook.shops b))+1)*40≤140737488355328)) (some {v:=V.tup [V.agg [V.slc [.str,.int .u8,.str] (List.map (RCod.enc cShop) (HBook.shops b)++[[V.str (HShop.name x),V.int .u8 (HShop.sort x),V.str (HShop.to x)]]),V.slc [.str,.str,.bool,.str,.slc [.str,.int .u8,.int .i64,.str],.bool] (List.map (RCod.enc cBind) (HBook.binds b))],V.int .i64 (0:Int)],bx:=[]:DRes}) (none)) (none))))) (none)) (cond (ile (0:Int) (N.ixG (N.isShop (HShop.name x)) (List.map (RCod.dec cShop) (List.map (RCod.enc cShop) (HBook.shops b))) (0:Int))) (some {v:=V.tup [V.agg [V.slc [.str,.int .u8,.str] (List.map (RCod.enc cShop) (HBook.shops b)),V.slc [.str,.str,.bool,.str,.slc [.str,.int .u8,.int .i64,.str],.bool] (List.map (RCod.enc cBind) (HBook.binds b))],V.int .i64 (9:Int)],bx:=[]:DRes}) (cond (ile (8:Int) (↑(List.length (List.map (RCod.enc cShop) (HBook.shops b))):Int)) (some {v:=V.tup [V.agg [V.slc [.str,.int .u8,.str] (List.map (RCod.enc cShop) (HBook.shops b)),V.slc [.str,.str,.bool,.str,.slc [.str,.int .u8,.int .i64,.str],.bool] (List.map (RCod.enc cBind) (HBook.binds b))],V.int .i64 (12:Int)],bx:=[]:DRes}) (cond (decide (List.length (List.map (RCod.enc cShop) (HBook.shops b))*40≤140737488355328)) (cond (decide ((List.length (List.map (RCod.enc cShop) (HBook.shops b))+1)*40≤140737488355328)) (some {v:=V.tup [V.agg [V.slc [.str,.int .u8,.str] (List.map (RCod.enc cShop) (HBook.shops b)++[[V.str (HShop.name x),V.int .u8 (HShop.sort x),V.str (HShop.to x)]]),V.slc [.str,.str,.bool,.str,.slc [.str,.int .u8,.int .i64,.str],.bool] (List.map (RCod.enc cBind) (HBook.binds b))],V.int .i64 (0:Int)],bx:=[]:DRes}) (none)) (none))))) (none)))) (cond (N.name (HShop.name x)==(0:Int)) (cond (ilt (HShop.sort x) (4:Int)) (cond (!HShop.to x==[]) (some {v:=V.tup [V.agg [V.slc [.str,.int .u8,.str] (List.map (RCod.enc cShop) (HBook.shops b)),V.slc [.str,.str,.bool,.str,.slc [.str,.int .u8,.int .i64,.str],.bool] (List.map (RCod.enc cBind) (HBook.binds b))],V.int .i64 (4:Int)],bx:=[]:DRes}) (cond (N.name (HShop.name x) != (0:Int)) (some {v:=V.tup [V.agg [V.slc [.str,.int .u8,.str] (List.map (RCod.enc cShop) (HBook.shops b)),V.slc [.str,.str,.bool,.str,.slc [.str,.int .u8,.int .i64,.str],.bool] (List.map (RCod.enc cBind) (HBook.binds b))],V.int .i64 (N.name (HShop.name x))],bx:=[]:DRes}) (cond (Nat.ble (List.length (List.map (RCod.dec cShop) (List.map (RCod.enc cShop) (HBook.shops b)))) 1000) (cond (ile (0:Int) (N.ixG (N.isShop (HShop.name x)) (List.map (RCod.dec cShop) (List.map (RCod.enc cShop) (HBook.shops b))) (0:Int))) (cond (decide ((0:Int)≤N.ixG (N.isShop (HShop.name x)) (List.map (RCod.dec cShop) (List.map (RCod.enc cShop) (HBook.shops b))) (0:Int)∧N.ixG (N.isShop (HShop.name x)) (List.map (RCod.dec cShop) (List.map (RCod.enc cShop) (HBook.shops b))) (0:Int)<(↑(List.length (List.map (RCod.enc cShop) (HBook.shops b))):Int))) (cond (V.toStr (List.getD (List.getD (List.map (RCod.enc cShop) (HBook.shops b)) (Int.toNat (N.ixG (N.isShop (HShop.name x)) (List.map (RCod.dec cShop) (List.map (RCod.enc cShop) (HBook.shops b))) (0:Int))) []) 0 V.undef)==HShop.name x && (V.toInt (List.getD (List.getD (List.map (RCod.enc cShop) (HBook.shops b)) (Int.toNat (N.ixG (N.isShop (HShop.name x)) (List.map (RCod.dec cShop) (List.map (RCod.enc cShop) (HBook.shops b))) (0:Int))) []) 1 V.undef)==HShop.sort x && (V.toStr (List.getD (List.getD (List.map (RCod.enc cShop) (HBook.shops b)) (Int.toNat (N.ixG (N.isShop (HShop.name x)) (List.map (RCod.dec cShop) (List.map (RCod.enc cShop) (HBook.shops b))) (0:Int))) []) 2 V.undef)==HShop.to x && true))) (some {v:=V.tup [V.agg [V.slc [.str,.int .u8,.str] (List.map (RCod.enc cShop) (HBook.shops b)),V.slc [.str,.str,.bool,.str,.slc [.str,.int .u8,.int .i64,.str],.bool] (List.map (RCod.enc cBind) (HBook.binds b))],V.int .i64 (0:Int)],bx:=[]:DRes}) (cond (ile (0:Int) (N.ixG (N.isShop (HShop.name x)) (List.map (RCod.dec cShop) (List.map (RCod.enc cShop) (HBook.shops b))) (0:Int))) (some {v:=V.tup [V.agg [V.slc [.str,.int .u8,.str] (List.map (RCod.enc cShop) (HBook.shops b)),V.slc [.str,.str,.bool,.str,.slc [.str,.int .u8,.int .i64,.str],.bool] (List.map (RCod.enc cBind) (HBook.binds b))],V.int .i64 (9:Int)],bx:=[]:DRes}) (cond (ile (8:Int) (↑(List.length (List.map (RCod.enc cShop) (HBook.shops b))):Int)) (some {v:=V.tup [V.agg [V.slc [.str,.int .u8,.str] (List.map (RCod.enc cShop) (HBook.shops b)),V.slc [.str,.str,.bool,.str,.slc [.str,.int .u8,.int .i64,.str],.bool] (List.map (RCod.enc cBind) (HBook.binds b))],V.int .i64 (12:Int)],bx:=[]:DRes}) (cond (decide (List.length (List.map (RCod.enc cShop) (HBook.shops b))*40≤140737488355328)) (cond (decide ((List.length (List.map (RCod.enc cShop) (HBook.shops b))+1)*40≤140737488355328)) (some {v:=V.tup [V.agg [V.slc [.str,.int .u8,.str] (List.map (RCod.enc cShop) (HBook.shops b)++[[V.str (HShop.name x),V.int .u8 (HShop.sort x),V.str (HShop.to x)]]),V.slc [.str,.str,.bool,.str,.slc [.str,.int .u8,.int .i64,.str],.bool] (List.map (RCod.enc cBind) (HBook.binds b))],V.int .i64 (0:Int)],bx:=[]:DRes}) (none)) (none))))) (none)) (cond (ile (0:Int) (N.ixG (N.isShop (HShop.name x)) (List.map (RCod.dec cShop) (List.map (RCod.enc cShop) (HBook.shops b))) (0:Int))) (some {v:=V.tup [V.agg [V.slc [.str,.int .u8,.str] (List.map (RCod.enc cShop) (HBook.shops b)),V.slc [.str,.str,.bool,.str,.slc [.str,.int .u8,.int .i64,.str],.bool] (List.map (RCod.enc cBind) (HBook.binds b))],V.int .i64 (9:Int)],bx:=[]:DRes}) (cond (ile (8:Int) (↑(List.length (List.map (RCod.enc cShop) (HBook.shops b))):Int)) (some {v:=V.tup [V.agg [V.slc [.str,.int .u8,.str] (List.map (RCod.enc cShop) (HBook.shops b)),V.slc [.str,.str,.bool,.str,.slc [.str,.int .u8,.int .i64,.str],.bool] (List.map (RCod.enc cBind) (HBook.binds b))],V.int .i64 (12:Int)],bx:=[]:DRes}) (cond (decide (List.length (List.map (RCod.enc cShop) (HBook.shops b))*40≤140737488355328)) (cond (decide ((List.length (List.map (RCod.enc cShop) (HBook.shops b))+1)*40≤140737488355328)) (some {v:=V.tup [V.agg [V.slc [.str,.int .u8,.str] (List.map (RCod.enc cShop) (HBook.shops b)++[[V.str (HShop.name x),V.int .u8 (HShop.sort x),V.str (HShop.to x)]]),V.slc [.str,.str,.bool,.str,.slc [.str,.int .u8,.int .i64,.str],.bool] (List.map (RCod.enc cBind) (HBook.binds b))],V.int .i64 (0:Int)],bx:=[]:DRes}) (none)) (none))))) (none)))) (cond (N.name (HShop.name x) != (0:Int)) (some {v:=V.tup [V.agg [V.slc [.str,.int .u8,.str] (List.map (RCod.enc cShop) (HBook.shops b)),V.slc [.str,.str,.bool,.str,.slc [.str,.int .u8,.int .i64,.str],.bool] (List.map (RCod.enc cBind) (HBook.binds b))],V.int .i64 (N.name (HShop.name x))],bx:=[]:DRes}) (cond (Nat.ble (List.length (List.map (RCod.dec cShop) (List.map (RCod.enc cShop) (HBook.shops b)))) 1000) (cond (ile (0:Int) (N.ixG (N.isShop (HShop.name x)) (List.map (RCod.dec cShop) (List.map (RCod.enc cShop) (HBook.shops b))) (0:Int))) (cond (decide ((0:Int)≤N.ixG (N.isShop (HShop.name x)) (List.map (RCod.dec cShop) (List.map (RCod.enc cShop) (HBook.shops b))) (0:Int)∧N.ixG (N.isShop (HShop.name x)) (List.map (RCod.dec cShop) (List.map (RCod.enc cShop) (HBook.shops b))) (0:Int)<(↑(List.length (List.map (RCod.enc cShop) (HBook.shops b))):Int))) (cond (V.toStr (List.getD (List.getD (List.map (RCod.enc cShop) (HBook.shops b)) (Int.toNat (N.ixG (N.isShop (HShop.name x)) (List.map (RCod.dec cShop) (List.map (RCod.enc cShop) (HBook.shops b))) (0:Int))) []) 0 V.undef)==HShop.name x && (V.toInt (List.getD (List.getD (List.map (RCod.enc cShop) (HBook.shops b)) (Int.toNat (N.ixG (N.isShop (HShop.name x)) (List.map (RCod.dec cShop) (List.map (RCod.enc cShop) (HBook.shops b))) (0:Int))) []) 1 V.undef)==HShop.sort x && (V.toStr (List.getD (List.getD (List.map (RCod.enc cShop) (HBook.shops b)) (Int.toNat (N.ixG (N.isShop (HShop.name x)) (List.map (RCod.dec cShop) (List.map (RCod.enc cShop) (HBook.shops b))) (0:Int))) []) 2 V.undef)==HShop.to x && true))) (some {v:=V.tup [V.agg [V.slc [.str,.int .u8,.str] (List.map (RCod.enc cShop) (HBook.shops b)),V.slc [.str,.str,.bool,.str,.slc [.str,.int .u8,.int .i64,.str],.bool] (List.map (RCod.enc cBind) (HBook.binds b))],V.int .i64 (0:Int)],bx:=[]:DRes}) (cond (ile (0:Int) (N.ixG (N.isShop (HShop.name x)) (List.map (RCod.dec cShop) (List.map (RCod.enc cShop) (HBook.shops b))) (0:Int))) (some {v:=V.tup [V.agg [V.slc [.str,.int .u8,.str] (List.map (RCod.enc cShop) (HBook.shops b)),V.slc [.str,.str,.bool,.str,.slc [.str,.int .u8,.int .i64,.str],.bool] (List.map (RCod.enc cBind) (HBook.binds b))],V.int .i64 (9:Int)],bx:=[]:DRes}) (cond (ile (8:Int) (↑(List.length (List.map (RCod.enc cShop) (HBook.shops b))):Int)) (some {v:=V.tup [V.agg [V.slc [.str,.int .u8,.str] (List.map (RCod.enc cShop) (HBook.shops b)),V.slc [.str,.str,.bool,.str,.slc [.str,.int .u8,.int .i64,.str],.bool] (List.map (RCod.enc cBind) (HBook.binds b))],V.int .i64 (12:Int)],bx:=[]:DRes}) (cond (decide (List.length (List.map (RCod.enc cShop) (HBook.shops b))*40≤140737488355328)) (cond (decide ((List.length (List.map (RCod.enc cShop) (HBook.shops b))+1)*40≤140737488355328)) (some {v:=V.tup [V.agg [V.slc [.str,.int .u8,.str] (List.map (RCod.enc cShop) (HBook.shops b)++[[V.str (HShop.name x),V.int .u8 (HShop.sort x),V.str (HShop.to x)]]),V.slc [.str,.str,.bool,.str,.slc [.str,.int .u8,.int .i64,.str],.bool] (List.map (RCod.enc cBind) (HBook.binds b))],V.int .i64 (0:Int)],bx:=[]:DRes}) (none)) (none))))) (none)) (cond (ile (0:Int) (N.ixG (N.isShop (HShop.name x)) (List.map (RCod.dec cShop) (List.map (RCod.enc cShop) (HBook.shops b))) (0:Int))) (some {v:=V.tup [V.agg [V.slc [.str,.int .u8,.str] (List.map (RCod.enc cShop) (HBook.shops b)),V.slc [.str,.str,.bool,.str,.slc [.str,.int .u8,.int .i64,.str],.bool] (List.map (RCod.enc cBind) (HBook.binds b))],V.int .i64 (9:Int)],bx:=[]:DRes}) (cond (ile (8:Int) (↑(List.length (List.map (RCod.enc cShop) (HBook.shops b))):Int)) (some {v:=V.tup [V.agg [V.slc [.str,.int .u8,.str] (List.map (RCod.enc cShop) (HBook.shops b)),V.slc [.str,.str,.bool,.str,.slc [.str,.int .u8,.int .i64,.str],.bool] (List.map (RCod.enc cBind) (HBook.binds b))],V.int .i64 (12:Int)],bx:=[]:DRes}) (cond (decide (List.length (List.map (RCod.enc cShop) (HBook.shops b))*40≤140737488355328)) (cond (decide ((List.length (List.map (RCod.enc cShop) (HBook.shops b))+1)*40≤140737488355328)) (some {v:=V.tup [V.agg [V.slc [.str,.int .u8,.str] (List.map (RCod.enc cShop) (HBook.shops b)++[[V.str (HShop.name x),V.int .u8 (HShop.sort x),V.str (HShop.to x)]]),V.slc [.str,.str,.bool,.str,.slc [.str,.int .u8,.int .i64,.str],.bool] (List.map (RCod.enc cBind) (HBook.binds b))],V.int .i64 (0:Int)],bx:=[]:DRes}) (none)) (none))))) (none)))) (cond (N.name (HShop.name x) != (0:Int)) (some {v:=V.tup [V.agg [V.slc [.str,.int .u8,.str] (List.map (RCod.enc cShop) (HBook.shops b)),V.slc [.str,.str,.bool,.str,.slc [.str,.int .u8,.int .i64,.str],.bool] (List.map (RCod.enc cBind) (HBook.binds b))],V.int .i64 (N.name (HShop.name x))],bx:=[]:DRes}) (cond (Nat.ble (List.length (List.map (RCod.dec cShop) (List.map (RCod.enc cShop) (HBook.shops b)))) 1000) (cond (ile (0:Int) (N.ixG (N.isShop (HShop.name x)) (List.map (RCod.dec cShop) (List.map (RCod.enc cShop) (HBook.shops b))) (0:Int))) (cond (decide ((0:Int)≤N.ixG (N.isShop (HShop.name x)) (List.map (RCod.dec cShop) (List.map (RCod.enc cShop) (HBook.shops b))) (0:Int)∧N.ixG (N.isShop (HShop.name x)) (List.map (RCod.dec cShop) (List.map (RCod.enc cShop) (HBook.shops b))) (0:Int)<(↑(List.length (List.map (RCod.enc cShop) (HBook.shops b))):Int))) (cond (V.toStr (List.getD (List.getD (List.map (RCod.enc cShop) (HBook.shops b)) (Int.toNat (N.ixG (N.isShop (HShop.name x)) (List.map (RCod.dec cShop) (List.map (RCod.enc cShop) (HBook.shops b))) (0:Int))) []) 0 V.undef)==HShop.name x && (V.toInt (List.getD (List.getD (List.map (RCod.enc cShop) (HBook.shops b)) (Int.toNat (N.ixG (N.isShop (HShop.name x)) (List.map (RCod.dec cShop) (List.map (RCod.enc cShop) (HBook.shops b))) (0:Int))) []) 1 V.undef)==HShop.sort x && (V.toStr (List.getD (List.getD (List.map (RCod.enc cShop) (HBook.shops b)) (Int.toNat (N.ixG (N.isShop (HShop.name x)) (List.map (RCod.dec cShop) (List.map (RCod.enc cShop) (HBook.shops b))) (0:Int))) []) 2 V.undef)==HShop.to x && true))) (some {v:=V.tup [V.agg [V.slc [.str,.int .u8,.str] (List.map (RCod.enc cShop) (HBook.shops b)),V.slc [.str,.str,.bool,.str,.slc [.str,.int .u8,.int .i64,.str],.bool] (List.map (RCod.enc cBind) (HBook.binds b))],V.int .i64 (0:Int)],bx:=[]:DRes}) (cond (ile (0:Int) (N.ixG (N.isShop (HShop.name x)) (List.map (RCod.dec cShop) (List.map (RCod.enc cShop) (HBook.shops b))) (0:Int))) (some {v:=V.tup [V.agg [V.slc [.str,.int .u8,.str] (List.map (RCod.enc cShop) (HBook.shops b)),V.slc [.str,.str,.bool,.str,.slc [.str,.int .u8,.int .i64,.str],.bool] (List.map (RCod.enc cBind) (HBook.binds b))],V.int .i64 (9:Int)],bx:=[]:DRes}) (cond (ile (8:Int) (↑(List.length (List.map (RCod.enc cShop) (HBook.shops b))):Int)) (some {v:=V.tup [V.agg [V.slc [.str,.int .u8,.str] (List.map (RCod.enc cShop) (HBook.shops b)),V.slc [.str,.str,.bool,.str,.slc [.str,.int .u8,.int .i64,.str],.bool] (List.map (RCod.enc cBind) (HBook.binds b))],V.int .i64 (12:Int)],bx:=[]:DRes}) (cond (decide (List.length (List.map (RCod.enc cShop) (HBook.shops b))*40≤140737488355328)) (cond (decide ((List.length (List.map (RCod.enc cShop) (HBook.shops b))+1)*40≤140737488355328)) (some {v:=V.tup [V.agg [V.slc [.str,.int .u8,.str] (List.map (RCod.enc cShop) (HBook.shops b)++[[V.str (HShop.name x),V.int .u8 (HShop.sort x),V.str (HShop.to x)]]),V.slc [.str,.str,.bool,.str,.slc [.str,.int .u8,.int .i64,.str],.bool] (List.map (RCod.enc cBind) (HBook.binds b))],V.int .i64 (0:Int)],bx:=[]:DRes}) (none)) (none))))) (none)) (cond (ile (0:Int) (N.ixG (N.isShop (HShop.name x)) (List.map (RCod.dec cShop) (List.map (RCod.enc cShop) (HBook.shops b))) (0:Int))) (some {v:=V.tup [V.agg [V.slc [.str,.int .u8,.str] (List.map (RCod.enc cShop) (HBook.shops b)),V.slc [.str,.str,.bool,.str,.slc [.str,.int .u8,.int .i64,.str],.bool] (List.map (RCod.enc cBind) (HBook.binds b))],V.int .i64 (9:Int)],bx:=[]:DRes}) (cond (ile (8:Int) (↑(List.length (List.map (RCod.enc cShop) (HBook.shops b))):Int)) (some {v:=V.tup [V.agg [V.slc [.str,.int .u8,.str] (List.map (RCod.enc cShop) (HBook.shops b)),V.slc [.str,.str,.bool,.str,.slc [.str,.int .u8,.int .i64,.str],.bool] (List.map (RCod.enc cBind) (HBook.binds b))],V.int .i64 (12:Int)],bx:=[]:DRes}) (cond (decide (List.length (List.map (RCod.enc cShop) (HBook.shops b))*40≤140737488355328)) (cond (decide ((List.length (List.map (RCod.enc cShop) (HBook.shops b))+1)*40≤140737488355328)) (some {v:=V.tup [V.agg [V.slc [.str,.int .u8,.str] (List.map (RCod.enc cShop) (HBook.shops b)++[[V.str (HShop.name x),V.int .u8 (HShop.sort x),V.str (HShop.to x)]]),V.slc [.str,.str,.bool,.str,.slc [.str,.int .u8,.int .i64,.str],.bool] (List.map (RCod.enc cBind) (HBook.binds b))],V.int .i64 (0:Int)],bx:=[]:DRes}) (none)) (none))))) (none))))) (cond (N.name (HShop.name x)==(0:Int)) (cond (ilt (HShop.sort x) (4:Int)) (cond (!HShop.to x==[]) (some {v:=V.tup [V.agg [V.slc [.str,.int .u8,.str] (List.map (RCod.enc cShop) (HBook.shops b)),V.slc [.str,.str,.bool,.str,.slc [.str,.int .u8,.int .i64,.str],.bool] (List.map (RCod.enc cBind) (HBook.binds b))],V.int .i64 (4:Int)],bx:=[]:DRes}) (cond (N.name (HShop.name x) != (0:Int)) (some {v:=V.tup [V.agg [V.slc [.str,.int .u8,.str] (List.map (RCod.enc cShop) (HBook.shops b)),V.slc [.str,.str,.bool,.str,.slc [.str,.int .u8,.int .i64,.str],.bool] (List.map (RCod.enc cBind) (HBook.binds b))],V.int .i64 (N.name (HShop.name x))],bx:=[]:DRes}) (cond (Nat.ble (List.length (List.map (RCod.dec cShop) (List.map (RCod.enc cShop) (HBook.shops b)))) 1000) (cond (ile (0:Int) (N.ixG (N.isShop (HShop.name x)) (List.map (RCod.dec cShop) (List.map (RCod.enc cShop) (HBook.shops b))) (0:Int))) (cond (decide ((0:Int)≤N.ixG (N.isShop (HShop.name x)) (List.map (RCod.dec cShop) (List.map (RCod.enc cShop) (HBook.shops b))) (0:Int)∧N.ixG (N.isShop (HShop.name x)) (List.map (RCod.dec cShop) (List.map (RCod.enc cShop) (HBook.shops b))) (0:Int)<(↑(List.length (List.map (RCod.enc cShop) (HBook.shops b))):Int))) (cond (V.toStr (List.getD (List.getD (List.map (RCod.enc cShop) (HBook.shops b)) (Int.toNat (N.ixG (N.isShop (HShop.name x)) (List.map (RCod.dec cShop) (List.map (RCod.enc cShop) (HBook.shops b))) (0:Int))) []) 0 V.undef)==HShop.name x && (V.toInt (List.getD (List.getD (List.map (RCod.enc cShop) (HBook.shops b)) (Int.toNat (N.ixG (N.isShop (HShop.name x)) (List.map (RCod.dec cShop) (List.map (RCod.enc cShop) (HBook.shops b))) (0:Int))) []) 1 V.undef)==HShop.sort x && (V.toStr (List.getD (List.getD (List.map (RCod.enc cShop) (HBook.shops b)) (Int.toNat (N.ixG (N.isShop (HShop.name x)) (List.map (RCod.dec cShop) (List.map (RCod.enc cShop) (HBook.shops b))) (0:Int))) []) 2 V.undef)==HShop.to x && true))) (some {v:=V.tup [V.agg [V.slc [.str,.int .u8,.str] (List.map (RCod.enc cShop) (HBook.shops b)),V.slc [.str,.str,.bool,.str,.slc [.str,.int .u8,.int .i64,.str],.bool] (List.map (RCod.enc cBind) (HBook.binds b))],V.int .i64 (0:Int)],bx:=[]:DRes}) (cond (ile (0:Int) (N.ixG (N.isShop (HShop.name x)) (List.map (RCod.dec cShop) (List.map (RCod.enc cShop) (HBook.shops b))) (0:Int))) (some {v:=V.tup [V.agg [V.slc [.str,.int .u8,.str] (List.map (RCod.enc cShop) (HBook.shops b)),V.slc [.str,.str,.bool,.str,.slc [.str,.int .u8,.int .i64,.str],.bool] (List.map (RCod.enc cBind) (HBook.binds b))],V.int .i64 (9:Int)],bx:=[]:DRes}) (cond (ile (8:Int) (↑(List.length (List.map (RCod.enc cShop) (HBook.shops b))):Int)) (some {v:=V.tup [V.agg [V.slc [.str,.int .u8,.str] (List.map (RCod.enc cShop) (HBook.shops b)),V.slc [.str,.str,.bool,.str,.slc [.str,.int .u8,.int .i64,.str],.bool] (List.map (RCod.enc cBind) (HBook.binds b))],V.int .i64 (12:Int)],bx:=[]:DRes}) (cond (decide (List.length (List.map (RCod.enc cShop) (HBook.shops b))*40≤140737488355328)) (cond (decide ((List.length (List.map (RCod.enc cShop) (HBook.shops b))+1)*40≤140737488355328)) (some {v:=V.tup [V.agg [V.slc [.str,.int .u8,.str] (List.map (RCod.enc cShop) (HBook.shops b)++[[V.str (HShop.name x),V.int .u8 (HShop.sort x),V.str (HShop.to x)]]),V.slc [.str,.str,.bool,.str,.slc [.str,.int .u8,.int .i64,.str],.bool] (List.map (RCod.enc cBind) (HBook.binds b))],V.int .i64 (0:Int)],bx:=[]:DRes}) (none)) (none))))) (none)) (cond (ile (0:Int) (N.ixG (N.isShop (HShop.name x)) (List.map (RCod.dec cShop) (List.map (RCod.enc cShop) (HBook.shops b))) (0:Int))) (some {v:=V.tup [V.agg [V.slc [.str,.int .u8,.str] (List.map (RCod.enc cShop) (HBook.shops b)),V.slc [.str,.str,.bool,.str,.slc [.str,.int .u8,.int .i64,.str],.bool] (List.map (RCod.enc cBind) (HBook.binds b))],V.int .i64 (9:Int)],bx:=[]:DRes}) (cond (ile (8:Int) (↑(List.length (List.map (RCod.enc cShop) (HBook.shops b))):Int)) (some {v:=V.tup [V.agg [V.slc [.str,.int .u8,.str] (List.map (RCod.enc cShop) (HBook.shops b)),V.slc [.str,.str,.bool,.str,.slc [.str,.int .u8,.int .i64,.str],.bool] (List.map (RCod.enc cBind) (HBook.binds b))],V.int .i64 (12:Int)],bx:=[]:DRes}) (cond (decide (List.length (List.map (RCod.enc cShop) (HBook.shops b))*40≤140737488355328)) (cond (decide ((List.length (List.map (RCod.enc cShop) (HBook.shops b))+1)*40≤140737488355328)) (some {v:=V.tup [V.agg [V.slc [.str,.int .u8,.str] (List.map (RCod.enc cShop) (HBook.shops b)++[[V.str (HShop.name x),V.int .u8 (HShop.sort x),V.str (HShop.to x)]]),V.slc [.str,.str,.bool,.str,.slc [.str,.int .u8,.int .i64,.str],.bool] (List.map (RCod.enc cBind) (HBook.binds b))],V.int .i64 (0:Int)],bx:=[]:DRes}) (none)) (none))))) (none)))) (cond (N.name (HShop.name x) != (0:Int)) (some {v:=V.tup [V.agg [V.slc [.str,.int .u8,.str] (List.map (RCod.enc cShop) (HBook.shops b)),V.slc [.str,.str,.bool,.str,.slc [.str,.int .u8,.int .i64,.str],.bool] (List.map (RCod.enc cBind) (HBook.binds b))],V.int .i64 (N.name (HShop.name x))],bx:=[]:DRes}) (cond (Nat.ble (List.length (List.map (RCod.dec cShop) (List.map (RCod.enc cShop) (HBook.shops b)))) 1000) (cond (ile (0:Int) (N.ixG (N.isShop (HShop.name x)) (List.map (RCod.dec cShop) (List.map (RCod.enc cShop) (HBook.shops b))) (0:Int))) (cond (decide ((0:Int)≤N.ixG (N.isShop (HShop.name x)) (List.map (RCod.dec cShop) (List.map (RCod.enc cShop) (HBook.shops b))) (0:Int)∧N.ixG (N.isShop (HShop.name x)) (List.map (RCod.dec cShop) (List.map (RCod.enc cShop) (HBook.shops b))) (0:Int)<(↑(List.length (List.map (RCod.enc cShop) (HBook.shops b))):Int))) (cond (V.toStr (List.getD (List.getD (List.map (RCod.enc cShop) (HBook.shops b)) (Int.toNat (N.ixG (N.isShop (HShop.name x)) (List.map (RCod.dec cShop) (List.map (RCod.enc cShop) (HBook.shops b))) (0:Int))) []) 0 V.undef)==HShop.name x && (V.toInt (List.getD (List.getD (List.map (RCod.enc cShop) (HBook.shops b)) (Int.toNat (N.ixG (N.isShop (HShop.name x)) (List.map (RCod.dec cShop) (List.map (RCod.enc cShop) (HBook.shops b))) (0:Int))) []) 1 V.undef)==HShop.sort x && (V.toStr (List.getD (List.getD (List.map (RCod.enc cShop) (HBook.shops b)) (Int.toNat (N.ixG (N.isShop (HShop.name x)) (List.map (RCod.dec cShop) (List.map (RCod.enc cShop) (HBook.shops b))) (0:Int))) []) 2 V.undef)==HShop.to x && true))) (some {v:=V.tup [V.agg [V.slc [.str,.int .u8,.str] (List.map (RCod.enc cShop) (HBook.shops b)),V.slc [.str,.str,.bool,.str,.slc [.str,.int .u8,.int .i64,.str],.bool] (List.map (RCod.enc cBind) (HBook.binds b))],V.int .i64 (0:Int)],bx:=[]:DRes}) (cond (ile (0:Int) (N.ixG (N.isShop (HShop.name x)) (List.map (RCod.dec cShop) (List.map (RCod.enc cShop) (HBook.shops b))) (0:Int))) (some {v:=V.tup [V.agg [V.slc [.str,.int .u8,.str] (List.map (RCod.enc cShop) (HBook.shops b)),V.slc [.str,.str,.bool,.str,.slc [.str,.int .u8,.int .i64,.str],.bool] (List.map (RCod.enc cBind) (HBook.binds b))],V.int .i64 (9:Int)],bx:=[]:DRes}) (cond (ile (8:Int) (↑(List.length (List.map (RCod.enc cShop) (HBook.shops b))):Int)) (some {v:=V.tup [V.agg [V.slc [.str,.int .u8,.str] (List.map (RCod.enc cShop) (HBook.shops b)),V.slc [.str,.str,.bool,.str,.slc [.str,.int .u8,.int .i64,.str],.bool] (List.map (RCod.enc cBind) (HBook.binds b))],V.int .i64 (12:Int)],bx:=[]:DRes}) (cond (decide (List.length (List.map (RCod.enc cShop) (HBook.shops b))*40≤140737488355328)) (cond (decide ((List.length (List.map (RCod.enc cShop) (HBook.shops b))+1)*40≤140737488355328)) (some {v:=V.tup [V.agg [V.slc [.str,.int .u8,.str] (List.map (RCod.enc cShop) (HBook.shops b)++[[V.str (HShop.name x),V.int .u8 (HShop.sort x),V.str (HShop.to x)]]),V.slc [.str,.str,.bool,.str,.slc [.str,.int .u8,.int .i64,.str],.bool] (List.map (RCod.enc cBind) (HBook.binds b))],V.int .i64 (0:Int)],bx:=[]:DRes}) (none)) (none))))) (none)) (cond (ile (0:Int) (N.ixG (N.isShop (HShop.name x)) (List.map (RCod.dec cShop) (List.map (RCod.enc cShop) (HBook.shops b))) (0:Int))) (some {v:=V.tup [V.agg [V.slc [.str,.int .u8,.str] (List.map (RCod.enc cShop) (HBook.shops b)),V.slc [.str,.str,.bool,.str,.slc [.str,.int .u8,.int .i64,.str],.bool] (List.map (RCod.enc cBind) (HBook.binds b))],V.int .i64 (9:Int)],bx:=[]:DRes}) (cond (ile (8:Int) (↑(List.length (List.map (RCod.enc cShop) (HBook.shops b))):Int)) (some {v:=V.tup [V.agg [V.slc [.str,.int .u8,.str] (List.map (RCod.enc cShop) (HBook.shops b)),V.slc [.str,.str,.bool,.str,.slc [.str,.int .u8,.int .i64,.str],.bool] (List.map (RCod.enc cBind) (HBook.binds b))],V.int .i64 (12:Int)],bx:=[]:DRes}) (cond (decide (List.length (List.map (RCod.enc cShop) (HBook.shops b))*40≤140737488355328)) (cond (decide ((List.length (List.map (RCod.enc cShop) (HBook.shops b))+1)*40≤140737488355328)) (some {v:=V.tup [V.agg [V.slc [.str,.int .u8,.str] (List.map (RCod.enc cShop) (HBook.shops b)++[[V.str (HShop.name x),V.int .u8 (HShop.sort x),V.str (HShop.to x)]]),V.slc [.str,.str,.bool,.str,.slc [.str,.int .u8,.int .i64,.str],.bool] (List.map (RCod.enc cBind) (HBook.binds b))],V.int .i64 (0:Int)],bx:=[]:DRes}) (none)) (none))))) (none)))) (cond (N.name (HShop.name x) != (0:Int)) (some {v:=V.tup [V.agg [V.slc [.str,.int .u8,.str] (List.map (RCod.enc cShop) (HBook.shops b)),V.slc [.str,.str,.bool,.str,.slc [.str,.int .u8,.int .i64,.str],.bool] (List.map (RCod.enc cBind) (HBook.binds b))],V.int .i64 (N.name (HShop.name x))],bx:=[]:DRes}) (cond (Nat.ble (List.length (List.map (RCod.dec cShop) (List.map (RCod.enc cShop) (HBook.shops b)))) 1000) (cond (ile (0:Int) (N.ixG (N.isShop (HShop.name x)) (List.map (RCod.dec cShop) (List.map (RCod.enc cShop) (HBook.shops b))) (0:Int))) (cond (decide ((0:Int)≤N.ixG (N.isShop (HShop.name x)) (List.map (RCod.dec cShop) (List.map (RCod.enc cShop) (HBook.shops b))) (0:Int)∧N.ixG (N.isShop (HShop.name x)) (List.map (RCod.dec cShop) (List.map (RCod.enc cShop) (HBook.shops b))) (0:Int)<(↑(List.length (List.map (RCod.enc cShop) (HBook.shops b))):Int))) (cond (V.toStr (List.getD (List.getD (List.map (RCod.enc cShop) (HBook.shops b)) (Int.toNat (N.ixG (N.isShop (HShop.name x)) (List.map (RCod.dec cShop) (List.map (RCod.enc cShop) (HBook.shops b))) (0:Int))) []) 0 V.undef)==HShop.name x && (V.toInt (List.getD (List.getD (List.map (RCod.enc cShop) (HBook.shops b)) (Int.toNat (N.ixG (N.isShop (HShop.name x)) (List.map (RCod.dec cShop) (List.map (RCod.enc cShop) (HBook.shops b))) (0:Int))) []) 1 V.undef)==HShop.sort x && (V.toStr (List.getD (List.getD (List.map (RCod.enc cShop) (HBook.shops b)) (Int.toNat (N.ixG (N.isShop (HShop.name x)) (List.map (RCod.dec cShop) (List.map (RCod.enc cShop) (HBook.shops b))) (0:Int))) []) 2 V.undef)==HShop.to x && true))) (some {v:=V.tup [V.agg [V.slc [.str,.int .u8,.str] (List.map (RCod.enc cShop) (HBook.shops b)),V.slc [.str,.str,.bool,.str,.slc [.str,.int .u8,.int .i64,.str],.bool] (List.map (RCod.enc cBind) (HBook.binds b))],V.int .i64 (0:Int)],bx:=[]:DRes}) (cond (ile (0:Int) (N.ixG (N.isShop (HShop.name x)) (List.map (RCod.dec cShop) (List.map (RCod.enc cShop) (HBook.shops b))) (0:Int))) (some {v:=V.tup [V.agg [V.slc [.str,.int .u8,.str] (List.map (RCod.enc cShop) (HBook.shops b)),V.slc [.str,.str,.bool,.str,.slc [.str,.int .u8,.int .i64,.str],.bool] (List.map (RCod.enc cBind) (HBook.binds b))],V.int .i64 (9:Int)],bx:=[]:DRes}) (cond (ile (8:Int) (↑(List.length (List.map (RCod.enc cShop) (HBook.shops b))):Int)) (some {v:=V.tup [V.agg [V.slc [.str,.int .u8,.str] (List.map (RCod.enc cShop) (HBook.shops b)),V.slc [.str,.str,.bool,.str,.slc [.str,.int .u8,.int .i64,.str],.bool] (List.map (RCod.enc cBind) (HBook.binds b))],V.int .i64 (12:Int)],bx:=[]:DRes}) (cond (decide (List.length (List.map (RCod.enc cShop) (HBook.shops b))*40≤140737488355328)) (cond (decide ((List.length (List.map (RCod.enc cShop) (HBook.shops b))+1)*40≤140737488355328)) (some {v:=V.tup [V.agg [V.slc [.str,.int .u8,.str] (List.map (RCod.enc cShop) (HBook.shops b)++[[V.str (HShop.name x),V.int .u8 (HShop.sort x),V.str (HShop.to x)]]),V.slc [.str,.str,.bool,.str,.slc [.str,.int .u8,.int .i64,.str],.bool] (List.map (RCod.enc cBind) (HBook.binds b))],V.int .i64 (0:Int)],bx:=[]:DRes}) (none)) (none))))) (none)) (cond (ile (0:Int) (N.ixG (N.isShop (HShop.name x)) (List.map (RCod.dec cShop) (List.map (RCod.enc cShop) (HBook.shops b))) (0:Int))) (some {v:=V.tup [V.agg [V.slc [.str,.int .u8,.str] (List.map (RCod.enc cShop) (HBook.shops b)),V.slc [.str,.str,.bool,.str,.slc [.str,.int .u8,.int .i64,.str],.bool] (List.map (RCod.enc cBind) (HBook.binds b))],V.int .i64 (9:Int)],bx:=[]:DRes}) (cond (ile (8:Int) (↑(List.length (List.map (RCod.enc cShop) (HBook.shops b))):Int)) (some {v:=V.tup [V.agg [V.slc [.str,.int .u8,.str] (List.map (RCod.enc cShop) (HBook.shops b)),V.slc [.str,.str,.bool,.str,.slc [.str,.int .u8,.int .i64,.str],.bool] (List.map (RCod.enc cBind) (HBook.binds b))],V.int .i64 (12:Int)],bx:=[]:DRes}) (cond (decide (List.length (List.map (RCod.enc cShop) (HBook.shops b))*40≤140737488355328)) (cond (decide ((List.length (List.map (RCod.enc cShop) (HBook.shops b))+1)*40≤140737488355328)) (some {v:=V.tup [V.agg [V.slc [.str,.int .u8,.str] (List.map (RCod.enc cShop) (HBook.shops b)++[[V.str (HShop.name x),V.int .u8 (HShop.sort x),V.str (HShop.to x)]]),V.slc [.str,.str,.bool,.str,.slc [.str,.int .u8,.int .i64,.str],.bool] (List.map (RCod.enc cBind) (HBook.binds b))],V.int .i64 (0:Int)],bx:=[]:DRes}) (none)) (none))))) (none))))):=by kernel_rfl
def schRUnbindB:SSch:={ fr:=[(2,.ptr 10000 0 0),(3,.ptr 10001 0 0),(4,.ptr 10002 0 0),(6,.own 10003),(7,.int .i64),(11,.slc [.str,.str,.bool,.str,.slc [.str,.int .u8,.int .i64,.str],.bool]),(12,.int .i64),(13,.int .i64)],tab:=[(10000,.var [.slc [.str,.int .u8,.str],.slc [.str,.str,.bool,.str,.slc [.str,.int .u8,.int .i64,.str],.bool]]),(10001,.var [.str,.str,.bool,.str,.slc [.str,.int .u8,.int .i64,.str],.bool]),(10002,.var [.slc [.str,.int .u8,.str],.slc [.str,.str,.bool,.str,.slc [.str,.int .u8,.int .i64,.str],.bool]]),(10003,.sl [.str,.str,.bool,.str,.slc [.str,.int .u8,.int .i64,.str],.bool])] }
def gRUnbindB:List Leaf→(Ex→St→Option R)→Option R
 | [.i e,.r r,.i n,.i i,.r b0,.r b1,.s x0,.s x1,.b x2,.s x3,.r x4,.b x5,.r c0,.r c1,.r a],K=>cond (n==r.length) (cond (i==0) (cond (Nat.ble r.length 1000) (cond (Nat.beq a.length 0) (cond (smallB (⟨x0,x1,x2,x3,x4.map fun r=>({ key:=V.toStr (List.getD r 0 .undef),kind:=V.toInt (List.getD r 1 .undef),num:=V.toInt (List.getD r 2 .undef),text:=V.toStr (List.getD r 3 .undef) }:HPair),x5⟩:HBind))
   (K (.exit 0) { fr:=[(2,.ptr 10000 0 0 0),(4,.ptr 10001 0 0 0),(6,.own 10002 0),(7,.int .i64 (cond ((r.map cBind.dec).any (N.bindSame (⟨x0,x1,x2,x3,x4.map fun r=>({ key:=V.toStr (List.getD r 0 .undef),kind:=V.toInt (List.getD r 1 .undef),num:=V.toInt (List.getD r 2 .undef),text:=V.toStr (List.getD r 3 .undef) }:HPair),x5⟩:HBind))) 0 e))],tab:=[(10000,.var [.slc [.str,.int .u8,.str] b0,.slc [.str,.str,.bool,.str,.slc [.str,.int .u8,.int .i64,.str],.bool] b1]),(10001,.var [.slc [.str,.int .u8,.str] c0,.slc [.str,.str,.bool,.str,.slc [.str,.int .u8,.int .i64,.str],.bool] c1]),(10002,.sl [.str,.str,.bool,.str,.slc [.str,.int .u8,.int .i64,.str],.bool] (N.fltB (N.offBind (⟨x0,x1,x2,x3,x4.map fun r=>({ key:=V.toStr (List.getD r 0 .undef),kind:=V.toInt (List.getD r 1 .undef),num:=V.toInt (List.getD r 2 .undef),text:=V.toStr (List.getD r 3 .undef) }:HPair),x5⟩:HBind)) r) 0)] }) none) none) none) none) none
 | _,_=>none
noncomputable def eRUnbindB:Env:={ env Tryz.prog [(95,dBindSame)] [(4,loopF schRUnbindB gRUnbindB)] [(4,[(0,[2,3,4,6,7,11,12,13]),(1,[2,4,6,7]),(1000,[4,5])])] with fz:=true }
theorem q_rUnbindB (b:HBook) (x:HBind):evFn eRUnbindB 86 ((aCons (vAgg cBook) (aOne (vAgg cBind))).enc (b,x)) ([]) some =
 cond ((↑(List.length (List.map (RCod.enc cBind) (HBook.binds b))):Int)==(↑(List.length (List.map (RCod.enc cBind) (HBook.binds b))):Int)) (cond (Nat.ble (List.length (List.map (RCod.enc cBind) (HBook.binds b))) 1000) (cond (smallB {shop:=HBind.shop x,to:=HBind.to x,up:=HBind.up x,key:=HBind.key x,want:=List.map (fun r=>{key:=V.toStr (List.getD r 0 .undef),kind:=V.toInt (List.getD r 1 .undef),num:=V.toInt (List.getD r 2 .undef),text:=V.toStr (List.getD r 3 .undef):HPair}) (List.map (fun p=>[V.str (HPair.key p),V.int .u8 (HPair.kind p),V.int .i64 (HPair.num p),V.str (HPair.text p)]) (HBind.want x)),all:=HBind.all x:HBind}) (cond ((bif List.any (List.map (RCod.dec cBind) (List.map (RCod.enc cBind) (HBook.binds b))) (N.bindSame {shop:=HBind.shop x,to:=HBind.to x,up:=HBind.up x,key:=HBind.key x,want:=List.map (fun r=>{key:=V.toStr (List.getD r 0 .undef),kind:=V.toInt (List.getD r 1 .undef),num:=V.toInt (List.getD r 2 .undef),text:=V.toStr (List.getD r 3 .undef):HPair}) (List.map (fun p=>[V.str (HPair.key p),V.int .u8 (HPair.kind p),V.int .i64 (HPair.num p),V.str (HPair.text p)]) (HBind.want x)),all:=HBind.all x:HBind}) then (0:Int) else (10:Int))==(0:Int)) (some {v:=V.tup [V.agg [V.slc [.str,.int .u8,.str] (List.map (RCod.enc cShop) (HBook.shops b)),V.slc [.str,.str,.bool,.str,.slc [.str,.int .u8,.int .i64,.str],.bool] (N.fltB (N.offBind {shop:=HBind.shop x,to:=HBind.to x,up:=HBind.up x,key:=HBind.key x,want:=List.map (fun r=>{key:=V.toStr (List.getD r 0 .undef),kind:=V.toInt (List.getD r 1 .undef),num:=V.toInt (List.getD r 2 .undef),text:=V.toStr (List.getD r 3 .undef):HPair}) (List.map (fun p=>[V.str (HPair.key p),V.int .u8 (HPair.kind p),V.int .i64 (HPair.num p),V.str (HPair.text p)]) (HBind.want x)),all:=HBind.all x:HBind}) (List.map (RCod.enc cBind) (HBook.binds b)))],V.int .i64 (bif List.any (List.map (RCod.dec cBind) (List.map (RCod.enc cBind) (HBook.binds b))) (N.bindSame {shop:=HBind.shop x,to:=HBind.to x,up:=HBind.up x,key:=HBind.key x,want:=List.map (fun r=>{key:=V.toStr (List.getD r 0 .undef),kind:=V.toInt (List.getD r 1 .undef),num:=V.toInt (List.getD r 2 .undef),text:=V.toStr (List.getD r 3 .undef):HPair}) (List.map (fun p=>[V.str (HPair.key p),V.int .u8 (HPair.kind p),V.int .i64 (HPair.num p),V.str (HPair.text p)]) (HBind.want x)),all:=HBind.all x:HBind}) then (0:Int) else (10:Int))],bx:=[]:DRes}) (some {v:=V.tup [V.agg [V.slc [.str,.int .u8,.str] (List.map (RCod.enc cShop) (HBook.shops b)),V.slc [.str,.str,.bool,.str,.slc [.str,.int .u8,.int .i64,.str],.bool] (List.map (RCod.enc cBind) (HBook.binds b))],V.int .i64 (bif List.any (List.map (RCod.dec cBind) (List.map (RCod.enc cBind) (HBook.binds b))) (N.bindSame {shop:=HBind.shop x,to:=HBind.to x,up:=HBind.up x,key:=HBind.key x,want:=List.map (fun r=>{key:=V.toStr (List.getD r 0 .undef),kind:=V.toInt (List.getD r 1 .undef),num:=V.toInt (List.getD r 2 .undef),text:=V.toStr (List.getD r 3 .undef):HPair}) (List.map (fun p=>[V.str (HPair.key p),V.int .u8 (HPair.kind p),V.int .i64 (HPair.num p),V.str (HPair.text p)]) (HBind.want x)),all:=HBind.all x:HBind}) then (0:Int) else (10:Int))],bx:=[]:DRes})) (none)) (none)) (none):=by kernel_rfl
theorem q_rUnbindBR (e:Int) (r:List (List V)) (n i:Int) (b0 b1:List (List V)) (x0 x1:Bytes) (x2:Bool) (x3:Bytes) (x4:List (List V)) (x5:Bool) (c0 c1 a:List (List V)) (K:Ex→St→Option R):evRound eRUnbindB 86 4 { fr:=[(2,.ptr 10000 0 0 0),(3,.ptr 10001 0 0 0),(4,.ptr 10002 0 0 0),(6,.own 10003 0),(7,.int .i64 e),(11,.slc [.str,.str,.bool,.str,.slc [.str,.int .u8,.int .i64,.str],.bool] r),(12,.int .i64 n),(13,.int .i64 i)],tab:=[(10000,.var [.slc [.str,.int .u8,.str] b0,.slc [.str,.str,.bool,.str,.slc [.str,.int .u8,.int .i64,.str],.bool] b1]),(10001,.var [.str x0,.str x1,.bool x2,.str x3,.slc [.str,.int .u8,.int .i64,.str] x4,.bool x5]),(10002,.var [.slc [.str,.int .u8,.str] c0,.slc [.str,.str,.bool,.str,.slc [.str,.int .u8,.int .i64,.str],.bool] c1]),(10003,.sl [.str,.str,.bool,.str,.slc [.str,.int .u8,.int .i64,.str],.bool] a 0)] } K =
 cond (ilt i n) (cond (decide ((0:Int)≤i∧i<(↑(List.length r):Int))) (cond (smallB {shop:=x0,to:=x1,up:=x2,key:=x3,want:=List.map (fun r=>{key:=V.toStr (List.getD r 0 .undef),kind:=V.toInt (List.getD r 1 .undef),num:=V.toInt (List.getD r 2 .undef),text:=V.toStr (List.getD r 3 .undef):HPair}) x4,all:=x5:HBind}) (cond (N.bindSame {shop:=x0,to:=x1,up:=x2,key:=x3,want:=List.map (fun r=>{key:=V.toStr (List.getD r 0 .undef),kind:=V.toInt (List.getD r 1 .undef),num:=V.toInt (List.getD r 2 .undef),text:=V.toStr (List.getD r 3 .undef):HPair}) x4,all:=x5:HBind} {shop:=V.toStr (List.getD (List.getD r (Int.toNat i) []) 0 V.undef),to:=V.toStr (List.getD (List.getD r (Int.toNat i) []) 1 V.undef),up:=V.toBool (List.getD (List.getD r (Int.toNat i) []) 2 V.undef),key:=V.toStr (List.getD (List.getD r (Int.toNat i) []) 3 V.undef),want:=List.map (fun r=>{key:=V.toStr (List.getD r 0 .undef),kind:=V.toInt (List.getD r 1 .undef),num:=V.toInt (List.getD r 2 .undef),text:=V.toStr (List.getD r 3 .undef):HPair}) (V.toRows (List.getD (List.getD r (Int.toNat i) []) 4 V.undef)),all:=V.toBool (List.getD (List.getD r (Int.toNat i) []) 5 V.undef):HBind}) (K Ex.normal {fr:=[(2,V.ptr 10000 0 0 0),(3,V.ptr 10001 0 0 0),(4,V.ptr 10002 0 0 0),(6,V.own 10003 0),(7,V.int .i64 (0:Int)),(11,V.slc [.str,.str,.bool,.str,.slc [.str,.int .u8,.int .i64,.str],.bool] r),(12,V.int .i64 n),(13,V.int .i64 (IntKind.wrap .i64 (i+(1:Int))))],tab:=[(10000,Box.var [V.slc [.str,.int .u8,.str] b0,V.slc [.str,.str,.bool,.str,.slc [.str,.int .u8,.int .i64,.str],.bool] b1]),(10001,Box.var [V.str x0,V.str x1,V.bool x2,V.str x3,V.slc [.str,.int .u8,.int .i64,.str] x4,V.bool x5]),(10002,Box.var [V.slc [.str,.int .u8,.str] c0,V.slc [.str,.str,.bool,.str,.slc [.str,.int .u8,.int .i64,.str],.bool] c1]),(10003,Box.sl [.str,.str,.bool,.str,.slc [.str,.int .u8,.int .i64,.str],.bool] a 0)]:St}) (cond (decide ((List.length a+1)*88≤140737488355328)) (K Ex.normal {fr:=[(2,V.ptr 10000 0 0 0),(3,V.ptr 10001 0 0 0),(4,V.ptr 10002 0 0 0),(6,V.own 10003 0),(7,V.int .i64 e),(11,V.slc [.str,.str,.bool,.str,.slc [.str,.int .u8,.int .i64,.str],.bool] r),(12,V.int .i64 n),(13,V.int .i64 (IntKind.wrap .i64 (i+(1:Int))))],tab:=[(10000,Box.var [V.slc [.str,.int .u8,.str] b0,V.slc [.str,.str,.bool,.str,.slc [.str,.int .u8,.int .i64,.str],.bool] b1]),(10001,Box.var [V.str x0,V.str x1,V.bool x2,V.str x3,V.slc [.str,.int .u8,.int .i64,.str] x4,V.bool x5]),(10002,Box.var [V.slc [.str,.int .u8,.str] c0,V.slc [.str,.str,.bool,.str,.slc [.str,.int .u8,.int .i64,.str],.bool] c1]),(10003,Box.sl [.str,.str,.bool,.str,.slc [.str,.int .u8,.int .i64,.str],.bool] (a++[[V.str (V.toStr (List.getD (List.getD r (Int.toNat i) []) 0 V.undef)),V.str (V.toStr (List.getD (List.getD r (Int.toNat i) []) 1 V.undef)),V.bool (V.toBool (List.getD (List.getD r (Int.toNat i) []) 2 V.undef)),V.str (V.toStr (List.getD (List.getD r (Int.toNat i) []) 3 V.undef)),V.slc [.str,.int .u8,.int .i64,.str] (V.toRows (List.getD (List.getD r (Int.toNat i) []) 4 V.undef)),V.bool (V.toBool (List.getD (List.getD r (Int.toNat i) []) 5 V.undef))]]) 0)]:St}) (none))) (none)) (none)) (K (Ex.exit 0) {fr:=[(2,V.ptr 10000 0 0 0),(4,V.ptr 10001 0 0 0),(6,V.own 10002 0),(7,V.int .i64 e)],tab:=[(10000,Box.var [V.slc [.str,.int .u8,.str] b0,V.slc [.str,.str,.bool,.str,.slc [.str,.int .u8,.int .i64,.str],.bool] b1]),(10001,Box.var [V.slc [.str,.int .u8,.str] c0,V.slc [.str,.str,.bool,.str,.slc [.str,.int .u8,.int .i64,.str],.bool] c1]),(10002,Box.sl [.str,.str,.bool,.str,.slc [.str,.int .u8,.int .i64,.str],.bool] a 0)]:St}):=by kernel_rfl
theorem ok_rUnbindB_4:RoundsOk eRUnbindB 86 4:=by
 refine rounds_of rfl fun l K q h=>?_
 unfold gRUnbindB at h
 split at h
 ·rename_i e r n i b0 b1 x0 x1 x2 x3 x4 x5 c0 c1 a
  have h1:=(cond_none h).1; replace h:=(cond_none h).2; have h2:=(cond_none h).1; replace h:=(cond_none h).2; have h3:=(cond_none h).1; replace h:=(cond_none h).2; have h4:=(cond_none h).1; replace h:=(cond_none h).2; have h5:=(cond_none h).1; replace h:=(cond_none h).2
  have e1:=ieq_of h1
  have e2:=ieq_of h2
  have e3:=List.eq_nil_of_length_eq_zero (nbeq_of h4)
  subst e1 e2 e3
  have h3:r.length≤1000:=ble_of h3
  have main:=range_ind (E:=eRUnbindB) (f:=86) (id:=4) (A:=List (List V) × Int) r (fun a i=>{ fr:=[(2,.ptr 10000 0 0 0),(3,.ptr 10001 0 0 0),(4,.ptr 10002 0 0 0),(6,.own 10003 0),(7,.int .i64 a.2),(11,.slc [.str,.str,.bool,.str,.slc [.str,.int .u8,.int .i64,.str],.bool] r),(12,.int .i64 r.length),(13,.int .i64 i)],tab:=[(10000,.var [.slc [.str,.int .u8,.str] b0,.slc [.str,.str,.bool,.str,.slc [.str,.int .u8,.int .i64,.str],.bool] b1]),(10001,.var [.str x0,.str x1,.bool x2,.str x3,.slc [.str,.int .u8,.int .i64,.str] x4,.bool x5]),(10002,.var [.slc [.str,.int .u8,.str] c0,.slc [.str,.str,.bool,.str,.slc [.str,.int .u8,.int .i64,.str],.bool] c1]),(10003,.sl [.str,.str,.bool,.str,.slc [.str,.int .u8,.int .i64,.str],.bool] a.1 0)] }) (fun a i=>a.1.length≤i)
   (fun a rows K=>K (.exit 0) { fr:=[(2,.ptr 10000 0 0 0),(4,.ptr 10001 0 0 0),(6,.own 10002 0),(7,.int .i64 (cond ((rows.map cBind.dec).any (N.bindSame (⟨x0,x1,x2,x3,x4.map fun r=>({ key:=V.toStr (List.getD r 0 .undef),kind:=V.toInt (List.getD r 1 .undef),num:=V.toInt (List.getD r 2 .undef),text:=V.toStr (List.getD r 3 .undef) }:HPair),x5⟩:HBind))) 0 a.2))],tab:=[(10000,.var [.slc [.str,.int .u8,.str] b0,.slc [.str,.str,.bool,.str,.slc [.str,.int .u8,.int .i64,.str],.bool] b1]),(10001,.var [.slc [.str,.int .u8,.str] c0,.slc [.str,.str,.bool,.str,.slc [.str,.int .u8,.int .i64,.str],.bool] c1]),(10002,.sl [.str,.str,.bool,.str,.slc [.str,.int .u8,.int .i64,.str],.bool] (a.1++N.fltB (N.offBind (⟨x0,x1,x2,x3,x4.map fun r=>({ key:=V.toStr (List.getD r 0 .undef),kind:=V.toInt (List.getD r 1 .undef),num:=V.toInt (List.getD r 2 .undef),text:=V.toStr (List.getD r 3 .undef) }:HPair),x5⟩:HBind)) rows) 0)] }) (fun a i ha hi=>?_) (fun a ha=>?_) ([],e) 0 (Int.le_refl _) (by omega) (Nat.zero_le _) K q (by assumption)
  ·exact main
  ·obtain ⟨acc,e⟩:=a
   simp only at ha
   have hq:=fun K=>q_rUnbindBR e r r.length i b0 b1 x0 x1 x2 x3 x4 x5 c0 c1 acc K
   have t1:ilt (i:Int) r.length=true:=ilt_t (by omega)
   have t2:decide ((0:Int)≤i∧(i:Int)<r.length)=true:=decide_eq_true (by omega)
   have t3:IntKind.wrap .i64 ((i:Int)+1)=(i:Int)+1:=wr_i64 (by omega) (by omega)
   simp only [Int.toNat_natCast,fold_bind,fold_reB] at hq
   simp only [t1,t2,t3,h5,cond_true] at hq
   simp only [List.map_cons,List.any_cons,fltB_cons]
   cases hc:N.bindSame (⟨x0,x1,x2,x3,x4.map fun r=>({ key:=V.toStr (List.getD r 0 .undef),kind:=V.toInt (List.getD r 1 .undef),num:=V.toInt (List.getD r 2 .undef),text:=V.toStr (List.getD r 3 .undef) }:HPair),x5⟩:HBind) (cBind.dec (r.getD i [])) with
   | true =>
    have ho:N.offBind (⟨x0,x1,x2,x3,x4.map fun r=>({ key:=V.toStr (List.getD r 0 .undef),kind:=V.toInt (List.getD r 1 .undef),num:=V.toInt (List.getD r 2 .undef),text:=V.toStr (List.getD r 3 .undef) }:HPair),x5⟩:HBind) (cBind.dec (r.getD i []))=false:=by unfold N.offBind; rw [hc]; rfl
    refine .inl ⟨(acc,0),by simp only; omega,fun K=>?_,fun K=>?_⟩
    ·rw [hq,hc]
     try rfl
    ·rw [ho,Bool.true_or,cond_false,cond_true]
     cases ((r.drop (i+1)).map cBind.dec).any (N.bindSame (⟨x0,x1,x2,x3,x4.map fun r=>({ key:=V.toStr (List.getD r 0 .undef),kind:=V.toInt (List.getD r 1 .undef),num:=V.toInt (List.getD r 2 .undef),text:=V.toStr (List.getD r 3 .undef) }:HPair),x5⟩:HBind))<;>rfl
   | false =>
    have ho:N.offBind (⟨x0,x1,x2,x3,x4.map fun r=>({ key:=V.toStr (List.getD r 0 .undef),kind:=V.toInt (List.getD r 1 .undef),num:=V.toInt (List.getD r 2 .undef),text:=V.toStr (List.getD r 3 .undef) }:HPair),x5⟩:HBind) (cBind.dec (r.getD i []))=true:=by unfold N.offBind; rw [hc]; rfl
    refine .inl ⟨(acc++[reB (r.getD i [])],e),by simp only [List.length_append,List.length_cons,List.length_nil]; omega,fun K=>?_,fun K=>?_⟩
    ·rw [hq,hc]
     have t5:decide ((acc.length+1)*88≤140737488355328)=true:=decide_eq_true (by omega)
     simp only [cond_false,cond_true,t5]
    ·rw [ho,Bool.false_or,cond_true]
     simp only [List.append_assoc,List.singleton_append]
  ·obtain ⟨acc,e⟩:=a
   refine ⟨.exit 0,{ fr:=[(2,.ptr 10000 0 0 0),(4,.ptr 10001 0 0 0),(6,.own 10002 0),(7,.int .i64 e)],tab:=[(10000,.var [.slc [.str,.int .u8,.str] b0,.slc [.str,.str,.bool,.str,.slc [.str,.int .u8,.int .i64,.str],.bool] b1]),(10001,.var [.slc [.str,.int .u8,.str] c0,.slc [.str,.str,.bool,.str,.slc [.str,.int .u8,.int .i64,.str],.bool] c1]),(10002,.sl [.str,.str,.bool,.str,.slc [.str,.int .u8,.int .i64,.str],.bool] (acc) 0)] },by simp,fun K=>?_,fun K=>by show K _ _=K _ _; rw [show N.fltB (N.offBind (⟨x0,x1,x2,x3,x4.map fun r=>({ key:=V.toStr (List.getD r 0 .undef),kind:=V.toInt (List.getD r 1 .undef),num:=V.toInt (List.getD r 2 .undef),text:=V.toStr (List.getD r 3 .undef) }:HPair),x5⟩:HBind)) []=[] from rfl,List.append_nil]; rfl⟩
   rw [q_rUnbindBR]
   simp (disch:=omega) only [evs]
   try rfl
 ·cases h
theorem ok_rUnbindB:FnOk Tryz.prog 86 dRUnbindB:=by
 refine den_okF (env_ok ((TOk.nil _).cons ok_sameB)) (E:=eRUnbindB) Tryz.func86 [4] (by kernel_rfl) (one1 ok_rUnbindB_4) fun a _ hp=>?_
 obtain ⟨b,x⟩:=a
 obtain ⟨hb,hx⟩:=bcond hp
 have hx:smallB x=true:=hx
 have h2:Nat.ble b.binds.length 1000=true:=(bcond (bcond hb).2).1
 refine (q_rUnbindB b x).trans ?_
 show _=some (⟨.tup [.agg (cBook.enc (N.rUnbind b x).1),.int .i64 (N.rUnbind b x).2],[],[]⟩:DRes)
 unfold N.rUnbind
 simp only [fold_bindE,List.length_map,dec_encs,h2,hx,beq_self_eq_true,cond_true,fltB_enc]
 cases b.binds.any (N.bindSame x)<;>rfl
theorem cmpS (x y:HShop):(y.name==x.name && (y.sort==x.sort && (y.to==x.to && true)))=N.eqShop x y:=by
 unfold N.eqShop
 rw [Bool.beq_comm (a:=y.name),Bool.beq_comm (a:=y.sort),Bool.beq_comm (a:=y.to)]
 cases x.name==y.name<;>cases x.sort==y.sort<;>cases x.to==y.to<;>rfl
theorem sort_three (s:Int):(ilt 4 s=false∧(s==4)=false∧ilt s 4=true)∨(ilt 4 s=false∧(s==4)=true∧ilt s 4=false)∨(ilt 4 s=true∧(s==4)=false∧ilt s 4=false):=by
 rcases Int.lt_trichotomy s 4 with h | h | h
 ·exact .inl ⟨ilt_f (by omega),ieq_f (by omega),ilt_t h⟩
 ·exact .inr (.inl ⟨ilt_f (by omega),ieq_t h,ilt_f (by omega)⟩)
 ·exact .inr (.inr ⟨ilt_t h,ieq_f (by omega),ilt_f (by omega)⟩)
theorem ok_rMakeB:FnOk Tryz.prog 80 dRMakeB:=by
 refine den_okF (env_ok (((TOk.nil _).cons ok_findS).cons ok_refName)) (E:=eRMakeB) Tryz.func80 [] (by kernel_rfl) none0 fun a _ hp=>?_
 obtain ⟨b,x⟩:=a
 have h1:Nat.ble b.shops.length 1000=true:=(bcond hp).1
 have h2:b.shops.length≤1000:=ble_of h1
 refine (q_rMakeB b x).trans ?_
 show _=some (⟨.tup [.agg (cBook.enc (N.bMake b x).1),.int .i64 (N.bMake b x).2],[],[]⟩:DRes)
 have d1:decide (b.shops.length*40≤140737488355328)=true:=decide_eq_true (by omega)
 have d2:decide ((b.shops.length+1)*40≤140737488355328)=true:=decide_eq_true (by omega)
 unfold N.bMake N.shopCheck
 simp only [dec_encs,h1,List.length_map,d1,d2,cond_true,ixG_ge]
 cases ha:b.shops.any (N.isShop x.name) with
 | false =>
  have hs:(N.shopOf x.name b.shops).2=false:=by rw [shopOf_ix,ha]
  rw [hs]
  have hm:cBook.enc ⟨b.shops++[x],b.binds⟩=[.slc [.str,.int .u8,.str] (b.shops.map cShop.enc++[cShop.enc x]),.slc [.str,.str,.bool,.str,.slc [.str,.int .u8,.int .i64,.str],.bool] (b.binds.map cBind.enc)]:=by
   show [V.slc _ ((b.shops++[x]).map cShop.enc),_]=_
   rw [List.map_append]; rfl
  rcases sort_three x.sort with ⟨s1,s2,s3⟩ | ⟨s1,s2,s3⟩ | ⟨s1,s2,s3⟩<;>simp only [s1,s2,s3,bne,cond_true,cond_false]
  ·cases h0:N.name x.name==0<;>cases h5:x.to==[]<;>cases ile 8 (b.shops.length:Int)<;>first | rfl | (simp only [h0,Bool.not_true,Bool.not_false,cond_true,cond_false]; done) | (simp only [h0,Bool.not_true,Bool.not_false,cond_true,cond_false]; rfl) | (simp only [Bool.not_true,cond_true,cond_false,hm,beq_self_eq_true]; rfl)
  ·cases h0:N.name x.name==0<;>cases h5:N.name x.to==0<;>cases ile 8 (b.shops.length:Int)<;>first | rfl | (simp only [h0,h5,Bool.not_true,Bool.not_false,cond_true,cond_false]; done) | (simp only [h0,h5,Bool.not_true,Bool.not_false,cond_true,cond_false]; rfl) | (simp only [h5,Bool.not_true,cond_true,cond_false,hm]; rfl)
  ·cases h0:N.name x.name==0<;>cases h5:ile 8 (b.shops.length:Int)<;>first | rfl | (simp only [h0,Bool.not_false,cond_true,cond_false]; done) | (simp only [h0,Bool.not_false,cond_true,cond_false]; rfl) | (simp only [h0,h5,Bool.not_true,Bool.not_false,cond_true,cond_false,hm,beq_self_eq_true]; rfl)
 | true =>
  obtain ⟨g1,g2,g3⟩:=shopOf_at ha
  have hk:(N.ixG (N.isShop x.name) b.shops 0).toNat<b.shops.length:=by omega
  have hg:=getD_enc cShop b.shops _ shop0 hk
  have d3:decide (0≤N.ixG (N.isShop x.name) b.shops 0∧N.ixG (N.isShop x.name) b.shops 0<(b.shops.length:Int))=true:=decide_eq_true ⟨g2,g3⟩
  rw [g1]
  simp only [hg,d3,cond_true]
  generalize b.shops.getD (N.ixG (N.isShop x.name) b.shops 0).toNat shop0=y
  have hc:(V.toStr (List.getD (cShop.enc y) 0 V.undef)==x.name && (V.toInt (List.getD (cShop.enc y) 1 V.undef)==x.sort && (V.toStr (List.getD (cShop.enc y) 2 V.undef)==x.to && true)))=N.eqShop x y:=cmpS x y
  rw [hc]
  rcases sort_three x.sort with ⟨s1,s2,s3⟩ | ⟨s1,s2,s3⟩ | ⟨s1,s2,s3⟩<;>simp only [s1,s2,s3,bne,cond_true,cond_false]
  ·cases h0:N.name x.name==0<;>cases h5:x.to==[]<;>cases N.eqShop x y<;>first | rfl | (simp only [h0,Bool.not_true,Bool.not_false,cond_true,cond_false]; done) | (simp only [h0,Bool.not_true,Bool.not_false,cond_true,cond_false]; rfl)
  ·cases h0:N.name x.name==0<;>cases h5:N.name x.to==0<;>cases N.eqShop x y<;>first | rfl | (simp only [h0,h5,Bool.not_true,Bool.not_false,cond_true,cond_false]; done) | (simp only [h0,h5,Bool.not_true,Bool.not_false,cond_true,cond_false]; rfl)
  ·cases h0:N.name x.name==0<;>cases h5:N.eqShop x y<;>first | rfl | (simp only [h0,Bool.not_false,cond_true,cond_false]; done) | (simp only [h0,Bool.not_false,cond_true,cond_false]; rfl)
end Go.Ev

/- The document's functions on exchanges and bindings answer what the plain ones do: lemmas. -/
namespace Go.Ev
open Go Go.Proofs
set_option maxRecDepth 100000
-- FOLD
def dRBindB:Den:=den (aCons (vAgg cBook) (aOne (vAgg cBind))) bNil (oTup (aCons (vAgg cBook) (aOne (vInt .i64)))) (fun a _=>cond (smallBook a.1) (smallB a.2) false) fun a _=>(N.rBind a.1 a.2,())
def schRBindB:SSch:={ fr:=[(2,.ptr 10000 0 0),(3,.ptr 10001 0 0),(4,.ptr 10002 0 0),(45,.slc [.str,.str,.bool,.str,.slc [.str,.int .u8,.int .i64,.str],.bool]),(46,.int .i64),(47,.int .i64)],tab:=[(10000,.var [.slc [.str,.int .u8,.str],.slc [.str,.str,.bool,.str,.slc [.str,.int .u8,.int .i64,.str],.bool]]),(10001,.var [.str,.str,.bool,.str,.slc [.str,.int .u8,.int .i64,.str],.bool]),(10002,.var [.slc [.str,.int .u8,.str],.slc [.str,.str,.bool,.str,.slc [.str,.int .u8,.int .i64,.str],.bool]])] }
def gRBindB:List Leaf→(Ex→St→Option R)→Option R
 | [.r r,.i n,.i i,.r b0,.r b1,.s x0,.s x1,.b x2,.s x3,.r x4,.b x5,.r c0,.r c1],K=>cond (n==r.length) (cond (i==0) (cond (Nat.ble r.length 1000) (cond (smallB (⟨x0,x1,x2,x3,x4.map fun r=>({ key:=V.toStr (List.getD r 0 .undef),kind:=V.toInt (List.getD r 1 .undef),num:=V.toInt (List.getD r 2 .undef),text:=V.toStr (List.getD r 3 .undef) }:HPair),x5⟩:HBind))
   (cond ((r.map cBind.dec).any (N.bindSame (⟨x0,x1,x2,x3,x4.map fun r=>({ key:=V.toStr (List.getD r 0 .undef),kind:=V.toInt (List.getD r 1 .undef),num:=V.toInt (List.getD r 2 .undef),text:=V.toStr (List.getD r 3 .undef) }:HPair),x5⟩:HBind))) (K .ret { fr:=[(4,.ptr 10000 0 0 0),(5,.int .i64 0)],tab:=[(10000,.var [.slc [.str,.int .u8,.str] b0,.slc [.str,.str,.bool,.str,.slc [.str,.int .u8,.int .i64,.str],.bool] b1])] }) (K (.exit 0) { fr:=[(2,.ptr 10000 0 0 0),(3,.ptr 10001 0 0 0),(4,.ptr 10002 0 0 0)],tab:=[(10000,.var [.slc [.str,.int .u8,.str] b0,.slc [.str,.str,.bool,.str,.slc [.str,.int .u8,.int .i64,.str],.bool] b1]),(10001,.var [.str x0,.str x1,.bool x2,.str x3,.slc [.str,.int .u8,.int .i64,.str] x4,.bool x5]),(10002,.var [.slc [.str,.int .u8,.str] c0,.slc [.str,.str,.bool,.str,.slc [.str,.int .u8,.int .i64,.str],.bool] c1])] })) none) none) none) none
 | _,_=>none
noncomputable def eRBindB:Env:={ env Tryz.prog [(39,dFindS),(125,dName),(93,dBindRule),(130,dRefRuleCheck),(95,dBindSame)] [(12,loopF schRBindB gRBindB)] [(12,[(0,[2,3,4,45,46,47]),(1,[2,3,4]),(1000,[4,5])])] with fz:=true }
theorem q_rBindB (b:HBook) (x:HBind):evFn eRBindB 83 ((aCons (vAgg cBook) (aOne (vAgg cBind))).enc (b,x)) ([]) some =
 cond (Nat.ble (List.length (List.map (RCod.dec cShop) (List.map (RCod.enc cShop) (HBook.shops b)))) 1000) (cond (ilt (N.ixG (N.isShop (HBind.shop x)) (List.map (RCod.dec cShop) (List.map (RCod.enc cShop) (HBook.shops b))) (0:Int)) (0:Int)) (some {v:=V.tup [V.agg [V.slc [.str,.int .u8,.str] (List.map (RCod.enc cShop) (HBook.shops b)),V.slc [.str,.str,.bool,.str,.slc [.str,.int .u8,.int .i64,.str],.bool] (List.map (RCod.enc cBind) (HBook.binds b))],V.int .i64 (10:Int)],bx:=[]:DRes}) (cond (decide ((0:Int)≤N.ixG (N.isShop (HBind.shop x)) (List.map (RCod.dec cShop) (List.map (RCod.enc cShop) (HBook.shops b))) (0:Int)∧N.ixG (N.isShop (HBind.shop x)) (List.map (RCod.dec cShop) (List.map (RCod.enc cShop) (HBook.shops b))) (0:Int)<(↑(List.length (List.map (RCod.enc cShop) (HBook.shops b))):Int))) (cond (V.toInt (List.getD (List.getD (List.map (RCod.enc cShop) (HBook.shops b)) (Int.toNat (N.ixG (N.isShop (HBind.shop x)) (List.map (RCod.dec cShop) (List.map (RCod.enc cShop) (HBook.shops b))) (0:Int))) []) 1 V.undef)==(4:Int)) (some {v:=V.tup [V.agg [V.slc [.str,.int .u8,.str] (List.map (RCod.enc cShop) (HBook.shops b)),V.slc [.str,.str,.bool,.str,.slc [.str,.int .u8,.int .i64,.str],.bool] (List.map (RCod.enc cBind) (HBook.binds b))],V.int .i64 (8:Int)],bx:=[]:DRes}) (cond (N.name (HBind.to x)==(0:Int)) (cond (decide ((0:Int)≤N.ixG (N.isShop (HBind.shop x)) (List.map (RCod.dec cShop) (List.map (RCod.enc cShop) (HBook.shops b))) (0:Int)∧N.ixG (N.isShop (HBind.shop x)) (List.map (RCod.dec cShop) (List.map (RCod.enc cShop) (HBook.shops b))) (0:Int)<(↑(List.length (List.map (RCod.enc cShop) (HBook.shops b))):Int))) (cond (N.refRuleCheck {sort:=HRule.sort (N.bindRule {shop:=HBind.shop x,to:=HBind.to x,up:=HBind.up x,key:=HBind.key x,want:=List.map (fun r=>{key:=V.toStr (List.getD r 0 .undef),kind:=V.toInt (List.getD r 1 .undef),num:=V.toInt (List.getD r 2 .undef),text:=V.toStr (List.getD r 3 .undef):HPair}) (List.map (fun p=>[V.str (HPair.key p),V.int .u8 (HPair.kind p),V.int .i64 (HPair.num p),V.str (HPair.text p)]) (HBind.want x)),all:=HBind.all x:HBind} (V.toInt (List.getD (List.getD (List.map (RCod.enc cShop) (HBook.shops b)) (Int.toNat (N.ixG (N.isShop (HBind.shop x)) (List.map (RCod.dec cShop) (List.map (RCod.enc cShop) (HBook.shops b))) (0:Int))) []) 1 V.undef))),key:=HRule.key (N.bindRule {shop:=HBind.shop x,to:=HBind.to x,up:=HBind.up x,key:=HBind.key x,want:=List.map (fun r=>{key:=V.toStr (List.getD r 0 .undef),kind:=V.toInt (List.getD r 1 .undef),num:=V.toInt (List.getD r 2 .undef),text:=V.toStr (List.getD r 3 .undef):HPair}) (List.map (fun p=>[V.str (HPair.key p),V.int .u8 (HPair.kind p),V.int .i64 (HPair.num p),V.str (HPair.text p)]) (HBind.want x)),all:=HBind.all x:HBind} (V.toInt (List.getD (List.getD (List.map (RCod.enc cShop) (HBook.shops b)) (Int.toNat (N.ixG (N.isShop (HBind.shop x)) (List.map (RCod.dec cShop) (List.map (RCod.enc cShop) (HBook.shops b))) (0:Int))) []) 1 V.undef))),want:=List.map (fun r=>{key:=V.toStr (List.getD r 0 .undef),kind:=V.toInt (List.getD r 1 .undef),num:=V.toInt (List.getD r 2 .undef),text:=V.toStr (List.getD r 3 .undef):HPair}) (List.map (fun p=>[V.str (HPair.key p),V.int .u8 (HPair.kind p),V.int .i64 (HPair.num p),V.str (HPair.text p)]) (HRule.want (N.bindRule {shop:=HBind.shop x,to:=HBind.to x,up:=HBind.up x,key:=HBind.key x,want:=List.map (fun r=>{key:=V.toStr (List.getD r 0 .undef),kind:=V.toInt (List.getD r 1 .undef),num:=V.toInt (List.getD r 2 .undef),text:=V.toStr (List.getD r 3 .undef):HPair}) (List.map (fun p=>[V.str (HPair.key p),V.int .u8 (HPair.kind p),V.int .i64 (HPair.num p),V.str (HPair.text p)]) (HBind.want x)),all:=HBind.all x:HBind} (V.toInt (List.getD (List.getD (List.map (RCod.enc cShop) (HBook.shops b)) (Int.toNat (N.ixG (N.isShop (HBind.shop x)) (List.map (RCod.dec cShop) (List.map (RCod.enc cShop) (HBook.shops b))) (0:Int))) []) 1 V.undef))))),all:=HRule.all (N.bindRule {shop:=HBind.shop x,to:=HBind.to x,up:=HBind.up x,key:=HBind.key x,want:=List.map (fun r=>{key:=V.toStr (List.getD r 0 .undef),kind:=V.toInt (List.getD r 1 .undef),num:=V.toInt (List.getD r 2 .undef),text:=V.toStr (List.getD r 3 .undef):HPair}) (List.map (fun p=>[V.str (HPair.key p),V.int .u8 (HPair.kind p),V.int .i64 (HPair.num p),V.str (HPair.text p)]) (HBind.want x)),all:=HBind.all x:HBind} (V.toInt (List.getD (List.getD (List.map (RCod.enc cShop) (HBook.shops b)) (Int.toNat (N.ixG (N.isShop (HBind.shop x)) (List.map (RCod.dec cShop) (List.map (RCod.enc cShop) (HBook.shops b))) (0:Int))) []) 1 V.undef))):HRule} != (0:Int)) (some {v:=V.tup [V.agg [V.slc [.str,.int .u8,.str] (List.map (RCod.enc cShop) (HBook.shops b)),V.slc [.str,.str,.bool,.str,.slc [.str,.int .u8,.int .i64,.str],.bool] (List.map (RCod.enc cBind) (HBook.binds b))],V.int .i64 (N.refRuleCheck {sort:=HRule.sort (N.bindRule {shop:=HBind.shop x,to:=HBind.to x,up:=HBind.up x,key:=HBind.key x,want:=List.map (fun r=>{key:=V.toStr (List.getD r 0 .undef),kind:=V.toInt (List.getD r 1 .undef),num:=V.toInt (List.getD r 2 .undef),text:=V.toStr (List.getD r 3 .undef):HPair}) (List.map (fun p=>[V.str (HPair.key p),V.int .u8 (HPair.kind p),V.int .i64 (HPair.num p),V.str (HPair.text p)]) (HBind.want x)),all:=HBind.all x:HBind} (V.toInt (List.getD (List.getD (List.map (RCod.enc cShop) (HBook.shops b)) (Int.toNat (N.ixG (N.isShop (HBind.shop x)) (List.map (RCod.dec cShop) (List.map (RCod.enc cShop) (HBook.shops b))) (0:Int))) []) 1 V.undef))),key:=HRule.key (N.bindRule {shop:=HBind.shop x,to:=HBind.to x,up:=HBind.up x,key:=HBind.key x,want:=List.map (fun r=>{key:=V.toStr (List.getD r 0 .undef),kind:=V.toInt (List.getD r 1 .undef),num:=V.toInt (List.getD r 2 .undef),text:=V.toStr (List.getD r 3 .undef):HPair}) (List.map (fun p=>[V.str (HPair.key p),V.int .u8 (HPair.kind p),V.int .i64 (HPair.num p),V.str (HPair.text p)]) (HBind.want x)),all:=HBind.all x:HBind} (V.toInt (List.getD (List.getD (List.map (RCod.enc cShop) (HBook.shops b)) (Int.toNat (N.ixG (N.isShop (HBind.shop x)) (List.map (RCod.dec cShop) (List.map (RCod.enc cShop) (HBook.shops b))) (0:Int))) []) 1 V.undef))),want:=List.map (fun r=>{key:=V.toStr (List.getD r 0 .undef),kind:=V.toInt (List.getD r 1 .undef),num:=V.toInt (List.getD r 2 .undef),text:=V.toStr (List.getD r 3 .undef):HPair}) (List.map (fun p=>[V.str (HPair.key p),V.int .u8 (HPair.kind p),V.int .i64 (HPair.num p),V.str (HPair.text p)]) (HRule.want (N.bindRule {shop:=HBind.shop x,to:=HBind.to x,up:=HBind.up x,key:=HBind.key x,want:=List.map (fun r=>{key:=V.toStr (List.getD r 0 .undef),kind:=V.toInt (List.getD r 1 .undef),num:=V.toInt (List.getD r 2 .undef),text:=V.toStr (List.getD r 3 .undef):HPair}) (List.map (fun p=>[V.str (HPair.key p),V.int .u8 (HPair.kind p),V.int .i64 (HPair.num p),V.str (HPair.text p)]) (HBind.want x)),all:=HBind.all x:HBind} (V.toInt (List.getD (List.getD (List.map (RCod.enc cShop) (HBook.shops b)) (Int.toNat (N.ixG (N.isShop (HBind.shop x)) (List.map (RCod.dec cShop) (List.map (RCod.enc cShop) (HBook.shops b))) (0:Int))) []) 1 V.undef))))),all:=HRule.all (N.bindRule {shop:=HBind.shop x,to:=HBind.to x,up:=HBind.up x,key:=HBind.key x,want:=List.map (fun r=>{key:=V.toStr (List.getD r 0 .undef),kind:=V.toInt (List.getD r 1 .undef),num:=V.toInt (List.getD r 2 .undef),text:=V.toStr (List.getD r 3 .undef):HPair}) (List.map (fun p=>[V.str (HPair.key p),V.int .u8 (HPair.kind p),V.int .i64 (HPair.num p),V.str (HPair.text p)]) (HBind.want x)),all:=HBind.all x:HBind} (V.toInt (List.getD (List.getD (List.map (RCod.enc cShop) (HBook.shops b)) (Int.toNat (N.ixG (N.isShop (HBind.shop x)) (List.map (RCod.dec cShop) (List.map (RCod.enc cShop) (HBook.shops b))) (0:Int))) []) 1 V.undef))):HRule})],bx:=[]:DRes}) (cond ((↑(List.length (List.map (RCod.enc cBind) (HBook.binds b))):Int)==(↑(List.length (List.map (RCod.enc cBind) (HBook.binds b))):Int)) (cond (Nat.ble (List.length (List.map (RCod.enc cBind) (HBook.binds b))) 1000) (cond (smallB {shop:=HBind.shop x,to:=HBind.to x,up:=HBind.up x,key:=HBind.key x,want:=List.map (fun r=>{key:=V.toStr (List.getD r 0 .undef),kind:=V.toInt (List.getD r 1 .undef),num:=V.toInt (List.getD r 2 .undef),text:=V.toStr (List.getD r 3 .undef):HPair}) (List.map (fun p=>[V.str (HPair.key p),V.int .u8 (HPair.kind p),V.int .i64 (HPair.num p),V.str (HPair.text p)]) (HBind.want x)),all:=HBind.all x:HBind}) (cond (List.any (List.map (RCod.dec cBind) (List.map (RCod.enc cBind) (HBook.binds b))) (N.bindSame {shop:=HBind.shop x,to:=HBind.to x,up:=HBind.up x,key:=HBind.key x,want:=List.map (fun r=>{key:=V.toStr (List.getD r 0 .undef),kind:=V.toInt (List.getD r 1 .undef),num:=V.toInt (List.getD r 2 .undef),text:=V.toStr (List.getD r 3 .undef):HPair}) (List.map (fun p=>[V.str (HPair.key p),V.int .u8 (HPair.kind p),V.int .i64 (HPair.num p),V.str (HPair.text p)]) (HBind.want x)),all:=HBind.all x:HBind})) (some {v:=V.tup [V.agg [V.slc [.str,.int .u8,.str] (List.map (RCod.enc cShop) (HBook.shops b)),V.slc [.str,.str,.bool,.str,.slc [.str,.int .u8,.int .i64,.str],.bool] (List.map (RCod.enc cBind) (HBook.binds b))],V.int .i64 (0:Int)],bx:=[]:DRes}) (cond (ile (32:Int) (↑(List.length (List.map (RCod.enc cBind) (HBook.binds b))):Int)) (some {v:=V.tup [V.agg [V.slc [.str,.int .u8,.str] (List.map (RCod.enc cShop) (HBook.shops b)),V.slc [.str,.str,.bool,.str,.slc [.str,.int .u8,.int .i64,.str],.bool] (List.map (RCod.enc cBind) (HBook.binds b))],V.int .i64 (12:Int)],bx:=[]:DRes}) (cond (decide (List.length (List.map (RCod.enc cBind) (HBook.binds b))*88≤140737488355328)) (cond (decide ((List.length (List.map (RCod.enc cBind) (HBook.binds b))+1)*88≤140737488355328)) (some {v:=V.tup [V.agg [V.slc [.str,.int .u8,.str] (List.map (RCod.enc cShop) (HBook.shops b)),V.slc [.str,.str,.bool,.str,.slc [.str,.int .u8,.int .i64,.str],.bool] (List.map (RCod.enc cBind) (HBook.binds b)++[[V.str (HBind.shop x),V.str (HBind.to x),V.bool (HBind.up x),V.str (HBind.key x),V.slc [.str,.int .u8,.int .i64,.str] (List.map (fun p=>[V.str (HPair.key p),V.int .u8 (HPair.kind p),V.int .i64 (HPair.num p),V.str (HPair.text p)]) (HBind.want x)),V.bool (HBind.all x)]])],V.int .i64 (0:Int)],bx:=[]:DRes}) (none)) (none)))) (none)) (none)) (none))) (none)) (cond (N.name (HBind.to x) != (0:Int)) (some {v:=V.tup [V.agg [V.slc [.str,.int .u8,.str] (List.map (RCod.enc cShop) (HBook.shops b)),V.slc [.str,.str,.bool,.str,.slc [.str,.int .u8,.int .i64,.str],.bool] (List.map (RCod.enc cBind) (HBook.binds b))],V.int .i64 (N.name (HBind.to x))],bx:=[]:DRes}) (cond ((↑(List.length (List.map (RCod.enc cBind) (HBook.binds b))):Int)==(↑(List.length (List.map (RCod.enc cBind) (HBook.binds b))):Int)) (cond (Nat.ble (List.length (List.map (RCod.enc cBind) (HBook.binds b))) 1000) (cond (smallB {shop:=HBind.shop x,to:=HBind.to x,up:=HBind.up x,key:=HBind.key x,want:=List.map (fun r=>{key:=V.toStr (List.getD r 0 .undef),kind:=V.toInt (List.getD r 1 .undef),num:=V.toInt (List.getD r 2 .undef),text:=V.toStr (List.getD r 3 .undef):HPair}) (List.map (fun p=>[V.str (HPair.key p),V.int .u8 (HPair.kind p),V.int .i64 (HPair.num p),V.str (HPair.text p)]) (HBind.want x)),all:=HBind.all x:HBind}) (cond (List.any (List.map (RCod.dec cBind) (List.map (RCod.enc cBind) (HBook.binds b))) (N.bindSame {shop:=HBind.shop x,to:=HBind.to x,up:=HBind.up x,key:=HBind.key x,want:=List.map (fun r=>{key:=V.toStr (List.getD r 0 .undef),kind:=V.toInt (List.getD r 1 .undef),num:=V.toInt (List.getD r 2 .undef),text:=V.toStr (List.getD r 3 .undef):HPair}) (List.map (fun p=>[V.str (HPair.key p),V.int .u8 (HPair.kind p),V.int .i64 (HPair.num p),V.str (HPair.text p)]) (HBind.want x)),all:=HBind.all x:HBind})) (some {v:=V.tup [V.agg [V.slc [.str,.int .u8,.str] (List.map (RCod.enc cShop) (HBook.shops b)),V.slc [.str,.str,.bool,.str,.slc [.str,.int .u8,.int .i64,.str],.bool] (List.map (RCod.enc cBind) (HBook.binds b))],V.int .i64 (0:Int)],bx:=[]:DRes}) (cond (ile (32:Int) (↑(List.length (List.map (RCod.enc cBind) (HBook.binds b))):Int)) (some {v:=V.tup [V.agg [V.slc [.str,.int .u8,.str] (List.map (RCod.enc cShop) (HBook.shops b)),V.slc [.str,.str,.bool,.str,.slc [.str,.int .u8,.int .i64,.str],.bool] (List.map (RCod.enc cBind) (HBook.binds b))],V.int .i64 (12:Int)],bx:=[]:DRes}) (cond (decide (List.length (List.map (RCod.enc cBind) (HBook.binds b))*88≤140737488355328)) (cond (decide ((List.length (List.map (RCod.enc cBind) (HBook.binds b))+1)*88≤140737488355328)) (some {v:=V.tup [V.agg [V.slc [.str,.int .u8,.str] (List.map (RCod.enc cShop) (HBook.shops b)),V.slc [.str,.str,.bool,.str,.slc [.str,.int .u8,.int .i64,.str],.bool] (List.map (RCod.enc cBind) (HBook.binds b)++[[V.str (HBind.shop x),V.str (HBind.to x),V.bool (HBind.up x),V.str (HBind.key x),V.slc [.str,.int .u8,.int .i64,.str] (List.map (fun p=>[V.str (HPair.key p),V.int .u8 (HPair.kind p),V.int .i64 (HPair.num p),V.str (HPair.text p)]) (HBind.want x)),V.bool (HBind.all x)]])],V.int .i64 (0:Int)],bx:=[]:DRes}) (none)) (none)))) (none)) (none)) (none))))) (none))) (none):=by kernel_rfl
theorem q_rBindBR (r:List (List V)) (n i:Int) (b0 b1:List (List V)) (x0 x1:Bytes) (x2:Bool) (x3:Bytes) (x4:List (List V)) (x5:Bool) (c0 c1:List (List V)) (K:Ex→St→Option R):evRound eRBindB 83 12 { fr:=[(2,.ptr 10000 0 0 0),(3,.ptr 10001 0 0 0),(4,.ptr 10002 0 0 0),(45,.slc [.str,.str,.bool,.str,.slc [.str,.int .u8,.int .i64,.str],.bool] r),(46,.int .i64 n),(47,.int .i64 i)],tab:=[(10000,.var [.slc [.str,.int .u8,.str] b0,.slc [.str,.str,.bool,.str,.slc [.str,.int .u8,.int .i64,.str],.bool] b1]),(10001,.var [.str x0,.str x1,.bool x2,.str x3,.slc [.str,.int .u8,.int .i64,.str] x4,.bool x5]),(10002,.var [.slc [.str,.int .u8,.str] c0,.slc [.str,.str,.bool,.str,.slc [.str,.int .u8,.int .i64,.str],.bool] c1])] } K =
 cond (ilt i n) (cond (decide ((0:Int)≤i∧i<(↑(List.length r):Int))) (cond (smallB {shop:=x0,to:=x1,up:=x2,key:=x3,want:=List.map (fun r=>{key:=V.toStr (List.getD r 0 .undef),kind:=V.toInt (List.getD r 1 .undef),num:=V.toInt (List.getD r 2 .undef),text:=V.toStr (List.getD r 3 .undef):HPair}) x4,all:=x5:HBind}) (cond (N.bindSame {shop:=x0,to:=x1,up:=x2,key:=x3,want:=List.map (fun r=>{key:=V.toStr (List.getD r 0 .undef),kind:=V.toInt (List.getD r 1 .undef),num:=V.toInt (List.getD r 2 .undef),text:=V.toStr (List.getD r 3 .undef):HPair}) x4,all:=x5:HBind} {shop:=V.toStr (List.getD (List.getD r (Int.toNat i) []) 0 V.undef),to:=V.toStr (List.getD (List.getD r (Int.toNat i) []) 1 V.undef),up:=V.toBool (List.getD (List.getD r (Int.toNat i) []) 2 V.undef),key:=V.toStr (List.getD (List.getD r (Int.toNat i) []) 3 V.undef),want:=List.map (fun r=>{key:=V.toStr (List.getD r 0 .undef),kind:=V.toInt (List.getD r 1 .undef),num:=V.toInt (List.getD r 2 .undef),text:=V.toStr (List.getD r 3 .undef):HPair}) (V.toRows (List.getD (List.getD r (Int.toNat i) []) 4 V.undef)),all:=V.toBool (List.getD (List.getD r (Int.toNat i) []) 5 V.undef):HBind}) (K Ex.ret {fr:=[(4,V.ptr 10000 0 0 0),(5,V.int .i64 (0:Int))],tab:=[(10000,Box.var [V.slc [.str,.int .u8,.str] b0,V.slc [.str,.str,.bool,.str,.slc [.str,.int .u8,.int .i64,.str],.bool] b1])]:St}) (K Ex.normal {fr:=[(2,V.ptr 10000 0 0 0),(3,V.ptr 10001 0 0 0),(4,V.ptr 10002 0 0 0),(45,V.slc [.str,.str,.bool,.str,.slc [.str,.int .u8,.int .i64,.str],.bool] r),(46,V.int .i64 n),(47,V.int .i64 (IntKind.wrap .i64 (i+(1:Int))))],tab:=[(10000,Box.var [V.slc [.str,.int .u8,.str] b0,V.slc [.str,.str,.bool,.str,.slc [.str,.int .u8,.int .i64,.str],.bool] b1]),(10001,Box.var [V.str x0,V.str x1,V.bool x2,V.str x3,V.slc [.str,.int .u8,.int .i64,.str] x4,V.bool x5]),(10002,Box.var [V.slc [.str,.int .u8,.str] c0,V.slc [.str,.str,.bool,.str,.slc [.str,.int .u8,.int .i64,.str],.bool] c1])]:St})) (none)) (none)) (K (Ex.exit 0) {fr:=[(2,V.ptr 10000 0 0 0),(3,V.ptr 10001 0 0 0),(4,V.ptr 10002 0 0 0)],tab:=[(10000,Box.var [V.slc [.str,.int .u8,.str] b0,V.slc [.str,.str,.bool,.str,.slc [.str,.int .u8,.int .i64,.str],.bool] b1]),(10001,Box.var [V.str x0,V.str x1,V.bool x2,V.str x3,V.slc [.str,.int .u8,.int .i64,.str] x4,V.bool x5]),(10002,Box.var [V.slc [.str,.int .u8,.str] c0,V.slc [.str,.str,.bool,.str,.slc [.str,.int .u8,.int .i64,.str],.bool] c1])]:St}):=by kernel_rfl
theorem ok_rBindB_12:RoundsOk eRBindB 83 12:=by
 refine rounds_of rfl fun l K q h=>?_
 unfold gRBindB at h
 split at h
 ·rename_i r n i b0 b1 x0 x1 x2 x3 x4 x5 c0 c1
  have h1:=(cond_none h).1; replace h:=(cond_none h).2; have h2:=(cond_none h).1; replace h:=(cond_none h).2; have h3:=(cond_none h).1; replace h:=(cond_none h).2; have h5:=(cond_none h).1; replace h:=(cond_none h).2
  have e1:=ieq_of h1
  have e2:=ieq_of h2
  subst e1 e2
  have h3:r.length≤1000:=ble_of h3
  have main:=range_ind (E:=eRBindB) (f:=83) (id:=12) (A:=Unit) r (fun _ i=>{ fr:=[(2,.ptr 10000 0 0 0),(3,.ptr 10001 0 0 0),(4,.ptr 10002 0 0 0),(45,.slc [.str,.str,.bool,.str,.slc [.str,.int .u8,.int .i64,.str],.bool] r),(46,.int .i64 r.length),(47,.int .i64 i)],tab:=[(10000,.var [.slc [.str,.int .u8,.str] b0,.slc [.str,.str,.bool,.str,.slc [.str,.int .u8,.int .i64,.str],.bool] b1]),(10001,.var [.str x0,.str x1,.bool x2,.str x3,.slc [.str,.int .u8,.int .i64,.str] x4,.bool x5]),(10002,.var [.slc [.str,.int .u8,.str] c0,.slc [.str,.str,.bool,.str,.slc [.str,.int .u8,.int .i64,.str],.bool] c1])] }) (fun _ _=>True)
   (fun _ rows K=>cond ((rows.map cBind.dec).any (N.bindSame (⟨x0,x1,x2,x3,x4.map fun r=>({ key:=V.toStr (List.getD r 0 .undef),kind:=V.toInt (List.getD r 1 .undef),num:=V.toInt (List.getD r 2 .undef),text:=V.toStr (List.getD r 3 .undef) }:HPair),x5⟩:HBind))) (K .ret { fr:=[(4,.ptr 10000 0 0 0),(5,.int .i64 0)],tab:=[(10000,.var [.slc [.str,.int .u8,.str] b0,.slc [.str,.str,.bool,.str,.slc [.str,.int .u8,.int .i64,.str],.bool] b1])] }) (K (.exit 0) { fr:=[(2,.ptr 10000 0 0 0),(3,.ptr 10001 0 0 0),(4,.ptr 10002 0 0 0)],tab:=[(10000,.var [.slc [.str,.int .u8,.str] b0,.slc [.str,.str,.bool,.str,.slc [.str,.int .u8,.int .i64,.str],.bool] b1]),(10001,.var [.str x0,.str x1,.bool x2,.str x3,.slc [.str,.int .u8,.int .i64,.str] x4,.bool x5]),(10002,.var [.slc [.str,.int .u8,.str] c0,.slc [.str,.str,.bool,.str,.slc [.str,.int .u8,.int .i64,.str],.bool] c1])] })) (fun a i ha hi=>?_) (fun a ha=>?_) () 0 (Int.le_refl _) (by omega) trivial K q (by assumption)
  ·exact main
  ·have hq:=fun K=>q_rBindBR r r.length i b0 b1 x0 x1 x2 x3 x4 x5 c0 c1 K
   have t1:ilt (i:Int) r.length=true:=ilt_t (by omega)
   have t2:decide ((0:Int)≤i∧(i:Int)<r.length)=true:=decide_eq_true (by omega)
   have t3:IntKind.wrap .i64 ((i:Int)+1)=(i:Int)+1:=wr_i64 (by omega) (by omega)
   simp only [Int.toNat_natCast,fold_bind] at hq
   simp only [t1,t2,t3,h5,cond_true] at hq
   simp only [List.map_cons,List.any_cons]
   cases hc:N.bindSame (⟨x0,x1,x2,x3,x4.map fun r=>({ key:=V.toStr (List.getD r 0 .undef),kind:=V.toInt (List.getD r 1 .undef),num:=V.toInt (List.getD r 2 .undef),text:=V.toStr (List.getD r 3 .undef) }:HPair),x5⟩:HBind) (cBind.dec (r.getD i [])) with
   | true =>
    refine .inr ⟨.ret,{ fr:=[(4,.ptr 10000 0 0 0),(5,.int .i64 0)],tab:=[(10000,.var [.slc [.str,.int .u8,.str] b0,.slc [.str,.str,.bool,.str,.slc [.str,.int .u8,.int .i64,.str],.bool] b1])] },by simp,fun K=>?_,fun K=>by rw [Bool.true_or]; rfl⟩
    rw [hq,hc]
    try rfl
   | false =>
    refine .inl ⟨(),trivial,fun K=>?_,fun K=>by rw [Bool.false_or]⟩
    rw [hq,hc]
    try rfl
  ·refine ⟨.exit 0,_,by simp,fun K=>?_,fun K=>rfl⟩
   rw [q_rBindBR]
   simp (disch:=omega) only [evs]
   try rfl
 ·cases h
theorem ok_rBindB:FnOk Tryz.prog 83 dRBindB:=by
 refine den_okF (env_ok ((((((TOk.nil _).cons ok_sameB).cons ok_refRuleCheck).cons ok_rBindRule).cons ok_refName).cons ok_findS)) (E:=eRBindB) Tryz.func83 [12] (by kernel_rfl) (one1 ok_rBindB_12) fun a _ hp=>?_
 obtain ⟨b,x⟩:=a
 obtain ⟨hb,hx⟩:=bcond hp
 have hx:smallB x=true:=hx
 have h1:Nat.ble b.shops.length 1000=true:=(bcond hb).1
 have h3:Nat.ble b.binds.length 1000=true:=(bcond (bcond hb).2).1
 have h4:b.binds.length≤1000:=ble_of h3
 have d1:decide (b.binds.length*88≤140737488355328)=true:=decide_eq_true (by omega)
 have d2:decide ((b.binds.length+1)*88≤140737488355328)=true:=decide_eq_true (by omega)
 refine (q_rBindB b x).trans ?_
 show _=some (⟨.tup [.agg (cBook.enc (N.rBind b x).1),.int .i64 (N.rBind b x).2],[],[]⟩:DRes)
 unfold N.rBind
 simp only [fold_bindE,dec_encs,List.length_map,h1,h3,hx,d1,d2,beq_self_eq_true,cond_true,ixG_lt]
 simp only [pairs_enc]
 cases ha:b.shops.any (N.isShop x.shop) with
 | false =>
  have hs:(N.shopOf x.shop b.shops).2=false:=by rw [shopOf_ix,ha]
  rw [hs]
  try rfl
 | true =>
  obtain ⟨g1,g2,g3⟩:=shopOf_at ha
  have hk:(N.ixG (N.isShop x.shop) b.shops 0).toNat<b.shops.length:=by omega
  have hg:=getD_enc cShop b.shops _ shop0 hk
  have d3:decide (0≤N.ixG (N.isShop x.shop) b.shops 0∧N.ixG (N.isShop x.shop) b.shops 0<(b.shops.length:Int))=true:=decide_eq_true ⟨g2,g3⟩
  rw [g1]
  have hm:cBook.enc ⟨b.shops,b.binds++[x]⟩=[.slc [.str,.int .u8,.str] (b.shops.map cShop.enc),.slc [.str,.str,.bool,.str,.slc [.str,.int .u8,.int .i64,.str],.bool] (b.binds.map cBind.enc++[cBind.enc x])]:=by
   show [_,V.slc _ ((b.binds++[x]).map cBind.enc)]=_
   rw [List.map_append]; rfl
  simp only [hg,d3,cond_true,Bool.not_true,cond_false]
  generalize b.shops.getD (N.ixG (N.isShop x.shop) b.shops 0).toNat shop0=y
  have k1:V.toInt (List.getD (cShop.enc y) 1 V.undef)=y.sort:=rfl
  simp only [k1,bne]
  cases y.sort==4 with
  | true=>rfl
  | false =>
   simp only [cond_false]
   cases h0:N.name x.to==0 with
   | false=>simp only [Bool.not_false,cond_true,cond_false]; first | rfl | (simp only [h0,Bool.not_false,cond_true]; rfl)
   | true =>
    simp only [Bool.not_true,cond_true,cond_false]
    cases h5:N.refRuleCheck (N.bindRule x y.sort)==0 with
    | false=>simp only [Bool.not_false,cond_true]; rfl
    | true =>
     simp only [Bool.not_true,cond_false]
     cases b.binds.any (N.bindSame x) with
     | true=>rfl
     | false =>
      simp only [cond_false]
      cases ile 32 (b.binds.length:Int) with
      | true=>rfl
      | false=>simp only [cond_false,hm]; rfl
end Go.Ev

/- Where an exchange leads: the document's function: lemmas. -/
namespace Go.Ev
open Go Go.Proofs
set_option maxRecDepth 100000
-- FOLD
end Go.Ev

/- Lines: the plain functions and their codec: definitions and lemmas,no condition. -/
namespace Go.Ev
open Go
set_option maxRecDepth 100000
structure HItem where
 mail:HMail
 lent:Bool
 again:Bool
def item0:HItem:=⟨mail0,false,false⟩
namespace N
def lCheck (l:List HItem) (m:HMail):Int :=
 cond (mailCheck m != 0) (mailCheck m) (cond (cond (ilt 0 l.length) (ile m.id (l.getD (l.length-1) item0).mail.id) false) 13 (cond (ile 64 l.length) 12 0))
def lPut (l:List HItem) (x:HItem):List HItem × Int:=cond (lCheck l x.mail != 0) (l,lCheck l x.mail) (l++[x],0)
def ix (p:HItem→Bool):List HItem→Int→Int
 | [],_=>-1
 | x::r,i=>cond (p x) i (ix p r (i+1))
def isReady (x:HItem):Bool:=cond x.lent false true
def isId (id:Int) (x:HItem):Bool:=x.mail.id==id
def lendI (x:HItem):HItem:=⟨x.mail,true,x.again⟩
def backI (x:HItem):HItem:=⟨x.mail,false,true⟩
def setAt (f:HItem→HItem) (l:List HItem) (k:Nat):List HItem:=l.set k (f (l.getD k item0))
def lLend (l:List HItem):List HItem × HItem × Bool:=cond (ilt (ix isReady l 0) 0) (l,item0,false) (setAt lendI l (ix isReady l 0).toNat,lendI (l.getD (ix isReady l 0).toNat item0),true)
def lBack (l:List HItem) (id:Int):List HItem × Int:=cond (ilt (ix (isId id) l 0) 0) (l,10) (cond (l.getD (ix (isId id) l 0).toNat item0).lent (setAt backI l (ix (isId id) l 0).toNat,0) (l,13))
def cutAt (l:List HItem) (k:Nat):List HItem:=l.take k++l.drop (k+1)
def lRemove (l:List HItem) (id:Int):List HItem × HItem × Int:=cond (ilt (ix (isId id) l 0) 0) (l,item0,10) (cutAt l (ix (isId id) l 0).toNat,l.getD (ix (isId id) l 0).toNat item0,0)
def wakeI (x:HItem):HItem:=cond x.lent (backI x) x
def lWake (l:List HItem):List HItem:=l.map wakeI
end N
end Go.Ev

/- slices.Concat and slices.Grow at another type answer what the plain ones do: lemmas,no condition. -/
namespace Go.Ev
open Go Go.Proofs
set_option maxRecDepth 100000
-- FOLD
end Go.Ev

/- What lines do,in plain terms: lemmas,no condition. -/
namespace Go.Ev
open Go
set_option maxRecDepth 100000
end Go.Ev

/- The functions on lines answer what the plain ones do: lemmas. -/
namespace Go.Ev
open Go Go.Proofs
set_option maxRecDepth 100000
-- FOLD
end Go.Ev

/- The functions on lines that look for an item,and mark it: lemmas. -/
namespace Go.Ev
open Go Go.Proofs
set_option maxRecDepth 100000
-- FOLD
end Go.Ev

/- Lending,giving back,removing,waking: the functions on lines answer what the plain ones do: lemmas. -/
namespace Go.Ev
open Go Go.Proofs
set_option maxRecDepth 100000
-- FOLD
end Go.Ev

/- Counting,giving,waking and making lines; sameness: lemmas. -/
namespace Go.Ev
open Go Go.Proofs
set_option maxRecDepth 100000
-- FOLD
namespace N
end N
end Go.Ev

/- The document's lines: putting,making,sameness: lemmas. -/
namespace Go.Ev
open Go Go.Proofs
set_option maxRecDepth 100000
-- FOLD
end Go.Ev

/- What the statements on lines share: the example,a line as the document's; the statement on how a line is made: lemmas; the function that writes numbers is a premise. -/
namespace Go.Ev
open Go Go.Proofs
set_option maxRecDepth 100000
-- FOLD
end Go.Ev

/- What acts do to a line,in plain terms: lemmas,no condition. -/
namespace Go.Ev
open Go
set_option maxRecDepth 100000
structure HAct where
 op:Int
 mail:HMail
namespace N
def act (l:List HItem) (a:HAct):List HItem :=
 cond (Int.tmod a.op 6==2) (lLend l).1 (cond (Int.tmod a.op 6==3) (lBack l a.mail.id).1 (cond (Int.tmod a.op 6==4) (lRemove l a.mail.id).1 (cond (Int.tmod a.op 6==5) (lWake l) (lPut l ⟨a.mail,false,false⟩).1)))
def acts:List HItem→List HAct→List HItem
 | l,[]=>l
 | l,a::r=>acts (act l a) r
def rises:List HItem→Bool→Int→Bool
 | [],_,_=>true
 | x::r,first,last=>cond (cond first false (ile x.mail.id last)) false (rises r false x.mail.id)
end N
end Go.Ev

/- The document's lines: finding,lending,giving back,removing,waking: lemmas. -/
namespace Go.Ev
open Go Go.Proofs
set_option maxRecDepth 100000
-- FOLD
end Go.Ev

/- Acts on lines,done to both: lemmas; the function that writes numbers is a premise. -/
namespace Go.Ev
open Go Go.Proofs
set_option maxRecDepth 100000
-- FOLD
namespace N
end N
end Go.Ev

/- What the statement on waking reckons: it is true; lemmas; the function that writes numbers is a premise. -/
namespace Go.Ev
open Go Go.Proofs
set_option maxRecDepth 100000
-- FOLD
end Go.Ev

/- Of the first and the late one of a line,in plain terms: lemmas,no condition. -/
namespace Go.Ev
open Go
set_option maxRecDepth 100000
end Go.Ev

/- What the statements on exchanges share: lemmas. -/
namespace Go.Ev
open Go Go.Proofs
set_option maxRecDepth 100000
-- FOLD
structure HRAct where
 op:Int
 shop:HShop
 bind:HBind
def rowRA (r:List V):HRAct:=⟨(r.getD 0 .undef).toInt,⟨(r.getD 1 .undef).toStr,(r.getD 2 .undef).toInt,(r.getD 3 .undef).toStr⟩,⟨(r.getD 4 .undef).toStr,(r.getD 5 .undef).toStr,(r.getD 6 .undef).toBool,(r.getD 7 .undef).toStr,rowsP (r.getD 8 .undef).toRows,(r.getD 9 .undef).toBool⟩⟩
def cRA:RCod HRAct:=(((rInt .u8).and (cShop.and cBind)).iso (fun p=>(⟨p.1,p.2.1,p.2.2⟩:HRAct)) (fun o=>(o.op,o.shop,o.bind)) (fun _=>rfl) fun _=>rfl).spelt
 [.int .u8,.str,.int .u8,.str,.str,.str,.bool,.str,.slc [.str,.int .u8,.int .i64,.str],.bool]
 (fun a=>[.int .u8 a.op,.str a.shop.name,.int .u8 a.shop.sort,.str a.shop.to,.str a.bind.shop,.str a.bind.to,.bool a.bind.up,.str a.bind.key,.slc [.str,.int .u8,.int .i64,.str] (a.bind.want.map fun p=>[V.str p.key,V.int .u8 p.kind,V.int .i64 p.num,V.str p.text]),.bool a.bind.all]) rowRA rfl (fun _=>rfl) fun r=>by
  show (⟨((r.take 1).getD 0 .undef).toInt,rowShop ((r.drop 1).take 3),rowBind ((r.drop 1).drop 3)⟩:HRAct)=rowRA r
  unfold rowShop rowBind rowRA
  simp only [List.getD_eq_getElem?_getD,List.getElem?_take,List.getElem?_drop]
  try rfl
end Go.Ev

/- What the statements on exchanges share: lemmas; the function that writes numbers is a premise. -/
namespace Go.Ev
open Go Go.Proofs
set_option maxRecDepth 100000
-- FOLD
def dLawTo:Den:=den (aOne (vAgg cBind)) bNil (oV (vAgg cBind)) (fun b _=>smallB b) fun b _=>(b,())
noncomputable def eLawTo:Env:=env Tryz.prog [] [] []
theorem q_lawTo (x:HBind):evFn eLawTo 84 ((aOne (vAgg cBind)).enc x) ([]) some =
 cond (Nat.beq (List.length (List.map (fun p=>[V.str (HPair.key p),V.int .u8 (HPair.kind p),V.int .i64 (HPair.num p),V.str (HPair.text p)]) (HBind.want x))) 0) (some {v:=V.agg [V.str (HBind.shop x),V.str (HBind.to x),V.bool (HBind.up x),V.str (HBind.key x),V.slc [.str,.int .u8,.int .i64,.str] [],V.bool (HBind.all x)],bx:=[]:DRes}) (cond (decide (List.length (List.map (fun p=>[V.str (HPair.key p),V.int .u8 (HPair.kind p),V.int .i64 (HPair.num p),V.str (HPair.text p)]) (HBind.want x))*48≤140737488355328)) (some {v:=V.agg [V.str (HBind.shop x),V.str (HBind.to x),V.bool (HBind.up x),V.str (HBind.key x),V.slc [.str,.int .u8,.int .i64,.str] (List.map (fun p=>[V.str (HPair.key p),V.int .u8 (HPair.kind p),V.int .i64 (HPair.num p),V.str (HPair.text p)]) (HBind.want x)),V.bool (HBind.all x)],bx:=[]:DRes}) (none)):=by kernel_rfl
theorem ok_lawTo:FnOk Tryz.prog 84 dLawTo:=by
 refine den_okF (env_ok (TOk.nil _)) (E:=eLawTo) Tryz.func84 [] (by kernel_rfl) none0 fun x _ hp=>?_
 have hp:smallP x.want=true:=hp
 have hl:x.want.length≤1000000:=ble_of hp
 refine (q_lawTo x).trans ?_
 simp (disch:=omega) only [evs]
 obtain ⟨x0,x1,x2,x3,x4,x5⟩:=x
 cases x4 with
 | nil=>rfl
 | cons a r=>rfl
namespace N
def lightRA (a:HRAct):Bool:=cond (ile a.shop.name.length 40) (cond (ile a.shop.to.length 40) (cond (ile a.bind.shop.length 40) (cond (ile a.bind.to.length 40) (cond (ile a.bind.key.length 100) (light a.bind.want) false) false) false) false) false
def lightRAs:List HRAct→Bool
 | []=>true | a::r=>cond (lightRA a) (lightRAs r) false
end N
def dLight14:Den:=den (aOne (vSl cRA)) bNil (oV vBool) (fun l _=>Nat.ble l.length 9223372036854775807) fun l _=>(cond (ile l.length 40) (N.lightRAs l) false,())
def schLight14:SSch:={ fr:=[(8,.slc [.int .u8,.str,.int .u8,.str,.str,.str,.bool,.str,.slc [.str,.int .u8,.int .i64,.str],.bool]),(9,.int .i64),(10,.int .i64)],tab:=[] }
def gLight14:List Leaf→(Ex→St→Option R)→Option R
 | [.r r,.i n,.i i],K=>cond (n==r.length) (cond (i==0) (cond (Nat.ble r.length 40) (cond (N.lightRAs (r.map cRA.dec)) (K (.exit 0) { fr:=[],tab:=[] }) (K .ret { fr:=[(2,.bool false)],tab:=[] })) none) none) none
 | _,_=>none
noncomputable def eLight14:Env:=env Tryz.prog [(33,dLight)] [(4,loopF schLight14 gLight14)] [(4,[(0,[8,9,10]),(1,[]),(1000,[2])])]
theorem q_light14 (l:List HRAct):evFn eLight14 31 ((aOne (vSl cRA)).enc l) ([]) some =
 cond (ilt (40:Int) (↑(List.length (List.map (RCod.enc cRA) l)):Int)) (some {v:=V.bool false,bx:=[]:DRes}) (cond ((↑(List.length (List.map (RCod.enc cRA) l)):Int)==(↑(List.length (List.map (RCod.enc cRA) l)):Int)) (cond (Nat.ble (List.length (List.map (RCod.enc cRA) l)) 40) (cond (N.lightRAs (List.map (RCod.dec cRA) (List.map (RCod.enc cRA) l))) (some {v:=V.bool true,bx:=[]:DRes}) (some {v:=V.bool false,bx:=[]:DRes})) (none)) (none)):=by kernel_rfl
theorem q_light14R (r:List (List V)) (n i:Int) (K:Ex→St→Option R):evRound eLight14 31 4 { fr:=[(8,.slc [.int .u8,.str,.int .u8,.str,.str,.str,.bool,.str,.slc [.str,.int .u8,.int .i64,.str],.bool] r),(9,.int .i64 n),(10,.int .i64 i)],tab:=[] } K =
 cond (ilt i n) (cond (decide ((0:Int)≤i∧i<(↑(List.length r):Int))) (cond (ilt (40:Int) (bif ilt (bif ilt (bif ilt (↑(List.length (V.toStr (List.getD (List.getD r (Int.toNat i) []) 1 V.undef))):Int) (↑(List.length (V.toStr (List.getD (List.getD r (Int.toNat i) []) 3 V.undef))):Int) then (↑(List.length (V.toStr (List.getD (List.getD r (Int.toNat i) []) 3 V.undef))):Int) else (↑(List.length (V.toStr (List.getD (List.getD r (Int.toNat i) []) 1 V.undef))):Int)) (↑(List.length (V.toStr (List.getD (List.getD r (Int.toNat i) []) 4 V.undef))):Int) then (↑(List.length (V.toStr (List.getD (List.getD r (Int.toNat i) []) 4 V.undef))):Int) else bif ilt (↑(List.length (V.toStr (List.getD (List.getD r (Int.toNat i) []) 1 V.undef))):Int) (↑(List.length (V.toStr (List.getD (List.getD r (Int.toNat i) []) 3 V.undef))):Int) then (↑(List.length (V.toStr (List.getD (List.getD r (Int.toNat i) []) 3 V.undef))):Int) else (↑(List.length (V.toStr (List.getD (List.getD r (Int.toNat i) []) 1 V.undef))):Int)) (↑(List.length (V.toStr (List.getD (List.getD r (Int.toNat i) []) 5 V.undef))):Int) then (↑(List.length (V.toStr (List.getD (List.getD r (Int.toNat i) []) 5 V.undef))):Int) else bif ilt (bif ilt (↑(List.length (V.toStr (List.getD (List.getD r (Int.toNat i) []) 1 V.undef))):Int) (↑(List.length (V.toStr (List.getD (List.getD r (Int.toNat i) []) 3 V.undef))):Int) then (↑(List.length (V.toStr (List.getD (List.getD r (Int.toNat i) []) 3 V.undef))):Int) else (↑(List.length (V.toStr (List.getD (List.getD r (Int.toNat i) []) 1 V.undef))):Int)) (↑(List.length (V.toStr (List.getD (List.getD r (Int.toNat i) []) 4 V.undef))):Int) then (↑(List.length (V.toStr (List.getD (List.getD r (Int.toNat i) []) 4 V.undef))):Int) else bif ilt (↑(List.length (V.toStr (List.getD (List.getD r (Int.toNat i) []) 1 V.undef))):Int) (↑(List.length (V.toStr (List.getD (List.getD r (Int.toNat i) []) 3 V.undef))):Int) then (↑(List.length (V.toStr (List.getD (List.getD r (Int.toNat i) []) 3 V.undef))):Int) else (↑(List.length (V.toStr (List.getD (List.getD r (Int.toNat i) []) 1 V.undef))):Int))) (K Ex.ret {fr:=[(2,V.bool false)],tab:=[]:St}) (cond (ilt (100:Int) (↑(List.length (V.toStr (List.getD (List.getD r (Int.toNat i) []) 7 V.undef))):Int)) (K Ex.ret {fr:=[(2,V.bool false)],tab:=[]:St}) (cond (!N.light (List.map (RCod.dec cPair) (V.toRows (List.getD (List.getD r (Int.toNat i) []) 8 V.undef)))) (K Ex.ret {fr:=[(2,V.bool false)],tab:=[]:St}) (K Ex.normal {fr:=[(8,V.slc [.int .u8,.str,.int .u8,.str,.str,.str,.bool,.str,.slc [.str,.int .u8,.int .i64,.str],.bool] r),(9,V.int .i64 n),(10,V.int .i64 (IntKind.wrap .i64 (i+(1:Int))))],tab:=[]:St})))) (none)) (K (Ex.exit 0) {fr:=[],tab:=[]:St}):=by kernel_rfl
end Go.Ev

/- What acts on exchanges do: program and document alike: lemmas; a condition on kinds is a premise. -/
namespace Go.Ev
open Go
set_option maxRecDepth 100000
namespace N
def pStep (b:HBook) (a:HRAct):HBook × Int :=
 cond (Int.tmod a.op 5==0) (bMake b a.shop) (cond (Int.tmod a.op 5==1) (bDrop b a.shop.name) (cond (Int.tmod a.op 5==2) (bBind b a.bind) (cond (Int.tmod a.op 5==3) (bUnbind b a.bind) (bForget b a.bind.to,0))))
def dStep (b:HBook) (a:HRAct):HBook × Int :=
 cond (Int.tmod a.op 5==0) (bMake b a.shop) (cond (Int.tmod a.op 5==1) (rDrop b a.shop.name) (cond (Int.tmod a.op 5==2) (rBind b a.bind) (cond (Int.tmod a.op 5==3) (rUnbind b a.bind) (bForget b a.bind.to,0))))
end N
def LightB (y:HBind):Prop:=y.key.length≤100∧y.want.length≤12
structure BInv (b:HBook):Prop where
 names:b.shops.Pairwise fun x y=>x.name ≠ y.name
 few:b.shops.length≤8
 sort:∀ x∈b.shops,0≤x.sort∧x.sort≤4
 nd:b.binds.Nodup
 fewB:b.binds.length≤32
 light:∀ y∈b.binds,LightB y
theorem BInv.nil:BInv ⟨[],[]⟩:=⟨.nil,by simp,by simp,by simp,by simp,by simp⟩
theorem lightB_small {y:HBind} (h:LightB y):smallB y=true:=by
 show Nat.ble y.want.length 1000000=true
 exact Nat.ble_eq_true_of_le (by have:=h.2; omega)
theorem BInv.small {b:HBook} (h:BInv b):smallBook b=true:=by
 have h1:Nat.ble b.shops.length 1000=true:=Nat.ble_eq_true_of_le (by have:=h.few; omega)
 have h2:Nat.ble b.binds.length 1000=true:=Nat.ble_eq_true_of_le (by have:=h.fewB; omega)
 have h3:b.binds.all smallB=true:=List.all_eq_true.2 fun y hy=>lightB_small (h.light y hy)
 show cond _ (cond _ _ false) false=true
 rw [h1,h2,h3]; rfl
theorem isShop_iff {n:Bytes} {x:HShop}:N.isShop n x=true↔x.name=n:=beq_iff_eq
theorem ofShop_iff {n:Bytes} {x:HBind}:N.ofShop n x=true↔x.shop=n:=beq_iff_eq
theorem cut_at {α:Type} (a:List α) (x:α) (b:List α):N.cutG (a++x::b) (0+(a.length:Int)).toNat=a++b:=by
 have e:(0+(a.length:Int)).toNat=a.length:=by omega
 unfold N.cutG
 rw [e,List.take_left' rfl,List.drop_append]
 simp
theorem any_f {α:Type} {p:α→Bool} {l:List α} (h:l.any p=false):∀ x∈l,p x=false:=by
 intro x hx
 cases e:p x with
 | false=>rfl
 | true=>rw [List.any_eq_true.2 ⟨x,hx,e⟩] at h; cases h
theorem drop_shops {l:List HShop} {n:Bytes} (h:l.Pairwise fun x y=>x.name ≠ y.name) (hi:ilt (N.ixG (N.isShop n) l 0) 0=false):N.cutG l (N.ixG (N.isShop n) l 0).toNat=l.filter (N.offS n):=by
 rcases ixG_spec (N.isShop n) l 0 with ⟨e,_⟩ | ⟨a,x,b,e1,e2,e3,e4,_⟩
 ·rw [e] at hi; cases hi
 ·rw [e2,e1,cut_at]
  rw [e1] at h
  obtain ⟨_,h2,_⟩:=List.pairwise_append.1 h
  have hx:=isShop_iff.1 e3
  have ha:a.filter (N.offS n)=a:=List.filter_eq_self.2 fun y hy=>by unfold N.offS; rw [any_f e4 y hy]; rfl
  have hb:b.filter (N.offS n)=b:=List.filter_eq_self.2 fun y hy=>by
   unfold N.offS
   cases e:N.isShop n y with
   | false=>rfl
   | true=>exact absurd ((isShop_iff.1 e).trans hx.symm).symm ((List.pairwise_cons.1 h2).1 y hy)
  have hc:N.offS n x=false:=by unfold N.offS; rw [e3]; rfl
  rw [List.filter_append,ha,List.filter_cons_of_neg (by rw [hc]; simp),hb]
theorem unbind_binds {l:List HBind} {x:HBind} (h:l.Nodup) (hi:ilt (N.ixG (N.bindSame x) l 0) 0=false):N.cutG l (N.ixG (N.bindSame x) l 0).toNat=l.filter (N.offBind x):=by
 rcases ixG_spec (N.bindSame x) l 0 with ⟨e,_⟩ | ⟨a,y,b,e1,e2,e3,e4,_⟩
 ·rw [e] at hi; cases hi
 ·rw [e2,e1,cut_at]
  rw [e1] at h
  obtain ⟨_,h2,_⟩:=List.nodup_append.1 h
  have hx:=bindSame_eq.1 e3
  have ha:a.filter (N.offBind x)=a:=List.filter_eq_self.2 fun z hz=>by unfold N.offBind; rw [any_f e4 z hz]; rfl
  have hb:b.filter (N.offBind x)=b:=List.filter_eq_self.2 fun z hz=>by
   unfold N.offBind
   cases e:N.bindSame x z with
   | false=>rfl
   | true =>
    have:y=z:=hx.symm.trans (bindSame_eq.1 e)
    exact absurd (this ▸ hz) (List.nodup_cons.1 h2).1
  have hc:N.offBind x y=false:=by unfold N.offBind; rw [e3]; rfl
  rw [List.filter_append,ha,List.filter_cons_of_neg (by rw [hc]; simp),hb]
theorem bDrop_eq {b:HBook} (h:BInv b) (n:Bytes):N.bDrop b n=N.rDrop b n:=by
 unfold N.bDrop N.rDrop
 cases e:ilt (N.ixG (N.isShop n) b.shops 0) 0 with
 | true=>rfl
 | false=>rw [drop_shops h.names e]
theorem bUnbind_eq {b:HBook} (h:BInv b) (x:HBind):N.bUnbind b x=N.rUnbind b x:=by
 unfold N.bUnbind N.rUnbind
 rw [← ixG_ge]
 cases e:ilt (N.ixG (N.bindSame x) b.binds 0) 0 with
 | true =>
  have e2:ile 0 (N.ixG (N.bindSame x) b.binds 0)=false:=by
   have:(!ile 0 (N.ixG (N.bindSame x) b.binds 0))=true:=e
   cases h:ile 0 (N.ixG (N.bindSame x) b.binds 0) with
   | false=>rfl
   | true=>rw [h] at this; cases this
  rw [e2]; rfl
 | false =>
  have e2:ile 0 (N.ixG (N.bindSame x) b.binds 0)=true:=by
   have:(!ile 0 (N.ixG (N.bindSame x) b.binds 0))=false:=e
   cases h:ile 0 (N.ixG (N.bindSame x) b.binds 0) with
   | true=>rfl
   | false=>rw [h] at this; cases this
  rw [e2,unbind_binds h.nd e]; rfl
theorem name_any {n:Bytes} {l:List HShop} (h:l.any (N.isShop n)=false):∀ x∈l,x.name ≠ n:=fun x hx e=>by
 rw [List.any_eq_true.2 ⟨x,hx,isShop_iff.2 e⟩] at h; cases h
theorem BInv.make {b:HBook} (h:BInv b) {x:HShop} (hx:0≤x.sort):BInv (N.bMake b x).1:=by
 unfold N.bMake
 cases e1:N.shopCheck x != 0 with
 | true=>exact h
 | false =>
  cases e2:(N.shopOf x.name b.shops).2 with
  | true=>cases N.eqShop x (N.shopOf x.name b.shops).1<;>exact h
  | false =>
   cases e3:ile 8 b.shops.length with
   | true=>exact h
   | false =>
    rw [shopOf_ix] at e2
    have h8:(b.shops.length:Int)<8:=ile_nof e3
    have hc:ilt 4 x.sort=false:=by
     cases e:ilt 4 x.sort with
     | false=>rfl
     | true =>
      unfold N.shopCheck at e1
      cases e4:N.name x.name != 0 with
      | true=>rw [e4] at e1; rw [cond_true,e4] at e1; cases e1
      | false=>rw [e4,e] at e1; cases e1
    refine ⟨List.pairwise_append.2 ⟨h.names,List.pairwise_singleton _ _,fun y hy z hz=>?_⟩,?_,fun y hy=>?_,h.nd,h.fewB,h.light⟩
    ·rw [List.mem_singleton.1 hz]; exact name_any e2 y hy
    ·show (b.shops++[x]).length≤8
     rw [List.length_append]; simp; omega
    ·rcases List.mem_append.1 hy with hy | hy
     ·exact h.sort y hy
     ·rw [List.mem_singleton.1 hy]; exact ⟨hx,ilt_nof hc⟩
theorem BInv.keep {b:HBook} (h:BInv b) (p:HShop→Bool) (q:HBind→Bool):BInv ⟨b.shops.filter p,b.binds.filter q⟩ :=
 ⟨h.names.filter _,Nat.le_trans (List.length_filter_le _ _) h.few,fun x hx=>h.sort x (List.mem_filter.1 hx).1,h.nd.filter _,Nat.le_trans (List.length_filter_le _ _) h.fewB,fun y hy=>h.light y (List.mem_filter.1 hy).1⟩
theorem BInv.keepB {b:HBook} (h:BInv b) (q:HBind→Bool):BInv ⟨b.shops,b.binds.filter q⟩ :=
 ⟨h.names,h.few,h.sort,h.nd.filter _,Nat.le_trans (List.length_filter_le _ _) h.fewB,fun y hy=>h.light y (List.mem_filter.1 hy).1⟩
theorem BInv.bind {b:HBook} (h:BInv b) {x:HBind} (hx:LightB x):BInv (N.bBind b x).1:=by
 unfold N.bBind
 cases (N.shopOf x.shop b.shops).2 with
 | false=>exact h
 | true =>
  cases (N.shopOf x.shop b.shops).1.sort==4 with
  | true=>exact h
  | false =>
   cases N.name x.to != 0 with
   | true=>exact h
   | false =>
    cases N.ruleCheck (N.bindRule x (N.shopOf x.shop b.shops).1.sort) != 0 with
    | true=>exact h
    | false =>
     cases e1:b.binds.any (N.bindSame x) with
     | true=>exact h
     | false =>
      cases e2:ile 32 b.binds.length with
      | true=>exact h
      | false =>
       have h3:(b.binds.length:Int)<32:=ile_nof e2
       refine ⟨h.names,h.few,h.sort,List.nodup_append.2 ⟨h.nd,by simp,fun y hy z hz=>?_⟩,?_,fun y hy=>?_⟩
       ·rw [List.mem_singleton.1 hz]
        intro e
        have:=any_f e1 y hy
        rw [bindSame_eq.2 e.symm] at this; cases this
       ·show (b.binds++[x]).length≤32
        rw [List.length_append]; simp; omega
       ·rcases List.mem_append.1 hy with hy | hy
        ·exact h.light y hy
        ·rw [List.mem_singleton.1 hy]; exact hx
theorem BInv.step {b:HBook} (h:BInv b) {a:HRAct} (hs:0≤a.shop.sort) (hl:LightB a.bind):BInv (N.pStep b a).1:=by
 unfold N.pStep
 cases Int.tmod a.op 5==0 with
 | true=>exact h.make hs
 | false =>
  cases Int.tmod a.op 5==1 with
  | true =>
   show BInv (N.bDrop b a.shop.name).1
   rw [bDrop_eq h]
   unfold N.rDrop
   cases ilt (N.ixG (N.isShop a.shop.name) b.shops 0) 0 with
   | true=>exact h
   | false=>exact h.keep _ _
  | false =>
   cases Int.tmod a.op 5==2 with
   | true=>exact h.bind hl
   | false =>
    cases Int.tmod a.op 5==3 with
    | true =>
     show BInv (N.bUnbind b a.bind).1
     rw [bUnbind_eq h]
     unfold N.rUnbind
     cases b.binds.any (N.bindSame a.bind) with
     | true=>exact h.keepB _
     | false=>exact h
    | false=>exact h.keepB _
theorem lightRA_bind {a:HRAct} (h:N.lightRA a=true):LightB a.bind:=by
 obtain ⟨_,h⟩:=bcond h
 obtain ⟨_,h⟩:=bcond h
 obtain ⟨_,h⟩:=bcond h
 obtain ⟨_,h⟩:=bcond h
 obtain ⟨h1,h2⟩:=bcond h
 exact ⟨by have:=ile_of h1; omega,light_small h2⟩
theorem leads_filter {shop key:Bytes} {sort:Int} {h:List HPair}:∀ (l:List HBind) (q p:List Bytes),N.leadsR shop sort key h l q p=N.leadsR shop sort key h (l.filter (N.ofShop shop)) q p
 | [],_,_=>rfl
 | y::r,q,p=>by
  cases e:N.ofShop shop y with
  | false =>
   rw [List.filter_cons_of_neg (by rw [e]; simp),← leads_filter r]
   show cond (cond (N.ofShop shop y) _ false) _ _=_
   rw [e]; rfl
  | true =>
   rw [List.filter_cons_of_pos e]
   unfold N.leadsR
   rw [e,leads_filter r,leads_filter r,leads_filter r]
theorem leads_of {b c:HBook} {shop:Bytes} (h1:N.shopOf shop b.shops=N.shopOf shop c.shops) (h2:b.binds.filter (N.ofShop shop)=c.binds.filter (N.ofShop shop)) (key:Bytes) (h:List HPair):N.bLeads b shop key h=N.bLeads c shop key h:=by
 unfold N.bLeads
 rw [h1,leads_filter b.binds,leads_filter c.binds,h2]
theorem shopOf_off {shop:Bytes} {x:HShop} (h:x.name ≠ shop):∀ (a b:List HShop),N.shopOf shop (a++x::b)=N.shopOf shop (a++b)
 | [],b=>by
  show cond (N.isShop shop x) _ _=_
  cases e:N.isShop shop x with
  | false=>rfl
  | true=>exact absurd (isShop_iff.1 e) h
 | y::r,b=>by
  show cond _ _ (N.shopOf shop (r++x::b))=cond _ _ (N.shopOf shop (r++b))
  rw [shopOf_off h r b]
theorem filt_off {shop:Bytes} {x:HBind} (h:x.shop ≠ shop) (a b:List HBind):(a++x::b).filter (N.ofShop shop)=(a++b).filter (N.ofShop shop):=by
 have:N.ofShop shop x=false:=by
  cases e:N.ofShop shop x with
  | false=>rfl
  | true=>exact absurd (ofShop_iff.1 e) h
 rw [List.filter_append,List.filter_append,List.filter_cons_of_neg (by rw [this]; simp)]
theorem step_own {b:HBook} {a:HRAct} {shop:Bytes} (h5:ilt (Int.tmod a.op 5) 4=true) (hp:0≤a.op) (h1:a.shop.name ≠ shop) (h2:a.bind.shop ≠ shop) :
  N.shopOf shop (N.pStep b a).1.shops=N.shopOf shop b.shops∧(N.pStep b a).1.binds.filter (N.ofShop shop)=b.binds.filter (N.ofShop shop):=by
 unfold N.pStep
 cases e0:Int.tmod a.op 5==0 with
 | true =>
  show N.shopOf shop (N.bMake b a.shop).1.shops=_∧(N.bMake b a.shop).1.binds.filter _=_
  unfold N.bMake
  cases N.shopCheck a.shop != 0 with
  | true=>exact ⟨rfl,rfl⟩
  | false =>
   cases (N.shopOf a.shop.name b.shops).2 with
   | true=>cases N.eqShop a.shop (N.shopOf a.shop.name b.shops).1<;>exact ⟨rfl,rfl⟩
   | false =>
    cases ile 8 b.shops.length with
    | true=>exact ⟨rfl,rfl⟩
    | false =>
     refine ⟨?_,rfl⟩
     have:=shopOf_off h1 b.shops []
     rw [List.append_nil] at this
     exact this
 | false =>
  cases e1:Int.tmod a.op 5==1 with
  | true =>
   show N.shopOf shop (N.bDrop b a.shop.name).1.shops=_∧(N.bDrop b a.shop.name).1.binds.filter _=_
   unfold N.bDrop
   cases e:ilt (N.ixG (N.isShop a.shop.name) b.shops 0) 0 with
   | true=>exact ⟨rfl,rfl⟩
   | false =>
    refine ⟨?_,?_⟩
    ·show N.shopOf shop (N.cutG b.shops _)=_
     rcases ixG_spec (N.isShop a.shop.name) b.shops 0 with ⟨e2,_⟩ | ⟨u,x,v,e2,e3,e4,_,_⟩
     ·rw [e2] at e; cases e
     ·have hx:x.name ≠ shop:=fun h=>h1 ((isShop_iff.1 e4).symm.trans h)
      rw [e3,e2,cut_at,shopOf_off hx]
    ·show (b.binds.filter _).filter _=_
     rw [List.filter_filter]
     refine List.filter_congr fun y _=>?_
     cases e3:N.ofShop shop y with
     | false=>rfl
     | true =>
      have:N.offShop a.shop.name y=true:=by
       unfold N.offShop
       cases e4:N.ofShop a.shop.name y with
       | false=>rfl
       | true=>exact absurd ((ofShop_iff.1 e4).symm.trans (ofShop_iff.1 e3)) h1
      rw [this]; rfl
  | false =>
   cases e2:Int.tmod a.op 5==2 with
   | true =>
    show N.shopOf shop (N.bBind b a.bind).1.shops=_∧(N.bBind b a.bind).1.binds.filter _=_
    unfold N.bBind
    cases (N.shopOf a.bind.shop b.shops).2 with
    | false=>exact ⟨rfl,rfl⟩
    | true =>
     cases (N.shopOf a.bind.shop b.shops).1.sort==4 with
     | true=>exact ⟨rfl,rfl⟩
     | false =>
      cases N.name a.bind.to != 0 with
      | true=>exact ⟨rfl,rfl⟩
      | false =>
       cases N.ruleCheck (N.bindRule a.bind (N.shopOf a.bind.shop b.shops).1.sort) != 0 with
       | true=>exact ⟨rfl,rfl⟩
       | false =>
        cases b.binds.any (N.bindSame a.bind) with
        | true=>exact ⟨rfl,rfl⟩
        | false =>
         cases ile 32 b.binds.length with
         | true=>exact ⟨rfl,rfl⟩
         | false =>
          refine ⟨rfl,?_⟩
          have:=filt_off h2 b.binds []
          rw [List.append_nil] at this
          exact this
   | false =>
    cases e3:Int.tmod a.op 5==3 with
    | true =>
     show N.shopOf shop (N.bUnbind b a.bind).1.shops=_∧(N.bUnbind b a.bind).1.binds.filter _=_
     unfold N.bUnbind
     cases e:ilt (N.ixG (N.bindSame a.bind) b.binds 0) 0 with
     | true=>exact ⟨rfl,rfl⟩
     | false =>
      refine ⟨rfl,?_⟩
      show (N.cutG b.binds _).filter _=_
      rcases ixG_spec (N.bindSame a.bind) b.binds 0 with ⟨e2,_⟩ | ⟨u,x,v,e2,e3,e4,_,_⟩
      ·rw [e2] at e; cases e
      ·have hx:x.shop ≠ shop:=bindSame_eq.1 e4 ▸ h2
       rw [e3,e2,cut_at,filt_off hx]
    | false =>
     exfalso
     have t:=ilt_of h5
     have t0:Int.tmod a.op 5 ≠ 0:=fun h=>by rw [h] at e0; cases e0
     have t1:Int.tmod a.op 5 ≠ 1:=fun h=>by rw [h] at e1; cases e1
     have t2:Int.tmod a.op 5 ≠ 2:=fun h=>by rw [h] at e2; cases e2
     have t3:Int.tmod a.op 5 ≠ 3:=fun h=>by rw [h] at e3; cases e3
     have t4:=Int.tmod_nonneg (5:Int) hp
     omega
end Go.Ev

/- What the statements on exchanges share,the second part: lemmas; the function that writes numbers is a premise. -/
namespace Go.Ev
open Go Go.Proofs
set_option maxRecDepth 100000
-- FOLD
theorem ile_not (x y:Int):ile x y = !ilt y x:=by
 show ile x y = !!ile x y
 rw [Bool.not_not]
theorem ilt_max (k x y:Int):ilt k (cond (ilt x y) y x)=cond (ilt k x) true (ilt k y):=by
 cases h:ilt x y with
 | true =>
  have h:=ilt_of h
  cases h1:ilt k x with
  | true=>exact (ilt_t (by have:=ilt_of h1; omega):ilt k y=true)
  | false=>rfl
 | false =>
  have h:=ilt_nof h
  cases h1:ilt k x with
  | true=>exact h1
  | false =>
   have h1':=ilt_nof h1
   show ilt k x=ilt k y
   rw [h1,ilt_f (by omega)]
theorem light_cond {α:Type} (a b c d e:Int) (g:Bool) (x y:α):cond (ilt 40 (cond (ilt (cond (ilt (cond (ilt a b) b a) c) c (cond (ilt a b) b a)) d) d (cond (ilt (cond (ilt a b) b a) c) c (cond (ilt a b) b a)))) x (cond (ilt 100 e) x (cond (!g) x y)) =
  cond (cond (ile a 40) (cond (ile b 40) (cond (ile c 40) (cond (ile d 40) (cond (ile e 100) g false) false) false) false) false) y x:=by
 simp only [ilt_max,ile_not]
 cases ilt 40 a<;>cases ilt 40 b<;>cases ilt 40 c<;>cases ilt 40 d<;>cases ilt 100 e<;>cases g<;>rfl
theorem light14_round (r:List (List V)) (n i:Int) (K:Ex→St→Option R):evRound eLight14 31 4 { fr:=[(8,.slc [.int .u8,.str,.int .u8,.str,.str,.str,.bool,.str,.slc [.str,.int .u8,.int .i64,.str],.bool] r),(9,.int .i64 n),(10,.int .i64 i)],tab:=[] } K =
  cond (ilt i n) (cond (decide ((0:Int)≤i∧i<r.length)) (cond (N.lightRA (cRA.dec (r.getD i.toNat [])))
   (K .normal { fr:=[(8,.slc [.int .u8,.str,.int .u8,.str,.str,.str,.bool,.str,.slc [.str,.int .u8,.int .i64,.str],.bool] r),(9,.int .i64 n),(10,.int .i64 (IntKind.wrap .i64 (i+1)))],tab:=[] }) (K .ret { fr:=[(2,.bool false)],tab:=[] })) none) (K (.exit 0) { fr:=[],tab:=[] }):=by
 rw [q_light14R,light_cond]
 try rfl
theorem ok_light14:FnOk Tryz.prog 31 dLight14:=by
 refine den_okF (env_ok ((TOk.nil _).cons ok_light)) (E:=eLight14) Tryz.func31 [4] (by kernel_rfl) (one1 (rounds_of rfl fun l K q h=>?_)) fun l _ hp=>?_
 ·unfold gLight14 at h
  split at h
  ·rename_i r n i
   have h1:=(cond_none h).1; replace h:=(cond_none h).2; have h2:=(cond_none h).1; replace h:=(cond_none h).2; have h3:=(cond_none h).1; replace h:=(cond_none h).2
   have e1:=ieq_of h1
   have e2:=ieq_of h2
   subst e1 e2
   have h3:r.length≤40:=ble_of h3
   have main:=range_ind (E:=eLight14) (f:=31) (id:=4) (A:=Unit) r (fun _ i=>{ fr:=[(8,.slc [.int .u8,.str,.int .u8,.str,.str,.str,.bool,.str,.slc [.str,.int .u8,.int .i64,.str],.bool] r),(9,.int .i64 r.length),(10,.int .i64 i)],tab:=[] }) (fun _ _=>True)
    (fun _ rows K=>cond (N.lightRAs (rows.map cRA.dec)) (K (.exit 0) { fr:=[],tab:=[] }) (K .ret { fr:=[(2,.bool false)],tab:=[] })) (fun _ i _ hi=>?_) (fun _ _=>?_) () 0 (Int.le_refl _) (by omega) trivial K q (by assumption)
   ·exact main
   ·rw [List.map_cons]
    have t1:ilt (i:Int) r.length=true:=ilt_t (by omega)
    have t2:decide ((0:Int)≤i∧(i:Int)<r.length)=true:=decide_eq_true (by omega)
    have t3:IntKind.wrap .i64 ((i:Int)+1)=(i:Int)+1:=wr_i64 (by omega) (by omega)
    cases hc:N.lightRA (cRA.dec (r.getD i [])) with
    | true =>
     refine .inl ⟨(),trivial,fun K=>?_,fun K=>?_⟩
     ·rw [light14_round]
      simp only [Int.toNat_natCast,hc,t1,t2,t3,cond_true]
     ·show cond (cond (N.lightRA (cRA.dec (r.getD i []))) _ false) _ _=_
      rw [hc]; rfl
    | false =>
     refine .inr ⟨.ret,{ fr:=[(2,.bool false)],tab:=[] },by simp,fun K=>?_,fun K=>?_⟩
     ·rw [light14_round]
      simp only [Int.toNat_natCast,hc,t1,t2,cond_true,cond_false]
     ·show cond (cond (N.lightRA (cRA.dec (r.getD i []))) _ false) _ _=_
      rw [hc]; rfl
   ·refine ⟨.exit 0,{ fr:=[],tab:=[] },by simp,fun K=>?_,fun K=>rfl⟩
    rw [light14_round,ilt_f (by omega)]
    try rfl
  ·cases h
 ·refine (q_light14 l).trans ?_
  show _=some (⟨.bool (cond (ile l.length 40) (N.lightRAs l) false),[],[]⟩:DRes)
  simp only [List.length_map,dec_encs,beq_self_eq_true,cond_true,ile_not]
  cases e:ilt 40 (l.length:Int) with
  | true=>rfl
  | false =>
   have e1:Nat.ble l.length 40=true:=Nat.ble_eq_true_of_le (by have:=ilt_nof e; omega)
   rw [e1]
   cases N.lightRAs l<;>rfl
noncomputable def eAw10' : Env:=env Tryz.prog [(124,dTrue)] [] []
theorem q_aw10'  : evFn eAw10' 76 [] [] some =
 some {v:=V.bool true,bx:=[]:DRes}:=by kernel_rfl
theorem ok_aw10' (hN:FnOk Tryz.prog 158 dOutNum):FnOk Tryz.prog 76 dTrue :=
 den_okF (env_ok ((TOk.nil _).cons (ok_aw10 hN))) (E:=eAw10') Tryz.func76 [] (by kernel_rfl) none0 fun _ _ _=>q_aw10'
noncomputable def eAw14:Env:=env Tryz.prog [(73,dBMake),(74,dBBind),(36,dBLeads),(75,dTrue),(76,dTrue),(40,dEqS)] [] []
theorem q_aw14  : evFn eAw14 30 [] [] some =
 some {v:=V.bool true,bx:=[]:DRes}:=by kernel_rfl
theorem ok_aw14 (hN:FnOk Tryz.prog 158 dOutNum):FnOk Tryz.prog 30 dTrue :=
 den_okF (env_ok (((((((TOk.nil _).cons ok_eqS).cons (ok_aw10' hN)).cons ok_aw4').cons ok_bLeads).cons ok_bBind).cons ok_bMake)) (E:=eAw14) Tryz.func30 [] (by kernel_rfl) none0 fun _ _ _=>q_aw14
def dDone14:Den:=den (aCons (vAgg cBook) (aCons (vAgg cBook) (aOne (vAgg cRA)))) bNil (oTup (aCons (vAgg cBook) (aCons (vAgg cBook) (aOne vBool)))) (fun a _=>cond (smallBook a.1) (cond (smallBook a.2.1) (smallB a.2.2.bind) false) false)
 fun a _=>(((N.pStep a.1 a.2.2).1,(N.dStep a.2.1 a.2.2).1,(N.pStep a.1 a.2.2).2==(N.dStep a.2.1 a.2.2).2),())
noncomputable def eDone14:Env:=env Tryz.prog [(73,dBMake),(80,dRMakeB),(81,dBDrop),(82,dRDropB),(74,dBBind),(84,dLawTo),(83,dRBindB),(85,dBUnbind),(86,dRUnbindB),(87,dBForget),(88,dRForgetB)] [] []
theorem q_done14 (b q:HBook) (a:HRAct):evFn eDone14 35 (((aCons (vAgg cBook) (aCons (vAgg cBook) (aOne (vAgg cRA)))).enc (b,q,a))) ([]) some =
 cond (Int.tmod (HRAct.op a) (5:Int)==(0:Int)) (cond (smallBook {shops:=List.map (RCod.dec cShop) (List.map (RCod.enc cShop) (HBook.shops b)),binds:=List.map (RCod.dec cBind) (List.map (RCod.enc cBind) (HBook.binds b)):HBook}) (cond (smallBook {shops:=List.map (RCod.dec cShop) (List.map (RCod.enc cShop) (HBook.shops q)),binds:=List.map (RCod.dec cBind) (List.map (RCod.enc cBind) (HBook.binds q)):HBook}) (some {v:=V.tup [V.agg [V.slc [.str,.int .u8,.str] (List.map (RCod.enc cShop) (HBook.shops (Prod.fst (N.bMake {shops:=List.map (RCod.dec cShop) (List.map (RCod.enc cShop) (HBook.shops b)),binds:=List.map (RCod.dec cBind) (List.map (RCod.enc cBind) (HBook.binds b)):HBook} (HRAct.shop a))))),V.slc [.str,.str,.bool,.str,.slc [.str,.int .u8,.int .i64,.str],.bool] (List.map (RCod.enc cBind) (HBook.binds (Prod.fst (N.bMake {shops:=List.map (RCod.dec cShop) (List.map (RCod.enc cShop) (HBook.shops b)),binds:=List.map (RCod.dec cBind) (List.map (RCod.enc cBind) (HBook.binds b)):HBook} (HRAct.shop a)))))],V.agg [V.slc [.str,.int .u8,.str] (List.map (RCod.enc cShop) (HBook.shops (Prod.fst (N.bMake {shops:=List.map (RCod.dec cShop) (List.map (RCod.enc cShop) (HBook.shops q)),binds:=List.map (RCod.dec cBind) (List.map (RCod.enc cBind) (HBook.binds q)):HBook} (HRAct.shop a))))),V.slc [.str,.str,.bool,.str,.slc [.str,.int .u8,.int .i64,.str],.bool] (List.map (RCod.enc cBind) (HBook.binds (Prod.fst (N.bMake {shops:=List.map (RCod.dec cShop) (List.map (RCod.enc cShop) (HBook.shops q)),binds:=List.map (RCod.dec cBind) (List.map (RCod.enc cBind) (HBook.binds q)):HBook} (HRAct.shop a)))))],V.bool (Prod.snd (N.bMake {shops:=List.map (RCod.dec cShop) (List.map (RCod.enc cShop) (HBook.shops b)),binds:=List.map (RCod.dec cBind) (List.map (RCod.enc cBind) (HBook.binds b)):HBook} (HRAct.shop a))==Prod.snd (N.bMake {shops:=List.map (RCod.dec cShop) (List.map (RCod.enc cShop) (HBook.shops q)),binds:=List.map (RCod.dec cBind) (List.map (RCod.enc cBind) (HBook.binds q)):HBook} (HRAct.shop a)))],bx:=[]:DRes}) (none)) (none)) (cond (Int.tmod (HRAct.op a) (5:Int)==(1:Int)) (cond (smallBook {shops:=List.map (RCod.dec cShop) (List.map (RCod.enc cShop) (HBook.shops b)),binds:=List.map (RCod.dec cBind) (List.map (RCod.enc cBind) (HBook.binds b)):HBook}) (cond (smallBook {shops:=List.map (RCod.dec cShop) (List.map (RCod.enc cShop) (HBook.shops q)),binds:=List.map (RCod.dec cBind) (List.map (RCod.enc cBind) (HBook.binds q)):HBook}) (some {v:=V.tup [V.agg [V.slc [.str,.int .u8,.str] (List.map (RCod.enc cShop) (HBook.shops (Prod.fst (N.bDrop {shops:=List.map (RCod.dec cShop) (List.map (RCod.enc cShop) (HBook.shops b)),binds:=List.map (RCod.dec cBind) (List.map (RCod.enc cBind) (HBook.binds b)):HBook} (HShop.name (HRAct.shop a)))))),V.slc [.str,.str,.bool,.str,.slc [.str,.int .u8,.int .i64,.str],.bool] (List.map (RCod.enc cBind) (HBook.binds (Prod.fst (N.bDrop {shops:=List.map (RCod.dec cShop) (List.map (RCod.enc cShop) (HBook.shops b)),binds:=List.map (RCod.dec cBind) (List.map (RCod.enc cBind) (HBook.binds b)):HBook} (HShop.name (HRAct.shop a))))))],V.agg [V.slc [.str,.int .u8,.str] (List.map (RCod.enc cShop) (HBook.shops (Prod.fst (N.rDrop {shops:=List.map (RCod.dec cShop) (List.map (RCod.enc cShop) (HBook.shops q)),binds:=List.map (RCod.dec cBind) (List.map (RCod.enc cBind) (HBook.binds q)):HBook} (HShop.name (HRAct.shop a)))))),V.slc [.str,.str,.bool,.str,.slc [.str,.int .u8,.int .i64,.str],.bool] (List.map (RCod.enc cBind) (HBook.binds (Prod.fst (N.rDrop {shops:=List.map (RCod.dec cShop) (List.map (RCod.enc cShop) (HBook.shops q)),binds:=List.map (RCod.dec cBind) (List.map (RCod.enc cBind) (HBook.binds q)):HBook} (HShop.name (HRAct.shop a))))))],V.bool (Prod.snd (N.bDrop {shops:=List.map (RCod.dec cShop) (List.map (RCod.enc cShop) (HBook.shops b)),binds:=List.map (RCod.dec cBind) (List.map (RCod.enc cBind) (HBook.binds b)):HBook} (HShop.name (HRAct.shop a)))==Prod.snd (N.rDrop {shops:=List.map (RCod.dec cShop) (List.map (RCod.enc cShop) (HBook.shops q)),binds:=List.map (RCod.dec cBind) (List.map (RCod.enc cBind) (HBook.binds q)):HBook} (HShop.name (HRAct.shop a))))],bx:=[]:DRes}) (none)) (none)) (cond (Int.tmod (HRAct.op a) (5:Int)==(2:Int)) (cond (bif smallBook {shops:=List.map (RCod.dec cShop) (List.map (RCod.enc cShop) (HBook.shops b)),binds:=List.map (RCod.dec cBind) (List.map (RCod.enc cBind) (HBook.binds b)):HBook} then smallB {shop:=HBind.shop (HRAct.bind a),to:=HBind.to (HRAct.bind a),up:=HBind.up (HRAct.bind a),key:=HBind.key (HRAct.bind a),want:=List.map (fun r=>{key:=V.toStr (List.getD r 0 .undef),kind:=V.toInt (List.getD r 1 .undef),num:=V.toInt (List.getD r 2 .undef),text:=V.toStr (List.getD r 3 .undef):HPair}) (List.map (fun p=>[V.str (HPair.key p),V.int .u8 (HPair.kind p),V.int .i64 (HPair.num p),V.str (HPair.text p)]) (HBind.want (HRAct.bind a))),all:=HBind.all (HRAct.bind a):HBind} else false) (cond (smallB {shop:=HBind.shop (HRAct.bind a),to:=HBind.to (HRAct.bind a),up:=HBind.up (HRAct.bind a),key:=HBind.key (HRAct.bind a),want:=List.map (fun r=>{key:=V.toStr (List.getD r 0 .undef),kind:=V.toInt (List.getD r 1 .undef),num:=V.toInt (List.getD r 2 .undef),text:=V.toStr (List.getD r 3 .undef):HPair}) (List.map (fun p=>[V.str (HPair.key p),V.int .u8 (HPair.kind p),V.int .i64 (HPair.num p),V.str (HPair.text p)]) (HBind.want (HRAct.bind a))),all:=HBind.all (HRAct.bind a):HBind}) (cond (bif smallBook {shops:=List.map (RCod.dec cShop) (List.map (RCod.enc cShop) (HBook.shops q)),binds:=List.map (RCod.dec cBind) (List.map (RCod.enc cBind) (HBook.binds q)):HBook} then smallB {shop:=HBind.shop (HRAct.bind a),to:=HBind.to (HRAct.bind a),up:=HBind.up (HRAct.bind a),key:=HBind.key (HRAct.bind a),want:=List.map (fun r=>{key:=V.toStr (List.getD r 0 .undef),kind:=V.toInt (List.getD r 1 .undef),num:=V.toInt (List.getD r 2 .undef),text:=V.toStr (List.getD r 3 .undef):HPair}) (List.map (fun p=>[V.str (HPair.key p),V.int .u8 (HPair.kind p),V.int .i64 (HPair.num p),V.str (HPair.text p)]) (List.map (fun r=>{key:=V.toStr (List.getD r 0 .undef),kind:=V.toInt (List.getD r 1 .undef),num:=V.toInt (List.getD r 2 .undef),text:=V.toStr (List.getD r 3 .undef):HPair}) (List.map (fun p=>[V.str (HPair.key p),V.int .u8 (HPair.kind p),V.int .i64 (HPair.num p),V.str (HPair.text p)]) (HBind.want (HRAct.bind a))))),all:=HBind.all (HRAct.bind a):HBind} else false) (some {v:=V.tup [V.agg [V.slc [.str,.int .u8,.str] (List.map (RCod.enc cShop) (HBook.shops (Prod.fst (N.bBind {shops:=List.map (RCod.dec cShop) (List.map (RCod.enc cShop) (HBook.shops b)),binds:=List.map (RCod.dec cBind) (List.map (RCod.enc cBind) (HBook.binds b)):HBook} {shop:=HBind.shop (HRAct.bind a),to:=HBind.to (HRAct.bind a),up:=HBind.up (HRAct.bind a),key:=HBind.key (HRAct.bind a),want:=List.map (fun r=>{key:=V.toStr (List.getD r 0 .undef),kind:=V.toInt (List.getD r 1 .undef),num:=V.toInt (List.getD r 2 .undef),text:=V.toStr (List.getD r 3 .undef):HPair}) (List.map (fun p=>[V.str (HPair.key p),V.int .u8 (HPair.kind p),V.int .i64 (HPair.num p),V.str (HPair.text p)]) (HBind.want (HRAct.bind a))),all:=HBind.all (HRAct.bind a):HBind})))),V.slc [.str,.str,.bool,.str,.slc [.str,.int .u8,.int .i64,.str],.bool] (List.map (RCod.enc cBind) (HBook.binds (Prod.fst (N.bBind {shops:=List.map (RCod.dec cShop) (List.map (RCod.enc cShop) (HBook.shops b)),binds:=List.map (RCod.dec cBind) (List.map (RCod.enc cBind) (HBook.binds b)):HBook} {shop:=HBind.shop (HRAct.bind a),to:=HBind.to (HRAct.bind a),up:=HBind.up (HRAct.bind a),key:=HBind.key (HRAct.bind a),want:=List.map (fun r=>{key:=V.toStr (List.getD r 0 .undef),kind:=V.toInt (List.getD r 1 .undef),num:=V.toInt (List.getD r 2 .undef),text:=V.toStr (List.getD r 3 .undef):HPair}) (List.map (fun p=>[V.str (HPair.key p),V.int .u8 (HPair.kind p),V.int .i64 (HPair.num p),V.str (HPair.text p)]) (HBind.want (HRAct.bind a))),all:=HBind.all (HRAct.bind a):HBind}))))],V.agg [V.slc [.str,.int .u8,.str] (List.map (RCod.enc cShop) (HBook.shops (Prod.fst (N.rBind {shops:=List.map (RCod.dec cShop) (List.map (RCod.enc cShop) (HBook.shops q)),binds:=List.map (RCod.dec cBind) (List.map (RCod.enc cBind) (HBook.binds q)):HBook} {shop:=HBind.shop (HRAct.bind a),to:=HBind.to (HRAct.bind a),up:=HBind.up (HRAct.bind a),key:=HBind.key (HRAct.bind a),want:=List.map (fun r=>{key:=V.toStr (List.getD r 0 .undef),kind:=V.toInt (List.getD r 1 .undef),num:=V.toInt (List.getD r 2 .undef),text:=V.toStr (List.getD r 3 .undef):HPair}) (List.map (fun p=>[V.str (HPair.key p),V.int .u8 (HPair.kind p),V.int .i64 (HPair.num p),V.str (HPair.text p)]) (List.map (fun r=>{key:=V.toStr (List.getD r 0 .undef),kind:=V.toInt (List.getD r 1 .undef),num:=V.toInt (List.getD r 2 .undef),text:=V.toStr (List.getD r 3 .undef):HPair}) (List.map (fun p=>[V.str (HPair.key p),V.int .u8 (HPair.kind p),V.int .i64 (HPair.num p),V.str (HPair.text p)]) (HBind.want (HRAct.bind a))))),all:=HBind.all (HRAct.bind a):HBind})))),V.slc [.str,.str,.bool,.str,.slc [.str,.int .u8,.int .i64,.str],.bool] (List.map (RCod.enc cBind) (HBook.binds (Prod.fst (N.rBind {shops:=List.map (RCod.dec cShop) (List.map (RCod.enc cShop) (HBook.shops q)),binds:=List.map (RCod.dec cBind) (List.map (RCod.enc cBind) (HBook.binds q)):HBook} {shop:=HBind.shop (HRAct.bind a),to:=HBind.to (HRAct.bind a),up:=HBind.up (HRAct.bind a),key:=HBind.key (HRAct.bind a),want:=List.map (fun r=>{key:=V.toStr (List.getD r 0 .undef),kind:=V.toInt (List.getD r 1 .undef),num:=V.toInt (List.getD r 2 .undef),text:=V.toStr (List.getD r 3 .undef):HPair}) (List.map (fun p=>[V.str (HPair.key p),V.int .u8 (HPair.kind p),V.int .i64 (HPair.num p),V.str (HPair.text p)]) (List.map (fun r=>{key:=V.toStr (List.getD r 0 .undef),kind:=V.toInt (List.getD r 1 .undef),num:=V.toInt (List.getD r 2 .undef),text:=V.toStr (List.getD r 3 .undef):HPair}) (List.map (fun p=>[V.str (HPair.key p),V.int .u8 (HPair.kind p),V.int .i64 (HPair.num p),V.str (HPair.text p)]) (HBind.want (HRAct.bind a))))),all:=HBind.all (HRAct.bind a):HBind}))))],V.bool (Prod.snd (N.bBind {shops:=List.map (RCod.dec cShop) (List.map (RCod.enc cShop) (HBook.shops b)),binds:=List.map (RCod.dec cBind) (List.map (RCod.enc cBind) (HBook.binds b)):HBook} {shop:=HBind.shop (HRAct.bind a),to:=HBind.to (HRAct.bind a),up:=HBind.up (HRAct.bind a),key:=HBind.key (HRAct.bind a),want:=List.map (fun r=>{key:=V.toStr (List.getD r 0 .undef),kind:=V.toInt (List.getD r 1 .undef),num:=V.toInt (List.getD r 2 .undef),text:=V.toStr (List.getD r 3 .undef):HPair}) (List.map (fun p=>[V.str (HPair.key p),V.int .u8 (HPair.kind p),V.int .i64 (HPair.num p),V.str (HPair.text p)]) (HBind.want (HRAct.bind a))),all:=HBind.all (HRAct.bind a):HBind})==Prod.snd (N.rBind {shops:=List.map (RCod.dec cShop) (List.map (RCod.enc cShop) (HBook.shops q)),binds:=List.map (RCod.dec cBind) (List.map (RCod.enc cBind) (HBook.binds q)):HBook} {shop:=HBind.shop (HRAct.bind a),to:=HBind.to (HRAct.bind a),up:=HBind.up (HRAct.bind a),key:=HBind.key (HRAct.bind a),want:=List.map (fun r=>{key:=V.toStr (List.getD r 0 .undef),kind:=V.toInt (List.getD r 1 .undef),num:=V.toInt (List.getD r 2 .undef),text:=V.toStr (List.getD r 3 .undef):HPair}) (List.map (fun p=>[V.str (HPair.key p),V.int .u8 (HPair.kind p),V.int .i64 (HPair.num p),V.str (HPair.text p)]) (List.map (fun r=>{key:=V.toStr (List.getD r 0 .undef),kind:=V.toInt (List.getD r 1 .undef),num:=V.toInt (List.getD r 2 .undef),text:=V.toStr (List.getD r 3 .undef):HPair}) (List.map (fun p=>[V.str (HPair.key p),V.int .u8 (HPair.kind p),V.int .i64 (HPair.num p),V.str (HPair.text p)]) (HBind.want (HRAct.bind a))))),all:=HBind.all (HRAct.bind a):HBind}))],bx:=[]:DRes}) (none)) (none)) (none)) (cond (Int.tmod (HRAct.op a) (5:Int)==(3:Int)) (cond (bif smallBook {shops:=List.map (RCod.dec cShop) (List.map (RCod.enc cShop) (HBook.shops b)),binds:=List.map (RCod.dec cBind) (List.map (RCod.enc cBind) (HBook.binds b)):HBook} then smallB {shop:=HBind.shop (HRAct.bind a),to:=HBind.to (HRAct.bind a),up:=HBind.up (HRAct.bind a),key:=HBind.key (HRAct.bind a),want:=List.map (fun r=>{key:=V.toStr (List.getD r 0 .undef),kind:=V.toInt (List.getD r 1 .undef),num:=V.toInt (List.getD r 2 .undef),text:=V.toStr (List.getD r 3 .undef):HPair}) (List.map (fun p=>[V.str (HPair.key p),V.int .u8 (HPair.kind p),V.int .i64 (HPair.num p),V.str (HPair.text p)]) (HBind.want (HRAct.bind a))),all:=HBind.all (HRAct.bind a):HBind} else false) (cond (smallB {shop:=HBind.shop (HRAct.bind a),to:=HBind.to (HRAct.bind a),up:=HBind.up (HRAct.bind a),key:=HBind.key (HRAct.bind a),want:=List.map (fun r=>{key:=V.toStr (List.getD r 0 .undef),kind:=V.toInt (List.getD r 1 .undef),num:=V.toInt (List.getD r 2 .undef),text:=V.toStr (List.getD r 3 .undef):HPair}) (List.map (fun p=>[V.str (HPair.key p),V.int .u8 (HPair.kind p),V.int .i64 (HPair.num p),V.str (HPair.text p)]) (HBind.want (HRAct.bind a))),all:=HBind.all (HRAct.bind a):HBind}) (cond (bif smallBook {shops:=List.map (RCod.dec cShop) (List.map (RCod.enc cShop) (HBook.shops q)),binds:=List.map (RCod.dec cBind) (List.map (RCod.enc cBind) (HBook.binds q)):HBook} then smallB {shop:=HBind.shop (HRAct.bind a),to:=HBind.to (HRAct.bind a),up:=HBind.up (HRAct.bind a),key:=HBind.key (HRAct.bind a),want:=List.map (fun r=>{key:=V.toStr (List.getD r 0 .undef),kind:=V.toInt (List.getD r 1 .undef),num:=V.toInt (List.getD r 2 .undef),text:=V.toStr (List.getD r 3 .undef):HPair}) (List.map (fun p=>[V.str (HPair.key p),V.int .u8 (HPair.kind p),V.int .i64 (HPair.num p),V.str (HPair.text p)]) (List.map (fun r=>{key:=V.toStr (List.getD r 0 .undef),kind:=V.toInt (List.getD r 1 .undef),num:=V.toInt (List.getD r 2 .undef),text:=V.toStr (List.getD r 3 .undef):HPair}) (List.map (fun p=>[V.str (HPair.key p),V.int .u8 (HPair.kind p),V.int .i64 (HPair.num p),V.str (HPair.text p)]) (HBind.want (HRAct.bind a))))),all:=HBind.all (HRAct.bind a):HBind} else false) (some {v:=V.tup [V.agg [V.slc [.str,.int .u8,.str] (List.map (RCod.enc cShop) (HBook.shops (Prod.fst (N.bUnbind {shops:=List.map (RCod.dec cShop) (List.map (RCod.enc cShop) (HBook.shops b)),binds:=List.map (RCod.dec cBind) (List.map (RCod.enc cBind) (HBook.binds b)):HBook} {shop:=HBind.shop (HRAct.bind a),to:=HBind.to (HRAct.bind a),up:=HBind.up (HRAct.bind a),key:=HBind.key (HRAct.bind a),want:=List.map (fun r=>{key:=V.toStr (List.getD r 0 .undef),kind:=V.toInt (List.getD r 1 .undef),num:=V.toInt (List.getD r 2 .undef),text:=V.toStr (List.getD r 3 .undef):HPair}) (List.map (fun p=>[V.str (HPair.key p),V.int .u8 (HPair.kind p),V.int .i64 (HPair.num p),V.str (HPair.text p)]) (HBind.want (HRAct.bind a))),all:=HBind.all (HRAct.bind a):HBind})))),V.slc [.str,.str,.bool,.str,.slc [.str,.int .u8,.int .i64,.str],.bool] (List.map (RCod.enc cBind) (HBook.binds (Prod.fst (N.bUnbind {shops:=List.map (RCod.dec cShop) (List.map (RCod.enc cShop) (HBook.shops b)),binds:=List.map (RCod.dec cBind) (List.map (RCod.enc cBind) (HBook.binds b)):HBook} {shop:=HBind.shop (HRAct.bind a),to:=HBind.to (HRAct.bind a),up:=HBind.up (HRAct.bind a),key:=HBind.key (HRAct.bind a),want:=List.map (fun r=>{key:=V.toStr (List.getD r 0 .undef),kind:=V.toInt (List.getD r 1 .undef),num:=V.toInt (List.getD r 2 .undef),text:=V.toStr (List.getD r 3 .undef):HPair}) (List.map (fun p=>[V.str (HPair.key p),V.int .u8 (HPair.kind p),V.int .i64 (HPair.num p),V.str (HPair.text p)]) (HBind.want (HRAct.bind a))),all:=HBind.all (HRAct.bind a):HBind}))))],V.agg [V.slc [.str,.int .u8,.str] (List.map (RCod.enc cShop) (HBook.shops (Prod.fst (N.rUnbind {shops:=List.map (RCod.dec cShop) (List.map (RCod.enc cShop) (HBook.shops q)),binds:=List.map (RCod.dec cBind) (List.map (RCod.enc cBind) (HBook.binds q)):HBook} {shop:=HBind.shop (HRAct.bind a),to:=HBind.to (HRAct.bind a),up:=HBind.up (HRAct.bind a),key:=HBind.key (HRAct.bind a),want:=List.map (fun r=>{key:=V.toStr (List.getD r 0 .undef),kind:=V.toInt (List.getD r 1 .undef),num:=V.toInt (List.getD r 2 .undef),text:=V.toStr (List.getD r 3 .undef):HPair}) (List.map (fun p=>[V.str (HPair.key p),V.int .u8 (HPair.kind p),V.int .i64 (HPair.num p),V.str (HPair.text p)]) (List.map (fun r=>{key:=V.toStr (List.getD r 0 .undef),kind:=V.toInt (List.getD r 1 .undef),num:=V.toInt (List.getD r 2 .undef),text:=V.toStr (List.getD r 3 .undef):HPair}) (List.map (fun p=>[V.str (HPair.key p),V.int .u8 (HPair.kind p),V.int .i64 (HPair.num p),V.str (HPair.text p)]) (HBind.want (HRAct.bind a))))),all:=HBind.all (HRAct.bind a):HBind})))),V.slc [.str,.str,.bool,.str,.slc [.str,.int .u8,.int .i64,.str],.bool] (List.map (RCod.enc cBind) (HBook.binds (Prod.fst (N.rUnbind {shops:=List.map (RCod.dec cShop) (List.map (RCod.enc cShop) (HBook.shops q)),binds:=List.map (RCod.dec cBind) (List.map (RCod.enc cBind) (HBook.binds q)):HBook} {shop:=HBind.shop (HRAct.bind a),to:=HBind.to (HRAct.bind a),up:=HBind.up (HRAct.bind a),key:=HBind.key (HRAct.bind a),want:=List.map (fun r=>{key:=V.toStr (List.getD r 0 .undef),kind:=V.toInt (List.getD r 1 .undef),num:=V.toInt (List.getD r 2 .undef),text:=V.toStr (List.getD r 3 .undef):HPair}) (List.map (fun p=>[V.str (HPair.key p),V.int .u8 (HPair.kind p),V.int .i64 (HPair.num p),V.str (HPair.text p)]) (List.map (fun r=>{key:=V.toStr (List.getD r 0 .undef),kind:=V.toInt (List.getD r 1 .undef),num:=V.toInt (List.getD r 2 .undef),text:=V.toStr (List.getD r 3 .undef):HPair}) (List.map (fun p=>[V.str (HPair.key p),V.int .u8 (HPair.kind p),V.int .i64 (HPair.num p),V.str (HPair.text p)]) (HBind.want (HRAct.bind a))))),all:=HBind.all (HRAct.bind a):HBind}))))],V.bool (Prod.snd (N.bUnbind {shops:=List.map (RCod.dec cShop) (List.map (RCod.enc cShop) (HBook.shops b)),binds:=List.map (RCod.dec cBind) (List.map (RCod.enc cBind) (HBook.binds b)):HBook} {shop:=HBind.shop (HRAct.bind a),to:=HBind.to (HRAct.bind a),up:=HBind.up (HRAct.bind a),key:=HBind.key (HRAct.bind a),want:=List.map (fun r=>{key:=V.toStr (List.getD r 0 .undef),kind:=V.toInt (List.getD r 1 .undef),num:=V.toInt (List.getD r 2 .undef),text:=V.toStr (List.getD r 3 .undef):HPair}) (List.map (fun p=>[V.str (HPair.key p),V.int .u8 (HPair.kind p),V.int .i64 (HPair.num p),V.str (HPair.text p)]) (HBind.want (HRAct.bind a))),all:=HBind.all (HRAct.bind a):HBind})==Prod.snd (N.rUnbind {shops:=List.map (RCod.dec cShop) (List.map (RCod.enc cShop) (HBook.shops q)),binds:=List.map (RCod.dec cBind) (List.map (RCod.enc cBind) (HBook.binds q)):HBook} {shop:=HBind.shop (HRAct.bind a),to:=HBind.to (HRAct.bind a),up:=HBind.up (HRAct.bind a),key:=HBind.key (HRAct.bind a),want:=List.map (fun r=>{key:=V.toStr (List.getD r 0 .undef),kind:=V.toInt (List.getD r 1 .undef),num:=V.toInt (List.getD r 2 .undef),text:=V.toStr (List.getD r 3 .undef):HPair}) (List.map (fun p=>[V.str (HPair.key p),V.int .u8 (HPair.kind p),V.int .i64 (HPair.num p),V.str (HPair.text p)]) (List.map (fun r=>{key:=V.toStr (List.getD r 0 .undef),kind:=V.toInt (List.getD r 1 .undef),num:=V.toInt (List.getD r 2 .undef),text:=V.toStr (List.getD r 3 .undef):HPair}) (List.map (fun p=>[V.str (HPair.key p),V.int .u8 (HPair.kind p),V.int .i64 (HPair.num p),V.str (HPair.text p)]) (HBind.want (HRAct.bind a))))),all:=HBind.all (HRAct.bind a):HBind}))],bx:=[]:DRes}) (none)) (none)) (none)) (cond (smallBook {shops:=List.map (RCod.dec cShop) (List.map (RCod.enc cShop) (HBook.shops b)),binds:=List.map (RCod.dec cBind) (List.map (RCod.enc cBind) (HBook.binds b)):HBook}) (cond (smallBook {shops:=List.map (RCod.dec cShop) (List.map (RCod.enc cShop) (HBook.shops q)),binds:=List.map (RCod.dec cBind) (List.map (RCod.enc cBind) (HBook.binds q)):HBook}) (some {v:=V.tup [V.agg [V.slc [.str,.int .u8,.str] (List.map (RCod.enc cShop) (HBook.shops (N.bForget {shops:=List.map (RCod.dec cShop) (List.map (RCod.enc cShop) (HBook.shops b)),binds:=List.map (RCod.dec cBind) (List.map (RCod.enc cBind) (HBook.binds b)):HBook} (HBind.to (HRAct.bind a))))),V.slc [.str,.str,.bool,.str,.slc [.str,.int .u8,.int .i64,.str],.bool] (List.map (RCod.enc cBind) (HBook.binds (N.bForget {shops:=List.map (RCod.dec cShop) (List.map (RCod.enc cShop) (HBook.shops b)),binds:=List.map (RCod.dec cBind) (List.map (RCod.enc cBind) (HBook.binds b)):HBook} (HBind.to (HRAct.bind a)))))],V.agg [V.slc [.str,.int .u8,.str] (List.map (RCod.enc cShop) (HBook.shops (N.bForget {shops:=List.map (RCod.dec cShop) (List.map (RCod.enc cShop) (HBook.shops q)),binds:=List.map (RCod.dec cBind) (List.map (RCod.enc cBind) (HBook.binds q)):HBook} (HBind.to (HRAct.bind a))))),V.slc [.str,.str,.bool,.str,.slc [.str,.int .u8,.int .i64,.str],.bool] (List.map (RCod.enc cBind) (HBook.binds (N.bForget {shops:=List.map (RCod.dec cShop) (List.map (RCod.enc cShop) (HBook.shops q)),binds:=List.map (RCod.dec cBind) (List.map (RCod.enc cBind) (HBook.binds q)):HBook} (HBind.to (HRAct.bind a)))))],V.bool true],bx:=[]:DRes}) (none)) (none))))):=by kernel_rfl
theorem fold_bindY (x:HBind):(⟨x.shop,x.to,x.up,x.key,x.want,x.all⟩:HBind)=x:=rfl
theorem fold_book (b:HBook):(⟨b.shops,b.binds⟩:HBook)=b:=rfl
theorem ok_done14:FnOk Tryz.prog 35 dDone14:=by
 refine den_okF (env_ok ((((((((((((TOk.nil _).cons ok_rForgetB).cons ok_bForget).cons ok_rUnbindB).cons ok_bUnbind).cons ok_rBindB).cons ok_lawTo).cons ok_bBind).cons ok_rDropB).cons ok_bDrop).cons ok_rMakeB).cons ok_bMake)) (E:=eDone14) Tryz.func35 [] (by kernel_rfl) none0 fun a _ hp=>?_
 obtain ⟨b,q,a⟩:=a
 obtain ⟨h1,hp⟩:=bcond hp
 obtain ⟨h2,h3⟩:=bcond hp
 have h1:smallBook b=true:=h1
 have h2:smallBook q=true:=h2
 have h3:smallB a.bind=true:=h3
 refine (q_done14 b q a).trans ?_
 show _=some (⟨.tup [.agg (cBook.enc (N.pStep b a).1),.agg (cBook.enc (N.dStep q a).1),.bool ((N.pStep b a).2==(N.dStep q a).2)],[],[]⟩:DRes)
 unfold N.pStep N.dStep
 simp only [pairs_enc,fold_bindY,dec_encs,fold_book,h1,h2,h3,cond_true]
 cases Int.tmod a.op 5==0 with
 | true=>rfl
 | false =>
  cases Int.tmod a.op 5==1 with
  | true=>rfl
  | false =>
   cases Int.tmod a.op 5==2 with
   | true=>rfl
   | false=>cases Int.tmod a.op 5==3<;>rfl
end Go.Ev

/- Behind any acts each is answered,and the book is,what the document says: lemmas; the function that writes numbers is a premise. -/
namespace Go.Ev
open Go Go.Proofs
set_option maxRecDepth 100000
-- FOLD
def N.okRA (a:HRAct):Bool:=cond (ile 0 a.op) (ile 0 a.shop.sort) false
theorem fold_raB (r:List V):(⟨(r.getD 4 .undef).toStr,(r.getD 5 .undef).toStr,(r.getD 6 .undef).toBool,(r.getD 7 .undef).toStr,(r.getD 8 .undef).toRows.map (fun r=>({ key:=V.toStr (List.getD r 0 .undef),kind:=V.toInt (List.getD r 1 .undef),num:=V.toInt (List.getD r 2 .undef),text:=V.toStr (List.getD r 3 .undef) }:HPair)),(r.getD 9 .undef).toBool⟩:HBind)=(cRA.dec r).bind:=rfl
theorem fold_ra2 (r:List V):(⟨(r.getD 0 .undef).toInt,⟨(r.getD 1 .undef).toStr,(r.getD 2 .undef).toInt,(r.getD 3 .undef).toStr⟩,(cRA.dec r).bind⟩:HRAct)=cRA.dec r:=rfl
theorem lightRAs_at:∀ {l:List HRAct},N.lightRAs l=true→∀ a∈l,N.lightRA a=true
 | [],_,a,ha=>by cases ha
 | x::r,h,a,ha=>by
  obtain ⟨h1,h2⟩:=bcond h
  rcases List.mem_cons.1 ha with rfl | ha
  ·exact h1
  ·exact lightRAs_at h2 a ha
theorem dec_at {r:List (List V)} {i:Nat} (hi:i<r.length):cRA.dec (r.getD i [])∈r.map cRA.dec :=
 List.mem_map_of_mem (by rw [List.getD_eq_getElem?_getD,List.getElem?_eq_getElem hi]; exact List.getElem_mem hi)
theorem okRA_of {a:HRAct} (h:N.okRA a=true):0≤a.op∧0≤a.shop.sort:=by
 obtain ⟨h1,h2⟩:=bcond h
 exact ⟨ile_of h1,ile_of h2⟩
theorem ra_wf {a:HRAct} (h:wfL (cRA.enc a)=true):N.okRA a=true:=by
 have h:cond (wfV (.int .u8 a.op)) (cond (wfV (.str a.shop.name)) (cond (wfV (.int .u8 a.shop.sort)) _ false) false) false=true:=h
 obtain ⟨h1,h⟩:=bcond h
 obtain ⟨_,h⟩:=bcond h
 obtain ⟨h2,_⟩:=bcond h
 have a1:0≤a.op:=(int_wf' h1).1
 have a2:0≤a.shop.sort:=(int_wf' h2).1
 show cond (ile 0 a.op) (ile 0 a.shop.sort) false=true
 rw [ile_t a1,ile_t a2]; rfl
theorem ras_wfR:∀ l:List HRAct,wfRs (l.map cRA.enc)=true→l.all N.okRA=true
 | [],_=>rfl
 | m::r,h=>by
  have h:cond (wfL (cRA.enc m)) (wfRs (r.map cRA.enc)) false=true:=h
  obtain ⟨h1,h2⟩:=bcond h
  rw [List.all_cons,ras_wfR r h2,ra_wf h1]; rfl
theorem ras_wf {l:List HRAct} (h:wfL ((rSl cRA).enc l)=true):l.all N.okRA=true:=by
 have h:cond (cond (Nat.ble (l.map cRA.enc).length 9223372036854775807) (cond (fitsRows cRA.sh (l.map cRA.enc)) (wfRs (l.map cRA.enc)) false) false) true false=true:=h
 exact ras_wfR l (bcond (bcond (bcond h).1).2).2
end Go.Ev

/- To which queues and places any exchange leads any message: lemmas; the function that writes numbers is a premise. -/
namespace Go.Ev
open Go Go.Proofs
set_option maxRecDepth 100000
-- FOLD
def N.run:HBook→List HRAct→HBook
 | b,[]=>b
 | b,a::r=>N.run (N.pStep b a).1 r
theorem run_inv:∀ {l:List HRAct} {b:HBook},BInv b→N.lightRAs l=true→l.all N.okRA=true→BInv (N.run b l)
 | [],_,h,_,_=>h
 | a::r,b,h,hl,ho=>by
  obtain ⟨h1,h2⟩:=bcond hl
  rw [List.all_cons,Bool.and_eq_true] at ho
  show BInv (N.run (N.pStep b a).1 r)
  exact run_inv (h.step (okRA_of ho.1).2 (lightRA_bind h1)) h2 ho.2
theorem putS_le (l:List Bytes) (s:Bytes):(N.putS l s).length≤l.length+1:=by
 unfold N.putS
 cases l.any (N.eqS s)<;>simp
theorem leads_len (shop:Bytes) (sort:Int) (key:Bytes) (h:List HPair):∀ (l:List HBind) (q p:List Bytes),(N.leadsR shop sort key h l q p).1.length≤q.length+l.length∧(N.leadsR shop sort key h l q p).2.length≤p.length+l.length
 | [],q,p=>⟨Nat.le_refl _,Nat.le_refl _⟩
 | y::r,q,p=>by
  unfold N.leadsR
  have g1:=putS_le p y.to
  have g2:=putS_le q y.to
  have i1:=leads_len shop sort key h r q (N.putS p y.to)
  have i2:=leads_len shop sort key h r (N.putS q y.to) p
  have i3:=leads_len shop sort key h r q p
  rw [List.length_cons]
  cases cond (N.ofShop shop y) (N.goes (N.bindRule y sort) key h) false with
  | false=>exact ⟨by have:=i3.1; simp only [cond_false]; omega,by have:=i3.2; simp only [cond_false]; omega⟩
  | true =>
   cases y.up with
   | false=>exact ⟨by have:=i2.1; simp only [cond_true,cond_false]; omega,by have:=i2.2; simp only [cond_true,cond_false]; omega⟩
   | true=>exact ⟨by have:=i1.1; simp only [cond_true]; omega,by have:=i1.2; simp only [cond_true]; omega⟩
theorem small_leads {b:HBook} (hb:BInv b) (shop key:Bytes) (h:List HPair):small (N.bLeads b shop key h).1=true∧small (N.bLeads b shop key h).2.1=true:=by
 have hf:=hb.fewB
 have hs:∀ l:List Bytes,l.length≤100→small l=true:=fun l hl=>Nat.ble_eq_true_of_le (Nat.le_trans hl (by decide))
 unfold N.bLeads
 cases (N.shopOf shop b.shops).2 with
 | false=>exact ⟨rfl,rfl⟩
 | true =>
  cases (N.shopOf shop b.shops).1.sort==4 with
  | true=>exact ⟨rfl,hs _ (by simp)⟩
  | false =>
   obtain ⟨g1,g2⟩:=leads_len shop (N.shopOf shop b.shops).1.sort key h b.binds [] []
   have g1:(N.leadsR shop (N.shopOf shop b.shops).1.sort key h b.binds [] []).1.length≤0+b.binds.length:=g1
   have g2:(N.leadsR shop (N.shopOf shop b.shops).1.sort key h b.binds [] []).2.length≤0+b.binds.length:=g2
   exact ⟨hs _ (by simp only [cond_true,cond_false]; omega),hs _ (by simp only [cond_true,cond_false]; omega)⟩
theorem good_leads {b:HBook} (hb:BInv b) (shop:Bytes) {key:Bytes} {h:List HPair} (hk:key.length≤64) (hh:h.length≤12):goodLd b shop key h=true:=by
 have h2:b.binds.all (smallLd (N.shopOf shop b.shops).1.sort key h)=true:=List.all_eq_true.2 fun y hy=>by
  obtain ⟨l1,l2⟩:=hb.light y hy
  have e1:Nat.ble (y.key.length+1) LIM=true:=Nat.ble_eq_true_of_le (Nat.le_trans (Nat.add_le_add_right l1 1) (by decide))
  have e2:Nat.ble (key.length+1) LIM=true:=Nat.ble_eq_true_of_le (Nat.le_trans (Nat.add_le_add_right hk 1) (by decide))
  have e3:smallP y.want=true:=lightB_small ⟨l1,l2⟩
  have e4:smallP h=true:=Nat.ble_eq_true_of_le (Nat.le_trans hh (by decide))
  show cond (cond (Nat.ble (y.key.length+1) LIM) (Nat.ble (key.length+1) LIM) false) (cond (smallP y.want) (smallP h) false) false=true
  rw [e1,e2,e3,e4]; rfl
 show cond (smallBook b) _ false=true
 rw [hb.small,h2]; rfl
end Go.Ev
