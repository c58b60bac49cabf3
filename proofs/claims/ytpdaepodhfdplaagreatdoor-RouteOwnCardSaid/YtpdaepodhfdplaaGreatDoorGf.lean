/- What is done to other exchanges changes nothing in where one leads: lemmas; the function that writes numbers is a premise. -/
import Derived.Test.YtpdaepodhfdplaaGreatDoorGe
import Derived.Carry
import Derived.Test.YtpdaepodhfdplaaGreatDoorGc
import Derived.Test.YtpdaepodhfdplaaGreatDoorProg
import Derived.KernelRfl
import Derived.Shelf.Strings.Builder1
import Derived.RegionTactic
import Derived.Deep.RegionWith
namespace Go.Ev
open Go Go.Proofs
set_option maxRecDepth 100000
-- FOLD
noncomputable def goodBk (b:HBook):Bool:=@decide (BInv b) (Classical.propDecidable _)
theorem goodBk_iff {b:HBook}:goodBk b=true↔BInv b:=by
 unfold goodBk
 exact @decide_eq_true_iff _ (Classical.propDecidable _)
namespace N
def offA (shop:Bytes) (a:HRAct):Bool:=cond (ilt (Int.tmod a.op 5) 4) (cond (a.shop.name != shop) (a.bind.shop != shop) false) false
def oStep (shop:Bytes) (b:HBook) (a:HRAct):HBook:=cond (offA shop a) (pStep b a).1 b
def runO (shop:Bytes):HBook→List HRAct→HBook
 | b,[]=>b
 | b,a::r=>runO shop (oStep shop b a) r
def rowBk (p:List (List V) × List (List V)):HBook:=⟨p.1.map cShop.dec,p.2.map cBind.dec⟩
def bkRow (b:HBook):List (List V) × List (List V):=(b.shops.map cShop.enc,b.binds.map cBind.enc)
def oRow (shop:Bytes) (p:List (List V) × List (List V)) (a:HRAct):List (List V) × List (List V):=cond (offA shop a) (bkRow (pStep (rowBk p) a).1) p
def runR (shop:Bytes):List (List V) × List (List V)→List HRAct→List (List V) × List (List V)
 | p,[]=>p
 | p,a::r=>runR shop (oRow shop p a) r
end N
theorem rowBk_bkRow (b:HBook):N.rowBk (N.bkRow b)=b:=by
 show (⟨(b.shops.map cShop.enc).map cShop.dec,(b.binds.map cBind.enc).map cBind.dec⟩:HBook)=b
 rw [dec_encs,dec_encs]
theorem runR_eq (shop:Bytes):∀ (l:List HRAct) (b:HBook),N.runR shop (N.bkRow b) l=N.bkRow (N.runO shop b l)
 | [],_=>rfl
 | a::r,b=>by
  show N.runR shop (N.oRow shop (N.bkRow b) a) r=N.bkRow (N.runO shop (N.oStep shop b a) r)
  have:N.oRow shop (N.bkRow b) a=N.bkRow (N.oStep shop b a):=by
   unfold N.oRow N.oStep
   rw [rowBk_bkRow]
   cases N.offA shop a<;>rfl
  rw [this,runR_eq shop r]
theorem offA_of {shop:Bytes} {a:HRAct} (h:N.offA shop a=true):ilt (Int.tmod a.op 5) 4=true∧a.shop.name ≠ shop∧a.bind.shop ≠ shop:=by
 obtain ⟨h1,h⟩:=bcond h
 obtain ⟨h2,h3⟩:=bcond h
 exact ⟨h1,bne_iff_ne.1 h2,bne_iff_ne.1 h3⟩
theorem runO_own {shop:Bytes}:∀ (l:List HRAct) (b:HBook),l.all N.okRA=true→N.shopOf shop (N.runO shop b l).shops=N.shopOf shop b.shops∧(N.runO shop b l).binds.filter (N.ofShop shop)=b.binds.filter (N.ofShop shop)
 | [],_,_=>⟨rfl,rfl⟩
 | a::r,b,h=>by
  rw [List.all_cons,Bool.and_eq_true] at h
  obtain ⟨g1,g2⟩:=runO_own (shop:=shop) r (N.oStep shop b a) h.2
  have g:N.shopOf shop (N.oStep shop b a).shops=N.shopOf shop b.shops∧(N.oStep shop b a).binds.filter (N.ofShop shop)=b.binds.filter (N.ofShop shop):=by
   unfold N.oStep
   cases e:N.offA shop a with
   | false=>exact ⟨rfl,rfl⟩
   | true =>
    obtain ⟨o1,o2,o3⟩:=offA_of e
    exact step_own o1 (okRA_of h.1).1 o2 o3
  exact ⟨g1.trans g.1,g2.trans g.2⟩
theorem oStep_inv {shop:Bytes} {b:HBook} (h:BInv b) {a:HRAct} (ho:N.okRA a=true) (hl:N.lightRA a=true):BInv (N.oStep shop b a):=by
 unfold N.oStep
 cases N.offA shop a with
 | false=>exact h
 | true=>exact h.step (okRA_of ho).2 (lightRA_bind hl)
theorem runO_inv {shop:Bytes}:∀ {l:List HRAct} {b:HBook},BInv b→N.lightRAs l=true→l.all N.okRA=true→BInv (N.runO shop b l)
 | [],_,h,_,_=>h
 | a::r,b,h,hl,ho=>by
  obtain ⟨h1,h2⟩:=bcond hl
  rw [List.all_cons,Bool.and_eq_true] at ho
  show BInv (N.runO shop (N.oStep shop b a) r)
  exact runO_inv (oStep_inv h ho.1 h1) h2 ho.2
def schRouteOwn7:SSch:={ fr:=[(1,.slc [.int .u8,.str,.int .u8,.str,.str,.str,.bool,.str,.slc [.str,.int .u8,.int .i64,.str],.bool]),(2,.str),(3,.str),(4,.slc [.str,.int .u8,.int .i64,.str]),(11,.ptr 10000 0 0),(47,.slc [.int .u8,.str,.int .u8,.str,.str,.str,.bool,.str,.slc [.str,.int .u8,.int .i64,.str],.bool]),(48,.int .i64),(49,.int .i64)],tab:=[(10000,.var [.slc [.str,.int .u8,.str],.slc [.str,.str,.bool,.str,.slc [.str,.int .u8,.int .i64,.str],.bool]])] }
def gRouteOwn7:List Leaf→(Ex→St→Option R)→Option R
 | [.r r1,.s s2,.s s3,.r r4,.r r,.i n,.i i,.r b0,.r b1],K=>cond (n==r.length) (cond (i==0) (cond (Nat.ble r.length 40) (cond (N.lightRAs (r.map cRA.dec)) (cond ((r.map cRA.dec).all N.okRA) (cond (Nat.beq b0.length 0) (cond (Nat.beq b1.length 0) (K (.exit 0) { fr:=[(1,.slc [.int .u8,.str,.int .u8,.str,.str,.str,.bool,.str,.slc [.str,.int .u8,.int .i64,.str],.bool] r1),(2,.str s2),(3,.str s3),(4,.slc [.str,.int .u8,.int .i64,.str] r4),(11,.ptr 10000 0 0 0)],tab:=[(10000,.var [.slc [.str,.int .u8,.str] ((N.run ⟨[],[]⟩ (r.map cRA.dec)).shops.map cShop.enc),.slc [.str,.str,.bool,.str,.slc [.str,.int .u8,.int .i64,.str],.bool] ((N.run ⟨[],[]⟩ (r.map cRA.dec)).binds.map cBind.enc)])] }) none) none) none) none) none) none) none
 | _,_=>none
def schRouteOwn13:SSch:={ fr:=[(2,.str),(3,.str),(4,.slc [.str,.int .u8,.int .i64,.str]),(11,.ptr 10000 0 0),(14,.slc [.str]),(15,.slc [.str]),(16,.int .i64),(71,.slc [.int .u8,.str,.int .u8,.str,.str,.str,.bool,.str,.slc [.str,.int .u8,.int .i64,.str],.bool]),(72,.int .i64),(73,.int .i64)],tab:=[(10000,.var [.slc [.str,.int .u8,.str],.slc [.str,.str,.bool,.str,.slc [.str,.int .u8,.int .i64,.str],.bool]])] }
noncomputable def gRouteOwn13:List Leaf→(Ex→St→Option R)→Option R
 | [.s s2,.s s3,.r r4,.r r14,.r r15,.i i16,.r r,.i n,.i i,.r b0,.r b1],K=>cond (n==r.length) (cond (i==0) (cond (Nat.ble r.length 40) (cond (N.lightRAs (r.map cRA.dec)) (cond ((r.map cRA.dec).all N.okRA) (cond (goodBk ⟨b0.map cShop.dec,b1.map cBind.dec⟩) (K (.exit 2) { fr:=[(2,.str s2),(3,.str s3),(4,.slc [.str,.int .u8,.int .i64,.str] r4),(11,.ptr 10000 0 0 0),(14,.slc [.str] r14),(15,.slc [.str] r15),(16,.int .i64 i16)],tab:=[(10000,.var [.slc [.str,.int .u8,.str] (N.runR s2 (b0,b1) (r.map cRA.dec)).1,.slc [.str,.str,.bool,.str,.slc [.str,.int .u8,.int .i64,.str],.bool] (N.runR s2 (b0,b1) (r.map cRA.dec)).2])] }) none) none) none) none) none) none
 | _,_=>none
noncomputable def eRouteOwn:Env:={ env Tryz.prog [(30,dTrue),(31,dLight14),(32,dRefKey),(33,dLight),(34,dHeadCheck),(35,dDone14),(36,dBLeads),(40,dEqS)] [(13,loopF schRouteOwn13 gRouteOwn13),(7,loopF schRouteOwn7 gRouteOwn7)] [(7,[(0,[1,2,3,4,11,47,48,49]),(1,[1,2,3,4,11]),(1000,[10])]),(13,[(0,[2,3,4,11,14,15,16,71,72,73]),(3,[2,3,4,11,14,15,16]),(1000,[10])])] with fz:=true }
theorem q_routeOwn (l more:List HRAct) (shop key:Bytes) (h:List HPair):evFn eRouteOwn 9 (((aCons (vSl cRA) (aCons (vSl cRA) (aCons vStr (aCons vStr (aOne (vSl cPair)))))).enc (l,more,shop,key,h))) ([]) some =
 cond (Nat.ble (List.length (List.map (RCod.dec cRA) (List.map (RCod.enc cRA) l))) 9223372036854775807) (cond (!bif ile (↑(List.length (List.map (RCod.dec cRA) (List.map (RCod.enc cRA) l))):Int) (40:Int) then N.lightRAs (List.map (RCod.dec cRA) (List.map (RCod.enc cRA) l)) else false) (some {v:=V.bool true,bx:=[]:DRes}) (cond (Nat.ble (List.length (List.map (RCod.dec cRA) (List.map (RCod.enc cRA) more))) 9223372036854775807) (cond (!bif ile (↑(List.length (List.map (RCod.dec cRA) (List.map (RCod.enc cRA) more))):Int) (40:Int) then N.lightRAs (List.map (RCod.dec cRA) (List.map (RCod.enc cRA) more)) else false) (some {v:=V.bool true,bx:=[]:DRes}) (cond (N.refKey key false != (0:Int)) (some {v:=V.bool true,bx:=[]:DRes}) (cond (!N.light (List.map (RCod.dec cPair) (List.map (RCod.enc cPair) h))) (some {v:=V.bool true,bx:=[]:DRes}) (cond (N.headCheck (List.map (RCod.dec cPair) (List.map (RCod.enc cPair) h)) != (0:Int)) (some {v:=V.bool true,bx:=[]:DRes}) (cond ((↑(List.length (List.map (RCod.enc cRA) l)):Int)==(↑(List.length (List.map (RCod.enc cRA) l)):Int)) (cond (Nat.ble (List.length (List.map (RCod.enc cRA) l)) 40) (cond (N.lightRAs (List.map (RCod.dec cRA) (List.map (RCod.enc cRA) l))) (cond (List.all (List.map (RCod.dec cRA) (List.map (RCod.enc cRA) l)) N.okRA) (cond (goodLd {shops:=List.map (RCod.dec cShop) (List.map (RCod.enc cShop) (HBook.shops (N.run {shops:=[],binds:=[]:HBook} (List.map (RCod.dec cRA) (List.map (RCod.enc cRA) l))))),binds:=List.map (RCod.dec cBind) (List.map (RCod.enc cBind) (HBook.binds (N.run {shops:=[],binds:=[]:HBook} (List.map (RCod.dec cRA) (List.map (RCod.enc cRA) l))))):HBook} shop key (List.map (RCod.dec cPair) (List.map (RCod.enc cPair) h))) (cond ((↑(List.length (List.map (RCod.enc cRA) more)):Int)==(↑(List.length (List.map (RCod.enc cRA) more)):Int)) (cond (Nat.ble (List.length (List.map (RCod.enc cRA) more)) 40) (cond (N.lightRAs (List.map (RCod.dec cRA) (List.map (RCod.enc cRA) more))) (cond (List.all (List.map (RCod.dec cRA) (List.map (RCod.enc cRA) more)) N.okRA) (cond (goodBk {shops:=List.map (RCod.dec cShop) (List.map (RCod.enc cShop) (HBook.shops (N.run {shops:=[],binds:=[]:HBook} (List.map (RCod.dec cRA) (List.map (RCod.enc cRA) l))))),binds:=List.map (RCod.dec cBind) (List.map (RCod.enc cBind) (HBook.binds (N.run {shops:=[],binds:=[]:HBook} (List.map (RCod.dec cRA) (List.map (RCod.enc cRA) l))))):HBook}) (cond (goodLd {shops:=List.map (RCod.dec cShop) (Prod.fst (N.runR shop (List.map (RCod.enc cShop) (HBook.shops (N.run {shops:=[],binds:=[]:HBook} (List.map (RCod.dec cRA) (List.map (RCod.enc cRA) l)))),List.map (RCod.enc cBind) (HBook.binds (N.run {shops:=[],binds:=[]:HBook} (List.map (RCod.dec cRA) (List.map (RCod.enc cRA) l))))) (List.map (RCod.dec cRA) (List.map (RCod.enc cRA) more)))),binds:=List.map (RCod.dec cBind) (Prod.snd (N.runR shop (List.map (RCod.enc cShop) (HBook.shops (N.run {shops:=[],binds:=[]:HBook} (List.map (RCod.dec cRA) (List.map (RCod.enc cRA) l)))),List.map (RCod.enc cBind) (HBook.binds (N.run {shops:=[],binds:=[]:HBook} (List.map (RCod.dec cRA) (List.map (RCod.enc cRA) l))))) (List.map (RCod.dec cRA) (List.map (RCod.enc cRA) more)))):HBook} shop key (List.map (RCod.dec cPair) (List.map (RCod.enc cPair) h))) (cond (small (List.map (RCod.dec rStr) (List.map (RCod.enc rStr) (Prod.fst (N.bLeads {shops:=List.map (RCod.dec cShop) (List.map (RCod.enc cShop) (HBook.shops (N.run {shops:=[],binds:=[]:HBook} (List.map (RCod.dec cRA) (List.map (RCod.enc cRA) l))))),binds:=List.map (RCod.dec cBind) (List.map (RCod.enc cBind) (HBook.binds (N.run {shops:=[],binds:=[]:HBook} (List.map (RCod.dec cRA) (List.map (RCod.enc cRA) l))))):HBook} shop key (List.map (RCod.dec cPair) (List.map (RCod.enc cPair) h))))))) (cond (List.map (RCod.dec rStr) (List.map (RCod.enc rStr) (Prod.fst (N.bLeads {shops:=List.map (RCod.dec cShop) (List.map (RCod.enc cShop) (HBook.shops (N.run {shops:=[],binds:=[]:HBook} (List.map (RCod.dec cRA) (List.map (RCod.enc cRA) l))))),binds:=List.map (RCod.dec cBind) (List.map (RCod.enc cBind) (HBook.binds (N.run {shops:=[],binds:=[]:HBook} (List.map (RCod.dec cRA) (List.map (RCod.enc cRA) l))))):HBook} shop key (List.map (RCod.dec cPair) (List.map (RCod.enc cPair) h)))))==List.map (RCod.dec rStr) (List.map (RCod.enc rStr) (Prod.fst (N.bLeads {shops:=List.map (RCod.dec cShop) (Prod.fst (N.runR shop (List.map (RCod.enc cShop) (HBook.shops (N.run {shops:=[],binds:=[]:HBook} (List.map (RCod.dec cRA) (List.map (RCod.enc cRA) l)))),List.map (RCod.enc cBind) (HBook.binds (N.run {shops:=[],binds:=[]:HBook} (List.map (RCod.dec cRA) (List.map (RCod.enc cRA) l))))) (List.map (RCod.dec cRA) (List.map (RCod.enc cRA) more)))),binds:=List.map (RCod.dec cBind) (Prod.snd (N.runR shop (List.map (RCod.enc cShop) (HBook.shops (N.run {shops:=[],binds:=[]:HBook} (List.map (RCod.dec cRA) (List.map (RCod.enc cRA) l)))),List.map (RCod.enc cBind) (HBook.binds (N.run {shops:=[],binds:=[]:HBook} (List.map (RCod.dec cRA) (List.map (RCod.enc cRA) l))))) (List.map (RCod.dec cRA) (List.map (RCod.enc cRA) more)))):HBook} shop key (List.map (RCod.dec cPair) (List.map (RCod.enc cPair) h)))))) (cond (small (List.map (RCod.dec rStr) (List.map (RCod.enc rStr) (Prod.fst (Prod.snd (N.bLeads {shops:=List.map (RCod.dec cShop) (List.map (RCod.enc cShop) (HBook.shops (N.run {shops:=[],binds:=[]:HBook} (List.map (RCod.dec cRA) (List.map (RCod.enc cRA) l))))),binds:=List.map (RCod.dec cBind) (List.map (RCod.enc cBind) (HBook.binds (N.run {shops:=[],binds:=[]:HBook} (List.map (RCod.dec cRA) (List.map (RCod.enc cRA) l))))):HBook} shop key (List.map (RCod.dec cPair) (List.map (RCod.enc cPair) h)))))))) (cond (List.map (RCod.dec rStr) (List.map (RCod.enc rStr) (Prod.fst (Prod.snd (N.bLeads {shops:=List.map (RCod.dec cShop) (List.map (RCod.enc cShop) (HBook.shops (N.run {shops:=[],binds:=[]:HBook} (List.map (RCod.dec cRA) (List.map (RCod.enc cRA) l))))),binds:=List.map (RCod.dec cBind) (List.map (RCod.enc cBind) (HBook.binds (N.run {shops:=[],binds:=[]:HBook} (List.map (RCod.dec cRA) (List.map (RCod.enc cRA) l))))):HBook} shop key (List.map (RCod.dec cPair) (List.map (RCod.enc cPair) h))))))==List.map (RCod.dec rStr) (List.map (RCod.enc rStr) (Prod.fst (Prod.snd (N.bLeads {shops:=List.map (RCod.dec cShop) (Prod.fst (N.runR shop (List.map (RCod.enc cShop) (HBook.shops (N.run {shops:=[],binds:=[]:HBook} (List.map (RCod.dec cRA) (List.map (RCod.enc cRA) l)))),List.map (RCod.enc cBind) (HBook.binds (N.run {shops:=[],binds:=[]:HBook} (List.map (RCod.dec cRA) (List.map (RCod.enc cRA) l))))) (List.map (RCod.dec cRA) (List.map (RCod.enc cRA) more)))),binds:=List.map (RCod.dec cBind) (Prod.snd (N.runR shop (List.map (RCod.enc cShop) (HBook.shops (N.run {shops:=[],binds:=[]:HBook} (List.map (RCod.dec cRA) (List.map (RCod.enc cRA) l)))),List.map (RCod.enc cBind) (HBook.binds (N.run {shops:=[],binds:=[]:HBook} (List.map (RCod.dec cRA) (List.map (RCod.enc cRA) l))))) (List.map (RCod.dec cRA) (List.map (RCod.enc cRA) more)))):HBook} shop key (List.map (RCod.dec cPair) (List.map (RCod.enc cPair) h))))))) (some {v:=V.bool (Prod.snd (Prod.snd (N.bLeads {shops:=List.map (RCod.dec cShop) (List.map (RCod.enc cShop) (HBook.shops (N.run {shops:=[],binds:=[]:HBook} (List.map (RCod.dec cRA) (List.map (RCod.enc cRA) l))))),binds:=List.map (RCod.dec cBind) (List.map (RCod.enc cBind) (HBook.binds (N.run {shops:=[],binds:=[]:HBook} (List.map (RCod.dec cRA) (List.map (RCod.enc cRA) l))))):HBook} shop key (List.map (RCod.dec cPair) (List.map (RCod.enc cPair) h))))==Prod.snd (Prod.snd (N.bLeads {shops:=List.map (RCod.dec cShop) (Prod.fst (N.runR shop (List.map (RCod.enc cShop) (HBook.shops (N.run {shops:=[],binds:=[]:HBook} (List.map (RCod.dec cRA) (List.map (RCod.enc cRA) l)))),List.map (RCod.enc cBind) (HBook.binds (N.run {shops:=[],binds:=[]:HBook} (List.map (RCod.dec cRA) (List.map (RCod.enc cRA) l))))) (List.map (RCod.dec cRA) (List.map (RCod.enc cRA) more)))),binds:=List.map (RCod.dec cBind) (Prod.snd (N.runR shop (List.map (RCod.enc cShop) (HBook.shops (N.run {shops:=[],binds:=[]:HBook} (List.map (RCod.dec cRA) (List.map (RCod.enc cRA) l)))),List.map (RCod.enc cBind) (HBook.binds (N.run {shops:=[],binds:=[]:HBook} (List.map (RCod.dec cRA) (List.map (RCod.enc cRA) l))))) (List.map (RCod.dec cRA) (List.map (RCod.enc cRA) more)))):HBook} shop key (List.map (RCod.dec cPair) (List.map (RCod.enc cPair) h))))),bx:=[]:DRes}) (some {v:=V.bool false,bx:=[]:DRes})) (none)) (some {v:=V.bool false,bx:=[]:DRes})) (none)) (none)) (none)) (none)) (none)) (none)) (none)) (none)) (none)) (none)) (none)) (none)))))) (none))) (none):=by kernel_rfl
theorem q_routeOwnR7 (r1:List (List V)) (s2:Bytes) (s3:Bytes) (r4:List (List V)) (r47:List (List V)) (i48:Int) (i49:Int) (rx0:List (List V)) (rx0_1:List (List V)) (K:Ex→St→Option R):evRound eRouteOwn 9 7 { fr:=[(1,.slc [.int .u8,.str,.int .u8,.str,.str,.str,.bool,.str,.slc [.str,.int .u8,.int .i64,.str],.bool] r1),(2,.str s2),(3,.str s3),(4,.slc [.str,.int .u8,.int .i64,.str] r4),(11,.ptr 10000 0 0 0),(47,.slc [.int .u8,.str,.int .u8,.str,.str,.str,.bool,.str,.slc [.str,.int .u8,.int .i64,.str],.bool] r47),(48,.int .i64 i48),(49,.int .i64 i49)],tab:=[(10000,.var [.slc [.str,.int .u8,.str] rx0,.slc [.str,.str,.bool,.str,.slc [.str,.int .u8,.int .i64,.str],.bool] rx0_1])] } K =
 cond (ilt i49 i48) (cond (decide ((0:Int)≤i49∧i49<(↑(List.length r47):Int))) (cond (bif smallBook {shops:=List.map (RCod.dec cShop) rx0,binds:=List.map (RCod.dec cBind) rx0_1:HBook} then bif smallBook {shops:=List.map (RCod.dec cShop) [],binds:=List.map (RCod.dec cBind) []:HBook} then smallB {shop:=V.toStr (List.getD (List.getD r47 (Int.toNat i49) []) 4 V.undef),to:=V.toStr (List.getD (List.getD r47 (Int.toNat i49) []) 5 V.undef),up:=V.toBool (List.getD (List.getD r47 (Int.toNat i49) []) 6 V.undef),key:=V.toStr (List.getD (List.getD r47 (Int.toNat i49) []) 7 V.undef),want:=List.map (fun r=>{key:=V.toStr (List.getD r 0 .undef),kind:=V.toInt (List.getD r 1 .undef),num:=V.toInt (List.getD r 2 .undef),text:=V.toStr (List.getD r 3 .undef):HPair}) (V.toRows (List.getD (List.getD r47 (Int.toNat i49) []) 8 V.undef)),all:=V.toBool (List.getD (List.getD r47 (Int.toNat i49) []) 9 V.undef):HBind} else false else false) (K Ex.normal {fr:=[(1,V.slc [.int .u8,.str,.int .u8,.str,.str,.str,.bool,.str,.slc [.str,.int .u8,.int .i64,.str],.bool] r1),(2,V.str s2),(3,V.str s3),(4,V.slc [.str,.int .u8,.int .i64,.str] r4),(11,V.ptr 10000 0 0 0),(47,V.slc [.int .u8,.str,.int .u8,.str,.str,.str,.bool,.str,.slc [.str,.int .u8,.int .i64,.str],.bool] r47),(48,V.int .i64 i48),(49,V.int .i64 (IntKind.wrap .i64 (i49+(1:Int))))],tab:=[(10000,Box.var [V.slc [.str,.int .u8,.str] (List.map (RCod.enc cShop) (HBook.shops (Prod.fst (N.pStep {shops:=List.map (RCod.dec cShop) rx0,binds:=List.map (RCod.dec cBind) rx0_1:HBook} {op:=V.toInt (List.getD (List.getD r47 (Int.toNat i49) []) 0 V.undef),shop:={name:=V.toStr (List.getD (List.getD r47 (Int.toNat i49) []) 1 V.undef),sort:=V.toInt (List.getD (List.getD r47 (Int.toNat i49) []) 2 V.undef),to:=V.toStr (List.getD (List.getD r47 (Int.toNat i49) []) 3 V.undef):HShop},bind:={shop:=V.toStr (List.getD (List.getD r47 (Int.toNat i49) []) 4 V.undef),to:=V.toStr (List.getD (List.getD r47 (Int.toNat i49) []) 5 V.undef),up:=V.toBool (List.getD (List.getD r47 (Int.toNat i49) []) 6 V.undef),key:=V.toStr (List.getD (List.getD r47 (Int.toNat i49) []) 7 V.undef),want:=List.map (fun r=>{key:=V.toStr (List.getD r 0 .undef),kind:=V.toInt (List.getD r 1 .undef),num:=V.toInt (List.getD r 2 .undef),text:=V.toStr (List.getD r 3 .undef):HPair}) (V.toRows (List.getD (List.getD r47 (Int.toNat i49) []) 8 V.undef)),all:=V.toBool (List.getD (List.getD r47 (Int.toNat i49) []) 9 V.undef):HBind}:HRAct})))),V.slc [.str,.str,.bool,.str,.slc [.str,.int .u8,.int .i64,.str],.bool] (List.map (RCod.enc cBind) (HBook.binds (Prod.fst (N.pStep {shops:=List.map (RCod.dec cShop) rx0,binds:=List.map (RCod.dec cBind) rx0_1:HBook} {op:=V.toInt (List.getD (List.getD r47 (Int.toNat i49) []) 0 V.undef),shop:={name:=V.toStr (List.getD (List.getD r47 (Int.toNat i49) []) 1 V.undef),sort:=V.toInt (List.getD (List.getD r47 (Int.toNat i49) []) 2 V.undef),to:=V.toStr (List.getD (List.getD r47 (Int.toNat i49) []) 3 V.undef):HShop},bind:={shop:=V.toStr (List.getD (List.getD r47 (Int.toNat i49) []) 4 V.undef),to:=V.toStr (List.getD (List.getD r47 (Int.toNat i49) []) 5 V.undef),up:=V.toBool (List.getD (List.getD r47 (Int.toNat i49) []) 6 V.undef),key:=V.toStr (List.getD (List.getD r47 (Int.toNat i49) []) 7 V.undef),want:=List.map (fun r=>{key:=V.toStr (List.getD r 0 .undef),kind:=V.toInt (List.getD r 1 .undef),num:=V.toInt (List.getD r 2 .undef),text:=V.toStr (List.getD r 3 .undef):HPair}) (V.toRows (List.getD (List.getD r47 (Int.toNat i49) []) 8 V.undef)),all:=V.toBool (List.getD (List.getD r47 (Int.toNat i49) []) 9 V.undef):HBind}:HRAct}))))])]:St}) (none)) (none)) (K (Ex.exit 0) {fr:=[(1,V.slc [.int .u8,.str,.int .u8,.str,.str,.str,.bool,.str,.slc [.str,.int .u8,.int .i64,.str],.bool] r1),(2,V.str s2),(3,V.str s3),(4,V.slc [.str,.int .u8,.int .i64,.str] r4),(11,V.ptr 10000 0 0 0)],tab:=[(10000,Box.var [V.slc [.str,.int .u8,.str] rx0,V.slc [.str,.str,.bool,.str,.slc [.str,.int .u8,.int .i64,.str],.bool] rx0_1])]:St}):=by kernel_rfl
theorem q_routeOwnR13 (s2:Bytes) (s3:Bytes) (r4:List (List V)) (r14:List (List V)) (r15:List (List V)) (i16:Int) (r71:List (List V)) (i72:Int) (i73:Int) (rx0:List (List V)) (rx0_1:List (List V)) (K:Ex→St→Option R):evRound eRouteOwn 9 13 { fr:=[(2,.str s2),(3,.str s3),(4,.slc [.str,.int .u8,.int .i64,.str] r4),(11,.ptr 10000 0 0 0),(14,.slc [.str] r14),(15,.slc [.str] r15),(16,.int .i64 i16),(71,.slc [.int .u8,.str,.int .u8,.str,.str,.str,.bool,.str,.slc [.str,.int .u8,.int .i64,.str],.bool] r71),(72,.int .i64 i72),(73,.int .i64 i73)],tab:=[(10000,.var [.slc [.str,.int .u8,.str] rx0,.slc [.str,.str,.bool,.str,.slc [.str,.int .u8,.int .i64,.str],.bool] rx0_1])] } K =
 cond (ilt i73 i72) (cond (decide ((0:Int)≤i73∧i73<(↑(List.length r71):Int))) (cond (ilt (Int.tmod (V.toInt (List.getD (List.getD r71 (Int.toNat i73) []) 0 V.undef)) (5:Int)) (4:Int)) (cond (!V.toStr (List.getD (List.getD r71 (Int.toNat i73) []) 1 V.undef)==s2) (cond (!V.toStr (List.getD (List.getD r71 (Int.toNat i73) []) 4 V.undef)==s2) (cond (bif smallBook {shops:=List.map (RCod.dec cShop) rx0,binds:=List.map (RCod.dec cBind) rx0_1:HBook} then bif smallBook {shops:=List.map (RCod.dec cShop) [],binds:=List.map (RCod.dec cBind) []:HBook} then smallB {shop:=V.toStr (List.getD (List.getD r71 (Int.toNat i73) []) 4 V.undef),to:=V.toStr (List.getD (List.getD r71 (Int.toNat i73) []) 5 V.undef),up:=V.toBool (List.getD (List.getD r71 (Int.toNat i73) []) 6 V.undef),key:=V.toStr (List.getD (List.getD r71 (Int.toNat i73) []) 7 V.undef),want:=List.map (fun r=>{key:=V.toStr (List.getD r 0 .undef),kind:=V.toInt (List.getD r 1 .undef),num:=V.toInt (List.getD r 2 .undef),text:=V.toStr (List.getD r 3 .undef):HPair}) (V.toRows (List.getD (List.getD r71 (Int.toNat i73) []) 8 V.undef)),all:=V.toBool (List.getD (List.getD r71 (Int.toNat i73) []) 9 V.undef):HBind} else false else false) (K Ex.normal {fr:=[(2,V.str s2),(3,V.str s3),(4,V.slc [.str,.int .u8,.int .i64,.str] r4),(11,V.ptr 10000 0 0 0),(14,V.slc [.str] r14),(15,V.slc [.str] r15),(16,V.int .i64 i16),(71,V.slc [.int .u8,.str,.int .u8,.str,.str,.str,.bool,.str,.slc [.str,.int .u8,.int .i64,.str],.bool] r71),(72,V.int .i64 i72),(73,V.int .i64 (IntKind.wrap .i64 (i73+(1:Int))))],tab:=[(10000,Box.var [V.slc [.str,.int .u8,.str] (List.map (RCod.enc cShop) (HBook.shops (Prod.fst (N.pStep {shops:=List.map (RCod.dec cShop) rx0,binds:=List.map (RCod.dec cBind) rx0_1:HBook} {op:=V.toInt (List.getD (List.getD r71 (Int.toNat i73) []) 0 V.undef),shop:={name:=V.toStr (List.getD (List.getD r71 (Int.toNat i73) []) 1 V.undef),sort:=V.toInt (List.getD (List.getD r71 (Int.toNat i73) []) 2 V.undef),to:=V.toStr (List.getD (List.getD r71 (Int.toNat i73) []) 3 V.undef):HShop},bind:={shop:=V.toStr (List.getD (List.getD r71 (Int.toNat i73) []) 4 V.undef),to:=V.toStr (List.getD (List.getD r71 (Int.toNat i73) []) 5 V.undef),up:=V.toBool (List.getD (List.getD r71 (Int.toNat i73) []) 6 V.undef),key:=V.toStr (List.getD (List.getD r71 (Int.toNat i73) []) 7 V.undef),want:=List.map (fun r=>{key:=V.toStr (List.getD r 0 .undef),kind:=V.toInt (List.getD r 1 .undef),num:=V.toInt (List.getD r 2 .undef),text:=V.toStr (List.getD r 3 .undef):HPair}) (V.toRows (List.getD (List.getD r71 (Int.toNat i73) []) 8 V.undef)),all:=V.toBool (List.getD (List.getD r71 (Int.toNat i73) []) 9 V.undef):HBind}:HRAct})))),V.slc [.str,.str,.bool,.str,.slc [.str,.int .u8,.int .i64,.str],.bool] (List.map (RCod.enc cBind) (HBook.binds (Prod.fst (N.pStep {shops:=List.map (RCod.dec cShop) rx0,binds:=List.map (RCod.dec cBind) rx0_1:HBook} {op:=V.toInt (List.getD (List.getD r71 (Int.toNat i73) []) 0 V.undef),shop:={name:=V.toStr (List.getD (List.getD r71 (Int.toNat i73) []) 1 V.undef),sort:=V.toInt (List.getD (List.getD r71 (Int.toNat i73) []) 2 V.undef),to:=V.toStr (List.getD (List.getD r71 (Int.toNat i73) []) 3 V.undef):HShop},bind:={shop:=V.toStr (List.getD (List.getD r71 (Int.toNat i73) []) 4 V.undef),to:=V.toStr (List.getD (List.getD r71 (Int.toNat i73) []) 5 V.undef),up:=V.toBool (List.getD (List.getD r71 (Int.toNat i73) []) 6 V.undef),key:=V.toStr (List.getD (List.getD r71 (Int.toNat i73) []) 7 V.undef),want:=List.map (fun r=>{key:=V.toStr (List.getD r 0 .undef),kind:=V.toInt (List.getD r 1 .undef),num:=V.toInt (List.getD r 2 .undef),text:=V.toStr (List.getD r 3 .undef):HPair}) (V.toRows (List.getD (List.getD r71 (Int.toNat i73) []) 8 V.undef)),all:=V.toBool (List.getD (List.getD r71 (Int.toNat i73) []) 9 V.undef):HBind}:HRAct}))))])]:St}) (none)) (K Ex.normal {fr:=[(2,V.str s2),(3,V.str s3),(4,V.slc [.str,.int .u8,.int .i64,.str] r4),(11,V.ptr 10000 0 0 0),(14,V.slc [.str] r14),(15,V.slc [.str] r15),(16,V.int .i64 i16),(71,V.slc [.int .u8,.str,.int .u8,.str,.str,.str,.bool,.str,.slc [.str,.int .u8,.int .i64,.str],.bool] r71),(72,V.int .i64 i72),(73,V.int .i64 (IntKind.wrap .i64 (i73+(1:Int))))],tab:=[(10000,Box.var [V.slc [.str,.int .u8,.str] rx0,V.slc [.str,.str,.bool,.str,.slc [.str,.int .u8,.int .i64,.str],.bool] rx0_1])]:St})) (K Ex.normal {fr:=[(2,V.str s2),(3,V.str s3),(4,V.slc [.str,.int .u8,.int .i64,.str] r4),(11,V.ptr 10000 0 0 0),(14,V.slc [.str] r14),(15,V.slc [.str] r15),(16,V.int .i64 i16),(71,V.slc [.int .u8,.str,.int .u8,.str,.str,.str,.bool,.str,.slc [.str,.int .u8,.int .i64,.str],.bool] r71),(72,V.int .i64 i72),(73,V.int .i64 (IntKind.wrap .i64 (i73+(1:Int))))],tab:=[(10000,Box.var [V.slc [.str,.int .u8,.str] rx0,V.slc [.str,.str,.bool,.str,.slc [.str,.int .u8,.int .i64,.str],.bool] rx0_1])]:St})) (K Ex.normal {fr:=[(2,V.str s2),(3,V.str s3),(4,V.slc [.str,.int .u8,.int .i64,.str] r4),(11,V.ptr 10000 0 0 0),(14,V.slc [.str] r14),(15,V.slc [.str] r15),(16,V.int .i64 i16),(71,V.slc [.int .u8,.str,.int .u8,.str,.str,.str,.bool,.str,.slc [.str,.int .u8,.int .i64,.str],.bool] r71),(72,V.int .i64 i72),(73,V.int .i64 (IntKind.wrap .i64 (i73+(1:Int))))],tab:=[(10000,Box.var [V.slc [.str,.int .u8,.str] rx0,V.slc [.str,.str,.bool,.str,.slc [.str,.int .u8,.int .i64,.str],.bool] rx0_1])]:St})) (none)) (K (Ex.exit 2) {fr:=[(2,V.str s2),(3,V.str s3),(4,V.slc [.str,.int .u8,.int .i64,.str] r4),(11,V.ptr 10000 0 0 0),(14,V.slc [.str] r14),(15,V.slc [.str] r15),(16,V.int .i64 i16)],tab:=[(10000,Box.var [V.slc [.str,.int .u8,.str] rx0,V.slc [.str,.str,.bool,.str,.slc [.str,.int .u8,.int .i64,.str],.bool] rx0_1])]:St}):=by kernel_rfl
theorem fold_rowBk (a b:List (List V)):(⟨a.map cShop.dec,b.map cBind.dec⟩:HBook)=N.rowBk (a,b):=rfl
theorem ok_routeOwn_7:RoundsOk eRouteOwn 9 7:=by
 refine rounds_of rfl fun l K q h=>?_
 unfold gRouteOwn7 at h
 split at h
 ·rename_i r1 s2 s3 r4 r n i b0 b1
  have h1:=(cond_none h).1; replace h:=(cond_none h).2; have h2:=(cond_none h).1; replace h:=(cond_none h).2; have h3:=(cond_none h).1; replace h:=(cond_none h).2; have h4:=(cond_none h).1; replace h:=(cond_none h).2; have h5:=(cond_none h).1; replace h:=(cond_none h).2; have h6:=(cond_none h).1; replace h:=(cond_none h).2; have h7:=(cond_none h).1; replace h:=(cond_none h).2
  have e1:=ieq_of h1
  have e2:=ieq_of h2
  have e3:=List.eq_nil_of_length_eq_zero (nbeq_of h6)
  have e4:=List.eq_nil_of_length_eq_zero (nbeq_of h7)
  subst e1 e2 e3 e4
  have h3:r.length≤40:=ble_of h3
  have main:=range_ind (E:=eRouteOwn) (f:=9) (id:=7) (A:=HBook) r (fun a i=>{ fr:=[(1,.slc [.int .u8,.str,.int .u8,.str,.str,.str,.bool,.str,.slc [.str,.int .u8,.int .i64,.str],.bool] r1),(2,.str s2),(3,.str s3),(4,.slc [.str,.int .u8,.int .i64,.str] r4),(11,.ptr 10000 0 0 0),(47,.slc [.int .u8,.str,.int .u8,.str,.str,.str,.bool,.str,.slc [.str,.int .u8,.int .i64,.str],.bool] r),(48,.int .i64 r.length),(49,.int .i64 i)],tab:=[(10000,.var [.slc [.str,.int .u8,.str] (a.shops.map cShop.enc),.slc [.str,.str,.bool,.str,.slc [.str,.int .u8,.int .i64,.str],.bool] (a.binds.map cBind.enc)])] }) (fun a _=>BInv a)
   (fun a rows K=>K (.exit 0) { fr:=[(1,.slc [.int .u8,.str,.int .u8,.str,.str,.str,.bool,.str,.slc [.str,.int .u8,.int .i64,.str],.bool] r1),(2,.str s2),(3,.str s3),(4,.slc [.str,.int .u8,.int .i64,.str] r4),(11,.ptr 10000 0 0 0)],tab:=[(10000,.var [.slc [.str,.int .u8,.str] ((N.run a (rows.map cRA.dec)).shops.map cShop.enc),.slc [.str,.str,.bool,.str,.slc [.str,.int .u8,.int .i64,.str],.bool] ((N.run a (rows.map cRA.dec)).binds.map cBind.enc)])] }) (fun a i ha hi=>?_) (fun a ha=>?_) ⟨[],[]⟩ 0 (Int.le_refl _) (by omega) BInv.nil K q (by assumption)
  ·exact main
  ·have hq:=fun K=>q_routeOwnR7 r1 s2 s3 r4 r r.length i (a.shops.map cShop.enc) (a.binds.map cBind.enc) K
   have t1:ilt (i:Int) r.length=true:=ilt_t (by omega)
   have t2:decide ((0:Int)≤i∧(i:Int)<r.length)=true:=decide_eq_true (by omega)
   have t3:IntKind.wrap .i64 ((i:Int)+1)=(i:Int)+1:=wr_i64 (by omega) (by omega)
   have m:=dec_at hi
   have hl:=lightRA_bind (lightRAs_at h4 _ m)
   have ho:=(okRA_of (List.all_eq_true.1 h5 _ m)).2
   have hn:=ha.step ho hl
   simp only [Int.toNat_natCast,fold_raB,fold_ra2,dec_encs,fold_book,List.map_nil] at hq
   refine .inl ⟨_,hn,fun K=>?_,fun K=>rfl⟩
   rw [hq]
   simp only [t1,t2,t3,ha.small,BInv.nil.small,lightB_small hl,cond_true]
  ·refine ⟨.exit 0,{ fr:=[(1,.slc [.int .u8,.str,.int .u8,.str,.str,.str,.bool,.str,.slc [.str,.int .u8,.int .i64,.str],.bool] r1),(2,.str s2),(3,.str s3),(4,.slc [.str,.int .u8,.int .i64,.str] r4),(11,.ptr 10000 0 0 0)],tab:=[(10000,.var [.slc [.str,.int .u8,.str] (a.shops.map cShop.enc),.slc [.str,.str,.bool,.str,.slc [.str,.int .u8,.int .i64,.str],.bool] (a.binds.map cBind.enc)])] },by simp,fun K=>?_,fun K=>rfl⟩
   rw [q_routeOwnR7,ilt_f (by omega),cond_false]
 ·cases h
theorem ok_routeOwn_13:RoundsOk eRouteOwn 9 13:=by
 refine rounds_of rfl fun l K q h=>?_
 unfold gRouteOwn13 at h
 split at h
 ·rename_i s2 s3 r4 r14 r15 i16 r n i b0 b1
  have h1:=(cond_none h).1; replace h:=(cond_none h).2; have h2:=(cond_none h).1; replace h:=(cond_none h).2; have h3:=(cond_none h).1; replace h:=(cond_none h).2; have h4:=(cond_none h).1; replace h:=(cond_none h).2; have h5:=(cond_none h).1; replace h:=(cond_none h).2; have h6:=(cond_none h).1; replace h:=(cond_none h).2
  have e1:=ieq_of h1
  have e2:=ieq_of h2
  subst e1 e2
  have h3:r.length≤40:=ble_of h3
  have hb:=goodBk_iff.1 h6
  have main:=range_ind (E:=eRouteOwn) (f:=9) (id:=13) (A:=List (List V) × List (List V)) r (fun a i=>{ fr:=[(2,.str s2),(3,.str s3),(4,.slc [.str,.int .u8,.int .i64,.str] r4),(11,.ptr 10000 0 0 0),(14,.slc [.str] r14),(15,.slc [.str] r15),(16,.int .i64 i16),(71,.slc [.int .u8,.str,.int .u8,.str,.str,.str,.bool,.str,.slc [.str,.int .u8,.int .i64,.str],.bool] r),(72,.int .i64 r.length),(73,.int .i64 i)],tab:=[(10000,.var [.slc [.str,.int .u8,.str] a.1,.slc [.str,.str,.bool,.str,.slc [.str,.int .u8,.int .i64,.str],.bool] a.2])] }) (fun a _=>BInv (N.rowBk a))
   (fun a rows K=>K (.exit 2) { fr:=[(2,.str s2),(3,.str s3),(4,.slc [.str,.int .u8,.int .i64,.str] r4),(11,.ptr 10000 0 0 0),(14,.slc [.str] r14),(15,.slc [.str] r15),(16,.int .i64 i16)],tab:=[(10000,.var [.slc [.str,.int .u8,.str] (N.runR s2 a (rows.map cRA.dec)).1,.slc [.str,.str,.bool,.str,.slc [.str,.int .u8,.int .i64,.str],.bool] (N.runR s2 a (rows.map cRA.dec)).2])] }) (fun a i ha hi=>?_) (fun a ha=>?_) (b0,b1) 0 (Int.le_refl _) (by omega) hb K q (by assumption)
  ·exact main
  ·have hq:=fun K=>q_routeOwnR13 s2 s3 r4 r14 r15 i16 r r.length i a.1 a.2 K
   have t1:ilt (i:Int) r.length=true:=ilt_t (by omega)
   have t2:decide ((0:Int)≤i∧(i:Int)<r.length)=true:=decide_eq_true (by omega)
   have t3:IntKind.wrap .i64 ((i:Int)+1)=(i:Int)+1:=wr_i64 (by omega) (by omega)
   have m:=dec_at hi
   have hl:=lightRA_bind (lightRAs_at h4 _ m)
   have ho:=(okRA_of (List.all_eq_true.1 h5 _ m)).2
   have hn:=ha.step ho hl
   have y0:V.toInt (List.getD (r.getD i []) 0 .undef)=(cRA.dec (r.getD i [])).op:=rfl
   have y1:V.toStr (List.getD (r.getD i []) 1 .undef)=(cRA.dec (r.getD i [])).shop.name:=rfl
   have y2:V.toStr (List.getD (r.getD i []) 4 .undef)=(cRA.dec (r.getD i [])).bind.shop:=rfl
   simp only [Int.toNat_natCast,fold_raB,fold_ra2,fold_rowBk,List.map_nil] at hq
   simp only [y0,y1,y2] at hq
   rw [List.map_cons]
   generalize cRA.dec (r.getD i [])=c at hq hl hn ⊢
   cases e1:N.offA s2 c with
   | true =>
    obtain ⟨o1,o2⟩:=bcond e1
    obtain ⟨o2,o3⟩:=bcond o2
    have o2:(!c.shop.name==s2)=true:=o2
    have o3:(!c.bind.shop==s2)=true:=o3
    refine .inl ⟨N.bkRow (N.pStep (N.rowBk a) c).1,by rw [rowBk_bkRow]; exact hn,fun K=>?_,fun K=>?_⟩
    ·rw [hq]
     simp only [t1,t2,t3,o1,o2,o3,ha.small,BInv.nil.small,lightB_small hl,cond_true]
     try rfl
    ·have hc:∀ l,N.runR s2 a (c::l)=N.runR s2 (cond (N.offA s2 c) (N.bkRow (N.pStep (N.rowBk a) c).1) a) l:=fun _=>rfl
     rw [hc,e1,cond_true]
   | false =>
    refine .inl ⟨a,ha,fun K=>?_,fun K=>?_⟩
    ·rw [hq]
     simp only [t1,t2,t3,cond_true]
     have e1:cond (ilt (Int.tmod c.op 5) 4) (cond (!c.shop.name==s2) (!c.bind.shop==s2) false) false=false:=e1
     revert e1
     cases ilt (Int.tmod c.op 5) 4 with
     | false=>intro _; rfl
     | true =>
      cases !c.shop.name==s2 with
      | false=>intro _; rfl
      | true =>
       cases !c.bind.shop==s2 with
       | false=>intro _; rfl
       | true=>intro h; cases h
    ·have hc:∀ l,N.runR s2 a (c::l)=N.runR s2 (cond (N.offA s2 c) (N.bkRow (N.pStep (N.rowBk a) c).1) a) l:=fun _=>rfl
     rw [hc,e1,cond_false]
  ·refine ⟨.exit 2,{ fr:=[(2,.str s2),(3,.str s3),(4,.slc [.str,.int .u8,.int .i64,.str] r4),(11,.ptr 10000 0 0 0),(14,.slc [.str] r14),(15,.slc [.str] r15),(16,.int .i64 i16)],tab:=[(10000,.var [.slc [.str,.int .u8,.str] a.1,.slc [.str,.str,.bool,.str,.slc [.str,.int .u8,.int .i64,.str],.bool] a.2])] },by simp,fun K=>?_,fun K=>rfl⟩
   rw [q_routeOwnR13,ilt_f (by omega),cond_false]
 ·cases h
theorem fold_bkRow (b:HBook):(b.shops.map cShop.enc,b.binds.map cBind.enc)=N.bkRow b:=rfl
theorem fold_bkRow2 (b:HBook):(⟨(N.bkRow b).1.map cShop.dec,(N.bkRow b).2.map cBind.dec⟩:HBook)=b:=rowBk_bkRow b
theorem ok_routeOwn (hN:FnOk Tryz.prog 158 dOutNum):FnOk Tryz.prog 9 (den (aCons (vSl cRA) (aCons (vSl cRA) (aCons vStr (aCons vStr (aOne (vSl cPair)))))) bNil (oV vBool) (fun a _=>cond (cond (Nat.ble a.1.length 9223372036854775807) (a.1.all N.okRA) false) (cond (Nat.ble a.2.1.length 9223372036854775807) (a.2.1.all N.okRA) false) false) fun _ _=>(true,())):=by
 refine den_okF (env_ok (((((((((TOk.nil _).cons ok_eqS).cons ok_bLeads).cons ok_done14).cons ok_refCheck).cons ok_light).cons ok_refKey).cons ok_light14).cons (ok_aw14 hN))) (E:=eRouteOwn) Tryz.func9 [7,13] (by kernel_rfl) (two2 ok_routeOwn_7 ok_routeOwn_13) fun a _ hp=>?_
 obtain ⟨l,more,shop,key,h⟩:=a
 obtain ⟨hp,hq⟩:=bcond hp
 obtain ⟨p1,p2⟩:=bcond hp
 obtain ⟨p3,p4⟩:=bcond hq
 have p1:Nat.ble l.length 9223372036854775807=true:=p1
 have p2:l.all N.okRA=true:=p2
 have p3:Nat.ble more.length 9223372036854775807=true:=p3
 have p4:more.all N.okRA=true:=p4
 refine (q_routeOwn l more shop key h).trans ?_
 simp only [dec_encs,fold_book,fold_bkRow,runR_eq,fold_bkRow2,List.length_map,p1,p2,p3,p4,beq_self_eq_true,cond_true]
 cases e1:ile (l.length:Int) 40 with
 | false=>rfl
 | true =>
  have e2:Nat.ble l.length 40=true:=Nat.ble_eq_true_of_le (by have:=ile_of e1; omega)
  cases e3:N.lightRAs l with
  | false=>rfl
  | true =>
   cases f1:ile (more.length:Int) 40 with
   | false=>rfl
   | true =>
    have f2:Nat.ble more.length 40=true:=Nat.ble_eq_true_of_le (by have:=ile_of f1; omega)
    cases f3:N.lightRAs more with
    | false=>rfl
    | true =>
     cases e4:N.refKey key false != 0 with
     | true=>rfl
     | false =>
      cases e5:N.light h with
      | false=>rfl
      | true =>
       cases e6:N.headCheck h != 0 with
       | true=>rfl
       | false =>
        have hb:=run_inv BInv.nil e3 p2
        generalize N.run ⟨[],[]⟩ l=b at hb ⊢
        have hc:=runO_inv (shop:=shop) hb f3 p4
        obtain ⟨o1,o2⟩:=runO_own (shop:=shop) more b p4
        have ho:=leads_of o1 o2 key h
        have g1:=good_leads hb shop (refKey_len e4) (light_small e5)
        have g2:=good_leads hc shop (refKey_len e4) (light_small e5)
        have g3:=goodBk_iff.2 hb
        obtain ⟨s1,s2⟩:=small_leads hb shop key h
        simp only [e2,f2,g1,g2,g3,ho,s1,s2,Bool.not_true,cond_true,cond_false,beq_self_eq_true]
        try rfl
end Go.Ev

/- Five arguments opened and shut: lemmas. -/
namespace Go.Ev
open Go Go.RowKit Go.WideShapes Go.ChangeShapes
variable {H:Type} {enc:TypeId × Value→H} {P:Program} {w:World} {base:Nat} {spare:Nat→Bool} {held:Bool}
theorem trodAll_five {t t' t'' t3 t4:TypeId} {args:Array Value} {ds:List (DataW H)} {ps:List MemPlace} (h:DataW.TrodAll enc P w base spare held [t,t',t'',t3,t4] args.toList ds ps) :
  ∃ v v' v'' v3 v4 d d' d'' d3 d4 p p' p'' p3 p4,args = #[v,v',v'',v3,v4]∧ds=[d,d',d'',d3,d4]∧ps=p++p'++p''++p3++p4∧DataW.Trod enc P w base spare held t v d p∧DataW.Trod enc P w base spare held t' v' d' p' ∧
   DataW.Trod enc P w base spare held t'' v'' d'' p''∧DataW.Trod enc P w base spare held t3 v3 d3 p3∧DataW.Trod enc P w base spare held t4 v4 d4 p4:=by
 obtain ⟨v,vs,d,ds',p,q,hargs,rfl,rfl,hd,hrest⟩:=trodAll_cons h
 obtain ⟨v',v'',v3,v4,d',d'',d3,d4,p',p'',p3,p4,e,rfl,rfl,h1,h2,h3,h4⟩:=trodAll_four (args:=⟨vs⟩) hrest
 have e:vs=[v',v'',v3,v4]:=congrArg Array.toList e
 subst e
 exact ⟨v,v',v'',v3,v4,d,d',d'',d3,d4,p,p',p'',p3,p4,by cases args; exact congrArg Array.mk hargs,rfl,by simp,hd,h1,h2,h3,h4⟩
theorem trodAll_mk5 {t t' t'' t3 t4:TypeId} {v v' v'' v3 v4:Value} {d d' d'' d3 d4:DataW H} {p p' p'' p3 p4:List MemPlace} (h:DataW.Trod enc P w base spare held t v d p) (h' : DataW.Trod enc P w base spare held t' v' d' p')
  (h'' : DataW.Trod enc P w base spare held t'' v'' d'' p'') (h3:DataW.Trod enc P w base spare held t3 v3 d3 p3) (h4:DataW.Trod enc P w base spare held t4 v4 d4 p4) :
  DataW.TrodAll enc P w base spare held [t,t',t'',t3,t4] [v,v',v'',v3,v4] [d,d',d'',d3,d4] (p++(p'++(p''++(p3++p4)))):=⟨p,p'++(p''++(p3++p4)),h,trodAll_mk4 h' h'' h3 h4,rfl⟩
end Go.Ev

/- The library's text builder in this program,and the function that writes a number's bytes with it: lemmas,no condition but the text's length. -/
namespace Go.Ev
open Go Go.Proofs Go.RowKit Go.Shelf
theorem bSize:(Tryz.prog.info? 216).map (·.size)=some 2:=by kernel_rfl
theorem bLies:liesAt Tryz.prog Tryz.prog.depth 216 (2 / Tryz.prog.cellsOf 216) 0 216 1=true:=by kernel_rfl
theorem bByte:(Tryz.prog.info? 5).map (fun i=>(i.zero,i.size,i.bytes))=some (some (.int .u8 0),1,1):=by kernel_rfl
set_option maxHeartbeats 1000000 in
set_option maxRecDepth 100000 in
theorem cc_used (b : Nat) (w : World) (h0 : w.cell? ⟨b, 0, none⟩ = some (.pointer (some ⟨b, 0, none⟩))) :
    Calls Tryz.prog 175 #[.pointer (some ⟨b, 0, none⟩)] w fun e w' => e = .returned (.tuple #[]) ∧ w' = w := by
  obtain ⟨j, hj, _⟩ := Option.map_eq_some_iff.1 bSize
  go_enter Tryz.func175, Tryz.ntmps175
  go_wp2
  rw [Lib.run_neq_ptr_same w _ Tryz.underlying213 hj]
  go_wp2
  go_end0
  exact ⟨rfl, rfl⟩
set_option maxHeartbeats 1000000 in
set_option maxRecDepth 100000 in
theorem cc_fresh (b : Nat) (w : World) (h0 : w.cell? ⟨b, 0, none⟩ = some (.pointer none)) (hsh : w.shape? b = some (216, 2)) (hfz : w.frozen? ⟨b, 0, none⟩ = false) :
    Calls Tryz.prog 175 #[.pointer (some ⟨b, 0, none⟩)] w fun e w' => e = .returned (.tuple #[]) ∧ w' = w.setCell ⟨b, 0, none⟩ (.pointer (some ⟨b, 0, none⟩)) := by
  obtain ⟨j, hj, hjs⟩ := Option.map_eq_some_iff.1 bSize
  go_enter Tryz.func175, Tryz.ntmps175
  go_wp2
  rw [Lib.run_to_unsafe w ⟨b, 0, none⟩ Tryz.underlying213 Tryz.underlying224 hj (by rw [hjs]; decide) hsh (Nat.zero_lt_succ 1)]
  simp only [Result.andThen]
  rw [Oper.upon_value]
  go_wp2
  rw [run_callFunc_extern Tryz.func180 (by kernel_rfl) (by kernel_rfl) (by kernel_rfl) (e := Extern.AbiNoEscape.same) (by kernel_rfl)]
  rw [Lib.run_noEscape]
  simp only [Result.andThen]
  rw [Oper.upon_value]
  go_wp2
  rw [Lib.run_from_unsafe w ⟨b, 0, none⟩ Tryz.underlying224 Tryz.underlying213 hj hsh bLies]
  simp only [Result.andThen]
  rw [Oper.upon_value]
  go_wp2
  go_end0
  exact ⟨rfl, rfl⟩
theorem cc (B b:Nat) (bs:List Value) (w:World) (h:Lib.IsBuilder 216 5 B b bs w) :
  Calls Tryz.prog 175 #[.pointer (some ⟨b,0,none⟩)] w fun e w'=>e = .returned (.tuple #[])∧(Lib.BuilderAt 216 5 B b (.pointer (some ⟨b,0,none⟩)) bs w'∧Below B w w'):=by
 rcases h with h | h
 ·refine (cc_fresh b w h.cell0 h.shape h.frozen0).mono ?_
  rintro e w' ⟨rfl,rfl⟩
  exact ⟨rfl,h.used _,(Below.refl B w).setCell (p:=⟨b,0,none⟩) h.1 _⟩
 ·refine (cc_used b w h.cell0).mono ?_
  rintro e w' ⟨rfl,rfl⟩
  exact ⟨rfl,h,Below.refl B _⟩
set_option maxHeartbeats 2000000 in
set_option maxRecDepth 100000 in
theorem writeByte (B b : Nat) (bs : List Value) (c : Int) (w : World) (h : Lib.IsBuilder 216 5 B b bs w) (hlen : bs.length + 1 ≤ 140737488355328) (hBw : B ≤ w.heap.size) :
    Calls Tryz.prog 171 #[.pointer (some ⟨b, 0, none⟩), .int .u8 c] w fun e w' => e = .returned .nilIface ∧ (Lib.BuilderAt 216 5 B b (.pointer (some ⟨b, 0, none⟩)) (bs ++ [.int .u8 c]) w' ∧ Below B w w') := by
  obtain ⟨i0, hi, hz0, hz1, hz2⟩ := info_parts bByte
  go_enter Tryz.func171, Tryz.ntmps171
  go_wp2_with (go_at_call 175; refine (cc B b bs _ h).mono ?_)
  rintro e w1 ⟨rfl, h1, hb1⟩
  obtain ⟨hB, v, hbk, hown, hne⟩ := h1
  have c0 : w1.cell? ⟨b, 0, none⟩ = some (.pointer (some ⟨b, 0, none⟩)) := by rw [Lib.cell_of_heap hbk]; rfl
  have c1 : w1.cell? ⟨b, 1, none⟩ = some v := by rw [Lib.cell_of_heap hbk]; rfl
  go_wp2_with (at_builtin; refine wpList_append_own _ rfl _ _ 214 rfl B 5 i0 (.int .u8 0) 1 1 Tryz.underlying214 hi hz0 hz1 hz2 rfl (by decide) _ _ _ rfl (hown.alloc _) ⟨w1.heap.size, 0, none⟩ 1 1 [.int .u8 c] rfl rfl ?c1 ?c2 ?c3 ?c4 ?c5 ?_)
  case c1 =>
    intro j u hj
    match j, hj with
    | 0, hj => simp at hj; subst hj; simp [Addr.add]
  case c2 => intro u hu; simp at hu; subst hu; rfl
  case c3 => unfold maxLen; omega
  case c4 => omega
  case c5 => have := hb1.size; simp; omega
  intro v' w2 hown' hgrow _
  have hlt : b < w1.heap.size := by
    rcases Nat.lt_or_ge b w1.heap.size with h' | h'
    · exact h'
    · simp [Array.getElem?_eq_none h'] at hbk
  have hb2 : w2.heap[b]? = some (.cells #[.pointer (some ⟨b, 0, none⟩), v] 216 (0, 0)) := by
    rw [hgrow.block b (by simp; omega) (fun e => hne e.symm), Lib.alloc_old w1 _ b hlt]
    exact hbk
  have d0 : w2.cell? ⟨b, 0, none⟩ = some (.pointer (some ⟨b, 0, none⟩)) := by rw [Lib.cell_of_heap hb2]; rfl
  have d1 : w2.cell? ⟨b, 1, none⟩ = some v := by rw [Lib.cell_of_heap hb2]; rfl
  have f1 : w2.frozen? ⟨b, 1, none⟩ = false := Lib.frozen_of_heap hb2 1
  obtain ⟨g, cap, rfl⟩ : ∃ g cap, v' = .slice (some ⟨g, 0, none⟩) (bs.length + 1) cap := by
    rcases hown'.2 with ⟨_, h0⟩ | ⟨g, cap, cur, hv, _⟩
    · omega
    · exact ⟨g, cap, hv⟩
  go_wp2
  go_ret
  refine ⟨rfl, ?_, ?_⟩
  · exact Lib.BuilderAt.put (T := 216) (e := 5) hB hb2 (bs' := bs ++ [.int .u8 c]) (by simpa using hown') (by decide)
  · exact ((hb1.alloc (by have := hb1.size; omega) _).grown hgrow (by have := hb1.size; simp; omega) (fun k hk => (hown.lt k hk).1)).setCell (p := ⟨b, 1, none⟩) hB _
def lays169_ren:Go.Shelf.Ren:=⟨fun | 169=>172 | n=>n,fun | 70=>213 | 9=>9 | 0=>0 | 72=>216 | 37=>214 | 127=>221 | 3=>3 | 5=>5 | n=>n,fun | n=>n⟩
theorem lays169:Go.Proofs.Lays.n169 Tryz.prog lays169_ren:={
 mixed:=by kernel_rfl
 f169:=Tryz.func172.trans (congrArg some (by kernel_rfl))
 t0:=Tryz.underlying0
 a0:=Tryz.isAgg0
 z0:=Tryz.sizeOf0
 v0:=Tryz.zeroValue0
 t3:=Tryz.underlying3
 a3:=Tryz.isAgg3
 z3:=Tryz.sizeOf3
 v3:=Tryz.zeroValue3
 t9:=Tryz.underlying9
 a9:=Tryz.isAgg9
 z9:=Tryz.sizeOf9
 v9:=Tryz.zeroValue9
 t37:=Tryz.underlying214
 a37:=Tryz.isAgg214
 z37:=Tryz.sizeOf214
 v37:=Tryz.zeroValue214
 t70:=Tryz.underlying213
 a70:=Tryz.isAgg213
 z70:=Tryz.sizeOf213
 v70:=Tryz.zeroValue213
 t72:=Tryz.underlying216
 a72:=Tryz.isAgg216
 z72:=Tryz.sizeOf216
 v72:=Tryz.zeroValue216
 t127:=Tryz.underlying221
 a127:=Tryz.isAgg221
 z127:=Tryz.sizeOf221
 v127:=Tryz.zeroValue221 }
theorem extra169:Builder.Extra Tryz.prog lays169_ren:={
 sizeBuilder:=by kernel_rfl
 liesBuilder:=by kernel_rfl
 t5:=Tryz.underlying5
 a5:=Tryz.isAgg5
 z5:=Tryz.sizeOf5
 v5:=Tryz.zeroValue5
 infoByte:=by kernel_rfl
 cellsByte:=by kernel_rfl
 sizeByte:=by kernel_rfl
 neB5:=by decide }
theorem bString (B b:Nat) (l:List UInt8) (w:World) (h:Lib.IsBuilder 216 5 B b (Lib.byteCells l) w) (hBw:B≤w.heap.size) :
  Calls Tryz.prog 172 #[.pointer (some ⟨b,0,none⟩)] w fun e w'=>e = .returned (.string ⟨l.toArray⟩)∧Below B w w':=Any.Builder_String_any lays169 extra169 B b l w h hBw
end Go.Ev

/- The function that writes a number's bytes: its walk. -/
namespace Go.Ev
open Go Go.Proofs Go.RowKit Go.Shelf
theorem clamp_eq {bytes:Int}:min (max bytes 0) 8=(N.clamp bytes:Int)∧N.clamp bytes≤8:=by
 unfold N.clamp
 rw [ilt_eq,ilt_eq]
 by_cases h1:0<bytes
 ·by_cases h2:8<bytes
  ·simp [h1,h2]; omega
  ·simp [h1,h2]; omega
 ·simp [h1]; omega
theorem two_blocks {w wr:World} {o1 o2:Obj} (h:Below (w.heap.size+1+1) ((w.alloc o1).alloc o2) wr):wr.heap[w.heap.size]? = some o1∧wr.heap[w.heap.size+1]? = some o2:=by
 have e:(w.alloc o1).heap.size=w.heap.size+1:=by simp
 refine ⟨?_,?_⟩
 ·rw [h.block _ (by omega),Below.heap_alloc _ _ _ (by omega)]; exact Go.heap_alloc_new w o1
 ·rw [h.block _ (by omega),← e]; exact Go.heap_alloc_new _ o2
set_option maxHeartbeats 4000000 in
set_option maxRecDepth 1000000 in
theorem outNum_walk (s : ByteArray) (er n bytes : Int) (w : World) (hs : (s.size : Int) ≤ 9223372036854775799) :
    Calls Tryz.prog 158 #[.agg #[.string s, .int .i64 er], .int .u64 n, .int .i64 bytes] w fun e w' =>
      e = .returned (.agg #[.string ⟨(s.data.toList ++ N.numB n (N.clamp bytes)).toArray⟩, .int .i64 er]) ∧ Below w.heap.size w w' := by
  go_enter Tryz.func158, Tryz.ntmps158
  go_wp2
  go_loopw [8] (fun i wr => ∃ (k : Int) (acc : List UInt8), i = .int .i64 k ∧ Lib.IsBuilder 216 5 (w.heap.size + 1 + 1) (w.heap.size + 1 + 1) (Lib.byteCells acc) wr ∧
      Below (w.heap.size + 1 + 1) ((w.alloc (Obj.cells #[Value.string s, Value.int IntKind.i64 er] 201)).alloc (Obj.cells #[Value.string { data := #[] }, Value.int IntKind.i64 0] 201)) wr ∧
      -1 ≤ k ∧ acc ++ N.numB n (k + 1).toNat = N.numB n (N.clamp bytes) ∧ acc.length + (k + 1).toNat ≤ 8) (fun i _ => (intOf i + 1).toNat)
  case atStart =>
    obtain ⟨hcl, hc8⟩ := clamp_eq (bytes := bytes)
    have hf := Lib.fresh_isBuilder 216 5 ((w.alloc (Obj.cells #[Value.string s, Value.int IntKind.i64 er] 201)).alloc (Obj.cells #[Value.string { data := #[] }, Value.int IntKind.i64 0] 201))
    have e0 : ((w.alloc (Obj.cells #[Value.string s, Value.int IntKind.i64 er] 201)).alloc (Obj.cells #[Value.string { data := #[] }, Value.int IntKind.i64 0] 201)).heap.size = w.heap.size + 1 + 1 := by simp
    rw [e0] at hf
    refine ⟨(N.clamp bytes : Int) - 1, [], by rw [hcl], hf, (Below.refl _ _).alloc (by simp) _, by omega, ?_, ?_⟩
    · rw [show ((N.clamp bytes : Int) - 1 + 1).toNat = N.clamp bytes by omega]; rfl
    · simp only [List.length_nil]; omega
  case round =>
    obtain ⟨k, acc, rfl, hI, hB, hk, hacc, hal⟩ := hrel
    by_cases hk0 : 0 ≤ k
    · go_wp2_with (go_at_call 171; refine (writeByte (w.heap.size + 1 + 1) (w.heap.size + 1 + 1) _ _ _ hI (by rw [Lib.byteCells_length]; omega) (by have := hB.size; simp at this; omega)).mono ?_)
      rintro e w1 ⟨rfl, h1, b1⟩
      go_wp2
      go_roundw
      case rel =>
        have e1 : N.numB n (k + 1).toNat = UInt8.ofNat ((n / 2 ^ (8 * k.toNat)) % 256).toNat :: N.numB n k.toNat := by
          rw [show (k + 1).toNat = k.toNat + 1 by omega]; rfl
        have e2 : ((UInt8.ofNat ((n / 2 ^ (8 * k.toNat)) % 256).toNat).toNat : Int) = n / 2 ^ (8 * k).toNat % 256 := by
          rw [show (8 * k).toNat = 8 * k.toNat by omega]
          have h0 : 0 ≤ (n / 2 ^ (8 * k.toNat)) % 256 := Int.emod_nonneg _ (by decide)
          have h1 : (n / 2 ^ (8 * k.toNat)) % 256 < 256 := Int.emod_lt_of_pos _ (by decide)
          have h2 : (UInt8.ofNat ((n / 2 ^ (8 * k.toNat)) % 256).toNat).toNat = ((n / 2 ^ (8 * k.toNat)) % 256).toNat := UInt8.toNat_ofNat_of_lt' (by
            show ((n / 2 ^ (8 * k.toNat)) % 256).toNat < 256
            omega)
          rw [h2]; omega
        refine ⟨k - 1, acc ++ [UInt8.ofNat ((n / 2 ^ (8 * k.toNat)) % 256).toNat], rfl, ?_, hB.trans b1, by omega, ?_, ?_⟩
        · rw [Lib.byteCells_append]
          have e3 : Lib.byteCells [UInt8.ofNat ((n / 2 ^ (8 * k.toNat)) % 256).toNat] = [Value.int .u8 (n / 2 ^ (8 * k).toNat % 256)] := by
            rw [← e2]; rfl
          rw [e3]; exact Or.inr h1
        · rw [e1] at hacc
          rw [← hacc, show (k - 1 + 1).toNat = k.toNat by omega, List.append_assoc]; rfl
        · rw [List.length_append]; simp only [List.length_cons, List.length_nil]; omega
      case measure => simp [intOf]; omega
    · have hk1 : k = -1 := by omega
      subst hk1
      have hfin : N.numB n (N.clamp bytes) = acc := by rw [← hacc]; show acc ++ [] = acc; simp
      have hal : acc.length ≤ 8 := by omega
      clear hacc
      rw [hfin]
      obtain ⟨hb0, hb1⟩ := two_blocks hB
      have c0 : wr.cell? ⟨w.heap.size, 0, none⟩ = some (.string s) := by rw [Lib.cell_of_heap hb0]; rfl
      have c1 : wr.cell? ⟨w.heap.size, 1, none⟩ = some (.int .i64 er) := by rw [Lib.cell_of_heap hb0]; rfl
      have c2 : wr.cell? ⟨w.heap.size + 1, 0, none⟩ = some (.string ⟨#[]⟩) := by rw [Lib.cell_of_heap hb1]; rfl
      have c3 : wr.cell? ⟨w.heap.size + 1, 1, none⟩ = some (.int .i64 0) := by rw [Lib.cell_of_heap hb1]; rfl
      have f0 : wr.frozen? ⟨w.heap.size, 0, none⟩ = false := Lib.frozen_of_heap hb0 0
      have f1 : wr.frozen? ⟨w.heap.size, 1, none⟩ = false := Lib.frozen_of_heap hb0 1
      have f2 : wr.frozen? ⟨w.heap.size + 1, 0, none⟩ = false := Lib.frozen_of_heap hb1 0
      have f3 : wr.frozen? ⟨w.heap.size + 1, 1, none⟩ = false := Lib.frozen_of_heap hb1 1
      have hBw : w.heap.size + 1 + 1 ≤ wr.heap.size := by have := hB.size; simp at this; omega
      have hadd : ¬ 9223372036854775807 < s.size + acc.length := by omega
      have hadd2 : ¬ 9223372036854775807 < s.size + (⟨acc.toArray⟩ : ByteArray).size := by
        show ¬ 9223372036854775807 < s.size + acc.toArray.size
        rw [List.size_toArray]; exact hadd
      have hadd3 : ¬ (s.size + (⟨acc.toArray⟩ : ByteArray).size > 9223372036854775807) := hadd2
      have hadd4 : s.size + (⟨acc.toArray⟩ : ByteArray).size ≤ 9223372036854775807 := Nat.not_lt.1 hadd2
      have hadd5 : s.size + acc.length ≤ 9223372036854775807 := Nat.not_lt.1 hadd
      go_wp2
      go_region_with (go_at_call 172; refine (bString (w.heap.size + 1 + 1) (w.heap.size + 1 + 1) acc _ (by exact hI) (by exact hBw)).mono ?_; rintro e w2 ⟨rfl, b2⟩
                      have d0 : w2.cell? ⟨w.heap.size, 0, none⟩ = some (.string s) := by rw [b2.cell (by show w.heap.size < w.heap.size + 1 + 1; omega)]; exact c0
                      have d1 : w2.cell? ⟨w.heap.size, 1, none⟩ = some (.int .i64 er) := by rw [b2.cell (by show w.heap.size < w.heap.size + 1 + 1; omega)]; exact c1
                      have d2 : w2.cell? ⟨w.heap.size + 1, 0, none⟩ = some (.string ⟨#[]⟩) := by rw [b2.cell (by show w.heap.size + 1 < w.heap.size + 1 + 1; omega)]; exact c2
                      have d3 : w2.cell? ⟨w.heap.size + 1, 1, none⟩ = some (.int .i64 0) := by rw [b2.cell (by show w.heap.size + 1 < w.heap.size + 1 + 1; omega)]; exact c3
                      have e0 : w2.frozen? ⟨w.heap.size, 0, none⟩ = false := by rw [b2.frozen (by show w.heap.size < w.heap.size + 1 + 1; omega)]; exact f0
                      have e1 : w2.frozen? ⟨w.heap.size, 1, none⟩ = false := by rw [b2.frozen (by show w.heap.size < w.heap.size + 1 + 1; omega)]; exact f1
                      have e2 : w2.frozen? ⟨w.heap.size + 1, 0, none⟩ = false := by rw [b2.frozen (by show w.heap.size + 1 < w.heap.size + 1 + 1; omega)]; exact f2
                      have e3 : w2.frozen? ⟨w.heap.size + 1, 1, none⟩ = false := by rw [b2.frozen (by show w.heap.size + 1 < w.heap.size + 1 + 1; omega)]; exact f3)
      all_goals go_wp2
      all_goals
        refine ⟨rfl, .agg #[.string (s ++ ⟨acc.toArray⟩), .int .i64 er], ?_, ?_, ?_⟩
        · simp [results, Tryz.results158, go_sem, d2, d3]
        · rw [hfin, ← bytes_append]
        · have b0 : Below w.heap.size w wr := (((Below.refl _ w).alloc (Nat.le_refl _) _).alloc (by simp) _).trans (hB.mono (by omega))
          exact (((b0.drew.trans (b2.mono (by omega))).setCell (p := ⟨w.heap.size, 0, none⟩) (Nat.le_refl _) _).setCell (p := ⟨w.heap.size + 1, 0, none⟩) (Nat.le_succ _) _).setCell (p := ⟨w.heap.size + 1, 1, none⟩) (Nat.le_succ _) _
theorem keeps_below {w w' : World} (X:Nat→Nat→Prop) (h:Below w.heap.size w w'):Keeps X w w' :=
 ⟨h.os,h.tape,h.output,h.size,fun b hb=>ObjOk.same (h.block b hb)⟩
theorem outNum_ok:FnOk Tryz.prog 158 dOutNum:=by
 refine den_of fun a b hp=>?_
 obtain ⟨o,n,bytes⟩:=a
 intro x y hxy w J locs xs hlen hJ hx _ _ _
 have hxy:x=(aCons (vAgg cOut) (aCons (vInt .u64) (aOne (vInt .i64)))).enc (o,n,bytes)∧y=bNil.enc b:=by simpa using hxy
 obtain ⟨rfl,rfl⟩:=hxy
 have hlen:locs=[]:=List.eq_nil_of_length_eq_zero hlen
 subst hlen
 obtain ⟨hp1,hp⟩:=bcond hp
 obtain ⟨hp2,hp3⟩:=bcond hp
 have hp3:o.s.length≤9223372036854775799:=Nat.le_of_ble_eq_true hp3
 obtain ⟨x0,xs1,rfl,hx0,hx⟩:=hx.uncons
 obtain ⟨x1,xs2,rfl,hx1,hx⟩:=hx.uncons
 obtain ⟨x2,rfl,hx2⟩:=hx.one
 obtain ⟨cs,rfl,hc1,hc2⟩:=Rv.agg_inv (show Rv w J _ (.agg [.str o.s,.int .i64 o.err]) x0 from hx0)
 have hx1:=Rv.int_inv (show Rv w J _ (.int .u64 n) x1 from hx1)
 have hx2:=Rv.int_inv (show Rv w J _ (.int .i64 bytes) x2 from hx2)
 subst hx1 hx2
 match cs,hc1,hc2 with
 | [c0,c1],_,hc2 =>
  have h0:=Rv.str_inv (show Rv w J _ (.str o.s) c0 from hc2 0 (by simp))
  have h1:=Rv.int_inv (show Rv w J _ (.int .i64 o.err) c1 from hc2 1 (by simp))
  subst h0 h1
  refine .inl ⟨?_,?_⟩
  ·have hnm : ¬ (Tryz.f158).name = "runtime.NumGoroutine" := by
    intro e
    have : ((Tryz.f158).name == "runtime.NumGoroutine") = false := by kernel_rfl
    rw [e] at this; cases this
   obtain ⟨c,hc⟩:=Option.isSome_iff_exists.1 (show (Tryz.f158).body.isSome=true by kernel_rfl)
   simp [callFunc,Tryz.func158,hnm,hc]
  ·refine (outNum_walk ⟨o.s.toArray⟩ o.err n bytes w (by rw [bytes_size]; omega)).mono fun e w' ⟨he,hb⟩=>⟨_,he,J,?_⟩
   refine ⟨keeps_below _ hb,fun _ _ h=>h,fun b o' h=>Nat.lt_of_lt_of_le (hJ b o' h) hb.size,fun _ _ h _=>h,rfl,(fun j cs cs' p hj=>by cases hj),.inl ⟨rfl,?_⟩⟩
   refine .agg [.str (N.outNum o n bytes).s,.int .i64 (N.outNum o n bytes).err] [.string ⟨(o.s++N.numB n (N.clamp bytes)).toArray⟩,.int .i64 o.err] rfl fun i hi=>?_
   match i,hi with
   | 0,_=>exact .dat (.str _)
   | 1,_=>exact .dat (.int _ _)
end Go.Ev
