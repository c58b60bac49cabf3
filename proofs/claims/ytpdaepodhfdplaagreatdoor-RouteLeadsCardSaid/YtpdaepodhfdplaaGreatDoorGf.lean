/- To which queues and places any exchange leads any message: lemmas; the function that writes numbers is a premise. -/
import Derived.Test.YtpdaepodhfdplaaGreatDoorGe
import Derived.Test.YtpdaepodhfdplaaGreatDoorGc
import Derived.Test.YtpdaepodhfdplaaGreatDoorProg
import Derived.KernelRfl
import Derived.Shelf.Strings.Builder1
import Derived.RegionTactic
import Derived.Deep.RegionWith
namespace Go.Ev
open Go Go.Proofs
set_option maxRecDepth 100000
-- FOLD
def N.run:HBook→List HRAct→HBook
 | b,[]=>b
 | b,a::r=>N.run (N.pStep b a).1 r
def schRouteLeads:SSch:={ fr:=[(1,.str),(2,.str),(3,.slc [.str,.int .u8,.int .i64,.str]),(9,.ptr 10000 0 0),(10,.ptr 10001 0 0),(47,.slc [.int .u8,.str,.int .u8,.str,.str,.str,.bool,.str,.slc [.str,.int .u8,.int .i64,.str],.bool]),(48,.int .i64),(49,.int .i64)],tab:=[(10000,.var [.slc [.str,.int .u8,.str],.slc [.str,.str,.bool,.str,.slc [.str,.int .u8,.int .i64,.str],.bool]]),(10001,.var [.slc [.str,.int .u8,.str],.slc [.str,.str,.bool,.str,.slc [.str,.int .u8,.int .i64,.str],.bool]])] }
def gRouteLeads:List Leaf→(Ex→St→Option R)→Option R
 | [.s s1,.s s2,.r r3,.r r,.i n,.i i,.r b0,.r b1,.r c0,.r c1],K=>cond (n==r.length) (cond (i==0) (cond (Nat.ble r.length 40) (cond (N.lightRAs (r.map cRA.dec)) (cond ((r.map cRA.dec).all N.okRA) (cond (Nat.beq b0.length 0) (cond (Nat.beq b1.length 0) (cond (Nat.beq c0.length 0) (cond (Nat.beq c1.length 0) (K (.exit 0) { fr:=[(1,.str s1),(2,.str s2),(3,.slc [.str,.int .u8,.int .i64,.str] r3),(9,.ptr 10000 0 0 0),(10,.ptr 10001 0 0 0)],tab:=[(10000,.var [.slc [.str,.int .u8,.str] ((N.run ⟨[],[]⟩ (r.map cRA.dec)).shops.map cShop.enc),.slc [.str,.str,.bool,.str,.slc [.str,.int .u8,.int .i64,.str],.bool] ((N.run ⟨[],[]⟩ (r.map cRA.dec)).binds.map cBind.enc)]),(10001,.var [.slc [.str,.int .u8,.str] ((N.run ⟨[],[]⟩ (r.map cRA.dec)).shops.map cShop.enc),.slc [.str,.str,.bool,.str,.slc [.str,.int .u8,.int .i64,.str],.bool] ((N.run ⟨[],[]⟩ (r.map cRA.dec)).binds.map cBind.enc)])] }) none) none) none) none) none) none) none) none) none
 | _,_=>none
noncomputable def eRouteLeads:Env:={ env Tryz.prog [(30,dTrue),(31,dLight14),(32,dRefKey),(33,dLight),(34,dHeadCheck),(35,dDone14),(36,dBLeads),(37,dRLeads),(38,dBookShop),(39,dFindS),(40,dEqS)] [(8,loopF schRouteLeads gRouteLeads)] [(8,[(0,[1,2,3,9,10,47,48,49]),(1,[1,2,3,9,10]),(1000,[8])])] with fz:=true }
theorem q_routeLeads (l:List HRAct) (shop key:Bytes) (h:List HPair):evFn eRouteLeads 8 (((aCons (vSl cRA) (aCons vStr (aCons vStr (aOne (vSl cPair))))).enc (l,shop,key,h))) ([]) some =
 cond (Nat.ble (List.length (List.map (RCod.dec cRA) (List.map (RCod.enc cRA) l))) 9223372036854775807) (cond (!bif ile (↑(List.length (List.map (RCod.dec cRA) (List.map (RCod.enc cRA) l))):Int) (40:Int) then N.lightRAs (List.map (RCod.dec cRA) (List.map (RCod.enc cRA) l)) else false) (some {v:=V.bool true,bx:=[]:DRes}) (cond (ilt (40:Int) (↑(List.length shop):Int)) (some {v:=V.bool true,bx:=[]:DRes}) (cond (N.refKey key false != (0:Int)) (some {v:=V.bool true,bx:=[]:DRes}) (cond (!N.light (List.map (RCod.dec cPair) (List.map (RCod.enc cPair) h))) (some {v:=V.bool true,bx:=[]:DRes}) (cond (N.headCheck (List.map (RCod.dec cPair) (List.map (RCod.enc cPair) h)) != (0:Int)) (some {v:=V.bool true,bx:=[]:DRes}) (cond ((↑(List.length (List.map (RCod.enc cRA) l)):Int)==(↑(List.length (List.map (RCod.enc cRA) l)):Int)) (cond (Nat.ble (List.length (List.map (RCod.enc cRA) l)) 40) (cond (N.lightRAs (List.map (RCod.dec cRA) (List.map (RCod.enc cRA) l))) (cond (List.all (List.map (RCod.dec cRA) (List.map (RCod.enc cRA) l)) N.okRA) (cond (goodLd {shops:=List.map (RCod.dec cShop) (List.map (RCod.enc cShop) (HBook.shops (N.run {shops:=[],binds:=[]:HBook} (List.map (RCod.dec cRA) (List.map (RCod.enc cRA) l))))),binds:=List.map (RCod.dec cBind) (List.map (RCod.enc cBind) (HBook.binds (N.run {shops:=[],binds:=[]:HBook} (List.map (RCod.dec cRA) (List.map (RCod.enc cRA) l))))):HBook} shop key (List.map (RCod.dec cPair) (List.map (RCod.enc cPair) h))) (cond (goodLd {shops:=List.map (RCod.dec cShop) (List.map (RCod.enc cShop) (HBook.shops (N.run {shops:=[],binds:=[]:HBook} (List.map (RCod.dec cRA) (List.map (RCod.enc cRA) l))))),binds:=List.map (RCod.dec cBind) (List.map (RCod.enc cBind) (HBook.binds (N.run {shops:=[],binds:=[]:HBook} (List.map (RCod.dec cRA) (List.map (RCod.enc cRA) l))))):HBook} shop key (List.map (RCod.dec cPair) (List.map (RCod.enc cPair) h))) (cond (Nat.ble (List.length (List.map (RCod.dec cShop) (List.map (RCod.enc cShop) (HBook.shops (N.run {shops:=[],binds:=[]:HBook} (List.map (RCod.dec cRA) (List.map (RCod.enc cRA) l))))))) 1000) (cond (Nat.ble (List.length (List.map (RCod.dec cShop) (List.map (RCod.enc cShop) (HBook.shops (N.run {shops:=[],binds:=[]:HBook} (List.map (RCod.dec cRA) (List.map (RCod.enc cRA) l))))))) 1000) (cond (!Prod.snd (N.shopOf shop (List.map (RCod.dec cShop) (List.map (RCod.enc cShop) (HBook.shops (N.run {shops:=[],binds:=[]:HBook} (List.map (RCod.dec cRA) (List.map (RCod.enc cRA) l)))))))==ile (0:Int) (N.ixG (N.isShop shop) (List.map (RCod.dec cShop) (List.map (RCod.enc cShop) (HBook.shops (N.run {shops:=[],binds:=[]:HBook} (List.map (RCod.dec cRA) (List.map (RCod.enc cRA) l)))))) (0:Int))) (some {v:=V.bool false,bx:=[]:DRes}) (cond (Prod.snd (N.shopOf shop (List.map (RCod.dec cShop) (List.map (RCod.enc cShop) (HBook.shops (N.run {shops:=[],binds:=[]:HBook} (List.map (RCod.dec cRA) (List.map (RCod.enc cRA) l)))))))) (cond (decide ((0:Int)≤N.ixG (N.isShop shop) (List.map (RCod.dec cShop) (List.map (RCod.enc cShop) (HBook.shops (N.run {shops:=[],binds:=[]:HBook} (List.map (RCod.dec cRA) (List.map (RCod.enc cRA) l)))))) (0:Int)∧N.ixG (N.isShop shop) (List.map (RCod.dec cShop) (List.map (RCod.enc cShop) (HBook.shops (N.run {shops:=[],binds:=[]:HBook} (List.map (RCod.dec cRA) (List.map (RCod.enc cRA) l)))))) (0:Int)<(↑(List.length (List.map (RCod.enc cShop) (HBook.shops (N.run {shops:=[],binds:=[]:HBook} (List.map (RCod.dec cRA) (List.map (RCod.enc cRA) l)))))):Int))) (cond (!(HShop.name (Prod.fst (N.shopOf shop (List.map (RCod.dec cShop) (List.map (RCod.enc cShop) (HBook.shops (N.run {shops:=[],binds:=[]:HBook} (List.map (RCod.dec cRA) (List.map (RCod.enc cRA) l))))))))==V.toStr (List.getD (List.getD (List.map (RCod.enc cShop) (HBook.shops (N.run {shops:=[],binds:=[]:HBook} (List.map (RCod.dec cRA) (List.map (RCod.enc cRA) l))))) (Int.toNat (N.ixG (N.isShop shop) (List.map (RCod.dec cShop) (List.map (RCod.enc cShop) (HBook.shops (N.run {shops:=[],binds:=[]:HBook} (List.map (RCod.dec cRA) (List.map (RCod.enc cRA) l)))))) (0:Int))) []) 0 V.undef) && (HShop.sort (Prod.fst (N.shopOf shop (List.map (RCod.dec cShop) (List.map (RCod.enc cShop) (HBook.shops (N.run {shops:=[],binds:=[]:HBook} (List.map (RCod.dec cRA) (List.map (RCod.enc cRA) l))))))))==V.toInt (List.getD (List.getD (List.map (RCod.enc cShop) (HBook.shops (N.run {shops:=[],binds:=[]:HBook} (List.map (RCod.dec cRA) (List.map (RCod.enc cRA) l))))) (Int.toNat (N.ixG (N.isShop shop) (List.map (RCod.dec cShop) (List.map (RCod.enc cShop) (HBook.shops (N.run {shops:=[],binds:=[]:HBook} (List.map (RCod.dec cRA) (List.map (RCod.enc cRA) l)))))) (0:Int))) []) 1 V.undef) && (HShop.to (Prod.fst (N.shopOf shop (List.map (RCod.dec cShop) (List.map (RCod.enc cShop) (HBook.shops (N.run {shops:=[],binds:=[]:HBook} (List.map (RCod.dec cRA) (List.map (RCod.enc cRA) l))))))))==V.toStr (List.getD (List.getD (List.map (RCod.enc cShop) (HBook.shops (N.run {shops:=[],binds:=[]:HBook} (List.map (RCod.dec cRA) (List.map (RCod.enc cRA) l))))) (Int.toNat (N.ixG (N.isShop shop) (List.map (RCod.dec cShop) (List.map (RCod.enc cShop) (HBook.shops (N.run {shops:=[],binds:=[]:HBook} (List.map (RCod.dec cRA) (List.map (RCod.enc cRA) l)))))) (0:Int))) []) 2 V.undef) && true)))) (some {v:=V.bool false,bx:=[]:DRes}) (cond (small (List.map (RCod.dec rStr) (List.map (RCod.enc rStr) (Prod.fst (N.bLeads {shops:=List.map (RCod.dec cShop) (List.map (RCod.enc cShop) (HBook.shops (N.run {shops:=[],binds:=[]:HBook} (List.map (RCod.dec cRA) (List.map (RCod.enc cRA) l))))),binds:=List.map (RCod.dec cBind) (List.map (RCod.enc cBind) (HBook.binds (N.run {shops:=[],binds:=[]:HBook} (List.map (RCod.dec cRA) (List.map (RCod.enc cRA) l))))):HBook} shop key (List.map (RCod.dec cPair) (List.map (RCod.enc cPair) h))))))) (cond (List.map (RCod.dec rStr) (List.map (RCod.enc rStr) (Prod.fst (N.bLeads {shops:=List.map (RCod.dec cShop) (List.map (RCod.enc cShop) (HBook.shops (N.run {shops:=[],binds:=[]:HBook} (List.map (RCod.dec cRA) (List.map (RCod.enc cRA) l))))),binds:=List.map (RCod.dec cBind) (List.map (RCod.enc cBind) (HBook.binds (N.run {shops:=[],binds:=[]:HBook} (List.map (RCod.dec cRA) (List.map (RCod.enc cRA) l))))):HBook} shop key (List.map (RCod.dec cPair) (List.map (RCod.enc cPair) h)))))==List.map (RCod.dec rStr) (List.map (RCod.enc rStr) (Prod.fst (N.rLeads {shops:=List.map (RCod.dec cShop) (List.map (RCod.enc cShop) (HBook.shops (N.run {shops:=[],binds:=[]:HBook} (List.map (RCod.dec cRA) (List.map (RCod.enc cRA) l))))),binds:=List.map (RCod.dec cBind) (List.map (RCod.enc cBind) (HBook.binds (N.run {shops:=[],binds:=[]:HBook} (List.map (RCod.dec cRA) (List.map (RCod.enc cRA) l))))):HBook} shop key (List.map (RCod.dec cPair) (List.map (RCod.enc cPair) h)))))) (cond (small (List.map (RCod.dec rStr) (List.map (RCod.enc rStr) (Prod.fst (Prod.snd (N.bLeads {shops:=List.map (RCod.dec cShop) (List.map (RCod.enc cShop) (HBook.shops (N.run {shops:=[],binds:=[]:HBook} (List.map (RCod.dec cRA) (List.map (RCod.enc cRA) l))))),binds:=List.map (RCod.dec cBind) (List.map (RCod.enc cBind) (HBook.binds (N.run {shops:=[],binds:=[]:HBook} (List.map (RCod.dec cRA) (List.map (RCod.enc cRA) l))))):HBook} shop key (List.map (RCod.dec cPair) (List.map (RCod.enc cPair) h)))))))) (cond (List.map (RCod.dec rStr) (List.map (RCod.enc rStr) (Prod.fst (Prod.snd (N.bLeads {shops:=List.map (RCod.dec cShop) (List.map (RCod.enc cShop) (HBook.shops (N.run {shops:=[],binds:=[]:HBook} (List.map (RCod.dec cRA) (List.map (RCod.enc cRA) l))))),binds:=List.map (RCod.dec cBind) (List.map (RCod.enc cBind) (HBook.binds (N.run {shops:=[],binds:=[]:HBook} (List.map (RCod.dec cRA) (List.map (RCod.enc cRA) l))))):HBook} shop key (List.map (RCod.dec cPair) (List.map (RCod.enc cPair) h))))))==List.map (RCod.dec rStr) (List.map (RCod.enc rStr) (Prod.fst (Prod.snd (N.rLeads {shops:=List.map (RCod.dec cShop) (List.map (RCod.enc cShop) (HBook.shops (N.run {shops:=[],binds:=[]:HBook} (List.map (RCod.dec cRA) (List.map (RCod.enc cRA) l))))),binds:=List.map (RCod.dec cBind) (List.map (RCod.enc cBind) (HBook.binds (N.run {shops:=[],binds:=[]:HBook} (List.map (RCod.dec cRA) (List.map (RCod.enc cRA) l))))):HBook} shop key (List.map (RCod.dec cPair) (List.map (RCod.enc cPair) h))))))) (some {v:=V.bool (Prod.snd (Prod.snd (N.bLeads {shops:=List.map (RCod.dec cShop) (List.map (RCod.enc cShop) (HBook.shops (N.run {shops:=[],binds:=[]:HBook} (List.map (RCod.dec cRA) (List.map (RCod.enc cRA) l))))),binds:=List.map (RCod.dec cBind) (List.map (RCod.enc cBind) (HBook.binds (N.run {shops:=[],binds:=[]:HBook} (List.map (RCod.dec cRA) (List.map (RCod.enc cRA) l))))):HBook} shop key (List.map (RCod.dec cPair) (List.map (RCod.enc cPair) h))))==Prod.snd (Prod.snd (N.rLeads {shops:=List.map (RCod.dec cShop) (List.map (RCod.enc cShop) (HBook.shops (N.run {shops:=[],binds:=[]:HBook} (List.map (RCod.dec cRA) (List.map (RCod.enc cRA) l))))),binds:=List.map (RCod.dec cBind) (List.map (RCod.enc cBind) (HBook.binds (N.run {shops:=[],binds:=[]:HBook} (List.map (RCod.dec cRA) (List.map (RCod.enc cRA) l))))):HBook} shop key (List.map (RCod.dec cPair) (List.map (RCod.enc cPair) h))))),bx:=[]:DRes}) (some {v:=V.bool false,bx:=[]:DRes})) (none)) (some {v:=V.bool false,bx:=[]:DRes})) (none))) (none)) (cond (small (List.map (RCod.dec rStr) (List.map (RCod.enc rStr) (Prod.fst (N.bLeads {shops:=List.map (RCod.dec cShop) (List.map (RCod.enc cShop) (HBook.shops (N.run {shops:=[],binds:=[]:HBook} (List.map (RCod.dec cRA) (List.map (RCod.enc cRA) l))))),binds:=List.map (RCod.dec cBind) (List.map (RCod.enc cBind) (HBook.binds (N.run {shops:=[],binds:=[]:HBook} (List.map (RCod.dec cRA) (List.map (RCod.enc cRA) l))))):HBook} shop key (List.map (RCod.dec cPair) (List.map (RCod.enc cPair) h))))))) (cond (List.map (RCod.dec rStr) (List.map (RCod.enc rStr) (Prod.fst (N.bLeads {shops:=List.map (RCod.dec cShop) (List.map (RCod.enc cShop) (HBook.shops (N.run {shops:=[],binds:=[]:HBook} (List.map (RCod.dec cRA) (List.map (RCod.enc cRA) l))))),binds:=List.map (RCod.dec cBind) (List.map (RCod.enc cBind) (HBook.binds (N.run {shops:=[],binds:=[]:HBook} (List.map (RCod.dec cRA) (List.map (RCod.enc cRA) l))))):HBook} shop key (List.map (RCod.dec cPair) (List.map (RCod.enc cPair) h)))))==List.map (RCod.dec rStr) (List.map (RCod.enc rStr) (Prod.fst (N.rLeads {shops:=List.map (RCod.dec cShop) (List.map (RCod.enc cShop) (HBook.shops (N.run {shops:=[],binds:=[]:HBook} (List.map (RCod.dec cRA) (List.map (RCod.enc cRA) l))))),binds:=List.map (RCod.dec cBind) (List.map (RCod.enc cBind) (HBook.binds (N.run {shops:=[],binds:=[]:HBook} (List.map (RCod.dec cRA) (List.map (RCod.enc cRA) l))))):HBook} shop key (List.map (RCod.dec cPair) (List.map (RCod.enc cPair) h)))))) (cond (small (List.map (RCod.dec rStr) (List.map (RCod.enc rStr) (Prod.fst (Prod.snd (N.bLeads {shops:=List.map (RCod.dec cShop) (List.map (RCod.enc cShop) (HBook.shops (N.run {shops:=[],binds:=[]:HBook} (List.map (RCod.dec cRA) (List.map (RCod.enc cRA) l))))),binds:=List.map (RCod.dec cBind) (List.map (RCod.enc cBind) (HBook.binds (N.run {shops:=[],binds:=[]:HBook} (List.map (RCod.dec cRA) (List.map (RCod.enc cRA) l))))):HBook} shop key (List.map (RCod.dec cPair) (List.map (RCod.enc cPair) h)))))))) (cond (List.map (RCod.dec rStr) (List.map (RCod.enc rStr) (Prod.fst (Prod.snd (N.bLeads {shops:=List.map (RCod.dec cShop) (List.map (RCod.enc cShop) (HBook.shops (N.run {shops:=[],binds:=[]:HBook} (List.map (RCod.dec cRA) (List.map (RCod.enc cRA) l))))),binds:=List.map (RCod.dec cBind) (List.map (RCod.enc cBind) (HBook.binds (N.run {shops:=[],binds:=[]:HBook} (List.map (RCod.dec cRA) (List.map (RCod.enc cRA) l))))):HBook} shop key (List.map (RCod.dec cPair) (List.map (RCod.enc cPair) h))))))==List.map (RCod.dec rStr) (List.map (RCod.enc rStr) (Prod.fst (Prod.snd (N.rLeads {shops:=List.map (RCod.dec cShop) (List.map (RCod.enc cShop) (HBook.shops (N.run {shops:=[],binds:=[]:HBook} (List.map (RCod.dec cRA) (List.map (RCod.enc cRA) l))))),binds:=List.map (RCod.dec cBind) (List.map (RCod.enc cBind) (HBook.binds (N.run {shops:=[],binds:=[]:HBook} (List.map (RCod.dec cRA) (List.map (RCod.enc cRA) l))))):HBook} shop key (List.map (RCod.dec cPair) (List.map (RCod.enc cPair) h))))))) (some {v:=V.bool (Prod.snd (Prod.snd (N.bLeads {shops:=List.map (RCod.dec cShop) (List.map (RCod.enc cShop) (HBook.shops (N.run {shops:=[],binds:=[]:HBook} (List.map (RCod.dec cRA) (List.map (RCod.enc cRA) l))))),binds:=List.map (RCod.dec cBind) (List.map (RCod.enc cBind) (HBook.binds (N.run {shops:=[],binds:=[]:HBook} (List.map (RCod.dec cRA) (List.map (RCod.enc cRA) l))))):HBook} shop key (List.map (RCod.dec cPair) (List.map (RCod.enc cPair) h))))==Prod.snd (Prod.snd (N.rLeads {shops:=List.map (RCod.dec cShop) (List.map (RCod.enc cShop) (HBook.shops (N.run {shops:=[],binds:=[]:HBook} (List.map (RCod.dec cRA) (List.map (RCod.enc cRA) l))))),binds:=List.map (RCod.dec cBind) (List.map (RCod.enc cBind) (HBook.binds (N.run {shops:=[],binds:=[]:HBook} (List.map (RCod.dec cRA) (List.map (RCod.enc cRA) l))))):HBook} shop key (List.map (RCod.dec cPair) (List.map (RCod.enc cPair) h))))),bx:=[]:DRes}) (some {v:=V.bool false,bx:=[]:DRes})) (none)) (some {v:=V.bool false,bx:=[]:DRes})) (none)))) (none)) (none)) (none)) (none)) (none)) (none)) (none)) (none))))))) (none):=by kernel_rfl
theorem q_routeLeadsR (s1:Bytes) (s2:Bytes) (r3:List (List V)) (r47:List (List V)) (i48:Int) (i49:Int) (rx0:List (List V)) (rx0_1:List (List V)) (rx1:List (List V)) (rx1_1:List (List V)) (K:Ex→St→Option R):evRound eRouteLeads 8 8 { fr:=[(1,.str s1),(2,.str s2),(3,.slc [.str,.int .u8,.int .i64,.str] r3),(9,.ptr 10000 0 0 0),(10,.ptr 10001 0 0 0),(47,.slc [.int .u8,.str,.int .u8,.str,.str,.str,.bool,.str,.slc [.str,.int .u8,.int .i64,.str],.bool] r47),(48,.int .i64 i48),(49,.int .i64 i49)],tab:=[(10000,.var [.slc [.str,.int .u8,.str] rx0,.slc [.str,.str,.bool,.str,.slc [.str,.int .u8,.int .i64,.str],.bool] rx0_1]),(10001,.var [.slc [.str,.int .u8,.str] rx1,.slc [.str,.str,.bool,.str,.slc [.str,.int .u8,.int .i64,.str],.bool] rx1_1])] } K =
 cond (ilt i49 i48) (cond (decide ((0:Int)≤i49∧i49<(↑(List.length r47):Int))) (cond (bif smallBook {shops:=List.map (RCod.dec cShop) rx0,binds:=List.map (RCod.dec cBind) rx0_1:HBook} then bif smallBook {shops:=List.map (RCod.dec cShop) rx1,binds:=List.map (RCod.dec cBind) rx1_1:HBook} then smallB {shop:=V.toStr (List.getD (List.getD r47 (Int.toNat i49) []) 4 V.undef),to:=V.toStr (List.getD (List.getD r47 (Int.toNat i49) []) 5 V.undef),up:=V.toBool (List.getD (List.getD r47 (Int.toNat i49) []) 6 V.undef),key:=V.toStr (List.getD (List.getD r47 (Int.toNat i49) []) 7 V.undef),want:=List.map (fun r=>{key:=V.toStr (List.getD r 0 .undef),kind:=V.toInt (List.getD r 1 .undef),num:=V.toInt (List.getD r 2 .undef),text:=V.toStr (List.getD r 3 .undef):HPair}) (V.toRows (List.getD (List.getD r47 (Int.toNat i49) []) 8 V.undef)),all:=V.toBool (List.getD (List.getD r47 (Int.toNat i49) []) 9 V.undef):HBind} else false else false) (K Ex.normal {fr:=[(1,V.str s1),(2,V.str s2),(3,V.slc [.str,.int .u8,.int .i64,.str] r3),(9,V.ptr 10000 0 0 0),(10,V.ptr 10001 0 0 0),(47,V.slc [.int .u8,.str,.int .u8,.str,.str,.str,.bool,.str,.slc [.str,.int .u8,.int .i64,.str],.bool] r47),(48,V.int .i64 i48),(49,V.int .i64 (IntKind.wrap .i64 (i49+(1:Int))))],tab:=[(10000,Box.var [V.slc [.str,.int .u8,.str] (List.map (RCod.enc cShop) (HBook.shops (Prod.fst (N.pStep {shops:=List.map (RCod.dec cShop) rx0,binds:=List.map (RCod.dec cBind) rx0_1:HBook} {op:=V.toInt (List.getD (List.getD r47 (Int.toNat i49) []) 0 V.undef),shop:={name:=V.toStr (List.getD (List.getD r47 (Int.toNat i49) []) 1 V.undef),sort:=V.toInt (List.getD (List.getD r47 (Int.toNat i49) []) 2 V.undef),to:=V.toStr (List.getD (List.getD r47 (Int.toNat i49) []) 3 V.undef):HShop},bind:={shop:=V.toStr (List.getD (List.getD r47 (Int.toNat i49) []) 4 V.undef),to:=V.toStr (List.getD (List.getD r47 (Int.toNat i49) []) 5 V.undef),up:=V.toBool (List.getD (List.getD r47 (Int.toNat i49) []) 6 V.undef),key:=V.toStr (List.getD (List.getD r47 (Int.toNat i49) []) 7 V.undef),want:=List.map (fun r=>{key:=V.toStr (List.getD r 0 .undef),kind:=V.toInt (List.getD r 1 .undef),num:=V.toInt (List.getD r 2 .undef),text:=V.toStr (List.getD r 3 .undef):HPair}) (V.toRows (List.getD (List.getD r47 (Int.toNat i49) []) 8 V.undef)),all:=V.toBool (List.getD (List.getD r47 (Int.toNat i49) []) 9 V.undef):HBind}:HRAct})))),V.slc [.str,.str,.bool,.str,.slc [.str,.int .u8,.int .i64,.str],.bool] (List.map (RCod.enc cBind) (HBook.binds (Prod.fst (N.pStep {shops:=List.map (RCod.dec cShop) rx0,binds:=List.map (RCod.dec cBind) rx0_1:HBook} {op:=V.toInt (List.getD (List.getD r47 (Int.toNat i49) []) 0 V.undef),shop:={name:=V.toStr (List.getD (List.getD r47 (Int.toNat i49) []) 1 V.undef),sort:=V.toInt (List.getD (List.getD r47 (Int.toNat i49) []) 2 V.undef),to:=V.toStr (List.getD (List.getD r47 (Int.toNat i49) []) 3 V.undef):HShop},bind:={shop:=V.toStr (List.getD (List.getD r47 (Int.toNat i49) []) 4 V.undef),to:=V.toStr (List.getD (List.getD r47 (Int.toNat i49) []) 5 V.undef),up:=V.toBool (List.getD (List.getD r47 (Int.toNat i49) []) 6 V.undef),key:=V.toStr (List.getD (List.getD r47 (Int.toNat i49) []) 7 V.undef),want:=List.map (fun r=>{key:=V.toStr (List.getD r 0 .undef),kind:=V.toInt (List.getD r 1 .undef),num:=V.toInt (List.getD r 2 .undef),text:=V.toStr (List.getD r 3 .undef):HPair}) (V.toRows (List.getD (List.getD r47 (Int.toNat i49) []) 8 V.undef)),all:=V.toBool (List.getD (List.getD r47 (Int.toNat i49) []) 9 V.undef):HBind}:HRAct}))))]),(10001,Box.var [V.slc [.str,.int .u8,.str] (List.map (RCod.enc cShop) (HBook.shops (Prod.fst (N.dStep {shops:=List.map (RCod.dec cShop) rx1,binds:=List.map (RCod.dec cBind) rx1_1:HBook} {op:=V.toInt (List.getD (List.getD r47 (Int.toNat i49) []) 0 V.undef),shop:={name:=V.toStr (List.getD (List.getD r47 (Int.toNat i49) []) 1 V.undef),sort:=V.toInt (List.getD (List.getD r47 (Int.toNat i49) []) 2 V.undef),to:=V.toStr (List.getD (List.getD r47 (Int.toNat i49) []) 3 V.undef):HShop},bind:={shop:=V.toStr (List.getD (List.getD r47 (Int.toNat i49) []) 4 V.undef),to:=V.toStr (List.getD (List.getD r47 (Int.toNat i49) []) 5 V.undef),up:=V.toBool (List.getD (List.getD r47 (Int.toNat i49) []) 6 V.undef),key:=V.toStr (List.getD (List.getD r47 (Int.toNat i49) []) 7 V.undef),want:=List.map (fun r=>{key:=V.toStr (List.getD r 0 .undef),kind:=V.toInt (List.getD r 1 .undef),num:=V.toInt (List.getD r 2 .undef),text:=V.toStr (List.getD r 3 .undef):HPair}) (V.toRows (List.getD (List.getD r47 (Int.toNat i49) []) 8 V.undef)),all:=V.toBool (List.getD (List.getD r47 (Int.toNat i49) []) 9 V.undef):HBind}:HRAct})))),V.slc [.str,.str,.bool,.str,.slc [.str,.int .u8,.int .i64,.str],.bool] (List.map (RCod.enc cBind) (HBook.binds (Prod.fst (N.dStep {shops:=List.map (RCod.dec cShop) rx1,binds:=List.map (RCod.dec cBind) rx1_1:HBook} {op:=V.toInt (List.getD (List.getD r47 (Int.toNat i49) []) 0 V.undef),shop:={name:=V.toStr (List.getD (List.getD r47 (Int.toNat i49) []) 1 V.undef),sort:=V.toInt (List.getD (List.getD r47 (Int.toNat i49) []) 2 V.undef),to:=V.toStr (List.getD (List.getD r47 (Int.toNat i49) []) 3 V.undef):HShop},bind:={shop:=V.toStr (List.getD (List.getD r47 (Int.toNat i49) []) 4 V.undef),to:=V.toStr (List.getD (List.getD r47 (Int.toNat i49) []) 5 V.undef),up:=V.toBool (List.getD (List.getD r47 (Int.toNat i49) []) 6 V.undef),key:=V.toStr (List.getD (List.getD r47 (Int.toNat i49) []) 7 V.undef),want:=List.map (fun r=>{key:=V.toStr (List.getD r 0 .undef),kind:=V.toInt (List.getD r 1 .undef),num:=V.toInt (List.getD r 2 .undef),text:=V.toStr (List.getD r 3 .undef):HPair}) (V.toRows (List.getD (List.getD r47 (Int.toNat i49) []) 8 V.undef)),all:=V.toBool (List.getD (List.getD r47 (Int.toNat i49) []) 9 V.undef):HBind}:HRAct}))))])]:St}) (none)) (none)) (K (Ex.exit 0) {fr:=[(1,V.str s1),(2,V.str s2),(3,V.slc [.str,.int .u8,.int .i64,.str] r3),(9,V.ptr 10000 0 0 0),(10,V.ptr 10001 0 0 0)],tab:=[(10000,Box.var [V.slc [.str,.int .u8,.str] rx0,V.slc [.str,.str,.bool,.str,.slc [.str,.int .u8,.int .i64,.str],.bool] rx0_1]),(10001,Box.var [V.slc [.str,.int .u8,.str] rx1,V.slc [.str,.str,.bool,.str,.slc [.str,.int .u8,.int .i64,.str],.bool] rx1_1])]:St}):=by kernel_rfl
theorem run_inv:∀ {l:List HRAct} {b:HBook},BInv b→N.lightRAs l=true→l.all N.okRA=true→BInv (N.run b l)
 | [],_,h,_,_=>h
 | a::r,b,h,hl,ho=>by
  obtain ⟨h1,h2⟩:=bcond hl
  rw [List.all_cons,Bool.and_eq_true] at ho
  show BInv (N.run (N.pStep b a).1 r)
  exact run_inv (h.step (okRA_of ho.1).2 (lightRA_bind h1)) h2 ho.2
theorem putS_le (l:List Bytes) (s:Bytes):(N.putS l s).length≤l.length+1:=by
 unfold N.putS
 cases l.any (N.eqS s)<;>simp
theorem leads_len (shop:Bytes) (sort:Int) (key:Bytes) (h:List HPair):∀ (l:List HBind) (q p:List Bytes),(N.leadsR shop sort key h l q p).1.length≤q.length+l.length∧(N.leadsR shop sort key h l q p).2.length≤p.length+l.length
 | [],q,p=>⟨Nat.le_refl _,Nat.le_refl _⟩
 | y::r,q,p=>by
  unfold N.leadsR
  have g1:=putS_le p y.to
  have g2:=putS_le q y.to
  have i1:=leads_len shop sort key h r q (N.putS p y.to)
  have i2:=leads_len shop sort key h r (N.putS q y.to) p
  have i3:=leads_len shop sort key h r q p
  rw [List.length_cons]
  cases cond (N.ofShop shop y) (N.goes (N.bindRule y sort) key h) false with
  | false=>exact ⟨by have:=i3.1; simp only [cond_false]; omega,by have:=i3.2; simp only [cond_false]; omega⟩
  | true =>
   cases y.up with
   | false=>exact ⟨by have:=i2.1; simp only [cond_true,cond_false]; omega,by have:=i2.2; simp only [cond_true,cond_false]; omega⟩
   | true=>exact ⟨by have:=i1.1; simp only [cond_true]; omega,by have:=i1.2; simp only [cond_true]; omega⟩
theorem small_leads {b:HBook} (hb:BInv b) (shop key:Bytes) (h:List HPair):small (N.bLeads b shop key h).1=true∧small (N.bLeads b shop key h).2.1=true:=by
 have hf:=hb.fewB
 have hs:∀ l:List Bytes,l.length≤100→small l=true:=fun l hl=>Nat.ble_eq_true_of_le (Nat.le_trans hl (by decide))
 unfold N.bLeads
 cases (N.shopOf shop b.shops).2 with
 | false=>exact ⟨rfl,rfl⟩
 | true =>
  cases (N.shopOf shop b.shops).1.sort==4 with
  | true=>exact ⟨rfl,hs _ (by simp)⟩
  | false =>
   obtain ⟨g1,g2⟩:=leads_len shop (N.shopOf shop b.shops).1.sort key h b.binds [] []
   have g1:(N.leadsR shop (N.shopOf shop b.shops).1.sort key h b.binds [] []).1.length≤0+b.binds.length:=g1
   have g2:(N.leadsR shop (N.shopOf shop b.shops).1.sort key h b.binds [] []).2.length≤0+b.binds.length:=g2
   exact ⟨hs _ (by simp only [cond_true,cond_false]; omega),hs _ (by simp only [cond_true,cond_false]; omega)⟩
theorem good_leads {b:HBook} (hb:BInv b) (shop:Bytes) {key:Bytes} {h:List HPair} (hk:key.length≤64) (hh:h.length≤12):goodLd b shop key h=true:=by
 have h2:b.binds.all (smallLd (N.shopOf shop b.shops).1.sort key h)=true:=List.all_eq_true.2 fun y hy=>by
  obtain ⟨l1,l2⟩:=hb.light y hy
  have e1:Nat.ble (y.key.length+1) LIM=true:=Nat.ble_eq_true_of_le (Nat.le_trans (Nat.add_le_add_right l1 1) (by decide))
  have e2:Nat.ble (key.length+1) LIM=true:=Nat.ble_eq_true_of_le (Nat.le_trans (Nat.add_le_add_right hk 1) (by decide))
  have e3:smallP y.want=true:=lightB_small ⟨l1,l2⟩
  have e4:smallP h=true:=Nat.ble_eq_true_of_le (Nat.le_trans hh (by decide))
  show cond (cond (Nat.ble (y.key.length+1) LIM) (Nat.ble (key.length+1) LIM) false) (cond (smallP y.want) (smallP h) false) false=true
  rw [e1,e2,e3,e4]; rfl
 show cond (smallBook b) _ false=true
 rw [hb.small,h2]; rfl
theorem shopOf_split {n:Bytes} {x:HShop} (hx:N.isShop n x=true) (c:List HShop):∀ a:List HShop,a.any (N.isShop n)=false→N.shopOf n (a++x::c)=(x,true)
 | [],_=>by
  show cond (N.isShop n x) _ _=_
  rw [hx]; rfl
 | y::r,h=>by
  rw [List.any_cons,Bool.or_eq_false_iff] at h
  show cond (N.isShop n y) _ _=_
  rw [h.1]
  exact shopOf_split hx c r h.2
theorem ok_routeLeads_8:RoundsOk eRouteLeads 8 8:=by
 refine rounds_of rfl fun l K q h=>?_
 unfold gRouteLeads at h
 split at h
 ·rename_i s1 s2 r3 r n i b0 b1 c0 c1
  have h1:=(cond_none h).1; replace h:=(cond_none h).2; have h2:=(cond_none h).1; replace h:=(cond_none h).2; have h3:=(cond_none h).1; replace h:=(cond_none h).2; have h4:=(cond_none h).1; replace h:=(cond_none h).2; have h5:=(cond_none h).1; replace h:=(cond_none h).2; have h6:=(cond_none h).1; replace h:=(cond_none h).2; have h7:=(cond_none h).1; replace h:=(cond_none h).2; have h8:=(cond_none h).1; replace h:=(cond_none h).2; have h9:=(cond_none h).1; replace h:=(cond_none h).2
  have e1:=ieq_of h1
  have e2:=ieq_of h2
  have e3:=List.eq_nil_of_length_eq_zero (nbeq_of h6)
  have e4:=List.eq_nil_of_length_eq_zero (nbeq_of h7)
  have e5:=List.eq_nil_of_length_eq_zero (nbeq_of h8)
  have e6:=List.eq_nil_of_length_eq_zero (nbeq_of h9)
  subst e1 e2 e3 e4 e5 e6
  have h3:r.length≤40:=ble_of h3
  have main:=range_ind (E:=eRouteLeads) (f:=8) (id:=8) (A:=HBook) r (fun a i=>{ fr:=[(1,.str s1),(2,.str s2),(3,.slc [.str,.int .u8,.int .i64,.str] r3),(9,.ptr 10000 0 0 0),(10,.ptr 10001 0 0 0),(47,.slc [.int .u8,.str,.int .u8,.str,.str,.str,.bool,.str,.slc [.str,.int .u8,.int .i64,.str],.bool] r),(48,.int .i64 r.length),(49,.int .i64 i)],tab:=[(10000,.var [.slc [.str,.int .u8,.str] (a.shops.map cShop.enc),.slc [.str,.str,.bool,.str,.slc [.str,.int .u8,.int .i64,.str],.bool] (a.binds.map cBind.enc)]),(10001,.var [.slc [.str,.int .u8,.str] (a.shops.map cShop.enc),.slc [.str,.str,.bool,.str,.slc [.str,.int .u8,.int .i64,.str],.bool] (a.binds.map cBind.enc)])] }) (fun a _=>BInv a)
   (fun a rows K=>K (.exit 0) { fr:=[(1,.str s1),(2,.str s2),(3,.slc [.str,.int .u8,.int .i64,.str] r3),(9,.ptr 10000 0 0 0),(10,.ptr 10001 0 0 0)],tab:=[(10000,.var [.slc [.str,.int .u8,.str] ((N.run a (rows.map cRA.dec)).shops.map cShop.enc),.slc [.str,.str,.bool,.str,.slc [.str,.int .u8,.int .i64,.str],.bool] ((N.run a (rows.map cRA.dec)).binds.map cBind.enc)]),(10001,.var [.slc [.str,.int .u8,.str] ((N.run a (rows.map cRA.dec)).shops.map cShop.enc),.slc [.str,.str,.bool,.str,.slc [.str,.int .u8,.int .i64,.str],.bool] ((N.run a (rows.map cRA.dec)).binds.map cBind.enc)])] }) (fun a i ha hi=>?_) (fun a ha=>?_) ⟨[],[]⟩ 0 (Int.le_refl _) (by omega) BInv.nil K q (by assumption)
  ·exact main
  ·have hq:=fun K=>q_routeLeadsR s1 s2 r3 r r.length i (a.shops.map cShop.enc) (a.binds.map cBind.enc) (a.shops.map cShop.enc) (a.binds.map cBind.enc) K
   have t1:ilt (i:Int) r.length=true:=ilt_t (by omega)
   have t2:decide ((0:Int)≤i∧(i:Int)<r.length)=true:=decide_eq_true (by omega)
   have t3:IntKind.wrap .i64 ((i:Int)+1)=(i:Int)+1:=wr_i64 (by omega) (by omega)
   have m:=dec_at hi
   have hl:=lightRA_bind (lightRAs_at h4 _ m)
   have ho:=(okRA_of (List.all_eq_true.1 h5 _ m)).2
   have hn:=ha.step ho hl
   simp only [Int.toNat_natCast,fold_raB,fold_ra2,dec_encs,fold_book] at hq
   simp only [← step_eq ha (cRA.dec (r.getD i []))] at hq
   refine .inl ⟨_,hn,fun K=>?_,fun K=>rfl⟩
   rw [hq]
   simp only [t1,t2,t3,ha.small,lightB_small hl,cond_true]
  ·refine ⟨.exit 0,{ fr:=[(1,.str s1),(2,.str s2),(3,.slc [.str,.int .u8,.int .i64,.str] r3),(9,.ptr 10000 0 0 0),(10,.ptr 10001 0 0 0)],tab:=[(10000,.var [.slc [.str,.int .u8,.str] (a.shops.map cShop.enc),.slc [.str,.str,.bool,.str,.slc [.str,.int .u8,.int .i64,.str],.bool] (a.binds.map cBind.enc)]),(10001,.var [.slc [.str,.int .u8,.str] (a.shops.map cShop.enc),.slc [.str,.str,.bool,.str,.slc [.str,.int .u8,.int .i64,.str],.bool] (a.binds.map cBind.enc)])] },by simp,fun K=>?_,fun K=>rfl⟩
   rw [q_routeLeadsR,ilt_f (by omega),cond_false]
 ·cases h
theorem ok_routeLeads (hN:FnOk Tryz.prog 158 dOutNum):FnOk Tryz.prog 8 (den (aCons (vSl cRA) (aCons vStr (aCons vStr (aOne (vSl cPair))))) bNil (oV vBool) (fun a _=>cond (Nat.ble a.1.length 9223372036854775807) (a.1.all N.okRA) false) fun _ _=>(true,())):=by
 refine den_okF (env_ok ((((((((((((TOk.nil _).cons ok_eqS).cons ok_findS).cons ok_bookShop).cons ok_rLeads).cons ok_bLeads).cons ok_done14).cons ok_refCheck).cons ok_light).cons ok_refKey).cons ok_light14).cons (ok_aw14 hN))) (E:=eRouteLeads) Tryz.func8 [8] (by kernel_rfl) (one1 ok_routeLeads_8) fun a _ hp=>?_
 obtain ⟨l,shop,key,h⟩:=a
 obtain ⟨p1,p2⟩:=bcond hp
 have p1:Nat.ble l.length 9223372036854775807=true:=p1
 have p2:l.all N.okRA=true:=p2
 refine (q_routeLeads l shop key h).trans ?_
 simp only [dec_encs,fold_book,List.length_map,p1,p2,beq_self_eq_true,cond_true]
 cases e1:ile (l.length:Int) 40 with
 | false=>rfl
 | true =>
  have e2:Nat.ble l.length 40=true:=Nat.ble_eq_true_of_le (by have:=ile_of e1; omega)
  cases e3:N.lightRAs l with
  | false=>rfl
  | true =>
   cases ilt 40 (shop.length:Int) with
   | true=>rfl
   | false =>
    cases e4:N.refKey key false != 0 with
    | true=>rfl
    | false =>
     cases e5:N.light h with
     | false=>rfl
     | true =>
      cases e6:N.headCheck h != 0 with
      | true=>rfl
      | false =>
       have hb:=run_inv BInv.nil e3 p2
       generalize N.run ⟨[],[]⟩ l=b at hb ⊢
       have g1:=good_leads hb shop (refKey_len e4) (light_small e5)
       have g2:Nat.ble b.shops.length 1000=true:=Nat.ble_eq_true_of_le (by have:=hb.few; omega)
       have hz:N.headCheck h=0:=by
        have:(!(N.headCheck h==0))=false:=e6
        exact ieq_of (by rw [Bool.not_eq_false'] at this; exact this)
       obtain ⟨s1,s2⟩:=small_leads hb shop key h
       have el:=bLeads_eq hb shop key hz
       simp only [e2,g1,g2,← el,s1,s2,Bool.not_true,cond_true,cond_false,beq_self_eq_true]
       rw [shopOf_ix]
       rcases ixG_spec (N.isShop shop) b.shops 0 with ⟨x1,x2⟩ | ⟨u,x,v,x1,x2,x3,x4,x5⟩
       ·rw [x1,x2]; rfl
       ·have x6:N.shopOf shop b.shops=(x,true):=by rw [x1]; exact shopOf_split x3 v u x4
        have x7:(0+(u.length:Int)).toNat=u.length:=by omega
        have x8:(b.shops.map cShop.enc).getD u.length []=cShop.enc x:=by
         rw [x1,List.map_append,List.map_cons,List.getD_eq_getElem?_getD,List.getElem?_append_right (by simp)]
         simp
        have x9:ile 0 (0+(u.length:Int))=true:=ile_t (by omega)
        have x10:decide ((0:Int)≤0+(u.length:Int)∧0+(u.length:Int)<b.shops.length)=true:=decide_eq_true (by rw [x1]; simp; omega)
        have y1:V.toStr (List.getD (cShop.enc x) 0 .undef)=x.name:=rfl
        have y2:V.toInt (List.getD (cShop.enc x) 1 .undef)=x.sort:=rfl
        have y3:V.toStr (List.getD (cShop.enc x) 2 .undef)=x.to:=rfl
        simp only [x2,x5,x6,x7,x8,x9,x10,y1,y2,y3,beq_self_eq_true,Bool.and_self,Bool.not_true,cond_true,cond_false]
        try rfl
end Go.Ev

/- The library's text builder in this program,and the function that writes a number's bytes with it: lemmas,no condition but the text's length. -/
namespace Go.Ev
open Go Go.Proofs Go.RowKit Go.Shelf
theorem bSize:(Tryz.prog.info? 216).map (·.size)=some 2:=by kernel_rfl
theorem bLies:liesAt Tryz.prog Tryz.prog.depth 216 (2 / Tryz.prog.cellsOf 216) 0 216 1=true:=by kernel_rfl
theorem bByte:(Tryz.prog.info? 5).map (fun i=>(i.zero,i.size,i.bytes))=some (some (.int .u8 0),1,1):=by kernel_rfl
set_option maxHeartbeats 1000000 in
set_option maxRecDepth 100000 in
theorem cc_used (b : Nat) (w : World) (h0 : w.cell? ⟨b, 0, none⟩ = some (.pointer (some ⟨b, 0, none⟩))) :
    Calls Tryz.prog 175 #[.pointer (some ⟨b, 0, none⟩)] w fun e w' => e = .returned (.tuple #[]) ∧ w' = w := by
  obtain ⟨j, hj, _⟩ := Option.map_eq_some_iff.1 bSize
  go_enter Tryz.func175, Tryz.ntmps175
  go_wp2
  rw [Lib.run_neq_ptr_same w _ Tryz.underlying213 hj]
  go_wp2
  go_end0
  exact ⟨rfl, rfl⟩
set_option maxHeartbeats 1000000 in
set_option maxRecDepth 100000 in
theorem cc_fresh (b : Nat) (w : World) (h0 : w.cell? ⟨b, 0, none⟩ = some (.pointer none)) (hsh : w.shape? b = some (216, 2)) (hfz : w.frozen? ⟨b, 0, none⟩ = false) :
    Calls Tryz.prog 175 #[.pointer (some ⟨b, 0, none⟩)] w fun e w' => e = .returned (.tuple #[]) ∧ w' = w.setCell ⟨b, 0, none⟩ (.pointer (some ⟨b, 0, none⟩)) := by
  obtain ⟨j, hj, hjs⟩ := Option.map_eq_some_iff.1 bSize
  go_enter Tryz.func175, Tryz.ntmps175
  go_wp2
  rw [Lib.run_to_unsafe w ⟨b, 0, none⟩ Tryz.underlying213 Tryz.underlying224 hj (by rw [hjs]; decide) hsh (Nat.zero_lt_succ 1)]
  simp only [Result.andThen]
  rw [Oper.upon_value]
  go_wp2
  rw [run_callFunc_extern Tryz.func180 (by kernel_rfl) (by kernel_rfl) (by kernel_rfl) (e := Extern.AbiNoEscape.same) (by kernel_rfl)]
  rw [Lib.run_noEscape]
  simp only [Result.andThen]
  rw [Oper.upon_value]
  go_wp2
  rw [Lib.run_from_unsafe w ⟨b, 0, none⟩ Tryz.underlying224 Tryz.underlying213 hj hsh bLies]
  simp only [Result.andThen]
  rw [Oper.upon_value]
  go_wp2
  go_end0
  exact ⟨rfl, rfl⟩
theorem cc (B b:Nat) (bs:List Value) (w:World) (h:Lib.IsBuilder 216 5 B b bs w) :
  Calls Tryz.prog 175 #[.pointer (some ⟨b,0,none⟩)] w fun e w'=>e = .returned (.tuple #[])∧(Lib.BuilderAt 216 5 B b (.pointer (some ⟨b,0,none⟩)) bs w'∧Below B w w'):=by
 rcases h with h | h
 ·refine (cc_fresh b w h.cell0 h.shape h.frozen0).mono ?_
  rintro e w' ⟨rfl,rfl⟩
  exact ⟨rfl,h.used _,(Below.refl B w).setCell (p:=⟨b,0,none⟩) h.1 _⟩
 ·refine (cc_used b w h.cell0).mono ?_
  rintro e w' ⟨rfl,rfl⟩
  exact ⟨rfl,h,Below.refl B _⟩
set_option maxHeartbeats 2000000 in
set_option maxRecDepth 100000 in
theorem writeByte (B b : Nat) (bs : List Value) (c : Int) (w : World) (h : Lib.IsBuilder 216 5 B b bs w) (hlen : bs.length + 1 ≤ 140737488355328) (hBw : B ≤ w.heap.size) :
    Calls Tryz.prog 171 #[.pointer (some ⟨b, 0, none⟩), .int .u8 c] w fun e w' => e = .returned .nilIface ∧ (Lib.BuilderAt 216 5 B b (.pointer (some ⟨b, 0, none⟩)) (bs ++ [.int .u8 c]) w' ∧ Below B w w') := by
  obtain ⟨i0, hi, hz0, hz1, hz2⟩ := info_parts bByte
  go_enter Tryz.func171, Tryz.ntmps171
  go_wp2_with (go_at_call 175; refine (cc B b bs _ h).mono ?_)
  rintro e w1 ⟨rfl, h1, hb1⟩
  obtain ⟨hB, v, hbk, hown, hne⟩ := h1
  have c0 : w1.cell? ⟨b, 0, none⟩ = some (.pointer (some ⟨b, 0, none⟩)) := by rw [Lib.cell_of_heap hbk]; rfl
  have c1 : w1.cell? ⟨b, 1, none⟩ = some v := by rw [Lib.cell_of_heap hbk]; rfl
  go_wp2_with (at_builtin; refine wpList_append_own _ rfl _ _ 214 rfl B 5 i0 (.int .u8 0) 1 1 Tryz.underlying214 hi hz0 hz1 hz2 rfl (by decide) _ _ _ rfl (hown.alloc _) ⟨w1.heap.size, 0, none⟩ 1 1 [.int .u8 c] rfl rfl ?c1 ?c2 ?c3 ?c4 ?c5 ?_)
  case c1 =>
    intro j u hj
    match j, hj with
    | 0, hj => simp at hj; subst hj; simp [Addr.add]
  case c2 => intro u hu; simp at hu; subst hu; rfl
  case c3 => unfold maxLen; omega
  case c4 => omega
  case c5 => have := hb1.size; simp; omega
  intro v' w2 hown' hgrow _
  have hlt : b < w1.heap.size := by
    rcases Nat.lt_or_ge b w1.heap.size with h' | h'
    · exact h'
    · simp [Array.getElem?_eq_none h'] at hbk
  have hb2 : w2.heap[b]? = some (.cells #[.pointer (some ⟨b, 0, none⟩), v] 216 (0, 0)) := by
    rw [hgrow.block b (by simp; omega) (fun e => hne e.symm), Lib.alloc_old w1 _ b hlt]
    exact hbk
  have d0 : w2.cell? ⟨b, 0, none⟩ = some (.pointer (some ⟨b, 0, none⟩)) := by rw [Lib.cell_of_heap hb2]; rfl
  have d1 : w2.cell? ⟨b, 1, none⟩ = some v := by rw [Lib.cell_of_heap hb2]; rfl
  have f1 : w2.frozen? ⟨b, 1, none⟩ = false := Lib.frozen_of_heap hb2 1
  obtain ⟨g, cap, rfl⟩ : ∃ g cap, v' = .slice (some ⟨g, 0, none⟩) (bs.length + 1) cap := by
    rcases hown'.2 with ⟨_, h0⟩ | ⟨g, cap, cur, hv, _⟩
    · omega
    · exact ⟨g, cap, hv⟩
  go_wp2
  go_ret
  refine ⟨rfl, ?_, ?_⟩
  · exact Lib.BuilderAt.put (T := 216) (e := 5) hB hb2 (bs' := bs ++ [.int .u8 c]) (by simpa using hown') (by decide)
  · exact ((hb1.alloc (by have := hb1.size; omega) _).grown hgrow (by have := hb1.size; simp; omega) (fun k hk => (hown.lt k hk).1)).setCell (p := ⟨b, 1, none⟩) hB _
def lays169_ren:Go.Shelf.Ren:=⟨fun | 169=>172 | n=>n,fun | 70=>213 | 9=>9 | 0=>0 | 72=>216 | 37=>214 | 127=>221 | 3=>3 | 5=>5 | n=>n,fun | n=>n⟩
theorem lays169:Go.Proofs.Lays.n169 Tryz.prog lays169_ren:={
 mixed:=by kernel_rfl
 f169:=Tryz.func172.trans (congrArg some (by kernel_rfl))
 t0:=Tryz.underlying0
 a0:=Tryz.isAgg0
 z0:=Tryz.sizeOf0
 v0:=Tryz.zeroValue0
 t3:=Tryz.underlying3
 a3:=Tryz.isAgg3
 z3:=Tryz.sizeOf3
 v3:=Tryz.zeroValue3
 t9:=Tryz.underlying9
 a9:=Tryz.isAgg9
 z9:=Tryz.sizeOf9
 v9:=Tryz.zeroValue9
 t37:=Tryz.underlying214
 a37:=Tryz.isAgg214
 z37:=Tryz.sizeOf214
 v37:=Tryz.zeroValue214
 t70:=Tryz.underlying213
 a70:=Tryz.isAgg213
 z70:=Tryz.sizeOf213
 v70:=Tryz.zeroValue213
 t72:=Tryz.underlying216
 a72:=Tryz.isAgg216
 z72:=Tryz.sizeOf216
 v72:=Tryz.zeroValue216
 t127:=Tryz.underlying221
 a127:=Tryz.isAgg221
 z127:=Tryz.sizeOf221
 v127:=Tryz.zeroValue221 }
theorem extra169:Builder.Extra Tryz.prog lays169_ren:={
 sizeBuilder:=by kernel_rfl
 liesBuilder:=by kernel_rfl
 t5:=Tryz.underlying5
 a5:=Tryz.isAgg5
 z5:=Tryz.sizeOf5
 v5:=Tryz.zeroValue5
 infoByte:=by kernel_rfl
 cellsByte:=by kernel_rfl
 sizeByte:=by kernel_rfl
 neB5:=by decide }
theorem bString (B b:Nat) (l:List UInt8) (w:World) (h:Lib.IsBuilder 216 5 B b (Lib.byteCells l) w) (hBw:B≤w.heap.size) :
  Calls Tryz.prog 172 #[.pointer (some ⟨b,0,none⟩)] w fun e w'=>e = .returned (.string ⟨l.toArray⟩)∧Below B w w':=Any.Builder_String_any lays169 extra169 B b l w h hBw
end Go.Ev

/- The function that writes a number's bytes: its walk. -/
namespace Go.Ev
open Go Go.Proofs Go.RowKit Go.Shelf
theorem clamp_eq {bytes:Int}:min (max bytes 0) 8=(N.clamp bytes:Int)∧N.clamp bytes≤8:=by
 unfold N.clamp
 rw [ilt_eq,ilt_eq]
 by_cases h1:0<bytes
 ·by_cases h2:8<bytes
  ·simp [h1,h2]; omega
  ·simp [h1,h2]; omega
 ·simp [h1]; omega
theorem two_blocks {w wr:World} {o1 o2:Obj} (h:Below (w.heap.size+1+1) ((w.alloc o1).alloc o2) wr):wr.heap[w.heap.size]? = some o1∧wr.heap[w.heap.size+1]? = some o2:=by
 have e:(w.alloc o1).heap.size=w.heap.size+1:=by simp
 refine ⟨?_,?_⟩
 ·rw [h.block _ (by omega),Below.heap_alloc _ _ _ (by omega)]; exact Go.heap_alloc_new w o1
 ·rw [h.block _ (by omega),← e]; exact Go.heap_alloc_new _ o2
set_option maxHeartbeats 4000000 in
set_option maxRecDepth 1000000 in
theorem outNum_walk (s : ByteArray) (er n bytes : Int) (w : World) (hs : (s.size : Int) ≤ 9223372036854775799) :
    Calls Tryz.prog 158 #[.agg #[.string s, .int .i64 er], .int .u64 n, .int .i64 bytes] w fun e w' =>
      e = .returned (.agg #[.string ⟨(s.data.toList ++ N.numB n (N.clamp bytes)).toArray⟩, .int .i64 er]) ∧ Below w.heap.size w w' := by
  go_enter Tryz.func158, Tryz.ntmps158
  go_wp2
  go_loopw [8] (fun i wr => ∃ (k : Int) (acc : List UInt8), i = .int .i64 k ∧ Lib.IsBuilder 216 5 (w.heap.size + 1 + 1) (w.heap.size + 1 + 1) (Lib.byteCells acc) wr ∧
      Below (w.heap.size + 1 + 1) ((w.alloc (Obj.cells #[Value.string s, Value.int IntKind.i64 er] 201)).alloc (Obj.cells #[Value.string { data := #[] }, Value.int IntKind.i64 0] 201)) wr ∧
      -1 ≤ k ∧ acc ++ N.numB n (k + 1).toNat = N.numB n (N.clamp bytes) ∧ acc.length + (k + 1).toNat ≤ 8) (fun i _ => (intOf i + 1).toNat)
  case atStart =>
    obtain ⟨hcl, hc8⟩ := clamp_eq (bytes := bytes)
    have hf := Lib.fresh_isBuilder 216 5 ((w.alloc (Obj.cells #[Value.string s, Value.int IntKind.i64 er] 201)).alloc (Obj.cells #[Value.string { data := #[] }, Value.int IntKind.i64 0] 201))
    have e0 : ((w.alloc (Obj.cells #[Value.string s, Value.int IntKind.i64 er] 201)).alloc (Obj.cells #[Value.string { data := #[] }, Value.int IntKind.i64 0] 201)).heap.size = w.heap.size + 1 + 1 := by simp
    rw [e0] at hf
    refine ⟨(N.clamp bytes : Int) - 1, [], by rw [hcl], hf, (Below.refl _ _).alloc (by simp) _, by omega, ?_, ?_⟩
    · rw [show ((N.clamp bytes : Int) - 1 + 1).toNat = N.clamp bytes by omega]; rfl
    · simp only [List.length_nil]; omega
  case round =>
    obtain ⟨k, acc, rfl, hI, hB, hk, hacc, hal⟩ := hrel
    by_cases hk0 : 0 ≤ k
    · go_wp2_with (go_at_call 171; refine (writeByte (w.heap.size + 1 + 1) (w.heap.size + 1 + 1) _ _ _ hI (by rw [Lib.byteCells_length]; omega) (by have := hB.size; simp at this; omega)).mono ?_)
      rintro e w1 ⟨rfl, h1, b1⟩
      go_wp2
      go_roundw
      case rel =>
        have e1 : N.numB n (k + 1).toNat = UInt8.ofNat ((n / 2 ^ (8 * k.toNat)) % 256).toNat :: N.numB n k.toNat := by
          rw [show (k + 1).toNat = k.toNat + 1 by omega]; rfl
        have e2 : ((UInt8.ofNat ((n / 2 ^ (8 * k.toNat)) % 256).toNat).toNat : Int) = n / 2 ^ (8 * k).toNat % 256 := by
          rw [show (8 * k).toNat = 8 * k.toNat by omega]
          have h0 : 0 ≤ (n / 2 ^ (8 * k.toNat)) % 256 := Int.emod_nonneg _ (by decide)
          have h1 : (n / 2 ^ (8 * k.toNat)) % 256 < 256 := Int.emod_lt_of_pos _ (by decide)
          have h2 : (UInt8.ofNat ((n / 2 ^ (8 * k.toNat)) % 256).toNat).toNat = ((n / 2 ^ (8 * k.toNat)) % 256).toNat := UInt8.toNat_ofNat_of_lt' (by
            show ((n / 2 ^ (8 * k.toNat)) % 256).toNat < 256
            omega)
          rw [h2]; omega
        refine ⟨k - 1, acc ++ [UInt8.ofNat ((n / 2 ^ (8 * k.toNat)) % 256).toNat], rfl, ?_, hB.trans b1, by omega, ?_, ?_⟩
        · rw [Lib.byteCells_append]
          have e3 : Lib.byteCells [UInt8.ofNat ((n / 2 ^ (8 * k.toNat)) % 256).toNat] = [Value.int .u8 (n / 2 ^ (8 * k).toNat % 256)] := by
            rw [← e2]; rfl
          rw [e3]; exact Or.inr h1
        · rw [e1] at hacc
          rw [← hacc, show (k - 1 + 1).toNat = k.toNat by omega, List.append_assoc]; rfl
        · rw [List.length_append]; simp only [List.length_cons, List.length_nil]; omega
      case measure => simp [intOf]; omega
    · have hk1 : k = -1 := by omega
      subst hk1
      have hfin : N.numB n (N.clamp bytes) = acc := by rw [← hacc]; show acc ++ [] = acc; simp
      have hal : acc.length ≤ 8 := by omega
      clear hacc
      rw [hfin]
      obtain ⟨hb0, hb1⟩ := two_blocks hB
      have c0 : wr.cell? ⟨w.heap.size, 0, none⟩ = some (.string s) := by rw [Lib.cell_of_heap hb0]; rfl
      have c1 : wr.cell? ⟨w.heap.size, 1, none⟩ = some (.int .i64 er) := by rw [Lib.cell_of_heap hb0]; rfl
      have c2 : wr.cell? ⟨w.heap.size + 1, 0, none⟩ = some (.string ⟨#[]⟩) := by rw [Lib.cell_of_heap hb1]; rfl
      have c3 : wr.cell? ⟨w.heap.size + 1, 1, none⟩ = some (.int .i64 0) := by rw [Lib.cell_of_heap hb1]; rfl
      have f0 : wr.frozen? ⟨w.heap.size, 0, none⟩ = false := Lib.frozen_of_heap hb0 0
      have f1 : wr.frozen? ⟨w.heap.size, 1, none⟩ = false := Lib.frozen_of_heap hb0 1
      have f2 : wr.frozen? ⟨w.heap.size + 1, 0, none⟩ = false := Lib.frozen_of_heap hb1 0
      have f3 : wr.frozen? ⟨w.heap.size + 1, 1, none⟩ = false := Lib.frozen_of_heap hb1 1
      have hBw : w.heap.size + 1 + 1 ≤ wr.heap.size := by have := hB.size; simp at this; omega
      have hadd : ¬ 9223372036854775807 < s.size + acc.length := by omega
      have hadd2 : ¬ 9223372036854775807 < s.size + (⟨acc.toArray⟩ : ByteArray).size := by
        show ¬ 9223372036854775807 < s.size + acc.toArray.size
        rw [List.size_toArray]; exact hadd
      have hadd3 : ¬ (s.size + (⟨acc.toArray⟩ : ByteArray).size > 9223372036854775807) := hadd2
      have hadd4 : s.size + (⟨acc.toArray⟩ : ByteArray).size ≤ 9223372036854775807 := Nat.not_lt.1 hadd2
      have hadd5 : s.size + acc.length ≤ 9223372036854775807 := Nat.not_lt.1 hadd
      go_wp2
      go_region_with (go_at_call 172; refine (bString (w.heap.size + 1 + 1) (w.heap.size + 1 + 1) acc _ (by exact hI) (by exact hBw)).mono ?_; rintro e w2 ⟨rfl, b2⟩
                      have d0 : w2.cell? ⟨w.heap.size, 0, none⟩ = some (.string s) := by rw [b2.cell (by show w.heap.size < w.heap.size + 1 + 1; omega)]; exact c0
                      have d1 : w2.cell? ⟨w.heap.size, 1, none⟩ = some (.int .i64 er) := by rw [b2.cell (by show w.heap.size < w.heap.size + 1 + 1; omega)]; exact c1
                      have d2 : w2.cell? ⟨w.heap.size + 1, 0, none⟩ = some (.string ⟨#[]⟩) := by rw [b2.cell (by show w.heap.size + 1 < w.heap.size + 1 + 1; omega)]; exact c2
                      have d3 : w2.cell? ⟨w.heap.size + 1, 1, none⟩ = some (.int .i64 0) := by rw [b2.cell (by show w.heap.size + 1 < w.heap.size + 1 + 1; omega)]; exact c3
                      have e0 : w2.frozen? ⟨w.heap.size, 0, none⟩ = false := by rw [b2.frozen (by show w.heap.size < w.heap.size + 1 + 1; omega)]; exact f0
                      have e1 : w2.frozen? ⟨w.heap.size, 1, none⟩ = false := by rw [b2.frozen (by show w.heap.size < w.heap.size + 1 + 1; omega)]; exact f1
                      have e2 : w2.frozen? ⟨w.heap.size + 1, 0, none⟩ = false := by rw [b2.frozen (by show w.heap.size + 1 < w.heap.size + 1 + 1; omega)]; exact f2
                      have e3 : w2.frozen? ⟨w.heap.size + 1, 1, none⟩ = false := by rw [b2.frozen (by show w.heap.size + 1 < w.heap.size + 1 + 1; omega)]; exact f3)
      all_goals go_wp2
      all_goals
        refine ⟨rfl, .agg #[.string (s ++ ⟨acc.toArray⟩), .int .i64 er], ?_, ?_, ?_⟩
        · simp [results, Tryz.results158, go_sem, d2, d3]
        · rw [hfin, ← bytes_append]
        · have b0 : Below w.heap.size w wr := (((Below.refl _ w).alloc (Nat.le_refl _) _).alloc (by simp) _).trans (hB.mono (by omega))
          exact (((b0.drew.trans (b2.mono (by omega))).setCell (p := ⟨w.heap.size, 0, none⟩) (Nat.le_refl _) _).setCell (p := ⟨w.heap.size + 1, 0, none⟩) (Nat.le_succ _) _).setCell (p := ⟨w.heap.size + 1, 1, none⟩) (Nat.le_succ _) _
theorem keeps_below {w w' : World} (X:Nat→Nat→Prop) (h:Below w.heap.size w w'):Keeps X w w' :=
 ⟨h.os,h.tape,h.output,h.size,fun b hb=>ObjOk.same (h.block b hb)⟩
theorem outNum_ok:FnOk Tryz.prog 158 dOutNum:=by
 refine den_of fun a b hp=>?_
 obtain ⟨o,n,bytes⟩:=a
 intro x y hxy w J locs xs hlen hJ hx _ _ _
 have hxy:x=(aCons (vAgg cOut) (aCons (vInt .u64) (aOne (vInt .i64)))).enc (o,n,bytes)∧y=bNil.enc b:=by simpa using hxy
 obtain ⟨rfl,rfl⟩:=hxy
 have hlen:locs=[]:=List.eq_nil_of_length_eq_zero hlen
 subst hlen
 obtain ⟨hp1,hp⟩:=bcond hp
 obtain ⟨hp2,hp3⟩:=bcond hp
 have hp3:o.s.length≤9223372036854775799:=Nat.le_of_ble_eq_true hp3
 obtain ⟨x0,xs1,rfl,hx0,hx⟩:=hx.uncons
 obtain ⟨x1,xs2,rfl,hx1,hx⟩:=hx.uncons
 obtain ⟨x2,rfl,hx2⟩:=hx.one
 obtain ⟨cs,rfl,hc1,hc2⟩:=Rv.agg_inv (show Rv w J _ (.agg [.str o.s,.int .i64 o.err]) x0 from hx0)
 have hx1:=Rv.int_inv (show Rv w J _ (.int .u64 n) x1 from hx1)
 have hx2:=Rv.int_inv (show Rv w J _ (.int .i64 bytes) x2 from hx2)
 subst hx1 hx2
 match cs,hc1,hc2 with
 | [c0,c1],_,hc2 =>
  have h0:=Rv.str_inv (show Rv w J _ (.str o.s) c0 from hc2 0 (by simp))
  have h1:=Rv.int_inv (show Rv w J _ (.int .i64 o.err) c1 from hc2 1 (by simp))
  subst h0 h1
  refine .inl ⟨?_,?_⟩
  ·have hnm : ¬ (Tryz.f158).name = "runtime.NumGoroutine" := by
    intro e
    have : ((Tryz.f158).name == "runtime.NumGoroutine") = false := by kernel_rfl
    rw [e] at this; cases this
   obtain ⟨c,hc⟩:=Option.isSome_iff_exists.1 (show (Tryz.f158).body.isSome=true by kernel_rfl)
   simp [callFunc,Tryz.func158,hnm,hc]
  ·refine (outNum_walk ⟨o.s.toArray⟩ o.err n bytes w (by rw [bytes_size]; omega)).mono fun e w' ⟨he,hb⟩=>⟨_,he,J,?_⟩
   refine ⟨keeps_below _ hb,fun _ _ h=>h,fun b o' h=>Nat.lt_of_lt_of_le (hJ b o' h) hb.size,fun _ _ h _=>h,rfl,(fun j cs cs' p hj=>by cases hj),.inl ⟨rfl,?_⟩⟩
   refine .agg [.str (N.outNum o n bytes).s,.int .i64 (N.outNum o n bytes).err] [.string ⟨(o.s++N.numB n (N.clamp bytes)).toArray⟩,.int .i64 o.err] rfl fun i hi=>?_
   match i,hi with
   | 0,_=>exact .dat (.str _)
   | 1,_=>exact .dat (.int _ _)
end Go.Ev
