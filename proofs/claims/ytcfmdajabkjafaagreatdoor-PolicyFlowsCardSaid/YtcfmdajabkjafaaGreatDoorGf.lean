/- Policies: Check,by the document: what the evaluator makes of it: lemmas,no condition. -/
import Derived.Test.YtcfmdajabkjafaaGreatDoorGe
import Derived.Test.YtcfmdajabkjafaaGreatDoorGc
import Derived.Stop.LaidErr
import Derived.MakeChecks
import Derived.Lib.LaidTab
import Derived.Test.YtcfmdajabkjafaaGreatDoorRows
import Derived.Lib.ItoaNum
import Derived.Test.YtcfmdajabkjafaaGreatDoorProg
import Derived.KernelRfl
import Derived.Shelf.Strings.Builder1
import Derived.RegionTactic
import Derived.Deep.RegionWith
namespace Go.Ev
open Go Go.Proofs
set_option maxRecDepth 100000
-- FOLD
namespace N
def rPl (all:List HPlace):Int→List HPlace→Int
 | _,[]=>0
 | i,x::r=>cond (placeE x (all.take i.toNat) != 0) (placeE x (all.take i.toNat)) (rPl all (i+1) r)
def rSl (n:Int):List Int→Int
 | []=>0
 | k::r=>cond (cond (ilt k 0) true (ile n k)) 10 (rSl n r)
def rGr (p:HPolicy):Int→List HGrant→Int
 | _,[]=>0
 | i,x::r=>cond (grantE p x (p.grants.take i.toNat) != 0) (grantE p x (p.grants.take i.toNat)) (rGr p (i+1) r)
end N
def dCheckR:Den:=den (aOne (vAgg cPolicy)) bNil (oV (vInt .i64)) (fun p _=>cond (fewC p) (p.places.all okPl) false) fun p _=>(N.checkP p,())
def schRCheckP9:SSch:={ fr:=[(1,.ptr 10000 0 0),(3,.int .i64),(45,.slc [.str,.int .u8,.int .u32,.int .i64,.int .u64]),(46,.int .i64),(47,.int .i64)],tab:=[(10000,.row [] xsPolicy)] }
def gRCheckP9:List Leaf→(Ex→St→Option R)→Option R
 | [.i i3,.r r45,.i i46,.i i47,.c cx0],K=>cond (i46==r45.length) (cond (i47==0) (cond (Nat.ble r45.length 3000) (cond (i3==(cPolicy.dec cx0).places.length) (cond (Nat.ble r45.length (cPolicy.dec cx0).places.length) (cond (Nat.ble (cPolicy.dec cx0).places.length 3000) (cond (r45.all fun r=>Nat.ble (V.toStr (List.getD r 0 V.undef)).length 1000000) (cond (N.rPl (cPolicy.dec cx0).places (0:Int) (r45.map cPlace.dec) != 0) (K .ret { fr:=[(2,.int .i64 (N.rPl (cPolicy.dec cx0).places (0:Int) (r45.map cPlace.dec)))],tab:=[] }) (K (.exit 0) { fr:=[(1,.ptr 10000 0 0 0),(3,.int .i64 i3)],tab:=[(10000,.var (etaRow xsPolicy 0 cx0))] })) none) none) none) none) none) none) none
 | _,_=>none
def schRCheckP17:SSch:={ fr:=[(1,.ptr 10000 0 0),(3,.int .i64),(5,.ptr 10001 0 0),(45,.slc [.str,.int .u8,.int .u32,.int .i64,.int .u64]),(46,.int .i64),(47,.int .i64),(80,.slc [.str,.int .u8,.int .u32,.int .i64,.int .u64]),(81,.int .i64),(82,.int .i64)],tab:=[(10000,.row [] xsPolicy),(10001,.var [.str,.int .u8,.int .u32,.int .i64,.int .u64])] }
def gRCheckP17:List Leaf→(Ex→St→Option R)→Option R
 | [.i i3,.r r45,.i i46,.i i47,.r r80,.i i81,.i i82,.c cx0,.s sx1,.i ix1,.i ix1_1,.i ix1_2,.i ix1_3],K=>cond (i81==r80.length) (cond (i82==0) (cond (Nat.ble r80.length 3000) (cond ((r80.map cPlace.dec).any (N.twiceP ⟨sx1,⟨ix1,ix1_1⟩,ix1_2,ix1_3⟩)) (K .ret { fr:=[(2,.int .i64 9)],tab:=[] }) (K (.exit 2) { fr:=[(1,.ptr 10000 0 0 0),(3,.int .i64 i3),(45,.slc [.str,.int .u8,.int .u32,.int .i64,.int .u64] r45),(46,.int .i64 i46),(47,.int .i64 i47)],tab:=[(10000,.var (etaRow xsPolicy 0 cx0))] })) none) none) none
 | _,_=>none
def schRCheckP28:SSch:={ fr:=[(1,.ptr 10000 0 0),(3,.int .i64),(109,.slc [.int .i64]),(110,.int .i64),(111,.int .i64)],tab:=[(10000,.row [] xsPolicy)] }
def gRCheckP28:List Leaf→(Ex→St→Option R)→Option R
 | [.i i3,.r r109,.i i110,.i i111,.c cx0],K=>cond (i110==r109.length) (cond (i111==0) (cond (Nat.ble r109.length 3000) (cond (N.rSl i3 (r109.map (rInt .i64).dec) != 0) (K .ret { fr:=[(2,.int .i64 (N.rSl i3 (r109.map (rInt .i64).dec)))],tab:=[] }) (K (.exit 4) { fr:=[(1,.ptr 10000 0 0 0),(3,.int .i64 i3)],tab:=[(10000,.var (etaRow xsPolicy 0 cx0))] })) none) none) none
 | _,_=>none
def schRCheckP36:SSch:={ fr:=[(1,.ptr 10000 0 0),(3,.int .i64),(128,.slc [.int .i64,.int .i64,.int .i64]),(129,.int .i64),(130,.int .i64)],tab:=[(10000,.row [] xsPolicy)] }
def gRCheckP36:List Leaf→(Ex→St→Option R)→Option R
 | [.i i3,.r r128,.i i129,.i i130,.c cx0],K=>cond (i129==r128.length) (cond (i130==0) (cond (Nat.ble r128.length 3000) (cond (i3==(cPolicy.dec cx0).places.length) (cond (Nat.ble r128.length (cPolicy.dec cx0).grants.length) (cond (Nat.ble (cPolicy.dec cx0).places.length 3000) (cond (Nat.ble (cPolicy.dec cx0).grants.length 3000) (cond ((cPolicy.dec cx0).places.all okPl) (cond (N.rGr (cPolicy.dec cx0) (0:Int) (r128.map cGrant.dec) != 0) (K .ret { fr:=[(2,.int .i64 (N.rGr (cPolicy.dec cx0) (0:Int) (r128.map cGrant.dec)))],tab:=[] }) (K (.exit 6) { fr:=[(1,.ptr 10000 0 0 0),(3,.int .i64 i3)],tab:=[(10000,.var (etaRow xsPolicy 0 cx0))] })) none) none) none) none) none) none) none) none
 | _,_=>none
def schRCheckP45:SSch:={ fr:=[(1,.ptr 10000 0 0),(3,.int .i64),(12,.ptr 10001 0 0),(128,.slc [.int .i64,.int .i64,.int .i64]),(129,.int .i64),(130,.int .i64),(181,.slc [.int .i64,.int .i64,.int .i64]),(182,.int .i64),(183,.int .i64)],tab:=[(10000,.row [] xsPolicy),(10001,.var [.int .i64,.int .i64,.int .i64])] }
def gRCheckP45:List Leaf→(Ex→St→Option R)→Option R
 | [.i i3,.r r128,.i i129,.i i130,.r r181,.i i182,.i i183,.c cx0,.i ix1,.i ix1_1,.i _],K=>cond (i182==r181.length) (cond (i183==0) (cond (Nat.ble r181.length 3000) (cond ((r181.map cGrant.dec).any (N.isGr ix1 ix1_1)) (K .ret { fr:=[(2,.int .i64 9)],tab:=[] }) (K (.exit 8) { fr:=[(1,.ptr 10000 0 0 0),(3,.int .i64 i3),(128,.slc [.int .i64,.int .i64,.int .i64] r128),(129,.int .i64 i129),(130,.int .i64 i130)],tab:=[(10000,.var (etaRow xsPolicy 0 cx0))] })) none) none) none
 | _,_=>none
def schRCheckP52:SSch:={ fr:=[(1,.ptr 10000 0 0),(3,.int .i64),(15,.int .i64)],tab:=[(10000,.row [] xsPolicy)] }
def gRCheckP52:List Leaf→(Ex→St→Option R)→Option R
 | [.i i3,.i i15,.c cx0],K=>cond (i3==(cPolicy.dec cx0).places.length) (cond (i15==0) (cond (Nat.ble (cPolicy.dec cx0).places.length 3000) (cond (Nat.ble (cPolicy.dec cx0).slots.length 3000) (cond (N.lacks (cPolicy.dec cx0) (cPolicy.dec cx0).places.length 0==0) (K (.exit 10) { fr:=[],tab:=[] }) (K .ret { fr:=[(2,.int .i64 15)],tab:=[] })) none) none) none) none
 | _,_=>none
def schRCheckP56:SSch:={ fr:=[(1,.ptr 10000 0 0),(3,.int .i64),(15,.int .i64),(16,.bool),(207,.slc [.int .i64]),(208,.int .i64),(209,.int .i64)],tab:=[(10000,.row [] xsPolicy)] }
def gRCheckP56:List Leaf→(Ex→St→Option R)→Option R
 | [.i i3,.i i15,.b b16,.r r207,.i i208,.i i209,.c cx0],K=>cond (i208==r207.length) (cond (i209==0) (cond (Nat.ble r207.length 3000) (K (.exit 12) { fr:=[(1,.ptr 10000 0 0 0),(3,.int .i64 i3),(15,.int .i64 i15),(16,.bool (cond b16 true ((r207.map (rInt .i64).dec).any (·==i15))))],tab:=[(10000,.var (etaRow xsPolicy 0 cx0))] }) none) none) none
 | _,_=>none
noncomputable def eRCheckP:Env:=env Tryz.prog [(50,dName),(45,dRefUnder)] [(56,loopF schRCheckP56 gRCheckP56),(52,loopF schRCheckP52 gRCheckP52),(45,loopF schRCheckP45 gRCheckP45),(36,loopF schRCheckP36 gRCheckP36),(28,loopF schRCheckP28 gRCheckP28),(17,loopF schRCheckP17 gRCheckP17),(9,loopF schRCheckP9 gRCheckP9)] [(9,[(0,[1,3,45,46,47]),(1,[1,3]),(1000,[2])]),(17,[(0,[1,3,5,45,46,47,80,81,82]),(3,[1,3,45,46,47]),(1000,[2])]),(28,[(0,[1,3,109,110,111]),(5,[1,3]),(1000,[2])]),(36,[(0,[1,3,128,129,130]),(7,[1,3]),(1000,[2])]),(45,[(0,[1,3,12,128,129,130,181,182,183]),(9,[1,3,128,129,130]),(1000,[2])]),(52,[(0,[1,3,15]),(11,[]),(1000,[2])]),(56,[(0,[1,3,15,16,207,208,209]),(13,[1,3,15,16]),(1000,[2])])]
theorem q_rCheckP_ (p:HPolicy):evFn eRCheckP 29 ((aOne (vAgg cPolicy)).enc p) ([]) some =(
 let z0:=(List.map (RCod.enc cPlace) (HPolicy.places p));let z1:=(List.map (RCod.enc cGrant) (HPolicy.grants p));let z2:=(List.map (RCod.enc (rInt .i64)) (HPolicy.slots p));let z3:=(List.map (RCod.dec cPlace) z0);let z4:=(↑(List.length z0):Int);let z5:=(some {v:=V.int .i64 (7:Int),bx:=[]:DRes});let z6:=(some {v:=V.int .i64 (15:Int),bx:=[]:DRes});let z7:=(some {v:=V.int .i64 (6:Int),bx:=[]:DRes});let z8:=(List.map (RCod.dec cGrant) z1);let z9:=(↑(List.length z2):Int);let z10:=(List.map (RCod.dec (rInt .i64)) z2);let z11:=(z4==(↑(List.length z3):Int));let z12:=(Nat.ble (List.length z3) 3000);cond (ilt (HPolicy.work p) (1:Int)) z5 (cond (ilt (16:Int) (HPolicy.work p)) z5 (cond (ilt (HPolicy.give p) (1:Int)) z5 (cond (ilt (16:Int) (HPolicy.give p)) z5 (cond (z4==(0:Int)) z6 (cond (ilt (16:Int) z4) z7 (cond (z4==z4) (cond (Nat.ble (List.length z0) 3000) (cond z11 (cond (Nat.ble (List.length z0) (List.length z3)) (cond z12 (cond (List.all z0 fun r=>Nat.ble (List.length (V.toStr (List.getD r 0 .undef))) 1000000) (cond (N.rPl z3 (0:Int) z3 != (0:Int)) (some {v:=V.int .i64 (N.rPl z3 (0:Int) z3),bx:=[]:DRes}) (cond (z9==(0:Int)) z6 (cond (ilt (32:Int) z9) z7 (cond (z9==z9) (cond (Nat.ble (List.length z2) 3000) (cond (N.rSl z4 z10 != (0:Int)) (some {v:=V.int .i64 (N.rSl z4 z10),bx:=[]:DRes}) (cond (ilt (8:Int) (↑(List.length z1):Int)) z7 (cond ((↑(List.length z1):Int)==(↑(List.length z1):Int)) (cond (Nat.ble (List.length z1) 3000) (cond z11 (cond (Nat.ble (List.length z1) (List.length z8)) (cond z12 (cond (Nat.ble (List.length z8) 3000) (cond (List.all z3 fun x=>bif bif ile (0:Int) (Label.level (HPlace.label x)) then ile (Label.level (HPlace.label x)) (255:Int) else false then bif ile (0:Int) (Label.set (HPlace.label x)) then ilt (Label.set (HPlace.label x)) (4294967296:Int) else false else false) (cond (N.rGr {work:=HPolicy.work p,give:=HPolicy.give p,places:=List.map (RCod.dec cPlace) z0,slots:=List.map (RCod.dec (rInt .i64)) z2,grants:=List.map (RCod.dec cGrant) z1:HPolicy} (0:Int) z8 != (0:Int)) (some {v:=V.int .i64 (N.rGr {work:=HPolicy.work p,give:=HPolicy.give p,places:=List.map (RCod.dec cPlace) z0,slots:=List.map (RCod.dec (rInt .i64)) z2,grants:=List.map (RCod.dec cGrant) z1:HPolicy} (0:Int) z8),bx:=[]:DRes}) (cond z11 (cond z12 (cond (Nat.ble (List.length z10) 3000) (cond (N.lacks {work:=HPolicy.work p,give:=HPolicy.give p,places:=List.map (RCod.dec cPlace) z0,slots:=List.map (RCod.dec (rInt .i64)) z2,grants:=List.map (RCod.dec cGrant) z1:HPolicy} (List.length z3) 0==(0:Int)) (some {v:=V.int .i64 (0:Int),bx:=[]:DRes}) z6) (none)) (none)) (none))) (none)) (none)) (none)) (none)) (none)) (none)) (none)))) (none)) (none))))) (none)) (none)) (none)) (none)) (none)) (none)))))))):=by kernel_rfl
theorem q_rCheckP (p:HPolicy):type_of% (by have h:=q_rCheckP_ p; dsimp only at h; exact h):=by
 have h:=q_rCheckP_ p
 dsimp only at h
 exact h
theorem q_rCheckPR9_ (i3:Int) (r45:List (List V)) (i46:Int) (i47:Int) (cx0:List V) (K:Ex→St→Option R):evRound eRCheckP 29 9 { fr:=[(1,.ptr 10000 0 0 0),(3,.int .i64 i3),(45,.slc [.str,.int .u8,.int .u32,.int .i64,.int .u64] r45),(46,.int .i64 i46),(47,.int .i64 i47)],tab:=[(10000,.var (etaRow xsPolicy 0 cx0))] } K =(
 let z0:=(List.getD r45 (Int.toNat i47) []);let z3:=(V.toRows (List.getD cx0 2 .undef));let z1:=(List.drop 0 (List.take (Int.toNat i47) z3));let z2:=(K Ex.ret {fr:=[(2,V.int .i64 (7:Int))],tab:=[]:St});cond (ilt i47 i46) (cond (decide ((0:Int)≤i47∧i47<(↑(List.length r45):Int))) (cond (N.name (V.toStr (List.getD z0 0 V.undef)) != (0:Int)) (K Ex.ret {fr:=[(2,V.int .i64 (N.name (V.toStr (List.getD z0 0 V.undef))))],tab:=[]:St}) (cond (ilt (15:Int) (V.toInt (List.getD z0 1 V.undef))) z2 (cond (ilt (V.toInt (List.getD z0 3 V.undef)) (0:Int)) z2 (cond (ilt (65536:Int) (V.toInt (List.getD z0 3 V.undef))) z2 (cond (V.toInt (List.getD z0 4 V.undef)==(0:Int)) z2 (cond (decide ((0:Int)≤i47∧i47≤(↑(List.length z3):Int))) (cond ((↑(List.length z1):Int)==(↑(List.length z1):Int)) (cond (Nat.ble (List.length z1) 3000) (cond (List.any (List.map (RCod.dec cPlace) z1) (N.twiceP {name:=V.toStr (List.getD z0 0 V.undef),label:={level:=V.toInt (List.getD z0 1 V.undef),set:=V.toInt (List.getD z0 2 V.undef):Label},bytes:=V.toInt (List.getD z0 3 V.undef),base:=V.toInt (List.getD z0 4 V.undef):HPlace})) (K Ex.ret {fr:=[(2,V.int .i64 (9:Int))],tab:=[]:St}) (K Ex.normal {fr:=[(1,V.ptr 10000 0 0 0),(3,V.int .i64 i3),(45,V.slc [.str,.int .u8,.int .u32,.int .i64,.int .u64] r45),(46,V.int .i64 i46),(47,V.int .i64 (IntKind.wrap .i64 (i47+(1:Int))))],tab:=[(10000,Box.var [V.int .i64 (V.toInt (List.getD cx0 0 .undef)),V.int .i64 (V.toInt (List.getD cx0 1 .undef)),V.slc [.str,.int .u8,.int .u32,.int .i64,.int .u64] z3,V.slc [.int .i64] (V.toRows (List.getD cx0 3 .undef)),V.slc [.int .i64,.int .i64,.int .i64] (V.toRows (List.getD cx0 4 .undef))])]:St})) (none)) (none)) (none))))))) (none)) (K (Ex.exit 0) {fr:=[(1,V.ptr 10000 0 0 0),(3,V.int .i64 i3)],tab:=[(10000,Box.var [V.int .i64 (V.toInt (List.getD cx0 0 .undef)),V.int .i64 (V.toInt (List.getD cx0 1 .undef)),V.slc [.str,.int .u8,.int .u32,.int .i64,.int .u64] z3,V.slc [.int .i64] (V.toRows (List.getD cx0 3 .undef)),V.slc [.int .i64,.int .i64,.int .i64] (V.toRows (List.getD cx0 4 .undef))])]:St})):=by kernel_rfl
theorem q_rCheckPR9 (i3:Int) (r45:List (List V)) (i46:Int) (i47:Int) (cx0:List V) (K:Ex→St→Option R):type_of% (by have h:=q_rCheckPR9_ i3 r45 i46 i47 cx0 K; dsimp only at h; exact h):=by
 have h:=q_rCheckPR9_ i3 r45 i46 i47 cx0 K
 dsimp only at h
 exact h
theorem q_rCheckPR17 (i3:Int) (r45:List (List V)) (i46:Int) (i47:Int) (r80:List (List V)) (i81:Int) (i82:Int) (cx0:List V) (sx1:Bytes) (ix1:Int) (ix1_1:Int) (ix1_2:Int) (ix1_3:Int) (K:Ex→St→Option R):evRound eRCheckP 29 17 { fr:=[(1,.ptr 10000 0 0 0),(3,.int .i64 i3),(5,.ptr 10001 0 0 0),(45,.slc [.str,.int .u8,.int .u32,.int .i64,.int .u64] r45),(46,.int .i64 i46),(47,.int .i64 i47),(80,.slc [.str,.int .u8,.int .u32,.int .i64,.int .u64] r80),(81,.int .i64 i81),(82,.int .i64 i82)],tab:=[(10000,.var (etaRow xsPolicy 0 cx0)),(10001,.var [.str sx1,.int .u8 ix1,.int .u32 ix1_1,.int .i64 ix1_2,.int .u64 ix1_3])] } K =
 cond (ilt i82 i81) (cond (decide ((0:Int)≤i82∧i82<(↑(List.length r80):Int))) (cond (V.toStr (List.getD (List.getD r80 (Int.toNat i82) []) 0 V.undef)==sx1) (K Ex.ret {fr:=[(2,V.int .i64 (9:Int))],tab:=[]:St}) (cond (V.toInt (List.getD (List.getD r80 (Int.toNat i82) []) 1 V.undef)==ix1 && (V.toInt (List.getD (List.getD r80 (Int.toNat i82) []) 2 V.undef)==ix1_1 && true)) (K Ex.ret {fr:=[(2,V.int .i64 (9:Int))],tab:=[]:St}) (K Ex.normal {fr:=[(1,V.ptr 10000 0 0 0),(3,V.int .i64 i3),(5,V.ptr 10001 0 0 0),(45,V.slc [.str,.int .u8,.int .u32,.int .i64,.int .u64] r45),(46,V.int .i64 i46),(47,V.int .i64 i47),(80,V.slc [.str,.int .u8,.int .u32,.int .i64,.int .u64] r80),(81,V.int .i64 i81),(82,V.int .i64 (IntKind.wrap .i64 (i82+(1:Int))))],tab:=[(10000,Box.var [V.int .i64 (V.toInt (List.getD cx0 0 .undef)),V.int .i64 (V.toInt (List.getD cx0 1 .undef)),V.slc [.str,.int .u8,.int .u32,.int .i64,.int .u64] (V.toRows (List.getD cx0 2 .undef)),V.slc [.int .i64] (V.toRows (List.getD cx0 3 .undef)),V.slc [.int .i64,.int .i64,.int .i64] (V.toRows (List.getD cx0 4 .undef))]),(10001,Box.var [V.str sx1,V.int .u8 ix1,V.int .u32 ix1_1,V.int .i64 ix1_2,V.int .u64 ix1_3])]:St}))) (none)) (K (Ex.exit 2) {fr:=[(1,V.ptr 10000 0 0 0),(3,V.int .i64 i3),(45,V.slc [.str,.int .u8,.int .u32,.int .i64,.int .u64] r45),(46,V.int .i64 i46),(47,V.int .i64 i47)],tab:=[(10000,Box.var [V.int .i64 (V.toInt (List.getD cx0 0 .undef)),V.int .i64 (V.toInt (List.getD cx0 1 .undef)),V.slc [.str,.int .u8,.int .u32,.int .i64,.int .u64] (V.toRows (List.getD cx0 2 .undef)),V.slc [.int .i64] (V.toRows (List.getD cx0 3 .undef)),V.slc [.int .i64,.int .i64,.int .i64] (V.toRows (List.getD cx0 4 .undef))])]:St}):=by kernel_rfl
theorem q_rCheckPR28 (i3:Int) (r109:List (List V)) (i110:Int) (i111:Int) (cx0:List V) (K:Ex→St→Option R):evRound eRCheckP 29 28 { fr:=[(1,.ptr 10000 0 0 0),(3,.int .i64 i3),(109,.slc [.int .i64] r109),(110,.int .i64 i110),(111,.int .i64 i111)],tab:=[(10000,.var (etaRow xsPolicy 0 cx0))] } K =
 cond (ilt i111 i110) (cond (decide ((0:Int)≤i111∧i111<(↑(List.length r109):Int))) (cond (ilt (V.toInt (List.getD (List.getD r109 (Int.toNat i111) []) 0 V.undef)) (0:Int)) (K Ex.ret {fr:=[(2,V.int .i64 (10:Int))],tab:=[]:St}) (cond (ile i3 (V.toInt (List.getD (List.getD r109 (Int.toNat i111) []) 0 V.undef))) (K Ex.ret {fr:=[(2,V.int .i64 (10:Int))],tab:=[]:St}) (K Ex.normal {fr:=[(1,V.ptr 10000 0 0 0),(3,V.int .i64 i3),(109,V.slc [.int .i64] r109),(110,V.int .i64 i110),(111,V.int .i64 (IntKind.wrap .i64 (i111+(1:Int))))],tab:=[(10000,Box.var [V.int .i64 (V.toInt (List.getD cx0 0 .undef)),V.int .i64 (V.toInt (List.getD cx0 1 .undef)),V.slc [.str,.int .u8,.int .u32,.int .i64,.int .u64] (V.toRows (List.getD cx0 2 .undef)),V.slc [.int .i64] (V.toRows (List.getD cx0 3 .undef)),V.slc [.int .i64,.int .i64,.int .i64] (V.toRows (List.getD cx0 4 .undef))])]:St}))) (none)) (K (Ex.exit 4) {fr:=[(1,V.ptr 10000 0 0 0),(3,V.int .i64 i3)],tab:=[(10000,Box.var [V.int .i64 (V.toInt (List.getD cx0 0 .undef)),V.int .i64 (V.toInt (List.getD cx0 1 .undef)),V.slc [.str,.int .u8,.int .u32,.int .i64,.int .u64] (V.toRows (List.getD cx0 2 .undef)),V.slc [.int .i64] (V.toRows (List.getD cx0 3 .undef)),V.slc [.int .i64,.int .i64,.int .i64] (V.toRows (List.getD cx0 4 .undef))])]:St}):=by kernel_rfl
theorem q_rCheckPR36_ (i3:Int) (r128:List (List V)) (i129:Int) (i130:Int) (cx0:List V) (K:Ex→St→Option R):evRound eRCheckP 29 36 { fr:=[(1,.ptr 10000 0 0 0),(3,.int .i64 i3),(128,.slc [.int .i64,.int .i64,.int .i64] r128),(129,.int .i64 i129),(130,.int .i64 i130)],tab:=[(10000,.var (etaRow xsPolicy 0 cx0))] } K =(
 let z0:=(List.getD r128 (Int.toNat i130) []);let z6:=(V.toRows (List.getD cx0 4 .undef));let z1:=(List.drop 0 (List.take (Int.toNat i130) z6));let z2:=(V.toRows (List.getD cx0 2 .undef));let z3:=(K Ex.ret {fr:=[(2,V.int .i64 (10:Int))],tab:=[]:St});let z4:=(List.getD z0 0 V.undef);let z5:=(List.getD z0 1 V.undef);let z7:=(K Ex.ret {fr:=[(2,V.int .i64 (7:Int))],tab:=[]:St});cond (ilt i130 i129) (cond (decide ((0:Int)≤i130∧i130<(↑(List.length r128):Int))) (cond (ilt (V.toInt z4) (0:Int)) z3 (cond (ile i3 (V.toInt z4)) z3 (cond (ilt (V.toInt z5) (0:Int)) z3 (cond (ile i3 (V.toInt z5)) z3 (cond (decide ((0:Int)≤V.toInt z4∧V.toInt z4<(↑(List.length z2):Int))) (cond (decide ((0:Int)≤V.toInt z5∧V.toInt z5<(↑(List.length z2):Int))) (cond (N.refUnder {level:=V.toInt (List.getD (List.getD z2 (Int.toNat (V.toInt z4)) []) 1 V.undef),set:=V.toInt (List.getD (List.getD z2 (Int.toNat (V.toInt z4)) []) 2 V.undef):Label} {level:=V.toInt (List.getD (List.getD z2 (Int.toNat (V.toInt z5)) []) 1 V.undef),set:=V.toInt (List.getD (List.getD z2 (Int.toNat (V.toInt z5)) []) 2 V.undef):Label}) (K Ex.ret {fr:=[(2,V.int .i64 (11:Int))],tab:=[]:St}) (cond (ilt (V.toInt (List.getD z0 2 V.undef)) (0:Int)) z7 (cond (ilt (16:Int) (V.toInt (List.getD z0 2 V.undef))) z7 (cond (decide ((0:Int)≤i130∧i130≤(↑(List.length z6):Int))) (cond ((↑(List.length z1):Int)==(↑(List.length z1):Int)) (cond (Nat.ble (List.length z1) 3000) (cond (List.any (List.map (RCod.dec cGrant) z1) (N.isGr (V.toInt z4) (V.toInt z5))) (K Ex.ret {fr:=[(2,V.int .i64 (9:Int))],tab:=[]:St}) (K Ex.normal {fr:=[(1,V.ptr 10000 0 0 0),(3,V.int .i64 i3),(128,V.slc [.int .i64,.int .i64,.int .i64] r128),(129,V.int .i64 i129),(130,V.int .i64 (IntKind.wrap .i64 (i130+(1:Int))))],tab:=[(10000,Box.var [V.int .i64 (V.toInt (List.getD cx0 0 .undef)),V.int .i64 (V.toInt (List.getD cx0 1 .undef)),V.slc [.str,.int .u8,.int .u32,.int .i64,.int .u64] z2,V.slc [.int .i64] (V.toRows (List.getD cx0 3 .undef)),V.slc [.int .i64,.int .i64,.int .i64] z6])]:St})) (none)) (none)) (none))))) (none)) (none)))))) (none)) (K (Ex.exit 6) {fr:=[(1,V.ptr 10000 0 0 0),(3,V.int .i64 i3)],tab:=[(10000,Box.var [V.int .i64 (V.toInt (List.getD cx0 0 .undef)),V.int .i64 (V.toInt (List.getD cx0 1 .undef)),V.slc [.str,.int .u8,.int .u32,.int .i64,.int .u64] z2,V.slc [.int .i64] (V.toRows (List.getD cx0 3 .undef)),V.slc [.int .i64,.int .i64,.int .i64] z6])]:St})):=by kernel_rfl
theorem q_rCheckPR36 (i3:Int) (r128:List (List V)) (i129:Int) (i130:Int) (cx0:List V) (K:Ex→St→Option R):type_of% (by have h:=q_rCheckPR36_ i3 r128 i129 i130 cx0 K; dsimp only at h; exact h):=by
 have h:=q_rCheckPR36_ i3 r128 i129 i130 cx0 K
 dsimp only at h
 exact h
theorem q_rCheckPR45_ (i3:Int) (r128:List (List V)) (i129:Int) (i130:Int) (r181:List (List V)) (i182:Int) (i183:Int) (cx0:List V) (ix1:Int) (ix1_1:Int) (ix1_2:Int) (K:Ex→St→Option R):evRound eRCheckP 29 45 { fr:=[(1,.ptr 10000 0 0 0),(3,.int .i64 i3),(12,.ptr 10001 0 0 0),(128,.slc [.int .i64,.int .i64,.int .i64] r128),(129,.int .i64 i129),(130,.int .i64 i130),(181,.slc [.int .i64,.int .i64,.int .i64] r181),(182,.int .i64 i182),(183,.int .i64 i183)],tab:=[(10000,.var (etaRow xsPolicy 0 cx0)),(10001,.var [.int .i64 ix1,.int .i64 ix1_1,.int .i64 ix1_2])] } K =(
 let z0:=(K Ex.normal {fr:=[(1,V.ptr 10000 0 0 0),(3,V.int .i64 i3),(12,V.ptr 10001 0 0 0),(128,V.slc [.int .i64,.int .i64,.int .i64] r128),(129,V.int .i64 i129),(130,V.int .i64 i130),(181,V.slc [.int .i64,.int .i64,.int .i64] r181),(182,V.int .i64 i182),(183,V.int .i64 (IntKind.wrap .i64 (i183+(1:Int))))],tab:=[(10000,Box.var [V.int .i64 (V.toInt (List.getD cx0 0 .undef)),V.int .i64 (V.toInt (List.getD cx0 1 .undef)),V.slc [.str,.int .u8,.int .u32,.int .i64,.int .u64] (V.toRows (List.getD cx0 2 .undef)),V.slc [.int .i64] (V.toRows (List.getD cx0 3 .undef)),V.slc [.int .i64,.int .i64,.int .i64] (V.toRows (List.getD cx0 4 .undef))]),(10001,Box.var [V.int .i64 ix1,V.int .i64 ix1_1,V.int .i64 ix1_2])]:St});cond (ilt i183 i182) (cond (decide ((0:Int)≤i183∧i183<(↑(List.length r181):Int))) (cond (V.toInt (List.getD (List.getD r181 (Int.toNat i183) []) 0 V.undef)==ix1) (cond (V.toInt (List.getD (List.getD r181 (Int.toNat i183) []) 1 V.undef)==ix1_1) (K Ex.ret {fr:=[(2,V.int .i64 (9:Int))],tab:=[]:St}) z0) z0) (none)) (K (Ex.exit 8) {fr:=[(1,V.ptr 10000 0 0 0),(3,V.int .i64 i3),(128,V.slc [.int .i64,.int .i64,.int .i64] r128),(129,V.int .i64 i129),(130,V.int .i64 i130)],tab:=[(10000,Box.var [V.int .i64 (V.toInt (List.getD cx0 0 .undef)),V.int .i64 (V.toInt (List.getD cx0 1 .undef)),V.slc [.str,.int .u8,.int .u32,.int .i64,.int .u64] (V.toRows (List.getD cx0 2 .undef)),V.slc [.int .i64] (V.toRows (List.getD cx0 3 .undef)),V.slc [.int .i64,.int .i64,.int .i64] (V.toRows (List.getD cx0 4 .undef))])]:St})):=by kernel_rfl
theorem q_rCheckPR45 (i3:Int) (r128:List (List V)) (i129:Int) (i130:Int) (r181:List (List V)) (i182:Int) (i183:Int) (cx0:List V) (ix1:Int) (ix1_1:Int) (ix1_2:Int) (K:Ex→St→Option R):type_of% (by have h:=q_rCheckPR45_ i3 r128 i129 i130 r181 i182 i183 cx0 ix1 ix1_1 ix1_2 K; dsimp only at h; exact h):=by
 have h:=q_rCheckPR45_ i3 r128 i129 i130 r181 i182 i183 cx0 ix1 ix1_1 ix1_2 K
 dsimp only at h
 exact h
theorem q_rCheckPR52 (i3:Int) (i15:Int) (cx0:List V) (K:Ex→St→Option R):evRound eRCheckP 29 52 { fr:=[(1,.ptr 10000 0 0 0),(3,.int .i64 i3),(15,.int .i64 i15)],tab:=[(10000,.var (etaRow xsPolicy 0 cx0))] } K =
 cond (ilt i15 i3) (cond ((↑(List.length (V.toRows (List.getD cx0 3 .undef))):Int)==(↑(List.length (V.toRows (List.getD cx0 3 .undef))):Int)) (cond (Nat.ble (List.length (V.toRows (List.getD cx0 3 .undef))) 3000) (cond (!List.any (List.map (RCod.dec (rInt .i64)) (V.toRows (List.getD cx0 3 .undef))) fun x=>x==i15) (K Ex.ret {fr:=[(2,V.int .i64 (15:Int))],tab:=[]:St}) (K Ex.normal {fr:=[(1,V.ptr 10000 0 0 0),(3,V.int .i64 i3),(15,V.int .i64 (IntKind.wrap .i64 (i15+(1:Int))))],tab:=[(10000,Box.var [V.int .i64 (V.toInt (List.getD cx0 0 .undef)),V.int .i64 (V.toInt (List.getD cx0 1 .undef)),V.slc [.str,.int .u8,.int .u32,.int .i64,.int .u64] (V.toRows (List.getD cx0 2 .undef)),V.slc [.int .i64] (V.toRows (List.getD cx0 3 .undef)),V.slc [.int .i64,.int .i64,.int .i64] (V.toRows (List.getD cx0 4 .undef))])]:St})) (none)) (none)) (K (Ex.exit 10) {fr:=[],tab:=[]:St}):=by kernel_rfl
theorem q_rCheckPR56 (i3:Int) (i15:Int) (b16:Bool) (r207:List (List V)) (i208:Int) (i209:Int) (cx0:List V) (K:Ex→St→Option R):evRound eRCheckP 29 56 { fr:=[(1,.ptr 10000 0 0 0),(3,.int .i64 i3),(15,.int .i64 i15),(16,.bool b16),(207,.slc [.int .i64] r207),(208,.int .i64 i208),(209,.int .i64 i209)],tab:=[(10000,.var (etaRow xsPolicy 0 cx0))] } K =
 cond (ilt i209 i208) (cond (decide ((0:Int)≤i209∧i209<(↑(List.length r207):Int))) (cond (b16) (K Ex.normal {fr:=[(1,V.ptr 10000 0 0 0),(3,V.int .i64 i3),(15,V.int .i64 i15),(16,V.bool true),(207,V.slc [.int .i64] r207),(208,V.int .i64 i208),(209,V.int .i64 (IntKind.wrap .i64 (i209+(1:Int))))],tab:=[(10000,Box.var [V.int .i64 (V.toInt (List.getD cx0 0 .undef)),V.int .i64 (V.toInt (List.getD cx0 1 .undef)),V.slc [.str,.int .u8,.int .u32,.int .i64,.int .u64] (V.toRows (List.getD cx0 2 .undef)),V.slc [.int .i64] (V.toRows (List.getD cx0 3 .undef)),V.slc [.int .i64,.int .i64,.int .i64] (V.toRows (List.getD cx0 4 .undef))])]:St}) (K Ex.normal {fr:=[(1,V.ptr 10000 0 0 0),(3,V.int .i64 i3),(15,V.int .i64 i15),(16,V.bool (V.toInt (List.getD (List.getD r207 (Int.toNat i209) []) 0 V.undef)==i15)),(207,V.slc [.int .i64] r207),(208,V.int .i64 i208),(209,V.int .i64 (IntKind.wrap .i64 (i209+(1:Int))))],tab:=[(10000,Box.var [V.int .i64 (V.toInt (List.getD cx0 0 .undef)),V.int .i64 (V.toInt (List.getD cx0 1 .undef)),V.slc [.str,.int .u8,.int .u32,.int .i64,.int .u64] (V.toRows (List.getD cx0 2 .undef)),V.slc [.int .i64] (V.toRows (List.getD cx0 3 .undef)),V.slc [.int .i64,.int .i64,.int .i64] (V.toRows (List.getD cx0 4 .undef))])]:St})) (none)) (K (Ex.exit 12) {fr:=[(1,V.ptr 10000 0 0 0),(3,V.int .i64 i3),(15,V.int .i64 i15),(16,V.bool b16)],tab:=[(10000,Box.var [V.int .i64 (V.toInt (List.getD cx0 0 .undef)),V.int .i64 (V.toInt (List.getD cx0 1 .undef)),V.slc [.str,.int .u8,.int .u32,.int .i64,.int .u64] (V.toRows (List.getD cx0 2 .undef)),V.slc [.int .i64] (V.toRows (List.getD cx0 3 .undef)),V.slc [.int .i64,.int .i64,.int .i64] (V.toRows (List.getD cx0 4 .undef))])]:St}):=by kernel_rfl
end Go.Ev

/- Policies that may be: where things flow: definitions and lemmas,no condition. -/
namespace Go.Ev
open Go Go.Proofs
set_option maxRecDepth 100000
theorem errFrom_zero (f:Nat→Int):∀ (k i:Nat) (e:Int),N.errFrom f k i e=0→e=0∧∀ j,i≤j→j<i+k→f j=0
 | 0,i,e,h=>⟨h,fun j h1 h2=>by omega⟩
 | k+1,i,e,h=>by
  have h:cond (e==0) (N.errFrom f k (i+1) (f i)) e=0:=h
  cases he:e==0 with
  | false=>rw [he] at h; exact absurd h (by simpa using he)
  | true =>
   rw [he] at h
   obtain ⟨h1,h2⟩:=errFrom_zero f k (i+1) (f i) h
   refine ⟨by simpa using he,fun j a b=>?_⟩
   by_cases hj:j=i
   ·subst hj; exact h1
   ·exact h2 j (by omega) (by omega)
theorem or3_zero {a b c:Int} (h:N.or3 [a,b,c]=0):a=0∧b=0∧c=0:=by
 have h:cond (a != 0) a (cond (b != 0) b (cond (c != 0) c 0))=0:=h
 cases ha:a != 0 with
 | true=>rw [ha] at h; exact absurd h (by simpa using ha)
 | false =>
  cases hb:b != 0 with
  | true=>rw [ha,hb] at h; exact absurd h (by simpa using hb)
  | false =>
   cases hc:c != 0 with
   | true=>rw [ha,hb,hc] at h; exact absurd h (by simpa using hc)
   | false=>exact ⟨by simpa using ha,by simpa using hb,by simpa using hc⟩
theorem checkP_zero {p:HPolicy} (h:N.checkP p=0):(N.within p.work 1 16=true∧N.within p.give 1 16=true)∧N.placesE p=0∧N.slotsE p=0∧N.grantsE p=0∧N.lacks p p.places.length 0=0:=by
 unfold N.checkP at h
 cases hw:cond (N.within p.work 1 16) (N.within p.give 1 16) false with
 | false=>rw [hw] at h; cases h
 | true =>
  rw [hw] at h
  cases ho:N.or3 [N.placesE p,N.slotsE p,N.grantsE p] != 0 with
  | true=>rw [ho] at h; exact absurd h (by simpa using ho)
  | false =>
   rw [ho] at h
   obtain ⟨a,b,c⟩:=or3_zero (by simpa using ho)
   exact ⟨bcond hw,a,b,c,h⟩
theorem placeE_zero {x:HPlace} {l:List HPlace} (h:N.placeE x l=0):N.name x.name=0∧N.right x.label=true∧N.within x.bytes 0 65536=true∧(x.base==0)=false∧l.any (N.twiceP x)=false:=by
 unfold N.placeE at h
 cases h1:N.name x.name != 0 with
 | true=>rw [h1] at h; exact absurd h (by simpa using h1)
 | false =>
  rw [h1] at h
  cases h2:cond (N.right x.label) (cond (N.within x.bytes 0 65536) (!(x.base==0)) false) false with
  | false=>rw [h2] at h; cases h
  | true =>
   rw [h2] at h
   cases h3:l.any (N.twiceP x) with
   | true=>rw [h3] at h; cases h
   | false =>
    obtain ⟨a,b⟩:=bcond h2
    obtain ⟨b,c⟩:=bcond b
    exact ⟨by simpa using h1,a,b,by simpa using c,rfl⟩
theorem grantE_zero {p:HPolicy} {x:HGrant} {l:List HGrant} (h:N.grantE p x l=0):(N.there p x.src=true∧N.there p x.dst=true)∧N.under (N.plAt p x.src).label (N.plAt p x.dst).label=false∧N.within x.budget 0 16=true∧l.any (N.isGr x.src x.dst)=false:=by
 unfold N.grantE at h
 cases h1:cond (N.there p x.src) (N.there p x.dst) false with
 | false=>rw [h1] at h; cases h
 | true =>
  rw [h1] at h
  cases h2:N.under (N.plAt p x.src).label (N.plAt p x.dst).label with
  | true=>rw [h2] at h; cases h
  | false =>
   rw [h2] at h
   cases h3:N.within x.budget 0 16 with
   | false=>rw [h3] at h; cases h
   | true =>
    rw [h3] at h
    cases h4:l.any (N.isGr x.src x.dst) with
    | true=>rw [h4] at h; cases h
    | false=>exact ⟨bcond h1,rfl,rfl,rfl⟩
theorem plF_zero {p:HPolicy} (h:N.placesE p=0) {i:Nat} (hi:i<p.places.length):N.plF p i=0 :=
 (errFrom_zero _ _ _ _ h).2 i (Nat.zero_le _) (by omega)
theorem grF_zero {p:HPolicy} (h:N.grantsE p=0) {i:Nat} (hi:i<p.grants.length):N.grF p i=0 :=
 (errFrom_zero _ _ _ _ h).2 i (Nat.zero_le _) (by omega)
theorem lab_ne {p:HPolicy} (h:N.placesE p=0) {i j:Nat} (hij:i<j) (hj:j<p.places.length):(p.places.getD i place0).label ≠ (p.places.getD j place0).label:=by
 intro he
 have hz:=(placeE_zero (plF_zero h hj)).2.2.2.2
 have hm:p.places.getD i place0∈p.places.take j:=by
  rw [List.getD_eq_getElem?_getD,List.getElem?_eq_getElem (by omega)]
  exact List.mem_take_iff_getElem.2 ⟨i,by omega,rfl⟩
 have:=List.any_eq_false.1 hz _ hm
 generalize p.places.getD i place0=x at *
 generalize p.places.getD j place0=y at *
 apply this
 show cond (x.name==y.name) true (cond (x.label.level==y.label.level) (x.label.set==y.label.set) false)=true
 rw [he]
 simp only [beq_self_eq_true,cond_true]
 cases x.name==y.name<;>rfl
theorem flows_of {p:HPolicy} {a b:Int} (h:N.flows p a b=true):a ≠ b∧(0≤a∧a<p.places.length)∧(0≤b∧b<p.places.length)∧N.under (N.plAt p a).label (N.plAt p b).label=true:=by
 obtain ⟨h1,h⟩:=bcond h
 obtain ⟨h2,h⟩:=bcond h
 obtain ⟨h3,h⟩:=bcond h
 exact ⟨by simpa using h1,there_of h2,there_of h3,h⟩
theorem flows_t {p:HPolicy} {a b:Int} (h1:a ≠ b) (h2:0≤a∧a<p.places.length) (h3:0≤b∧b<p.places.length) (h4:N.under (N.plAt p a).label (N.plAt p b).label=true):N.flows p a b=true:=by
 show cond (a != b) (cond (N.there p a) (cond (N.there p b) (N.under (N.plAt p a).label (N.plAt p b).label) false) false) false=true
 rw [bne_iff_ne.2 h1,there_t h2.1 h2.2,there_t h3.1 h3.2,h4]; rfl
theorem flows_anti {p:HPolicy} (hok:p.places.all okPl=true) (hc:N.placesE p=0) {a b:Int} (h:N.flows p a b=true) (k:N.flows p b a=true):False:=by
 obtain ⟨n1,⟨a0,a1⟩,⟨b0,b1⟩,u1⟩:=flows_of h
 obtain ⟨-,-,-,u2⟩:=flows_of k
 have oa:=okPl_at hok (k:=a.toNat) (by omega)
 have ob:=okPl_at hok (k:=b.toNat) (by omega)
 have he:=under_antisymm oa ob u1 u2
 rcases Int.lt_or_gt_of_ne n1 with hl | hl
 ·exact lab_ne hc (i:=a.toNat) (j:=b.toNat) (by omega) (by omega) he
 ·exact lab_ne hc (i:=b.toNat) (j:=a.toNat) (by omega) (by omega) he.symm
theorem pGrantL_mem:∀ (l:List HGrant) (a b i:Int),0≤i→0≤N.pGrantL a b l i→∃ n,n<l.length∧(l.getD n grant0).src=a∧(l.getD n grant0).dst=b
 | [],a,b,i,hi,h=>absurd h (by show ¬ (0:Int)≤-1; omega)
 | x::r,a,b,i,hi,h=>by
  have h:0≤cond (cond (x.src==a) (x.dst==b) false) i (N.pGrantL a b r (i+1)):=h
  cases hx:cond (x.src==a) (x.dst==b) false with
  | true =>
   obtain ⟨h1,h2⟩:=bcond hx
   exact ⟨0,Nat.zero_lt_succ _,beq_iff_eq.1 h1,beq_iff_eq.1 h2⟩
  | false =>
   rw [hx] at h
   obtain ⟨n,h1,h2⟩:=pGrantL_mem r a b (i+1) (by omega) h
   exact ⟨n+1,Nat.succ_lt_succ h1,h2⟩
theorem flows_law {p:HPolicy} (hok:p.places.all okPl=true) (hc:N.checkP p=0) (a b c:Int) :
  N.flows p a a=false∧cond (N.flows p a b) (N.flows p b a) false=false∧(cond (N.flows p a b) (cond (N.flows p b c) (!N.flows p a c) false) false=false)∧cond (N.flows p a b) (ilt (N.pGrant p a b) 0) true=true:=by
 obtain ⟨-,hp,-,hg,-⟩:=checkP_zero hc
 refine ⟨?_,?_,?_,?_⟩
 ·cases h:N.flows p a a with
  | false=>rfl
  | true=>exact absurd rfl (flows_of h).1
 ·cases h:N.flows p a b with
  | false=>rfl
  | true =>
   cases k:N.flows p b a with
   | false=>rfl
   | true=>exact (flows_anti hok hp h k).elim
 ·cases h:N.flows p a b with
  | false=>rfl
  | true =>
   cases k:N.flows p b c with
   | false=>rfl
   | true =>
    have:N.flows p a c=true:=by
     obtain ⟨n1,ia,ib,u1⟩:=flows_of h
     obtain ⟨n2,-,ic,u2⟩:=flows_of k
     refine flows_t (fun e=>?_) ia ic (under_trans u1 u2)
     subst e
     exact flows_anti hok hp h k
    rw [this]; rfl
 ·cases h:N.flows p a b with
  | false=>rfl
  | true =>
   show ilt (N.pGrant p a b) 0=true
   by_cases hx:0≤N.pGrant p a b
   ·obtain ⟨n,hn,h1,h2⟩:=pGrantL_mem p.grants a b 0 (Int.le_refl _) hx
    obtain ⟨-,u,-⟩:=grantE_zero (grF_zero hg hn)
    rw [h1,h2,(flows_of h).2.2.2] at u
    cases u
   ·exact ilt_t (by omega)
end Go.Ev

/- The program's forms of words answer what the plain ones do: lemmas,no condition. -/
namespace Go.Ev
open Go Go.Proofs
set_option maxRecDepth 100000
def schRefName:SSch:={ fr:=[(0,.str),(3,.int .i64)],tab:=[] }
def gRefName:List Leaf→(Ex→St→Option R)→Option R
 | [.s s0,.i i3],K=>cond (ile 0 i3) (cond (Nat.ble s0.length LIM) (cond (N.plain (s0.drop i3.toNat)) (K (.exit 0) { fr:=[],tab:=[] }) (K .ret { fr:=[(2,.int .i64 4)],tab:=[] })) none) none
 | _,_=>none
noncomputable def eRefName:Env:=env Tryz.prog [(81,dLetter)] [(6,loopF schRefName gRefName)] [(6,[(0,[0,3]),(1,[]),(1000,[2])])]
theorem q_refName (s:Bytes):evFn eRefName 50 ((aOne vStr).enc s) ([]) some =
 cond ((↑(List.length s):Int)==(0:Int)) (some {v:=V.int .i64 (15:Int),bx:=[]}) (cond (ilt (16:Int) (↑(List.length s):Int)) (some {v:=V.int .i64 (5:Int),bx:=[]}) (cond (Nat.ble (List.length s) 1000000) (cond (N.plain (List.drop 0 s)) (some {v:=V.int .i64 (0:Int),bx:=[]}) (some {v:=V.int .i64 (4:Int),bx:=[]})) (none))):=by kernel_rfl
theorem q_refNameR (s0:Bytes) (i3:Int) (K:Ex→St→Option R):evRound eRefName 50 6 { fr:=[(0,.str s0),(3,.int .i64 i3)],tab:=[] } K =
 cond (ilt i3 (↑(List.length s0):Int)) (cond (decide ((0:Int)≤i3∧i3<(↑(List.length s0):Int))) (cond (!N.letterI (↑(UInt8.toNat (List.getD s0 (Int.toNat i3) (0:UInt8))):Int)) (K Ex.ret {fr:=[(2,V.int .i64 (4:Int))],tab:=[]}) (K Ex.normal {fr:=[(0,V.str s0),(3,V.int .i64 (IntKind.wrap .i64 (i3+(1:Int))))],tab:=[]})) (none)) (K (Ex.exit 0) {fr:=[],tab:=[]}):=by kernel_rfl
theorem ok_refName:FnOk Tryz.prog 50 dName:=by
 refine den_okF (env_ok ((TOk.nil _).cons ok_letter)) (E:=eRefName) Tryz.func50 [6] (by kernel_rfl) (one1 (rounds_of rfl fun l K q h=>?_)) fun s _ h=>?_
 ·unfold gRefName at h
  split at h
  ·rename_i s i
   have h1:=(cond_none h).1; replace h:=(cond_none h).2; have h2:=(cond_none h).1; replace h:=(cond_none h).2
   have h2:s.length≤1000000:=ble_of h2
   refine loop_ind (E:=eRefName) (f:=50) (id:=6) (fun i:Int=>{ fr:=[(0,.str s),(3,.int .i64 i)],tab:=[] }) (fun i=>0≤i) (fun i=>s.length-i.toNat)
    (fun i K=>cond (N.plain (s.drop i.toNat)) (K (.exit 0) { fr:=[],tab:=[] }) (K .ret { fr:=[(2,.int .i64 4)],tab:=[] })) (fun i hi=>?_) i (ile_of h1) K q h
   by_cases hl:i<s.length
   ·rw [drop_byte (show i.toNat<s.length by omega),plain_cons]
    cases hc:N.letterI (s.getD i.toNat 0).toNat with
    | true =>
     refine .inl ⟨i+1,by omega,by omega,fun K=>?_,fun K=>?_⟩
     ·rw [q_refNameR]
      simp (disch:=omega) only [evs,hc,Bool.not_true]
     ·rw [cond_true,show (i+1).toNat=i.toNat+1 by omega]
    | false =>
     refine .inr ⟨.ret,{ fr:=[(2,.int .i64 4)],tab:=[] },by simp,fun K=>?_,fun K=>rfl⟩
     rw [q_refNameR]
     simp (disch:=omega) only [evs,hc,Bool.not_false]
   ·refine .inr ⟨.exit 0,{ fr:=[],tab:=[] },by simp,fun K=>?_,fun K=>?_⟩
    ·rw [q_refNameR]
     simp (disch:=omega) only [evs]
    ·rw [List.drop_eq_nil_of_le (by omega)]; rfl
  ·cases h
 ·refine (q_refName s).trans ?_
  show _=some (⟨.int .i64 (N.name s),[],[]⟩:DRes)
  unfold N.name
  cases s with
  | nil=>rfl
  | cons c r =>
   generalize hs:c::r=s at *
   have h0:(s==[])=false:=by rw [← hs]; rfl
   have h1:0<s.length:=by rw [← hs]; simp
   rw [h0]
   cases h:ilt 16 s.length with
   | true=>simp (disch:=omega) only [evs]
   | false =>
    have h:=ilt_nof h
    simp (disch:=omega) only [evs,List.drop_zero]
    cases N.plain s<;>rfl
end Go.Ev

/- Policies: Check,by the document: lemmas,no condition. -/
namespace Go.Ev
open Go Go.Proofs
set_option maxRecDepth 100000
theorem consN {p:Nat→Prop} {a:Nat} {l:List Nat} (h:p a) (k:∀ id∈l,p id):∀ id∈a::l,p id:=fun id hi=>by
 rcases List.mem_cons.1 hi with rfl | hi
 ·exact h
 ·exact k id hi
theorem ilt_not (a b:Int):ilt a b = !(ile b a):=by
 rw [ilt_eq,ile_eq]
 by_cases h:a<b
 ·rw [decide_eq_true h,decide_eq_false (by omega)]; rfl
 ·rw [decide_eq_false h,decide_eq_true (by omega)]; rfl
theorem place_key {α:Type} (x:HPlace) (l:List HPlace) (K1:Int→α) (K2:α) :
  cond (N.name x.name != 0) (K1 (N.name x.name)) (cond (ilt 15 x.label.level) (K1 7) (cond (ilt x.bytes 0) (K1 7) (cond (ilt 65536 x.bytes) (K1 7) (cond (x.base==0) (K1 7) (cond (l.any (N.twiceP x)) (K1 9) K2)))))=cond (N.placeE x l != 0) (K1 (N.placeE x l)) K2:=by
 have e:N.placeE x l=cond (N.name x.name != 0) (N.name x.name) (cond (cond (ile x.label.level 15) (cond (cond (ile 0 x.bytes) (ile x.bytes 65536) false) (!(x.base==0)) false) false) (cond (l.any (N.twiceP x)) 9 0) 7):=rfl
 rw [e]
 simp only [ilt_not]
 cases h1:N.name x.name != 0 with
 | true=>simp only [cond_true,h1]
 | false=>cases ile x.label.level 15<;>cases ile 0 x.bytes<;>cases ile x.bytes 65536<;>cases x.base==0<;>cases l.any (N.twiceP x)<;>rfl
theorem slot_key {α:Type} (n k:Int) (a b:α):cond (ilt k 0) a (cond (ile n k) a b)=cond (cond (cond (ilt k 0) true (ile n k)) (10:Int) 0 != 0) a b:=by
 cases ilt k 0<;>cases ile n k<;>rfl
theorem there_c (p:HPolicy) (k:Int):N.there p k=cond (ilt k 0) false (!(ile (p.places.length:Int) k)):=by
 have e:N.there p k=cond (ile 0 k) (ile k ((p.places.length:Int)-1)) false:=rfl
 have e2:ile k ((p.places.length:Int)-1) = !(ile (p.places.length:Int) k):=by
  rw [← ilt_not,ilt_eq,ile_eq]
  by_cases h:k<p.places.length
  ·rw [decide_eq_true h,decide_eq_true (by omega)]
  ·rw [decide_eq_false h,decide_eq_false (by omega)]
 rw [e,e2,ilt_not]
 cases ile 0 k<;>rfl
theorem grant_key {α:Type} (p:HPolicy) (x:HGrant) (l:List HGrant) (u:Bool) {n:Int} (hn:n=p.places.length) (hu:N.there p x.src=true→N.there p x.dst=true→u=N.under (N.plAt p x.src).label (N.plAt p x.dst).label) (K1:Int→Option α) (K2:Option α) :
  cond (ilt x.src 0) (K1 10) (cond (ile n x.src) (K1 10) (cond (ilt x.dst 0) (K1 10) (cond (ile n x.dst) (K1 10) (cond (decide ((0:Int)≤x.src∧x.src<p.places.length)) (cond (decide ((0:Int)≤x.dst∧x.dst<p.places.length)) (cond u (K1 11) (cond (ilt x.budget 0) (K1 7) (cond (ilt 16 x.budget) (K1 7) (cond (l.any (N.isGr x.src x.dst)) (K1 9) K2)))) none) none))))=cond (N.grantE p x l != 0) (K1 (N.grantE p x l)) K2:=by
 subst hn
 have e:N.grantE p x l=cond (cond (N.there p x.src) (N.there p x.dst) false) (cond (N.under (N.plAt p x.src).label (N.plAt p x.dst).label) 11 (cond (cond (ile 0 x.budget) (ile x.budget 16) false) (cond (l.any (N.isGr x.src x.dst)) 9 0) 7)) 10:=rfl
 rw [e]
 cases h1:N.there p x.src with
 | false =>
  have h1:=h1
  rw [there_c] at h1
  cases a1:ilt x.src 0 with
  | true=>rfl
  | false =>
   rw [a1] at h1
   cases a2:ile p.places.length x.src with
   | true=>rfl
   | false=>rw [a2] at h1; cases h1
 | true =>
  have g1:=there_of h1
  have h1':=h1
  rw [there_c] at h1'
  cases a1:ilt x.src 0 with
  | true=>rw [a1] at h1'; cases h1'
  | false =>
   rw [a1] at h1'
   cases a2:ile p.places.length x.src with
   | true=>rw [a2] at h1'; cases h1'
   | false =>
    cases h2:N.there p x.dst with
    | false =>
     have h2:=h2
     rw [there_c] at h2
     cases b1:ilt x.dst 0 with
     | true=>rfl
     | false =>
      rw [b1] at h2
      cases b2:ile p.places.length x.dst with
      | true=>rfl
      | false=>rw [b2] at h2; cases h2
    | true =>
     have g2:=there_of h2
     have h2':=h2
     rw [there_c] at h2'
     cases b1:ilt x.dst 0 with
     | true=>rw [b1] at h2'; cases h2'
     | false =>
      rw [b1] at h2'
      cases b2:ile p.places.length x.dst with
      | true=>rw [b2] at h2'; cases h2'
      | false =>
       rw [decide_eq_true g1,decide_eq_true g2,hu h1 h2]
       simp only [ilt_not]
       cases N.under (N.plAt p x.src).label (N.plAt p x.dst).label<;>cases ile 0 x.budget<;>cases ile x.budget 16<;>cases l.any (N.isGr x.src x.dst)<;>rfl
theorem and_true3 (a b:Bool):(a && (b && true))=cond a b false:=by cases a<;>cases b<;>rfl
theorem fold_plc (x:HPlace):(⟨x.name,⟨x.label.level,x.label.set⟩,x.bytes,x.base⟩:HPlace)=x:=rfl
theorem errFrom_ne (f:Nat→Int) {e:Int} (h:(e==0)=false):∀ k i,N.errFrom f k i e=e
 | 0,_=>rfl
 | k+1,i=>by
  show cond (e==0) _ e=e
  rw [h]; rfl
theorem err_rows {α:Type} (d:α) (all:List α) (f:Nat→Int) (R:Int→List α→Int) (h0:∀ i,R i []=0) (h1:∀ (i:Nat),i<all.length→∀ r,R i (all.getD i d::r)=cond (f i != 0) (f i) (R ((i:Int)+1) r)) :
  ∀ k i,i+k=all.length→N.errFrom f k i 0=R i (all.drop i)
 | 0,i,h=>by
  rw [List.drop_eq_nil_of_le (by omega),h0]; rfl
 | k+1,i,h=>by
  have hi:i<all.length:=by omega
  have e:all.drop i=all.getD i d::all.drop (i+1):=by
   rw [List.drop_eq_getElem_cons hi,List.getD_eq_getElem?_getD,List.getElem?_eq_getElem hi]; rfl
  rw [e,h1 i hi]
  show N.errFrom f k (i+1) (f i)=_
  cases hf:f i != 0 with
  | true=>exact errFrom_ne f (by simpa using hf) k (i+1)
  | false =>
   have:f i=0:=by simpa using hf
   rw [this]
   exact err_rows d all f R h0 h1 k (i+1) (by omega)
theorem count_key (f:Nat→Int) (k:Nat) (n a b:Int):N.errFrom f k 0 (N.count n a b)=cond (ilt n a) 15 (cond (ilt b n) 6 (N.errFrom f k 0 0)):=by
 have e:N.count n a b=cond (ilt n a) 15 (cond (ilt b n) 6 0):=rfl
 rw [e]
 cases ilt n a with
 | true=>exact errFrom_ne f rfl k 0
 | false =>
  cases ilt b n with
  | true=>exact errFrom_ne f rfl k 0
  | false=>rfl
theorem placesE_r (p:HPolicy):N.placesE p=cond (ilt p.places.length 1) 15 (cond (ilt 16 p.places.length) 6 (N.rPl p.places 0 p.places)):=by
 have e:=err_rows place0 p.places (N.plF p) (N.rPl p.places) (fun _=>rfl) (fun i hi r=>rfl) p.places.length 0 (by omega)
 rw [List.drop_zero] at e
 exact (count_key (N.plF p) p.places.length p.places.length 1 16).trans (by rw [e]; rfl)
theorem slotsE_r (p:HPolicy):N.slotsE p=cond (ilt p.slots.length 1) 15 (cond (ilt 32 p.slots.length) 6 (N.rSl p.places.length p.slots)):=by
 have e:=err_rows (0:Int) p.slots (N.slF p) (fun _ l=>N.rSl p.places.length l) (fun _=>rfl) (fun i hi r=>by
  show cond (cond (ilt (p.slots.getD i 0) 0) true (ile p.places.length (p.slots.getD i 0))) 10 (N.rSl p.places.length r)=cond (cond (N.there p (p.slots.getD i 0)) (0:Int) 10 != 0) (cond (N.there p (p.slots.getD i 0)) 0 10) (N.rSl p.places.length r)
  rw [there_c]
  cases ilt (p.slots.getD i 0) 0<;>cases ile p.places.length (p.slots.getD i 0)<;>rfl) p.slots.length 0 (by omega)
 rw [List.drop_zero] at e
 exact (count_key (N.slF p) p.slots.length p.slots.length 1 32).trans (by rw [e])
theorem grantsE_r (p:HPolicy):N.grantsE p=cond (ilt p.grants.length 0) 15 (cond (ilt 8 p.grants.length) 6 (N.rGr p 0 p.grants)):=by
 have e:=err_rows grant0 p.grants (N.grF p) (N.rGr p) (fun _=>rfl) (fun i hi r=>rfl) p.grants.length 0 (by omega)
 rw [List.drop_zero] at e
 exact (count_key (N.grF p) p.grants.length p.grants.length 0 8).trans (by rw [e]; rfl)
theorem check_key (p:HPolicy) {w1 w2 v1 v2 n0 n1 s0 s1 g1:Bool} (a1:w1=ilt p.work 1) (a2:w2=ilt 16 p.work) (b1:v1=ilt p.give 1) (b2:v2=ilt 16 p.give) (c0:n0=((p.places.length:Int)==0)) (c1:n1=ilt 16 p.places.length) (d0:s0=((p.slots.length:Int)==0)) (d1:s1=ilt 32 p.slots.length) (f1:g1=ilt 8 p.grants.length) {α:Type} (K:Int→α) :
  cond w1 (K 7) (cond w2 (K 7) (cond v1 (K 7) (cond v2 (K 7) (cond n0 (K 15) (cond n1 (K 6) (cond (N.rPl p.places 0 p.places != 0) (K (N.rPl p.places 0 p.places)) (cond s0 (K 15) (cond s1 (K 6) (cond (N.rSl p.places.length p.slots != 0) (K (N.rSl p.places.length p.slots)) (cond g1 (K 6) (cond (N.rGr p 0 p.grants != 0) (K (N.rGr p 0 p.grants)) (cond (N.lacks p p.places.length 0==0) (K 0) (K 15)))))))))))))=K (N.checkP p):=by
 have z:∀ n:Nat,ilt (n:Int) 1=((n:Int)==0):=fun n=>by
  rw [ilt_eq]
  by_cases h:(n:Int)=0
  ·rw [h]; rfl
  ·rw [decide_eq_false (by omega),beq_eq_false_iff_ne.2 h]
 have e:N.checkP p=cond (cond (cond (ile 1 p.work) (ile p.work 16) false) (cond (ile 1 p.give) (ile p.give 16) false) false) (cond (N.or3 [N.placesE p,N.slotsE p,N.grantsE p] != 0) (N.or3 [N.placesE p,N.slotsE p,N.grantsE p]) (N.lacks p p.places.length 0)) 7:=rfl
 have o:N.or3 [N.placesE p,N.slotsE p,N.grantsE p]=cond (N.placesE p != 0) (N.placesE p) (cond (N.slotsE p != 0) (N.slotsE p) (cond (N.grantsE p != 0) (N.grantsE p) 0)):=rfl
 have g0:ilt (p.grants.length:Int) 0=false:=ilt_f (by omega)
 have lk:=lacks_or p p.places.length 0
 rw [e,o,placesE_r,slotsE_r,grantsE_r,a1,a2,b1,b2,c0,c1,d0,d1,f1,z,z,g0]
 simp only [ilt_not _ 1,ilt_not 16 p.work,ilt_not 16 p.give]
 generalize ((p.places.length:Int)==0)=n0
 generalize ilt 16 p.places.length=n1
 generalize ((p.slots.length:Int)==0)=s0
 generalize ilt 32 p.slots.length=s1
 generalize ilt 8 p.grants.length=g1
 generalize N.rPl p.places 0 p.places=rp
 generalize N.rSl p.places.length p.slots=rs
 generalize N.rGr p 0 p.grants=rg
 generalize N.lacks p p.places.length 0=lk at *
 generalize ile 1 p.work=w1
 generalize ile p.work 16=w2
 generalize ile 1 p.give=v1
 generalize ile p.give 16=v2
 cases w1 with
 | false=>rfl
 | true =>
 cases w2 with
 | false=>rfl
 | true =>
 cases v1 with
 | false=>rfl
 | true =>
 cases v2 with
 | false=>rfl
 | true =>
 cases n0 with
 | true=>rfl
 | false =>
 cases n1 with
 | true=>rfl
 | false =>
 cases hp:rp != 0 with
 | true=>simp only [cond_true,cond_false,Bool.not_true,hp]
 | false =>
 cases s0 with
 | true=>simp only [cond_true,cond_false,Bool.not_true,hp]; rfl
 | false =>
 cases s1 with
 | true=>simp only [cond_true,cond_false,Bool.not_true,hp]; rfl
 | false =>
 cases hs:rs != 0 with
 | true=>simp only [cond_true,cond_false,Bool.not_true,hp,hs]
 | false =>
 cases g1 with
 | true=>simp only [cond_true,cond_false,Bool.not_true,hp,hs]; rfl
 | false =>
 cases hg:rg != 0 with
 | true=>simp only [cond_true,cond_false,Bool.not_true,hp,hs,hg]
 | false =>
  simp only [cond_true,cond_false,Bool.not_true,hp,hs,hg]
  rcases lk with rfl | rfl<;>rfl
theorem ok_rCheckP_9:RoundsOk eRCheckP 29 9:=by
 refine rounds_of rfl fun l K q h=>?_
 unfold gRCheckP9 at h
 split at h
 ·rename_i i3 r45 i46 i47 cx0
  have h1:=(cond_none h).1; replace h:=(cond_none h).2; have h2:=(cond_none h).1; replace h:=(cond_none h).2; have h3:=(cond_none h).1; replace h:=(cond_none h).2; have g1:=(cond_none h).1; replace h:=(cond_none h).2; have g2:=(cond_none h).1; replace h:=(cond_none h).2; have g3:=(cond_none h).1; replace h:=(cond_none h).2; have g4:=(cond_none h).1; replace h:=(cond_none h).2
  have e1:=ieq_of h1
  have e2:=ieq_of h2
  subst e1 e2
  have h3:r45.length≤3000:=ble_of h3
  have g1:=ieq_of g1
  have g2:=ble_of g2
  have g3:=ble_of g3
  have g4:∀ r∈r45,Nat.ble (V.toStr (List.getD r 0 V.undef)).length 1000000=true:=fun r hr=>List.all_eq_true.1 g4 r hr
  have main:=range_ind (E:=eRCheckP) (f:=29) (id:=9) (A:=Int) (r45) (fun a i=>{ fr:=[(1,.ptr 10000 0 0 0),(3,.int .i64 i3),(45,.slc [.str,.int .u8,.int .u32,.int .i64,.int .u64] r45),(46,.int .i64 r45.length),(47,.int .i64 i)],tab:=[(10000,.var (etaRow xsPolicy 0 cx0))] }) (fun a i=>a=(i:Int))
   (fun a rows K=>cond (N.rPl (cPolicy.dec cx0).places a (rows.map cPlace.dec) != 0) (K .ret { fr:=[(2,.int .i64 (N.rPl (cPolicy.dec cx0).places a (rows.map cPlace.dec)))],tab:=[] }) (K (.exit 0) { fr:=[(1,.ptr 10000 0 0 0),(3,.int .i64 i3)],tab:=[(10000,.var (etaRow xsPolicy 0 cx0))] })) (fun a i ha hi=>?_) (fun a ha=>?_) ((0:Int)) 0 (Int.le_refl _) (by omega) rfl K q (by assumption)
  ·exact main
  ·have hq:=fun K=>q_rCheckPR9 (i3) (r45) (r45.length) ((i:Int)) (cx0) K
   have t1:ilt (i:Int) r45.length=true:=ilt_t (by omega)
   have t2:decide ((0:Int)≤i∧(i:Int)<r45.length)=true:=decide_eq_true (by omega)
   have t3:IntKind.wrap .i64 ((i:Int)+1)=(i:Int)+1:=wr_i64 (by omega) (by omega)
   simp only [Int.toNat_natCast] at hq
   simp only [t1,t2,t3,cond_true] at hq
   subst ha
   have a0:V.toStr (List.getD (List.getD r45 i []) 0 V.undef)=(cPlace.dec (List.getD r45 i [])).name:=rfl
   have a1:V.toInt (List.getD (List.getD r45 i []) 1 V.undef)=(cPlace.dec (List.getD r45 i [])).label.level:=rfl
   have a2:V.toInt (List.getD (List.getD r45 i []) 2 V.undef)=(cPlace.dec (List.getD r45 i [])).label.set:=rfl
   have a3:V.toInt (List.getD (List.getD r45 i []) 3 V.undef)=(cPlace.dec (List.getD r45 i [])).bytes:=rfl
   have a4:V.toInt (List.getD (List.getD r45 i []) 4 V.undef)=(cPlace.dec (List.getD r45 i [])).base:=rfl
   simp only [a0,a1,a2,a3,a4] at hq
   simp only [List.map_cons]
   generalize cPlace.dec (List.getD r45 i [])=x at *
   have t4:decide ((0:Int)≤i∧(i:Int)≤((cPolicy.dec cx0).places.length:Int))=true:=decide_eq_true (by omega)
   have t5:Nat.ble (min i (cPolicy.dec cx0).places.length) 3000=true:=Nat.ble_eq_true_of_le (by omega)
   simp only [rows_len2,List.drop_zero,List.length_take,t4,t5,beq_self_eq_true,cond_true,List.map_take,pol_rows,fold_plc] at hq
   have key:=fun K=>(hq K).trans (place_key x (List.take i (cPolicy.dec cx0).places) (fun e=>K .ret { fr:=[(2,.int .i64 e)],tab:=[] }) _)
   have er:∀ l:List HPlace,N.rPl (cPolicy.dec cx0).places (i:Int) (x::l)=cond (N.placeE x (List.take i (cPolicy.dec cx0).places) != 0) (N.placeE x (List.take i (cPolicy.dec cx0).places)) (N.rPl (cPolicy.dec cx0).places ((i:Int)+1) l):=fun _=>rfl
   cases hc:N.placeE x (List.take i (cPolicy.dec cx0).places) != 0 with
   | true =>
    refine .inr ⟨.ret,{ fr:=[(2,.int .i64 (N.placeE x (List.take i (cPolicy.dec cx0).places)))],tab:=[] },by simp,fun K=>?_,fun K=>?_⟩
    ·rw [key,hc]; rfl
    ·simp only [er,hc,cond_true]
   | false =>
    refine .inl ⟨(i:Int)+1,by omega,fun K=>?_,fun K=>?_⟩
    ·rw [key,hc]; rfl
    ·simp only [er,hc,cond_false]
  ·refine ⟨.exit 0,_,by simp,fun K=>?_,fun K=>rfl⟩
   rw [q_rCheckPR9]
   simp (disch:=omega) only [evs]
   try rfl
 ·cases h
theorem ok_rCheckP_17:RoundsOk eRCheckP 29 17:=by
 refine rounds_of rfl fun l K q h=>?_
 unfold gRCheckP17 at h
 split at h
 ·rename_i i3 r45 i46 i47 r80 i81 i82 cx0 sx1 ix1 ix1_1 ix1_2 ix1_3
  have h1:=(cond_none h).1; replace h:=(cond_none h).2; have h2:=(cond_none h).1; replace h:=(cond_none h).2; have h3:=(cond_none h).1; replace h:=(cond_none h).2
  have e1:=ieq_of h1
  have e2:=ieq_of h2
  subst e1 e2
  have h3:r80.length≤3000:=ble_of h3
  have main:=range_ind (E:=eRCheckP) (f:=29) (id:=17) (A:=Unit) (r80) (fun a i=>{ fr:=[(1,.ptr 10000 0 0 0),(3,.int .i64 i3),(5,.ptr 10001 0 0 0),(45,.slc [.str,.int .u8,.int .u32,.int .i64,.int .u64] r45),(46,.int .i64 i46),(47,.int .i64 i47),(80,.slc [.str,.int .u8,.int .u32,.int .i64,.int .u64] r80),(81,.int .i64 r80.length),(82,.int .i64 i)],tab:=[(10000,.var (etaRow xsPolicy 0 cx0)),(10001,.var [.str sx1,.int .u8 ix1,.int .u32 ix1_1,.int .i64 ix1_2,.int .u64 ix1_3])] }) (fun a i=>True)
   (fun a rows K=>cond ((rows.map cPlace.dec).any (N.twiceP ⟨sx1,⟨ix1,ix1_1⟩,ix1_2,ix1_3⟩)) (K .ret { fr:=[(2,.int .i64 9)],tab:=[] }) (K (.exit 2) { fr:=[(1,.ptr 10000 0 0 0),(3,.int .i64 i3),(45,.slc [.str,.int .u8,.int .u32,.int .i64,.int .u64] r45),(46,.int .i64 i46),(47,.int .i64 i47)],tab:=[(10000,.var (etaRow xsPolicy 0 cx0))] })) (fun a i ha hi=>?_) (fun a ha=>?_) (()) 0 (Int.le_refl _) (by omega) trivial K q (by assumption)
  ·exact main
  ·have hq:=fun K=>q_rCheckPR17 (i3) (r45) (i46) (i47) (r80) (r80.length) ((i:Int)) (cx0) (sx1) (ix1) (ix1_1) (ix1_2) (ix1_3) K
   have t1:ilt (i:Int) r80.length=true:=ilt_t (by omega)
   have t2:decide ((0:Int)≤i∧(i:Int)<r80.length)=true:=decide_eq_true (by omega)
   have t3:IntKind.wrap .i64 ((i:Int)+1)=(i:Int)+1:=wr_i64 (by omega) (by omega)
   simp only [Int.toNat_natCast] at hq
   simp only [t1,t2,t3,cond_true] at hq
   have a0:V.toStr (List.getD (List.getD r80 i []) 0 V.undef)=(cPlace.dec (List.getD r80 i [])).name:=rfl
   have a1:V.toInt (List.getD (List.getD r80 i []) 1 V.undef)=(cPlace.dec (List.getD r80 i [])).label.level:=rfl
   have a2:V.toInt (List.getD (List.getD r80 i []) 2 V.undef)=(cPlace.dec (List.getD r80 i [])).label.set:=rfl
   have a3:V.toInt (List.getD (List.getD r80 i []) 3 V.undef)=(cPlace.dec (List.getD r80 i [])).bytes:=rfl
   have a4:V.toInt (List.getD (List.getD r80 i []) 4 V.undef)=(cPlace.dec (List.getD r80 i [])).base:=rfl
   simp only [a0,a1,a2] at hq
   simp only [List.map_cons]
   generalize cPlace.dec (List.getD r80 i [])=x at *
   simp only [and_true3] at hq
   have er:∀ l:List HPlace,List.any (x::l) (N.twiceP ⟨sx1,⟨ix1,ix1_1⟩,ix1_2,ix1_3⟩)=(cond (x.name==sx1) true (cond (x.label.level==ix1) (x.label.set==ix1_1) false) || List.any l (N.twiceP ⟨sx1,⟨ix1,ix1_1⟩,ix1_2,ix1_3⟩)):=fun _=>rfl
   cases h1:x.name==sx1 with
   | true =>
    refine .inr ⟨.ret,{ fr:=[(2,.int .i64 9)],tab:=[] },by simp,fun K=>?_,fun K=>?_⟩
    ·rw [hq,h1]; rfl
    ·simp only [er,h1,cond_true,Bool.true_or]
   | false =>
    cases h2:cond (x.label.level==ix1) (x.label.set==ix1_1) false with
    | true =>
     refine .inr ⟨.ret,{ fr:=[(2,.int .i64 9)],tab:=[] },by simp,fun K=>?_,fun K=>?_⟩
     ·rw [hq,h1,h2]; rfl
     ·simp only [er,h1,h2,cond_true,cond_false,Bool.true_or]
    | false =>
     refine .inl ⟨(),trivial,fun K=>?_,fun K=>?_⟩
     ·rw [hq,h1,h2]; rfl
     ·simp only [er,h1,h2,cond_false,Bool.false_or]
  ·refine ⟨.exit 2,_,by simp,fun K=>?_,fun K=>rfl⟩
   rw [q_rCheckPR17]
   simp (disch:=omega) only [evs]
   try rfl
 ·cases h
theorem ok_rCheckP_28:RoundsOk eRCheckP 29 28:=by
 refine rounds_of rfl fun l K q h=>?_
 unfold gRCheckP28 at h
 split at h
 ·rename_i i3 r109 i110 i111 cx0
  have h1:=(cond_none h).1; replace h:=(cond_none h).2; have h2:=(cond_none h).1; replace h:=(cond_none h).2; have h3:=(cond_none h).1; replace h:=(cond_none h).2
  have e1:=ieq_of h1
  have e2:=ieq_of h2
  subst e1 e2
  have h3:r109.length≤3000:=ble_of h3
  have main:=range_ind (E:=eRCheckP) (f:=29) (id:=28) (A:=Unit) (r109) (fun a i=>{ fr:=[(1,.ptr 10000 0 0 0),(3,.int .i64 i3),(109,.slc [.int .i64] r109),(110,.int .i64 r109.length),(111,.int .i64 i)],tab:=[(10000,.var (etaRow xsPolicy 0 cx0))] }) (fun a i=>True)
   (fun a rows K=>cond (N.rSl i3 (rows.map (rInt .i64).dec) != 0) (K .ret { fr:=[(2,.int .i64 (N.rSl i3 (rows.map (rInt .i64).dec)))],tab:=[] }) (K (.exit 4) { fr:=[(1,.ptr 10000 0 0 0),(3,.int .i64 i3)],tab:=[(10000,.var (etaRow xsPolicy 0 cx0))] })) (fun a i ha hi=>?_) (fun a ha=>?_) (()) 0 (Int.le_refl _) (by omega) trivial K q (by assumption)
  ·exact main
  ·have hq:=fun K=>q_rCheckPR28 (i3) (r109) (r109.length) ((i:Int)) (cx0) K
   have t1:ilt (i:Int) r109.length=true:=ilt_t (by omega)
   have t2:decide ((0:Int)≤i∧(i:Int)<r109.length)=true:=decide_eq_true (by omega)
   have t3:IntKind.wrap .i64 ((i:Int)+1)=(i:Int)+1:=wr_i64 (by omega) (by omega)
   simp only [Int.toNat_natCast] at hq
   simp only [t1,t2,t3,cond_true] at hq
   have a0:V.toInt (List.getD (List.getD r109 i []) 0 V.undef)=(rInt .i64).dec (List.getD r109 i []):=rfl
   simp only [a0] at hq
   simp only [List.map_cons]
   generalize (rInt .i64).dec (List.getD r109 i [])=x at *
   have er:∀ l:List Int,N.rSl i3 (x::l)=cond (cond (ilt x 0) true (ile i3 x)) 10 (N.rSl i3 l):=fun _=>rfl
   simp only [slot_key] at hq
   cases h1:cond (ilt x 0) true (ile i3 x) with
   | true =>
    refine .inr ⟨.ret,{ fr:=[(2,.int .i64 10)],tab:=[] },by simp,fun K=>?_,fun K=>?_⟩
    ·rw [hq,h1]; rfl
    ·simp only [er,h1,cond_true]; rfl
   | false =>
    refine .inl ⟨(),trivial,fun K=>?_,fun K=>?_⟩
    ·rw [hq,h1]; rfl
    ·simp only [er,h1,cond_false]
  ·refine ⟨.exit 4,_,by simp,fun K=>?_,fun K=>rfl⟩
   rw [q_rCheckPR28]
   simp (disch:=omega) only [evs]
   try rfl
 ·cases h
theorem ok_rCheckP_36:RoundsOk eRCheckP 29 36:=by
 refine rounds_of rfl fun l K q h=>?_
 unfold gRCheckP36 at h
 split at h
 ·rename_i i3 r128 i129 i130 cx0
  have h1:=(cond_none h).1; replace h:=(cond_none h).2; have h2:=(cond_none h).1; replace h:=(cond_none h).2; have h3:=(cond_none h).1; replace h:=(cond_none h).2; have g1:=(cond_none h).1; replace h:=(cond_none h).2; have g2:=(cond_none h).1; replace h:=(cond_none h).2; have g3:=(cond_none h).1; replace h:=(cond_none h).2; have g4:=(cond_none h).1; replace h:=(cond_none h).2; have g5:=(cond_none h).1; replace h:=(cond_none h).2
  have e1:=ieq_of h1
  have e2:=ieq_of h2
  subst e1 e2
  have h3:r128.length≤3000:=ble_of h3
  have g1:=ieq_of g1
  have g2:=ble_of g2
  have g3:=ble_of g3
  have g4:=ble_of g4
  have main:=range_ind (E:=eRCheckP) (f:=29) (id:=36) (A:=Int) (r128) (fun a i=>{ fr:=[(1,.ptr 10000 0 0 0),(3,.int .i64 i3),(128,.slc [.int .i64,.int .i64,.int .i64] r128),(129,.int .i64 r128.length),(130,.int .i64 i)],tab:=[(10000,.var (etaRow xsPolicy 0 cx0))] }) (fun a i=>a=(i:Int))
   (fun a rows K=>cond (N.rGr (cPolicy.dec cx0) a (rows.map cGrant.dec) != 0) (K .ret { fr:=[(2,.int .i64 (N.rGr (cPolicy.dec cx0) a (rows.map cGrant.dec)))],tab:=[] }) (K (.exit 6) { fr:=[(1,.ptr 10000 0 0 0),(3,.int .i64 i3)],tab:=[(10000,.var (etaRow xsPolicy 0 cx0))] })) (fun a i ha hi=>?_) (fun a ha=>?_) ((0:Int)) 0 (Int.le_refl _) (by omega) rfl K q (by assumption)
  ·exact main
  ·have hq:=fun K=>q_rCheckPR36 (i3) (r128) (r128.length) ((i:Int)) (cx0) K
   have t1:ilt (i:Int) r128.length=true:=ilt_t (by omega)
   have t2:decide ((0:Int)≤i∧(i:Int)<r128.length)=true:=decide_eq_true (by omega)
   have t3:IntKind.wrap .i64 ((i:Int)+1)=(i:Int)+1:=wr_i64 (by omega) (by omega)
   simp only [Int.toNat_natCast] at hq
   simp only [t1,t2,t3,cond_true] at hq
   subst ha
   have a0:V.toInt (List.getD (List.getD r128 i []) 0 V.undef)=(cGrant.dec (List.getD r128 i [])).src:=rfl
   have a1:V.toInt (List.getD (List.getD r128 i []) 1 V.undef)=(cGrant.dec (List.getD r128 i [])).dst:=rfl
   have a2:V.toInt (List.getD (List.getD r128 i []) 2 V.undef)=(cGrant.dec (List.getD r128 i [])).budget:=rfl
   simp only [a0,a1,a2] at hq
   simp only [List.map_cons]
   generalize cGrant.dec (List.getD r128 i [])=x at *
   have t4:decide ((0:Int)≤i∧(i:Int)≤((cPolicy.dec cx0).grants.length:Int))=true:=decide_eq_true (by omega)
   have t5:Nat.ble (min i (cPolicy.dec cx0).grants.length) 3000=true:=Nat.ble_eq_true_of_le (by omega)
   simp only [rows_len2,rows_len4,List.drop_zero,List.length_take,t4,t5,beq_self_eq_true,cond_true,List.map_take,pol_grants] at hq
   have hu:N.there (cPolicy.dec cx0) x.src=true→N.there (cPolicy.dec cx0) x.dst=true→N.refUnder ⟨V.toInt (List.getD (List.getD (V.toRows (List.getD cx0 2 V.undef)) x.src.toNat []) 1 V.undef),V.toInt (List.getD (List.getD (V.toRows (List.getD cx0 2 V.undef)) x.src.toNat []) 2 V.undef)⟩ ⟨V.toInt (List.getD (List.getD (V.toRows (List.getD cx0 2 V.undef)) x.dst.toNat []) 1 V.undef),V.toInt (List.getD (List.getD (V.toRows (List.getD cx0 2 V.undef)) x.dst.toNat []) 2 V.undef)⟩=N.under (N.plAt (cPolicy.dec cx0) x.src).label (N.plAt (cPolicy.dec cx0) x.dst).label:=fun h1 h2=>by
    have h1:=there_of h1
    have h2:=there_of h2
    have lab:∀ k:Nat,k<(cPolicy.dec cx0).places.length→(⟨V.toInt (List.getD (List.getD (V.toRows (List.getD cx0 2 V.undef)) k []) 1 V.undef),V.toInt (List.getD (List.getD (V.toRows (List.getD cx0 2 V.undef)) k []) 2 V.undef)⟩:Label)=((cPolicy.dec cx0).places.getD k place0).label:=fun k hk=>by
     rw [← pol_rows,← dec_at cPlace place0 (by rw [rows_len2]; exact hk)]; rfl
    rw [lab _ (by omega),lab _ (by omega)]
    exact refUnder_eq (okPl_at g5 (by omega)) (okPl_at g5 (by omega))
   have key:=fun K=>(hq K).trans (grant_key (cPolicy.dec cx0) x (List.take i (cPolicy.dec cx0).grants) _ g1 hu (fun e=>K .ret { fr:=[(2,.int .i64 e)],tab:=[] }) _)
   have er:∀ l:List HGrant,N.rGr (cPolicy.dec cx0) (i:Int) (x::l)=cond (N.grantE (cPolicy.dec cx0) x (List.take i (cPolicy.dec cx0).grants) != 0) (N.grantE (cPolicy.dec cx0) x (List.take i (cPolicy.dec cx0).grants)) (N.rGr (cPolicy.dec cx0) ((i:Int)+1) l):=fun _=>rfl
   cases hc:N.grantE (cPolicy.dec cx0) x (List.take i (cPolicy.dec cx0).grants) != 0 with
   | true =>
    refine .inr ⟨.ret,{ fr:=[(2,.int .i64 (N.grantE (cPolicy.dec cx0) x (List.take i (cPolicy.dec cx0).grants)))],tab:=[] },by simp,fun K=>?_,fun K=>?_⟩
    ·rw [key,hc]; rfl
    ·simp only [er,hc,cond_true]
   | false =>
    refine .inl ⟨(i:Int)+1,by omega,fun K=>?_,fun K=>?_⟩
    ·rw [key,hc]; rfl
    ·simp only [er,hc,cond_false]
  ·refine ⟨.exit 6,_,by simp,fun K=>?_,fun K=>rfl⟩
   rw [q_rCheckPR36]
   simp (disch:=omega) only [evs]
   try rfl
 ·cases h
theorem ok_rCheckP_45:RoundsOk eRCheckP 29 45:=by
 refine rounds_of rfl fun l K q h=>?_
 unfold gRCheckP45 at h
 split at h
 ·rename_i i3 r128 i129 i130 r181 i182 i183 cx0 ix1 ix1_1 ix1_2
  have h1:=(cond_none h).1; replace h:=(cond_none h).2; have h2:=(cond_none h).1; replace h:=(cond_none h).2; have h3:=(cond_none h).1; replace h:=(cond_none h).2
  have e1:=ieq_of h1
  have e2:=ieq_of h2
  subst e1 e2
  have h3:r181.length≤3000:=ble_of h3
  have main:=range_ind (E:=eRCheckP) (f:=29) (id:=45) (A:=Unit) (r181) (fun a i=>{ fr:=[(1,.ptr 10000 0 0 0),(3,.int .i64 i3),(12,.ptr 10001 0 0 0),(128,.slc [.int .i64,.int .i64,.int .i64] r128),(129,.int .i64 i129),(130,.int .i64 i130),(181,.slc [.int .i64,.int .i64,.int .i64] r181),(182,.int .i64 r181.length),(183,.int .i64 i)],tab:=[(10000,.var (etaRow xsPolicy 0 cx0)),(10001,.var [.int .i64 ix1,.int .i64 ix1_1,.int .i64 ix1_2])] }) (fun a i=>True)
   (fun a rows K=>cond ((rows.map cGrant.dec).any (N.isGr ix1 ix1_1)) (K .ret { fr:=[(2,.int .i64 9)],tab:=[] }) (K (.exit 8) { fr:=[(1,.ptr 10000 0 0 0),(3,.int .i64 i3),(128,.slc [.int .i64,.int .i64,.int .i64] r128),(129,.int .i64 i129),(130,.int .i64 i130)],tab:=[(10000,.var (etaRow xsPolicy 0 cx0))] })) (fun a i ha hi=>?_) (fun a ha=>?_) (()) 0 (Int.le_refl _) (by omega) trivial K q (by assumption)
  ·exact main
  ·have hq:=fun K=>q_rCheckPR45 (i3) (r128) (i129) (i130) (r181) (r181.length) ((i:Int)) (cx0) (ix1) (ix1_1) (ix1_2) K
   have t1:ilt (i:Int) r181.length=true:=ilt_t (by omega)
   have t2:decide ((0:Int)≤i∧(i:Int)<r181.length)=true:=decide_eq_true (by omega)
   have t3:IntKind.wrap .i64 ((i:Int)+1)=(i:Int)+1:=wr_i64 (by omega) (by omega)
   simp only [Int.toNat_natCast] at hq
   simp only [t1,t2,t3,cond_true] at hq
   have a0:V.toInt (List.getD (List.getD r181 i []) 0 V.undef)=(cGrant.dec (List.getD r181 i [])).src:=rfl
   have a1:V.toInt (List.getD (List.getD r181 i []) 1 V.undef)=(cGrant.dec (List.getD r181 i [])).dst:=rfl
   have a2:V.toInt (List.getD (List.getD r181 i []) 2 V.undef)=(cGrant.dec (List.getD r181 i [])).budget:=rfl
   simp only [a0,a1] at hq
   simp only [List.map_cons]
   generalize cGrant.dec (List.getD r181 i [])=x at *
   have er:∀ l:List HGrant,List.any (x::l) (N.isGr ix1 ix1_1)=(cond (x.src==ix1) (x.dst==ix1_1) false || List.any l (N.isGr ix1 ix1_1)):=fun _=>rfl
   cases h1:x.src==ix1 with
   | false =>
    refine .inl ⟨(),trivial,fun K=>?_,fun K=>?_⟩
    ·rw [hq,h1]; rfl
    ·simp only [er,h1,cond_false,Bool.false_or]
   | true =>
    cases h2:x.dst==ix1_1 with
    | true =>
     refine .inr ⟨.ret,{ fr:=[(2,.int .i64 9)],tab:=[] },by simp,fun K=>?_,fun K=>?_⟩
     ·rw [hq,h1,h2]; rfl
     ·simp only [er,h1,h2,cond_true,Bool.true_or]
    | false =>
     refine .inl ⟨(),trivial,fun K=>?_,fun K=>?_⟩
     ·rw [hq,h1,h2]; rfl
     ·simp only [er,h1,h2,cond_true,Bool.false_or]
  ·refine ⟨.exit 8,_,by simp,fun K=>?_,fun K=>rfl⟩
   rw [q_rCheckPR45]
   simp (disch:=omega) only [evs]
   try rfl
 ·cases h
theorem ok_rCheckP_52:RoundsOk eRCheckP 29 52:=by
 refine rounds_of rfl fun l K q h=>?_
 unfold gRCheckP52 at h
 split at h
 ·rename_i i3 i15 cx0
  have g1:=(cond_none h).1; replace h:=(cond_none h).2; have g2:=(cond_none h).1; replace h:=(cond_none h).2; have g3:=(cond_none h).1; replace h:=(cond_none h).2; have g4:=(cond_none h).1; replace h:=(cond_none h).2
  have e1:=ieq_of g1
  have e2:=ieq_of g2
  subst e1 e2
  have h3:=ble_of g3
  have main:=loop_ind (E:=eRCheckP) (f:=29) (id:=52) (σ:=Nat) (fun i=>{ fr:=[(1,.ptr 10000 0 0 0),(3,.int .i64 (cPolicy.dec cx0).places.length),(15,.int .i64 (i:Int))],tab:=[(10000,.var (etaRow xsPolicy 0 cx0))] }) (fun i=>i≤(cPolicy.dec cx0).places.length) (fun i=>(cPolicy.dec cx0).places.length-i)
   (fun i K=>cond (N.lacks (cPolicy.dec cx0) ((cPolicy.dec cx0).places.length-i) i==0) (K (.exit 10) { fr:=[],tab:=[] }) (K .ret { fr:=[(2,.int .i64 15)],tab:=[] })) (fun i hi=>?_) 0 (Nat.zero_le _) K q (by assumption)
  ·exact main
  ·have hn:=fun K=>q_rCheckPR52 (cPolicy.dec cx0).places.length (i:Int) cx0 K
   simp only [rows_len3,pol_slots,g4,beq_self_eq_true,cond_true] at hn
   by_cases hk:i<(cPolicy.dec cx0).places.length
   ·obtain ⟨j,hj⟩:∃ j,(cPolicy.dec cx0).places.length-i=j+1:=⟨(cPolicy.dec cx0).places.length-i-1,by omega⟩
    have hj' : (cPolicy.dec cx0).places.length-(i+1)=j:=by omega
    have er:N.lacks (cPolicy.dec cx0) (j+1) i=cond ((cPolicy.dec cx0).slots.any (·==(i:Int))) (N.lacks (cPolicy.dec cx0) j (i+1)) 15:=rfl
    have t1:ilt (i:Int) ((cPolicy.dec cx0).places.length:Int)=true:=ilt_t (by omega)
    have t2:IntKind.wrap .i64 ((i:Int)+1)=(i:Int)+1:=wr_i64 (by omega) (by omega)
    simp only [t1,t2,cond_true] at hn
    cases hc:(cPolicy.dec cx0).slots.any (·==(i:Int)) with
    | true =>
     refine .inl ⟨i+1,hk,by omega,fun K=>?_,fun K=>?_⟩
     ·rw [hn,hc]; rfl
     ·simp only [hj,hj',er,hc,cond_true]
    | false =>
     refine .inr ⟨.ret,{ fr:=[(2,.int .i64 15)],tab:=[] },by simp,fun K=>?_,fun K=>?_⟩
     ·rw [hn,hc]; rfl
     ·simp only [hj,er,hc,cond_false]; rfl
   ·obtain rfl:i=(cPolicy.dec cx0).places.length:=by omega
    refine .inr ⟨.exit 10,{ fr:=[],tab:=[] },by simp,fun K=>?_,fun K=>?_⟩
    ·rw [hn,ilt_f (Int.le_refl _)]; rfl
    ·rw [Nat.sub_self]; rfl
 ·cases h
theorem ok_rCheckP_56:RoundsOk eRCheckP 29 56:=by
 refine rounds_of rfl fun l K q h=>?_
 unfold gRCheckP56 at h
 split at h
 ·rename_i i3 i15 b16 r207 i208 i209 cx0
  have h1:=(cond_none h).1; replace h:=(cond_none h).2; have h2:=(cond_none h).1; replace h:=(cond_none h).2; have h3:=(cond_none h).1; replace h:=(cond_none h).2
  have e1:=ieq_of h1
  have e2:=ieq_of h2
  subst e1 e2
  have h3:r207.length≤3000:=ble_of h3
  have main:=range_ind (E:=eRCheckP) (f:=29) (id:=56) (A:=Bool) (r207) (fun a i=>{ fr:=[(1,.ptr 10000 0 0 0),(3,.int .i64 i3),(15,.int .i64 i15),(16,.bool a),(207,.slc [.int .i64] r207),(208,.int .i64 r207.length),(209,.int .i64 i)],tab:=[(10000,.var (etaRow xsPolicy 0 cx0))] }) (fun a i=>True)
   (fun a rows K=>K (.exit 12) { fr:=[(1,.ptr 10000 0 0 0),(3,.int .i64 i3),(15,.int .i64 i15),(16,.bool (cond a true ((rows.map (rInt .i64).dec).any (·==i15))))],tab:=[(10000,.var (etaRow xsPolicy 0 cx0))] }) (fun a i ha hi=>?_) (fun a ha=>?_) (b16) 0 (Int.le_refl _) (by omega) trivial K q (by assumption)
  ·exact main
  ·have hq:=fun K=>q_rCheckPR56 (i3) (i15) (a) (r207) (r207.length) ((i:Int)) (cx0) K
   have t1:ilt (i:Int) r207.length=true:=ilt_t (by omega)
   have t2:decide ((0:Int)≤i∧(i:Int)<r207.length)=true:=decide_eq_true (by omega)
   have t3:IntKind.wrap .i64 ((i:Int)+1)=(i:Int)+1:=wr_i64 (by omega) (by omega)
   simp only [Int.toNat_natCast] at hq
   simp only [t1,t2,t3,cond_true] at hq
   have a0:V.toInt (List.getD (List.getD r207 i []) 0 V.undef)=(rInt .i64).dec (List.getD r207 i []):=rfl
   simp only [a0] at hq
   simp only [List.map_cons]
   generalize (rInt .i64).dec (List.getD r207 i [])=x at *
   have er:∀ l:List Int,(List.any (x::l) fun x=>x==i15)=((x==i15) || List.any l fun x=>x==i15):=fun _=>rfl
   refine .inl ⟨cond a true (x==i15),trivial,fun K=>?_,fun K=>?_⟩
   ·rw [hq]; cases a<;>rfl
   ·simp only [er]
    cases a<;>cases x==i15<;>rfl
  ·refine ⟨.exit 12,_,by simp,fun K=>?_,fun K=>rfl⟩
   rw [q_rCheckPR56]
   simp (disch:=omega) only [evs]
   cases a<;>rfl
 ·cases h
theorem ok_rCheckP:FnOk Tryz.prog 29 dCheckR:=by
 refine den_okF (env_ok (((TOk.nil _).cons ok_refUnder).cons ok_refName)) (E:=eRCheckP) Tryz.func29 [9,17,28,36,45,52,56] (by kernel_rfl) (consN ok_rCheckP_9 (consN ok_rCheckP_17 (consN ok_rCheckP_28 (consN ok_rCheckP_36 (consN ok_rCheckP_45 (consN ok_rCheckP_52 (one1 ok_rCheckP_56))))))) fun a b hp=>?_
 obtain ⟨hc,hok⟩:=bcond (show cond (fewC a) (a.places.all okPl) false=true from hp)
 obtain ⟨hf,hnm⟩:=bcond hc
 obtain ⟨f1,f2⟩:=bcond hf
 obtain ⟨f2,f3⟩:=bcond f2
 have hnm' : ((a.places.map cPlace.enc).all fun r=>Nat.ble (List.length (V.toStr (List.getD r 0 V.undef))) 1000000)=true:=by
  rw [List.all_map]; exact hnm
 have r1:Nat.ble a.places.length a.places.length=true:=Nat.ble_eq_true_of_le (Nat.le_refl _)
 have r2:Nat.ble a.grants.length a.grants.length=true:=Nat.ble_eq_true_of_le (Nat.le_refl _)
 have hok' : (List.all a.places fun x=>bif bif ile (0:Int) (Label.level (HPlace.label x)) then ile (Label.level (HPlace.label x)) (255:Int) else false then bif ile (0:Int) (Label.set (HPlace.label x)) then ilt (Label.set (HPlace.label x)) (4294967296:Int) else false else false)=true:=hok
 refine (q_rCheckP a).trans ?_
 simp only [dec_encsY,List.length_map,fold_pol,f1,f2,f3,hnm',hok',r1,r2,beq_self_eq_true,cond_true]
 exact check_key a rfl rfl rfl rfl rfl rfl rfl rfl rfl fun e=>some (⟨.int .i64 e,[],[]⟩:DRes)
end Go.Ev

/- Policies that are gone through: lemmas,no condition. -/
namespace Go.Ev
open Go Go.Proofs
set_option maxRecDepth 100000
-- FOLD
namespace N
def shortP (x:HPlace):Bool:=!ilt 40 x.name.length
def lightP5 (p:HPolicy):Bool:=cond (ilt 20 p.places.length) false (cond (ilt 40 p.slots.length) false (cond (ilt 10 p.grants.length) false (p.places.all shortP)))
end N
def dLightP5:Den:=den (aOne (vAgg cPolicy)) bNil (oV vBool) (fun _ _=>true) fun p _=>(N.lightP5 p,())
theorem pl_name (r:List V):V.toStr (List.getD r 0 V.undef)=(cPlace.dec r).name:=rfl
def schLightP:SSch:={ fr:=[(22,.slc [.str,.int .u8,.int .u32,.int .i64,.int .u64]),(23,.int .i64),(24,.int .i64)],tab:=[] }
def gLightP:List Leaf→(Ex→St→Option R)→Option R
 | [.r r22,.i i23,.i i24],K=>cond (i23==r22.length) (cond (i24==0) (cond (Nat.ble r22.length 20) (cond (((r22).map cPlace.dec).all N.shortP) (K (.exit 0) { fr:=[],tab:=[] }) (K .ret { fr:=[(2,.bool false)],tab:=[] })) none) none) none
 | _,_=>none
noncomputable def eLightP:Env:=env Tryz.prog [] [(4,loopF schLightP gLightP)] [(4,[(0,[22,23,24]),(1,[]),(1000,[2])])]
theorem q_lightP (p:HPolicy):evFn eLightP 28 ((aOne (vAgg cPolicy)).enc p) ([]) some =
 cond (ilt (20:Int) (↑(List.length (List.map (RCod.enc cPlace) (HPolicy.places p))):Int)) (some {v:=V.bool false,bx:=[]:DRes}) (cond (ilt (40:Int) (↑(List.length (List.map (RCod.enc (rInt .i64)) (HPolicy.slots p))):Int)) (some {v:=V.bool false,bx:=[]:DRes}) (cond (ilt (10:Int) (↑(List.length (List.map (RCod.enc cGrant) (HPolicy.grants p))):Int)) (some {v:=V.bool false,bx:=[]:DRes}) (cond ((↑(List.length (List.map (RCod.enc cPlace) (HPolicy.places p))):Int)==(↑(List.length (List.map (RCod.enc cPlace) (HPolicy.places p))):Int)) (cond (Nat.ble (List.length (List.map (RCod.enc cPlace) (HPolicy.places p))) 20) (cond (List.all (List.map (RCod.dec cPlace) (List.map (RCod.enc cPlace) (HPolicy.places p))) N.shortP) (some {v:=V.bool true,bx:=[]:DRes}) (some {v:=V.bool false,bx:=[]:DRes})) (none)) (none)))):=by kernel_rfl
theorem q_lightPR (r22:List (List V)) (i23:Int) (i24:Int) (K:Ex→St→Option R):evRound eLightP 28 4 { fr:=[(22,.slc [.str,.int .u8,.int .u32,.int .i64,.int .u64] r22),(23,.int .i64 i23),(24,.int .i64 i24)],tab:=[] } K =
 cond (ilt i24 i23) (cond (decide ((0:Int)≤i24∧i24<(↑(List.length r22):Int))) (cond (ilt (40:Int) (↑(List.length (V.toStr (List.getD (List.getD r22 (Int.toNat i24) []) 0 V.undef))):Int)) (K Ex.ret {fr:=[(2,V.bool false)],tab:=[]:St}) (K Ex.normal {fr:=[(22,V.slc [.str,.int .u8,.int .u32,.int .i64,.int .u64] r22),(23,V.int .i64 i23),(24,V.int .i64 (IntKind.wrap .i64 (i24+(1:Int))))],tab:=[]:St})) (none)) (K (Ex.exit 0) {fr:=[],tab:=[]:St}):=by kernel_rfl
theorem ok_lightP_4:RoundsOk eLightP 28 4:=by
 refine rounds_of rfl fun l K q h=>?_
 unfold gLightP at h
 split at h
 ·rename_i r22 i23 i24
  have h1:=(cond_none h).1; replace h:=(cond_none h).2; have h2:=(cond_none h).1; replace h:=(cond_none h).2; have h3:=(cond_none h).1; replace h:=(cond_none h).2
  have e1:=ieq_of h1
  have e2:=ieq_of h2
  subst e1 e2
  have h3:r22.length≤20:=ble_of h3
  have main:=range_ind (E:=eLightP) (f:=28) (id:=4) (A:=Unit) (r22) (fun a i=>{ fr:=[(22,.slc [.str,.int .u8,.int .u32,.int .i64,.int .u64] r22),(23,.int .i64 r22.length),(24,.int .i64 i)],tab:=[] }) (fun a i=>True)
   (fun a rows K=>cond (((rows).map cPlace.dec).all N.shortP) (K (.exit 0) { fr:=[],tab:=[] }) (K .ret { fr:=[(2,.bool false)],tab:=[] })) (fun a i ha hi=>?_) (fun a ha=>?_) (()) 0 (Int.le_refl _) (by omega) trivial K q (by assumption)
  ·exact main
  ·have hq:=fun K=>q_lightPR (r22) (r22.length) ((i:Int)) K
   have t1:ilt (i:Int) r22.length=true:=ilt_t (by omega)
   have t2:decide ((0:Int)≤i∧(i:Int)<r22.length)=true:=decide_eq_true (by omega)
   have t3:IntKind.wrap .i64 ((i:Int)+1)=(i:Int)+1:=wr_i64 (by omega) (by omega)
   simp only [Int.toNat_natCast,pl_name] at hq
   simp only [t1,t2,t3,cond_true] at hq
   simp only [List.map_cons,List.all_cons]
   cases hc:ilt 40 ((cPlace.dec (r22.getD i [])).name.length:Int) with
   | true =>
    refine .inr ⟨.ret,{ fr:=[(2,.bool false)],tab:=[] },by simp,fun K=>by rw [hq,hc]; rfl,fun K=>?_⟩
    rw [show N.shortP (cPlace.dec (r22.getD i []))=false from by unfold N.shortP; rw [hc]; rfl]; rfl
   | false =>
    refine .inl ⟨(),trivial,fun K=>by rw [hq,hc]; rfl,fun K=>?_⟩
    rw [show N.shortP (cPlace.dec (r22.getD i []))=true from by unfold N.shortP; rw [hc]; rfl]; rfl
  ·refine ⟨.exit 0,_,by simp,fun K=>?_,fun K=>rfl⟩
   rw [q_lightPR]
   simp (disch:=omega) only [evs]
   try rfl
 ·cases h
theorem ok_lightP:FnOk Tryz.prog 28 dLightP5:=by
 refine den_okF (env_ok (TOk.nil _)) (E:=eLightP) Tryz.func28 [4] (by kernel_rfl) (one1 ok_lightP_4) fun a b hp=>?_
 refine (q_lightP a).trans ?_
 simp only [List.length_map,dec_encsY,beq_self_eq_true,cond_true]
 show _=some (⟨.bool (N.lightP5 a),[],[]⟩:DRes)
 unfold N.lightP5
 cases h1:ilt 20 (a.places.length:Int) with
 | true=>rfl
 | false =>
  have h1':=ilt_nof h1
  rw [ble_t (show a.places.length≤20 by omega)]
  cases ilt 40 (a.slots.length:Int) with
  | true=>rfl
  | false =>
   cases ilt 10 (a.grants.length:Int) with
   | true=>rfl
   | false=>cases a.places.all N.shortP<;>rfl
end Go.Ev

/- A policy as the document's: lemmas,no condition. -/
namespace Go.Ev
open Go Go.Proofs
set_option maxRecDepth 100000
-- FOLD
def dLawTo:Den:=den (aOne (vAgg cPolicy)) bNil (oV (vAgg cPolicy)) (fun p _=>fewP p) fun p _=>(p,())
def schLawTo3:SSch:={ fr:=[(1,.ptr 10000 0 0),(2,.ptr 10001 0 0),(3,.ptr 10005 0 0),(14,.slc [.str,.int .u8,.int .u32,.int .i64,.int .u64]),(15,.int .i64),(16,.int .i64)],tab:=[(10000,.row [] xsPolicy),(10002,.sl [.str,.int .u8,.int .u32,.int .i64,.int .u64]),(10003,.sl [.int .i64]),(10004,.sl [.int .i64,.int .i64,.int .i64]),(10001,.var [.int .i64,.int .i64,.own 10002,.own 10003,.own 10004]),(10006,.sl [.str,.int .u8,.int .u32,.int .i64,.int .u64]),(10007,.sl [.int .i64]),(10008,.sl [.int .i64,.int .i64,.int .i64]),(10005,.var [.int .i64,.int .i64,.own 10006,.own 10007,.own 10008])] }
def gLawTo3:List Leaf→(Ex→St→Option R)→Option R
 | [.r r14,.i i15,.i i16,.c cx0,.r rx2,.r rx3,.r rx4,.i ix1,.i ix1_1,.r rx6,.r rx7,.r rx8,.i ix5,.i ix5_1],K=>cond (i15==r14.length) (cond (i16==0) (cond (Nat.ble r14.length 3000) (cond (Nat.beq rx6.length 0) (K (.exit 0) { fr:=[(1,.ptr 10000 0 0 0),(2,.ptr 10001 0 0 0),(3,.ptr 10005 0 0 0)],tab:=[(10000,.var (etaRow xsPolicy 0 cx0)),(10002,.sl [.str,.int .u8,.int .u32,.int .i64,.int .u64] rx2 0),(10003,.sl [.int .i64] rx3 0),(10004,.sl [.int .i64,.int .i64,.int .i64] rx4 0),(10001,.var [.int .i64 ix1,.int .i64 ix1_1,.own 10002 0,.own 10003 0,.own 10004 0]),(10006,.sl [.str,.int .u8,.int .u32,.int .i64,.int .u64] ((([]:List HPlace)++((r14).map cPlace.dec)).map cPlace.enc) 0),(10007,.sl [.int .i64] rx7 0),(10008,.sl [.int .i64,.int .i64,.int .i64] rx8 0),(10005,.var [.int .i64 ix5,.int .i64 ix5_1,.own 10006 0,.own 10007 0,.own 10008 0])] }) none) none) none) none
 | _,_=>none
def schLawTo9:SSch:={ fr:=[(2,.ptr 10000 0 0),(3,.ptr 10004 0 0),(34,.slc [.int .i64,.int .i64,.int .i64]),(35,.int .i64),(36,.int .i64)],tab:=[(10001,.sl [.str,.int .u8,.int .u32,.int .i64,.int .u64]),(10002,.sl [.int .i64]),(10003,.sl [.int .i64,.int .i64,.int .i64]),(10000,.var [.int .i64,.int .i64,.own 10001,.own 10002,.own 10003]),(10005,.sl [.str,.int .u8,.int .u32,.int .i64,.int .u64]),(10006,.sl [.int .i64]),(10007,.sl [.int .i64,.int .i64,.int .i64]),(10004,.var [.int .i64,.int .i64,.own 10005,.own 10006,.own 10007])] }
def gLawTo9:List Leaf→(Ex→St→Option R)→Option R
 | [.r r34,.i i35,.i i36,.r rx1,.r rx2,.r rx3,.i ix0,.i ix0_1,.r rx5,.r rx6,.r rx7,.i ix4,.i ix4_1],K=>cond (i35==r34.length) (cond (i36==0) (cond (Nat.ble r34.length 3000) (cond (Nat.beq rx7.length 0) (K (.exit 2) { fr:=[(2,.ptr 10000 0 0 0),(3,.ptr 10004 0 0 0)],tab:=[(10001,.sl [.str,.int .u8,.int .u32,.int .i64,.int .u64] rx1 0),(10002,.sl [.int .i64] rx2 0),(10003,.sl [.int .i64,.int .i64,.int .i64] rx3 0),(10000,.var [.int .i64 ix0,.int .i64 ix0_1,.own 10001 0,.own 10002 0,.own 10003 0]),(10005,.sl [.str,.int .u8,.int .u32,.int .i64,.int .u64] rx5 0),(10006,.sl [.int .i64] rx6 0),(10007,.sl [.int .i64,.int .i64,.int .i64] ((([]:List HGrant)++((r34).map cGrant.dec)).map cGrant.enc) 0),(10004,.var [.int .i64 ix4,.int .i64 ix4_1,.own 10005 0,.own 10006 0,.own 10007 0])] }) none) none) none) none
 | _,_=>none
noncomputable def eLawTo:Env:=env Tryz.prog [] [(9,loopF schLawTo9 gLawTo9),(3,loopF schLawTo3 gLawTo3)] [(3,[(0,[1,2,3,14,15,16]),(1,[1,2,3]),(1000,[2])]),(9,[(0,[2,3,34,35,36]),(3,[2,3]),(1000,[2])])]
theorem q_lawTo (p:HPolicy):evFn eLawTo 13 ((aOne (vAgg cPolicy)).enc p) ([]) some =
 cond ((↑(List.length (List.map (RCod.enc cPlace) (HPolicy.places p))):Int)==(↑(List.length (List.map (RCod.enc cPlace) (HPolicy.places p))):Int)) (cond (Nat.ble (List.length (List.map (RCod.enc cPlace) (HPolicy.places p))) 3000) (cond (decide ((0+List.length (List.map (RCod.enc (rInt .i64)) (HPolicy.slots p)))*8≤140737488355328)) (cond ((↑(List.length (List.map (RCod.enc cGrant) (HPolicy.grants p))):Int)==(↑(List.length (List.map (RCod.enc cGrant) (HPolicy.grants p))):Int)) (cond (Nat.ble (List.length (List.map (RCod.enc cGrant) (HPolicy.grants p))) 3000) (some {v:=V.agg [V.int .i64 (HPolicy.work p),V.int .i64 (HPolicy.give p),V.slc [.str,.int .u8,.int .u32,.int .i64,.int .u64] (List.map (RCod.enc cPlace) ([]++List.map (RCod.dec cPlace) (List.map (RCod.enc cPlace) (HPolicy.places p)))),V.slc [.int .i64] ([]++List.map (RCod.enc (rInt .i64)) (HPolicy.slots p)),V.slc [.int .i64,.int .i64,.int .i64] (List.map (RCod.enc cGrant) ([]++List.map (RCod.dec cGrant) (List.map (RCod.enc cGrant) (HPolicy.grants p))))],bx:=[]:DRes}) (none)) (none)) (none)) (none)) (none):=by kernel_rfl
theorem q_lawToR3 (r14:List (List V)) (i15:Int) (i16:Int) (cx0:List V) (rx2:List (List V)) (rx3:List (List V)) (rx4:List (List V)) (ix1:Int) (ix1_1:Int) (rx6:List (List V)) (rx7:List (List V)) (rx8:List (List V)) (ix5:Int) (ix5_1:Int) (K:Ex→St→Option R):evRound eLawTo 13 3 { fr:=[(1,.ptr 10000 0 0 0),(2,.ptr 10001 0 0 0),(3,.ptr 10005 0 0 0),(14,.slc [.str,.int .u8,.int .u32,.int .i64,.int .u64] r14),(15,.int .i64 i15),(16,.int .i64 i16)],tab:=[(10000,.var (etaRow xsPolicy 0 cx0)),(10002,.sl [.str,.int .u8,.int .u32,.int .i64,.int .u64] rx2 0),(10003,.sl [.int .i64] rx3 0),(10004,.sl [.int .i64,.int .i64,.int .i64] rx4 0),(10001,.var [.int .i64 ix1,.int .i64 ix1_1,.own 10002 0,.own 10003 0,.own 10004 0]),(10006,.sl [.str,.int .u8,.int .u32,.int .i64,.int .u64] rx6 0),(10007,.sl [.int .i64] rx7 0),(10008,.sl [.int .i64,.int .i64,.int .i64] rx8 0),(10005,.var [.int .i64 ix5,.int .i64 ix5_1,.own 10006 0,.own 10007 0,.own 10008 0])] } K =
 cond (ilt i16 i15) (cond (decide ((0:Int)≤i16∧i16<(↑(List.length r14):Int))) (cond (decide ((List.length rx6+1)*40≤140737488355328)) (K Ex.normal {fr:=[(1,V.ptr 10000 0 0 0),(2,V.ptr 10001 0 0 0),(3,V.ptr 10005 0 0 0),(14,V.slc [.str,.int .u8,.int .u32,.int .i64,.int .u64] r14),(15,V.int .i64 i15),(16,V.int .i64 (IntKind.wrap .i64 (i16+(1:Int))))],tab:=[(10000,Box.var [V.int .i64 (V.toInt (List.getD cx0 0 .undef)),V.int .i64 (V.toInt (List.getD cx0 1 .undef)),V.slc [.str,.int .u8,.int .u32,.int .i64,.int .u64] (V.toRows (List.getD cx0 2 .undef)),V.slc [.int .i64] (V.toRows (List.getD cx0 3 .undef)),V.slc [.int .i64,.int .i64,.int .i64] (V.toRows (List.getD cx0 4 .undef))]),(10002,Box.sl [.str,.int .u8,.int .u32,.int .i64,.int .u64] rx2 0),(10003,Box.sl [.int .i64] rx3 0),(10004,Box.sl [.int .i64,.int .i64,.int .i64] rx4 0),(10001,Box.var [V.int .i64 ix1,V.int .i64 ix1_1,V.own 10002 0,V.own 10003 0,V.own 10004 0]),(10006,Box.sl [.str,.int .u8,.int .u32,.int .i64,.int .u64] (rx6++[[V.str (V.toStr (List.getD (List.getD r14 (Int.toNat i16) []) 0 V.undef)),V.int .u8 (V.toInt (List.getD (List.getD r14 (Int.toNat i16) []) 1 V.undef)),V.int .u32 (V.toInt (List.getD (List.getD r14 (Int.toNat i16) []) 2 V.undef)),V.int .i64 (V.toInt (List.getD (List.getD r14 (Int.toNat i16) []) 3 V.undef)),V.int .u64 (V.toInt (List.getD (List.getD r14 (Int.toNat i16) []) 4 V.undef))]]) 0),(10007,Box.sl [.int .i64] rx7 0),(10008,Box.sl [.int .i64,.int .i64,.int .i64] rx8 0),(10005,Box.var [V.int .i64 ix5,V.int .i64 ix5_1,V.own 10006 0,V.own 10007 0,V.own 10008 0])]:St}) (none)) (none)) (K (Ex.exit 0) {fr:=[(1,V.ptr 10000 0 0 0),(2,V.ptr 10001 0 0 0),(3,V.ptr 10005 0 0 0)],tab:=[(10000,Box.var [V.int .i64 (V.toInt (List.getD cx0 0 .undef)),V.int .i64 (V.toInt (List.getD cx0 1 .undef)),V.slc [.str,.int .u8,.int .u32,.int .i64,.int .u64] (V.toRows (List.getD cx0 2 .undef)),V.slc [.int .i64] (V.toRows (List.getD cx0 3 .undef)),V.slc [.int .i64,.int .i64,.int .i64] (V.toRows (List.getD cx0 4 .undef))]),(10002,Box.sl [.str,.int .u8,.int .u32,.int .i64,.int .u64] rx2 0),(10003,Box.sl [.int .i64] rx3 0),(10004,Box.sl [.int .i64,.int .i64,.int .i64] rx4 0),(10001,Box.var [V.int .i64 ix1,V.int .i64 ix1_1,V.own 10002 0,V.own 10003 0,V.own 10004 0]),(10006,Box.sl [.str,.int .u8,.int .u32,.int .i64,.int .u64] rx6 0),(10007,Box.sl [.int .i64] rx7 0),(10008,Box.sl [.int .i64,.int .i64,.int .i64] rx8 0),(10005,Box.var [V.int .i64 ix5,V.int .i64 ix5_1,V.own 10006 0,V.own 10007 0,V.own 10008 0])]:St}):=by kernel_rfl
theorem q_lawToR9 (r34:List (List V)) (i35:Int) (i36:Int) (rx1:List (List V)) (rx2:List (List V)) (rx3:List (List V)) (ix0:Int) (ix0_1:Int) (rx5:List (List V)) (rx6:List (List V)) (rx7:List (List V)) (ix4:Int) (ix4_1:Int) (K:Ex→St→Option R):evRound eLawTo 13 9 { fr:=[(2,.ptr 10000 0 0 0),(3,.ptr 10004 0 0 0),(34,.slc [.int .i64,.int .i64,.int .i64] r34),(35,.int .i64 i35),(36,.int .i64 i36)],tab:=[(10001,.sl [.str,.int .u8,.int .u32,.int .i64,.int .u64] rx1 0),(10002,.sl [.int .i64] rx2 0),(10003,.sl [.int .i64,.int .i64,.int .i64] rx3 0),(10000,.var [.int .i64 ix0,.int .i64 ix0_1,.own 10001 0,.own 10002 0,.own 10003 0]),(10005,.sl [.str,.int .u8,.int .u32,.int .i64,.int .u64] rx5 0),(10006,.sl [.int .i64] rx6 0),(10007,.sl [.int .i64,.int .i64,.int .i64] rx7 0),(10004,.var [.int .i64 ix4,.int .i64 ix4_1,.own 10005 0,.own 10006 0,.own 10007 0])] } K =
 cond (ilt i36 i35) (cond (decide ((0:Int)≤i36∧i36<(↑(List.length r34):Int))) (cond (decide ((List.length rx7+1)*24≤140737488355328)) (K Ex.normal {fr:=[(2,V.ptr 10000 0 0 0),(3,V.ptr 10004 0 0 0),(34,V.slc [.int .i64,.int .i64,.int .i64] r34),(35,V.int .i64 i35),(36,V.int .i64 (IntKind.wrap .i64 (i36+(1:Int))))],tab:=[(10001,Box.sl [.str,.int .u8,.int .u32,.int .i64,.int .u64] rx1 0),(10002,Box.sl [.int .i64] rx2 0),(10003,Box.sl [.int .i64,.int .i64,.int .i64] rx3 0),(10000,Box.var [V.int .i64 ix0,V.int .i64 ix0_1,V.own 10001 0,V.own 10002 0,V.own 10003 0]),(10005,Box.sl [.str,.int .u8,.int .u32,.int .i64,.int .u64] rx5 0),(10006,Box.sl [.int .i64] rx6 0),(10007,Box.sl [.int .i64,.int .i64,.int .i64] (rx7++[[V.int .i64 (V.toInt (List.getD (List.getD r34 (Int.toNat i36) []) 0 V.undef)),V.int .i64 (V.toInt (List.getD (List.getD r34 (Int.toNat i36) []) 1 V.undef)),V.int .i64 (V.toInt (List.getD (List.getD r34 (Int.toNat i36) []) 2 V.undef))]]) 0),(10004,Box.var [V.int .i64 ix4,V.int .i64 ix4_1,V.own 10005 0,V.own 10006 0,V.own 10007 0])]:St}) (none)) (none)) (K (Ex.exit 2) {fr:=[(2,V.ptr 10000 0 0 0),(3,V.ptr 10004 0 0 0)],tab:=[(10001,Box.sl [.str,.int .u8,.int .u32,.int .i64,.int .u64] rx1 0),(10002,Box.sl [.int .i64] rx2 0),(10003,Box.sl [.int .i64,.int .i64,.int .i64] rx3 0),(10000,Box.var [V.int .i64 ix0,V.int .i64 ix0_1,V.own 10001 0,V.own 10002 0,V.own 10003 0]),(10005,Box.sl [.str,.int .u8,.int .u32,.int .i64,.int .u64] rx5 0),(10006,Box.sl [.int .i64] rx6 0),(10007,Box.sl [.int .i64,.int .i64,.int .i64] rx7 0),(10004,Box.var [V.int .i64 ix4,V.int .i64 ix4_1,V.own 10005 0,V.own 10006 0,V.own 10007 0])]:St}):=by kernel_rfl
theorem ok_lawTo_3:RoundsOk eLawTo 13 3:=by
 refine rounds_of rfl fun l K q h=>?_
 unfold gLawTo3 at h
 split at h
 ·rename_i r14 i15 i16 cx0 rx2 rx3 rx4 ix1 ix1_1 rx6 rx7 rx8 ix5 ix5_1
  have h1:=(cond_none h).1; replace h:=(cond_none h).2; have h2:=(cond_none h).1; replace h:=(cond_none h).2; have h3:=(cond_none h).1; replace h:=(cond_none h).2; have h4:=(cond_none h).1; replace h:=(cond_none h).2
  have e1:=ieq_of h1
  have e2:=ieq_of h2
  subst e1 e2
  have h3:r14.length≤3000:=ble_of h3
  have e4:=List.eq_nil_of_length_eq_zero (Nat.eq_of_beq_eq_true h4)
  subst e4
  have main:=range_ind (E:=eLawTo) (f:=13) (id:=3) (A:=List HPlace) (r14) (fun a i=>{ fr:=[(1,.ptr 10000 0 0 0),(2,.ptr 10001 0 0 0),(3,.ptr 10005 0 0 0),(14,.slc [.str,.int .u8,.int .u32,.int .i64,.int .u64] r14),(15,.int .i64 r14.length),(16,.int .i64 i)],tab:=[(10000,.var (etaRow xsPolicy 0 cx0)),(10002,.sl [.str,.int .u8,.int .u32,.int .i64,.int .u64] rx2 0),(10003,.sl [.int .i64] rx3 0),(10004,.sl [.int .i64,.int .i64,.int .i64] rx4 0),(10001,.var [.int .i64 ix1,.int .i64 ix1_1,.own 10002 0,.own 10003 0,.own 10004 0]),(10006,.sl [.str,.int .u8,.int .u32,.int .i64,.int .u64] (a.map cPlace.enc) 0),(10007,.sl [.int .i64] rx7 0),(10008,.sl [.int .i64,.int .i64,.int .i64] rx8 0),(10005,.var [.int .i64 ix5,.int .i64 ix5_1,.own 10006 0,.own 10007 0,.own 10008 0])] }) (fun a i=>a.length≤i)
   (fun a rows K=>K (.exit 0) { fr:=[(1,.ptr 10000 0 0 0),(2,.ptr 10001 0 0 0),(3,.ptr 10005 0 0 0)],tab:=[(10000,.var (etaRow xsPolicy 0 cx0)),(10002,.sl [.str,.int .u8,.int .u32,.int .i64,.int .u64] rx2 0),(10003,.sl [.int .i64] rx3 0),(10004,.sl [.int .i64,.int .i64,.int .i64] rx4 0),(10001,.var [.int .i64 ix1,.int .i64 ix1_1,.own 10002 0,.own 10003 0,.own 10004 0]),(10006,.sl [.str,.int .u8,.int .u32,.int .i64,.int .u64] ((a++((rows).map cPlace.dec)).map cPlace.enc) 0),(10007,.sl [.int .i64] rx7 0),(10008,.sl [.int .i64,.int .i64,.int .i64] rx8 0),(10005,.var [.int .i64 ix5,.int .i64 ix5_1,.own 10006 0,.own 10007 0,.own 10008 0])] }) (fun a i ha hi=>?_) (fun a ha=>?_) (([]:List HPlace)) 0 (Int.le_refl _) (by omega) (Nat.zero_le _) K q (by assumption)
  ·exact main
  ·have hq:=fun K=>q_lawToR3 (r14) (r14.length) ((i:Int)) (cx0) (rx2) (rx3) (rx4) (ix1) (ix1_1) ((a.map cPlace.enc)) (rx7) (rx8) (ix5) (ix5_1) K
   have t1:ilt (i:Int) r14.length=true:=ilt_t (by omega)
   have t2:decide ((0:Int)≤i∧(i:Int)<r14.length)=true:=decide_eq_true (by omega)
   have t3:IntKind.wrap .i64 ((i:Int)+1)=(i:Int)+1:=wr_i64 (by omega) (by omega)
   have t5:decide (((a.map cPlace.enc).length+1)*40≤140737488355328)=true:=decide_eq_true (by rw [List.length_map]; omega)
   simp only [Int.toNat_natCast] at hq
   simp only [t1,t2,t3,cond_true,t5] at hq
   refine .inl ⟨a++[cPlace.dec (r14.getD i [])],by rw [List.length_append,List.length_singleton]; omega,fun K=>?_,fun K=>?_⟩
   ·rw [hq]
    simp only [List.map_append]
    try rfl
   ·simp only [List.map_cons,List.append_assoc,List.singleton_append]
  ·refine ⟨.exit 0,_,by simp,fun K=>?_,fun K=>rfl⟩
   rw [q_lawToR3,ilt_f (Int.le_refl _)]
   simp only [List.map_nil,List.append_nil]
   try rfl
 ·cases h
theorem ok_lawTo_9:RoundsOk eLawTo 13 9:=by
 refine rounds_of rfl fun l K q h=>?_
 unfold gLawTo9 at h
 split at h
 ·rename_i r34 i35 i36 rx1 rx2 rx3 ix0 ix0_1 rx5 rx6 rx7 ix4 ix4_1
  have h1:=(cond_none h).1; replace h:=(cond_none h).2; have h2:=(cond_none h).1; replace h:=(cond_none h).2; have h3:=(cond_none h).1; replace h:=(cond_none h).2; have h4:=(cond_none h).1; replace h:=(cond_none h).2
  have e1:=ieq_of h1
  have e2:=ieq_of h2
  subst e1 e2
  have h3:r34.length≤3000:=ble_of h3
  have e4:=List.eq_nil_of_length_eq_zero (Nat.eq_of_beq_eq_true h4)
  subst e4
  have main:=range_ind (E:=eLawTo) (f:=13) (id:=9) (A:=List HGrant) (r34) (fun a i=>{ fr:=[(2,.ptr 10000 0 0 0),(3,.ptr 10004 0 0 0),(34,.slc [.int .i64,.int .i64,.int .i64] r34),(35,.int .i64 r34.length),(36,.int .i64 i)],tab:=[(10001,.sl [.str,.int .u8,.int .u32,.int .i64,.int .u64] rx1 0),(10002,.sl [.int .i64] rx2 0),(10003,.sl [.int .i64,.int .i64,.int .i64] rx3 0),(10000,.var [.int .i64 ix0,.int .i64 ix0_1,.own 10001 0,.own 10002 0,.own 10003 0]),(10005,.sl [.str,.int .u8,.int .u32,.int .i64,.int .u64] rx5 0),(10006,.sl [.int .i64] rx6 0),(10007,.sl [.int .i64,.int .i64,.int .i64] (a.map cGrant.enc) 0),(10004,.var [.int .i64 ix4,.int .i64 ix4_1,.own 10005 0,.own 10006 0,.own 10007 0])] }) (fun a i=>a.length≤i)
   (fun a rows K=>K (.exit 2) { fr:=[(2,.ptr 10000 0 0 0),(3,.ptr 10004 0 0 0)],tab:=[(10001,.sl [.str,.int .u8,.int .u32,.int .i64,.int .u64] rx1 0),(10002,.sl [.int .i64] rx2 0),(10003,.sl [.int .i64,.int .i64,.int .i64] rx3 0),(10000,.var [.int .i64 ix0,.int .i64 ix0_1,.own 10001 0,.own 10002 0,.own 10003 0]),(10005,.sl [.str,.int .u8,.int .u32,.int .i64,.int .u64] rx5 0),(10006,.sl [.int .i64] rx6 0),(10007,.sl [.int .i64,.int .i64,.int .i64] ((a++((rows).map cGrant.dec)).map cGrant.enc) 0),(10004,.var [.int .i64 ix4,.int .i64 ix4_1,.own 10005 0,.own 10006 0,.own 10007 0])] }) (fun a i ha hi=>?_) (fun a ha=>?_) (([]:List HGrant)) 0 (Int.le_refl _) (by omega) (Nat.zero_le _) K q (by assumption)
  ·exact main
  ·have hq:=fun K=>q_lawToR9 (r34) (r34.length) ((i:Int)) (rx1) (rx2) (rx3) (ix0) (ix0_1) (rx5) (rx6) ((a.map cGrant.enc)) (ix4) (ix4_1) K
   have t1:ilt (i:Int) r34.length=true:=ilt_t (by omega)
   have t2:decide ((0:Int)≤i∧(i:Int)<r34.length)=true:=decide_eq_true (by omega)
   have t3:IntKind.wrap .i64 ((i:Int)+1)=(i:Int)+1:=wr_i64 (by omega) (by omega)
   have t5:decide (((a.map cGrant.enc).length+1)*24≤140737488355328)=true:=decide_eq_true (by rw [List.length_map]; omega)
   simp only [Int.toNat_natCast] at hq
   simp only [t1,t2,t3,cond_true,t5] at hq
   refine .inl ⟨a++[cGrant.dec (r34.getD i [])],by rw [List.length_append,List.length_singleton]; omega,fun K=>?_,fun K=>?_⟩
   ·rw [hq]
    simp only [List.map_append]
    try rfl
   ·simp only [List.map_cons,List.append_assoc,List.singleton_append]
  ·refine ⟨.exit 2,_,by simp,fun K=>?_,fun K=>rfl⟩
   rw [q_lawToR9,ilt_f (Int.le_refl _)]
   simp only [List.map_nil,List.append_nil]
   try rfl
 ·cases h
theorem ok_lawTo:FnOk Tryz.prog 13 dLawTo:=by
 refine den_okF (env_ok (TOk.nil _)) (E:=eLawTo) Tryz.func13 [3,9] (by kernel_rfl) (two2 ok_lawTo_3 ok_lawTo_9) fun a b hp=>?_
 have hf:fewP a=true:=hp
 obtain ⟨f1,f2⟩:=bcond hf
 obtain ⟨f2,f3⟩:=bcond f2
 refine (q_lawTo a).trans ?_
 have f2':=ble_of f2
 have t5:decide ((0+a.slots.length)*8≤140737488355328)=true:=decide_eq_true (by omega)
 simp only [List.length_map,dec_encsY,f1,f3,t5,beq_self_eq_true,cond_true,List.nil_append]
 try rfl
end Go.Ev

/- Policies: the chapter's example,which may be,and the statement on flows: lemmas; the function that writes numbers is a premise. -/
namespace Go.Ev
open Go Go.Proofs
set_option maxRecDepth 100000
-- FOLD
noncomputable def eAw4p:Env:=env Tryz.prog [(69,dTrueW)] [] []
theorem q_aw4p:evFn eAw4p 36 [] [] some=some ⟨.bool true,[],[]⟩:=by kernel_rfl
theorem ok_aw4p:FnOk Tryz.prog 36 dTrue:=den_okF (env_ok ((TOk.nil _).cons ok_awW)) (E:=eAw4p) Tryz.func36 [] (by kernel_rfl) none0 fun _ _ _=>q_aw4p
noncomputable def eAw3p:Env:=env Tryz.prog [(68,dTrue)] [] []
theorem q_aw3p:evFn eAw3p 35 [] [] some=some ⟨.bool true,[],[]⟩:=by kernel_rfl
theorem ok_aw3p (hN:FnOk Tryz.prog 127 dOutNum):FnOk Tryz.prog 35 dTrue:=den_okF (env_ok ((TOk.nil _).cons (ok_aw3 hN))) (E:=eAw3p) Tryz.func35 [] (by kernel_rfl) none0 fun _ _ _=>q_aw3p
noncomputable def eAw5:Env:=env Tryz.prog [(10,dPParse),(35,dTrue),(36,dTrue)] [] []
theorem q_aw5:evFn eAw5 9 [] [] some=some ⟨.bool true,[],[]⟩:=by kernel_rfl
theorem ok_aw5 (hN:FnOk Tryz.prog 127 dOutNum):FnOk Tryz.prog 9 dTrue:=den_okF (env_ok ((((TOk.nil _).cons ok_aw4p).cons (ok_aw3p hN)).cons ok_pParse)) (E:=eAw5) Tryz.func9 [] (by kernel_rfl) none0 fun _ _ _=>q_aw5
namespace N
def mayP (p:HPolicy):Bool:=cond (lightP5 p) (checkP p==0) false
end N
theorem light_few {p:HPolicy} (h:N.lightP5 p=true):fewC p=true:=by
 have h:cond (ilt 20 p.places.length) false (cond (ilt 40 p.slots.length) false (cond (ilt 10 p.grants.length) false (p.places.all N.shortP)))=true:=h
 cases h1:ilt 20 (p.places.length:Int) with
 | true=>rw [h1] at h; cases h
 | false =>
  cases h2:ilt 40 (p.slots.length:Int) with
  | true=>rw [h1,h2] at h; cases h
  | false =>
   cases h3:ilt 10 (p.grants.length:Int) with
   | true=>rw [h1,h2,h3] at h; cases h
   | false =>
    rw [h1,h2,h3] at h
    have h4:∀ x∈p.places,Nat.ble x.name.length 1000000=true:=fun x hx=>by
     have:=List.all_eq_true.1 h x hx
     have:=ilt_nof (show ilt 40 (x.name.length:Int)=false by simpa [N.shortP] using this)
     exact Nat.ble_eq_true_of_le (by omega)
    have:=ilt_nof h1
    have:=ilt_nof h2
    have:=ilt_nof h3
    show cond (cond (Nat.ble p.places.length 3000) (cond (Nat.ble p.slots.length 3000) (Nat.ble p.grants.length 3000) false) false) (p.places.all fun x=>Nat.ble x.name.length 1000000) false=true
    rw [Nat.ble_eq_true_of_le (by omega),Nat.ble_eq_true_of_le (by omega),Nat.ble_eq_true_of_le (by omega),List.all_eq_true.2 h4]; rfl
def dMay5:Den:=den (aOne (vAgg cPolicy)) bNil (oV vBool) (fun p _=>p.places.all okPl) fun p _=>(N.mayP p,())
noncomputable def eMay5:Env:=env Tryz.prog [(28,dLightP5),(13,dLawTo),(29,dCheckR)] [] []
theorem q_may5_ (p:HPolicy):evFn eMay5 14 ((aOne (vAgg cPolicy)).enc p) ([]) some =(
 let z4:=(List.map (RCod.enc cPlace) (HPolicy.places p));let z0:=(List.map (RCod.enc cPlace) (List.map (RCod.dec cPlace) z4));let z1:=(List.map (RCod.dec (rInt .i64)) (List.map (RCod.enc (rInt .i64)) (HPolicy.slots p)));let z2:=(List.map (RCod.dec cGrant) (List.map (RCod.enc cGrant) (HPolicy.grants p)));let z3:=(List.map (RCod.dec cPlace) z0);cond (N.lightP5 {work:=HPolicy.work p,give:=HPolicy.give p,places:=List.map (RCod.dec cPlace) z4,slots:=List.map (RCod.dec (rInt .i64)) (List.map (RCod.enc (rInt .i64)) (HPolicy.slots p)),grants:=List.map (RCod.dec cGrant) (List.map (RCod.enc cGrant) (HPolicy.grants p)):HPolicy}) (cond (bif Nat.ble (List.length (List.map (RCod.dec cPlace) z4)) 3000 then bif Nat.ble (List.length z1) 3000 then Nat.ble (List.length z2) 3000 else false else false) (cond (bif bif bif Nat.ble (List.length z3) 3000 then bif Nat.ble (List.length (List.map (RCod.dec (rInt .i64)) (List.map (RCod.enc (rInt .i64)) z1))) 3000 then Nat.ble (List.length (List.map (RCod.dec cGrant) (List.map (RCod.enc cGrant) z2))) 3000 else false else false then List.all z3 fun x=>Nat.ble (List.length (HPlace.name x)) 1000000 else false then List.all z3 fun x=>bif bif ile (0:Int) (Label.level (HPlace.label x)) then ile (Label.level (HPlace.label x)) (255:Int) else false then bif ile (0:Int) (Label.set (HPlace.label x)) then ilt (Label.set (HPlace.label x)) (4294967296:Int) else false else false else false) (some {v:=V.bool (N.checkP {work:=HPolicy.work p,give:=HPolicy.give p,places:=List.map (RCod.dec cPlace) z0,slots:=List.map (RCod.dec (rInt .i64)) (List.map (RCod.enc (rInt .i64)) z1),grants:=List.map (RCod.dec cGrant) (List.map (RCod.enc cGrant) z2):HPolicy}==(0:Int)),bx:=[]:DRes}) (none)) (none)) (some {v:=V.bool false,bx:=[]:DRes})):=by kernel_rfl
theorem q_may5 (p:HPolicy):type_of% (by have h:=q_may5_ p; dsimp only at h; exact h):=by
 have h:=q_may5_ p
 dsimp only at h
 exact h
theorem ok_may5:FnOk Tryz.prog 14 dMay5:=by
 refine den_okF (env_ok ((((TOk.nil _).cons ok_rCheckP).cons ok_lawTo).cons ok_lightP)) (E:=eMay5) Tryz.func14 [] (by kernel_rfl) none0 fun p b hp=>?_
 have hp:p.places.all okPl=true:=hp
 refine (q_may5 p).trans ?_
 show _=some (⟨.bool (cond (N.lightP5 p) (N.checkP p==0) false),[],[]⟩:DRes)
 have hok' : (List.all p.places fun x=>bif bif ile (0:Int) (Label.level (HPlace.label x)) then ile (Label.level (HPlace.label x)) (255:Int) else false then bif ile (0:Int) (Label.set (HPlace.label x)) then ilt (Label.set (HPlace.label x)) (4294967296:Int) else false else false)=true:=hp
 simp only [dec_encsY,fold_pol,hok']
 cases hl:N.lightP5 p with
 | false=>rfl
 | true =>
  obtain ⟨hf,hnm⟩:=bcond (light_few hl)
  obtain ⟨f1,f2⟩:=bcond hf
  obtain ⟨f2,f3⟩:=bcond f2
  have hnm' : (List.all p.places fun x=>Nat.ble (List.length (HPlace.name x)) 1000000)=true:=hnm
  simp only [f1,f2,f3,hnm',cond_true]
def dFlowsL:Den:=den (aCons (vAgg cPolicy) (aCons (vInt .i64) (aCons (vInt .i64) (aOne (vInt .i64))))) bNil (oV vBool) (fun a _=>a.1.places.all okPl) fun _ _=>(true,())
noncomputable def eFlowsL:Env:=env Tryz.prog [(9,dTrue),(14,dMay5),(13,dLawTo),(15,dFlows),(16,dFlowsR),(17,dGrantsR),(18,dGrantsR)] [] []
theorem q_flowsL_ (p:HPolicy) (a b c:Int):evFn eFlowsL 4 ((aCons (vAgg cPolicy) (aCons (vInt .i64) (aCons (vInt .i64) (aOne (vInt .i64))))).enc (p,a,b,c)) ([]) some =(
 let z3:=(List.map (RCod.enc cPlace) (HPolicy.places p));let z12:=(List.map (RCod.dec cPlace) z3);let z4:=(List.map (RCod.enc (rInt .i64)) (HPolicy.slots p));let z5:=(List.map (RCod.enc cGrant) (HPolicy.grants p));let z0:=(bif Nat.ble (List.length z12) 3000 then bif Nat.ble (List.length (List.map (RCod.dec (rInt .i64)) z4)) 3000 then Nat.ble (List.length (List.map (RCod.dec cGrant) z5)) 3000 else false else false);let z1:=(cond z0 (cond (!N.flows {work:=HPolicy.work p,give:=HPolicy.give p,places:=List.map (RCod.dec cPlace) z3,slots:=List.map (RCod.dec (rInt .i64)) z4,grants:=List.map (RCod.dec cGrant) z5:HPolicy} a b) (some {v:=V.bool true,bx:=[]:DRes}) (cond z0 (some {v:=V.bool (ilt (N.pGrant {work:=HPolicy.work p,give:=HPolicy.give p,places:=List.map (RCod.dec cPlace) z3,slots:=List.map (RCod.dec (rInt .i64)) z4,grants:=List.map (RCod.dec cGrant) z5:HPolicy} a b) (0:Int)),bx:=[]:DRes}) (none))) (none));let z11:=(N.flows {work:=HPolicy.work p,give:=HPolicy.give p,places:=List.map (RCod.dec cPlace) z3,slots:=List.map (RCod.dec (rInt .i64)) z4,grants:=List.map (RCod.dec cGrant) z5:HPolicy} a b);let z9:=(some {v:=V.bool false,bx:=[]:DRes});let z2:=(cond z0 (cond z11 (cond z0 (cond (N.flows {work:=HPolicy.work p,give:=HPolicy.give p,places:=List.map (RCod.dec cPlace) z3,slots:=List.map (RCod.dec (rInt .i64)) z4,grants:=List.map (RCod.dec cGrant) z5:HPolicy} b c) (cond z0 (cond (!N.flows {work:=HPolicy.work p,give:=HPolicy.give p,places:=List.map (RCod.dec cPlace) z3,slots:=List.map (RCod.dec (rInt .i64)) z4,grants:=List.map (RCod.dec cGrant) z5:HPolicy} a c) z9 z1) (none)) z1) (none)) z1) (none));let z6:=(List.map (RCod.enc cPlace) z12);let z7:=(List.map (RCod.enc (rInt .i64)) (List.map (RCod.dec (rInt .i64)) z4));let z8:=(List.map (RCod.enc cGrant) (List.map (RCod.dec cGrant) z5));let z10:=(List.map (RCod.dec cPlace) z6);cond (List.all z12 fun x=>bif bif ile (0:Int) (Label.level (HPlace.label x)) then ile (Label.level (HPlace.label x)) (255:Int) else false then bif ile (0:Int) (Label.set (HPlace.label x)) then ilt (Label.set (HPlace.label x)) (4294967296:Int) else false else false) (cond (!N.mayP {work:=HPolicy.work p,give:=HPolicy.give p,places:=List.map (RCod.dec cPlace) z3,slots:=List.map (RCod.dec (rInt .i64)) z4,grants:=List.map (RCod.dec cGrant) z5:HPolicy}) (some {v:=V.bool true,bx:=[]:DRes}) (cond z0 (cond z0 (cond (bif bif Nat.ble (List.length z10) 3000 then bif Nat.ble (List.length (List.map (RCod.dec (rInt .i64)) z7)) 3000 then Nat.ble (List.length (List.map (RCod.dec cGrant) z8)) 3000 else false else false then List.all z10 fun x=>bif bif ile (0:Int) (Label.level (HPlace.label x)) then ile (Label.level (HPlace.label x)) (255:Int) else false then bif ile (0:Int) (Label.set (HPlace.label x)) then ilt (Label.set (HPlace.label x)) (4294967296:Int) else false else false else false) (cond (!N.flows {work:=HPolicy.work p,give:=HPolicy.give p,places:=List.map (RCod.dec cPlace) z3,slots:=List.map (RCod.dec (rInt .i64)) z4,grants:=List.map (RCod.dec cGrant) z5:HPolicy} a b==N.flows {work:=HPolicy.work p,give:=HPolicy.give p,places:=List.map (RCod.dec cPlace) z6,slots:=List.map (RCod.dec (rInt .i64)) z7,grants:=List.map (RCod.dec cGrant) z8:HPolicy} a b) z9 (cond z0 (cond (bif Nat.ble (List.length z10) 3000 then bif Nat.ble (List.length (List.map (RCod.dec (rInt .i64)) z7)) 3000 then Nat.ble (List.length (List.map (RCod.dec cGrant) z8)) 3000 else false else false) (cond (N.pGrant {work:=HPolicy.work p,give:=HPolicy.give p,places:=List.map (RCod.dec cPlace) z3,slots:=List.map (RCod.dec (rInt .i64)) z4,grants:=List.map (RCod.dec cGrant) z5:HPolicy} a b != N.pGrant {work:=HPolicy.work p,give:=HPolicy.give p,places:=List.map (RCod.dec cPlace) z6,slots:=List.map (RCod.dec (rInt .i64)) z7,grants:=List.map (RCod.dec cGrant) z8:HPolicy} a b) z9 (cond z0 (cond (N.flows {work:=HPolicy.work p,give:=HPolicy.give p,places:=List.map (RCod.dec cPlace) z3,slots:=List.map (RCod.dec (rInt .i64)) z4,grants:=List.map (RCod.dec cGrant) z5:HPolicy} a a) z9 (cond z0 (cond z11 (cond z0 (cond (N.flows {work:=HPolicy.work p,give:=HPolicy.give p,places:=List.map (RCod.dec cPlace) z3,slots:=List.map (RCod.dec (rInt .i64)) z4,grants:=List.map (RCod.dec cGrant) z5:HPolicy} b a) z9 z2) (none)) z2) (none))) (none))) (none)) (none))) (none)) (none)) (none))) (none)):=by kernel_rfl
theorem q_flowsL (p:HPolicy) (a b c:Int):type_of% (by have h:=q_flowsL_ p a b c; dsimp only at h; exact h):=by
 have h:=q_flowsL_ p a b c
 dsimp only at h
 exact h
theorem ok_flowsL (hN:FnOk Tryz.prog 127 dOutNum):FnOk Tryz.prog 4 dFlowsL:=by
 refine den_okF (env_ok ((((((((TOk.nil _).cons ok_rGrantsP).cons ok_pGrant).cons ok_rFlows).cons ok_pFlows).cons ok_lawTo).cons ok_may5).cons (ok_aw5 hN))) (E:=eFlowsL) Tryz.func4 [] (by kernel_rfl) none0 fun x u hp=>?_
 obtain ⟨p,a,b,c⟩:=x
 have hok:p.places.all okPl=true:=hp
 refine (q_flowsL p a b c).trans ?_
 show _=some (⟨.bool true,[],[]⟩:DRes)
 have hok' : (List.all p.places fun x=>bif bif ile (0:Int) (Label.level (HPlace.label x)) then ile (Label.level (HPlace.label x)) (255:Int) else false then bif ile (0:Int) (Label.set (HPlace.label x)) then ilt (Label.set (HPlace.label x)) (4294967296:Int) else false else false)=true:=hok
 simp only [dec_encsY,fold_pol,hok',cond_true,beq_self_eq_true,bne_self_eq_false,Bool.not_true,cond_false]
 cases hm:N.mayP p with
 | false=>rfl
 | true =>
  obtain ⟨hl,hc⟩:=bcond hm
  obtain ⟨hf,hnm⟩:=bcond (light_few hl)
  obtain ⟨f1,f2⟩:=bcond hf
  obtain ⟨f2,f3⟩:=bcond f2
  obtain ⟨l1,l2,l3,l4⟩:=flows_law hok (ieq_of hc) a b c
  simp only [f1,f2,f3,cond_true,l1,cond_false,Bool.not_true]
  cases h1:N.flows p a b with
  | false=>rfl
  | true =>
   rw [h1] at l2 l3 l4
   have l2:N.flows p b a=false:=l2
   have l4:ilt (N.pGrant p a b) 0=true:=l4
   simp only [l2,l4,cond_true,cond_false]
   cases h2:N.flows p b c with
   | false=>rfl
   | true =>
    rw [h2] at l3
    have l3:(!N.flows p a c)=false:=l3
    have l3:N.flows p a c=true:=by simpa using l3
    simp only [l3]; rfl
end Go.Ev

/- Listed variables of the library hold at the start: lemmas,no condition. -/
namespace Go.Ev
open Go Go.RowKit Go.ChangeShapes
def glTabs (P:Program) (ns:List String):Bool:=(List.range P.globals.size).all fun i=>match P.globals[i]? with | some g=>(tabNamed g.name).isEmpty || (ns.any fun n=>g.name==n && (P.globalNamed n==some i)) | none=>true
def VarOk (P:Program) (W:World) (n:String):Prop:=∃ cs:Array Value,W.var? P n=some cs∧cs.size=(tabNamed n).length∧∀ (o:Nat) (x:GQ),(tabNamed n)[o]? = some x→∃ y:Value,cs[o]? = some y∧GQ.ok x y
theorem held_vars {P:Program} {ns:List String} {W:World} (h1:glTabs P ns=true) (h2:∀ n∈ns,VarOk P W n):Held P (oldI W) W:=by
 intro b o x hx
 unfold GLv at hx
 split at hx
 ·rename_i g hg
  have hb:b<P.globals.size:=(Array.getElem?_eq_some_iff.1 hg).1
  have h:=List.all_eq_true.1 h1 b (List.mem_range.2 hb)
  simp only [hg,Bool.or_eq_true,List.any_eq_true,Bool.and_eq_true] at h
  rcases h with h | ⟨n,hn,h,h'⟩
  ·rw [List.isEmpty_iff.1 h] at hx
   simp at hx
  ·have e1:g.name=n:=by simpa using h
   have e2:P.globalNamed n=some b:=by simpa using h'
   obtain ⟨cs,v1,v2,v3⟩:=h2 n hn
   have en:GLn P b=cs.size:=by
    unfold GLn
    rw [hg]
    show (tabNamed g.name).length=_
    rw [e1,v2]
   rw [e1] at hx
   obtain ⟨y,hy,hxy⟩:=v3 o x hx
   unfold World.var? at v1
   rw [e2] at v1
   have v1:(match W.heap[b]? with | some (.cells cs _ _)=>some cs | _=>none)=some cs:=v1
   cases hh:W.heap[b]? with
   | none=>rw [hh] at v1; cases v1
   | some ob =>
    have hlt:b<W.heap.size:=(Array.getElem?_eq_some_iff.1 hh).1
    cases ob with
    | cells c e f =>
     rw [hh] at v1
     obtain rfl:c=cs:=Option.some.inj v1
     refine ⟨hlt,⟨y,hxy,?_⟩,?_⟩
     ·rw [cell_eq,hh]; exact hy
     ·rw [cell_eq,hh,en]
      show c[c.size]? = none
      simp
    | _=>rw [hh] at v1; cases v1
 ·cases hx
theorem varOk_tab {P:Program} {W:World} {n:String} {k:IntKind} {zs:List Int} (h:tabNamed n=zs.map fun z=>GQ.val (.int k z)) (hT:Lib.TabIs P W n k zs):VarOk P W n:=by
 refine ⟨_,hT,?_,fun o x hx=>?_⟩
 ·rw [h]; simp
 ·rw [h,List.getElem?_map] at hx
  obtain ⟨z,hz,rfl⟩:=Option.map_eq_some_iff.1 hx
  exact ⟨.int k z,by simp [hz],rfl⟩
def ifaceVar (P:Program) (n:String):Bool:=match P.globalNamed n with
 | some g=>match P.globals[g]? with
  | some gl=>match P.underlying gl.type with
   | some (.interface _)=>true
   | _=>false
  | none=>false
 | none=>false
theorem varOk_err {P:Program} {W:World} {n nm:String} {d:DataW Unit} {r:List (String × DataW Unit)} (h:laidMet P ((n,.iface nm d)::r) W) (hf:ifaceVar P n=true) (hT:tabNamed n=[.ifc]):VarOk P W n:=by
 obtain ⟨ps,⟨g0,t0,cs0,f0,p0,q0,hg0,ht0,hv0,hd0,_,e0⟩,_,hrows⟩:=h
 obtain ⟨l0⟩:=cs0
 unfold ifaceVar at hf
 split at hf
 ·rename_i g hg
  obtain rfl:=Option.some.inj (hg.symm.trans hg0)
  split at hf
  ·rename_i gl hgl
   split at hf
   ·rename_i ms hi
    rw [hgl] at ht0
    obtain rfl:gl.type=t0:=Option.some.inj ht0
    obtain ⟨f1,u,v,rfl,hn,h1⟩:=iface_of_trod hi hd0
    refine ⟨_,hv0,by rw [hT]; rfl,fun o x hx=>?_⟩
    rw [hT] at hx
    match o,hx with
    | 0,hx =>
     obtain rfl:=Option.some.inj hx
     exact ⟨_,rfl,.inr ⟨u,v,rfl⟩⟩
    | o+1,hx=>cases hx
   ·cases hf
  ·cases hf
 ·cases hf
def tabFits (P:Program) (n:String) (k:IntKind):Bool:=match P.globalNamed n with
 | some g=>match P.globals[g]? with
  | some gl=>match P.underlying gl.type with
   | some (.array m e)=>match P.underlying e with
    | some (.int k')=>decide (k' = k) && (P.cellsOf e==1 && P.cellsOf gl.type==m)
    | _=>false
   | _=>false
  | none=>false
 | none=>false
theorem tabIs_laid {P:Program} {n:String} {k:IntKind} {zs:List Int} {rest:List (String × DataW Unit)} {W:World} (h:tabFits P n k=true) (hL:laidMet P ((n,Lib.tabData k zs)::rest) W):Lib.TabIs P W n k zs:=by
 unfold tabFits at h
 split at h
 ·rename_i g hg
  split at h
  ·rename_i gl hgl
   split at h
   ·rename_i m e ht
    split at h
    ·rename_i k' he
     simp only [Bool.and_eq_true,decide_eq_true_eq,beq_iff_eq] at h
     obtain ⟨rfl,h1,h2⟩:=h
     exact Lib.tabIs_of_head hg (by rw [hgl]; rfl) ht he h1 h2 hL
    ·cases h
   ·cases h
  ·cases h
 ·cases h
end Go.Ev

/- Policies that come in: lemmas,no condition. -/
namespace Go.Ev
open Go Go.Proofs
set_option maxRecDepth 100000
theorem int_wfY {k:IntKind} {n:Int} (h:wfV (.int k n)=true):k.min≤n∧n≤k.max:=by
 unfold wfV Lit.wf at h
 simp at h
 exact h
theorem place_wf {x:HPlace} (h:wfL (cPlace.enc x)=true):okPl x=true:=by
 have h:cond (wfV (.str x.name)) (cond (wfV (.int .u8 x.label.level)) (cond (wfV (.int .u32 x.label.set)) (wfL [V.int .i64 x.bytes,V.int .u64 x.base]) false) false) false=true:=h
 obtain ⟨_,h⟩:=bcond h
 obtain ⟨h1,h⟩:=bcond h
 obtain ⟨h2,_⟩:=bcond h
 obtain ⟨a1,a2⟩:=int_wfY h1
 obtain ⟨b1,b2⟩:=int_wfY h2
 have e1:IntKind.u8.min=0:=rfl
 have e2:IntKind.u8.max=255:=rfl
 have e3:IntKind.u32.min=0:=rfl
 have e4:IntKind.u32.max=4294967295:=rfl
 unfold okPl
 rw [ile_t (by omega),ile_t (by omega),ile_t (by omega),ilt_t (by omega)]; rfl
theorem places_wfR:∀ l:List HPlace,wfRs (l.map cPlace.enc)=true→l.all okPl=true
 | [],_=>rfl
 | p::r,h=>by
  have h:cond (wfL (cPlace.enc p)) (wfRs (r.map cPlace.enc)) false=true:=h
  obtain ⟨h1,h2⟩:=bcond h
  rw [List.all_cons,place_wf h1,places_wfR r h2]; rfl
theorem policy_wf {p:HPolicy} (h:wfL (cPolicy.enc p)=true):p.places.all okPl=true:=by
 have h:cond (wfV (.int .i64 p.work)) (cond (wfV (.int .i64 p.give)) (cond (cond (Nat.ble (p.places.map cPlace.enc).length 9223372036854775807) (cond (fitsRows cPlace.sh (p.places.map cPlace.enc)) (wfRs (p.places.map cPlace.enc)) false) false) (wfL [V.slc [.int .i64] (p.slots.map (rInt .i64).enc),V.slc [.int .i64,.int .i64,.int .i64] (p.grants.map cGrant.enc)]) false) false) false=true:=h
 obtain ⟨_,h⟩:=bcond h
 obtain ⟨_,h⟩:=bcond h
 obtain ⟨h,_⟩:=bcond h
 obtain ⟨_,h⟩:=bcond h
 obtain ⟨_,h⟩:=bcond h
 exact places_wfR p.places h
end Go.Ev

/- What the policies' statements list holds at the start: lemmas,no condition. -/
namespace Go.Proofs.YtcfmdajabkjafaaGreatDoor
open Go.ChangeShapes Go.WideShapes Go.ChangeAt Go.RowKit Go.Ev
theorem laidTab5:(Rows.laid_internal_strconv_uint64pow10:DataW Unit)=Lib.tabData .u64 Lib.pow10Tab:=by kernel_rfl
theorem held5 {W:World} (hL:laidMetH Tryz.prog Rows.policyFlowsRow.laid W):Held Tryz.prog (oldI W) W:=by
 rw [MakeChecks.laidMetH_plain _ _ _ (by kernel_rfl)] at hL
 have h3:=laidMet.tail (laidMet.tail hL)
 have h5:=laidMet.tail (laidMet.tail h3)
 have h6:=laidMet.tail h5
 have h3 : laidMet Tryz.prog (("internal/strconv.uint64pow10", Rows.laid_internal_strconv_uint64pow10) :: _) W := h3
 rw [laidTab5] at h3
 refine held_vars (ns := ["internal/strconv.uint64pow10", "strconv.ErrRange", "strconv.ErrSyntax"]) (by kernel_rfl) fun n hn => ?_
 rcases List.mem_cons.1 hn with rfl | hn
 ·exact varOk_tab (zs:=Lib.pow10Tab) (by kernel_rfl) (tabIs_laid (by kernel_rfl) h3)
 rcases List.mem_cons.1 hn with rfl | hn
 ·exact varOk_err h5 (by kernel_rfl) (by kernel_rfl)
 rcases List.mem_cons.1 hn with rfl | hn
 ·exact varOk_err h6 (by kernel_rfl) (by kernel_rfl)
 ·cases hn
end Go.Proofs.YtcfmdajabkjafaaGreatDoor

/- The library's text builder in this program,and the function that writes a number's bytes with it: lemmas,no condition but the text's length. -/
namespace Go.Ev
open Go Go.Proofs Go.RowKit Go.Shelf
theorem bSize:(Tryz.prog.info? 91).map (·.size)=some 2:=by kernel_rfl
theorem bLies:liesAt Tryz.prog Tryz.prog.depth 91 (2 / Tryz.prog.cellsOf 91) 0 91 1=true:=by kernel_rfl
theorem bByte:(Tryz.prog.info? 5).map (fun i=>(i.zero,i.size,i.bytes))=some (some (.int .u8 0),1,1):=by kernel_rfl
set_option maxHeartbeats 1000000 in
set_option maxRecDepth 100000 in
theorem cc_used (b : Nat) (w : World) (h0 : w.cell? ⟨b, 0, none⟩ = some (.pointer (some ⟨b, 0, none⟩))) :
    Calls Tryz.prog 82 #[.pointer (some ⟨b, 0, none⟩)] w fun e w' => e = .returned (.tuple #[]) ∧ w' = w := by
  obtain ⟨j, hj, _⟩ := Option.map_eq_some_iff.1 bSize
  go_enter Tryz.func82, Tryz.ntmps82
  go_wp2
  rw [Lib.run_neq_ptr_same w _ Tryz.underlying88 hj]
  go_wp2
  go_end0
  exact ⟨rfl, rfl⟩
set_option maxHeartbeats 1000000 in
set_option maxRecDepth 100000 in
theorem cc_fresh (b : Nat) (w : World) (h0 : w.cell? ⟨b, 0, none⟩ = some (.pointer none)) (hsh : w.shape? b = some (91, 2)) (hfz : w.frozen? ⟨b, 0, none⟩ = false) :
    Calls Tryz.prog 82 #[.pointer (some ⟨b, 0, none⟩)] w fun e w' => e = .returned (.tuple #[]) ∧ w' = w.setCell ⟨b, 0, none⟩ (.pointer (some ⟨b, 0, none⟩)) := by
  obtain ⟨j, hj, hjs⟩ := Option.map_eq_some_iff.1 bSize
  go_enter Tryz.func82, Tryz.ntmps82
  go_wp2
  rw [Lib.run_to_unsafe w ⟨b, 0, none⟩ Tryz.underlying88 Tryz.underlying142 hj (by rw [hjs]; decide) hsh (Nat.zero_lt_succ 1)]
  simp only [Result.andThen]
  rw [Oper.upon_value]
  go_wp2
  rw [run_callFunc_extern Tryz.func100 (by kernel_rfl) (by kernel_rfl) (by kernel_rfl) (e := Extern.AbiNoEscape.same) (by kernel_rfl)]
  rw [Lib.run_noEscape]
  simp only [Result.andThen]
  rw [Oper.upon_value]
  go_wp2
  rw [Lib.run_from_unsafe w ⟨b, 0, none⟩ Tryz.underlying142 Tryz.underlying88 hj hsh bLies]
  simp only [Result.andThen]
  rw [Oper.upon_value]
  go_wp2
  go_end0
  exact ⟨rfl, rfl⟩
theorem cc (B b:Nat) (bs:List Value) (w:World) (h:Lib.IsBuilder 91 5 B b bs w) :
  Calls Tryz.prog 82 #[.pointer (some ⟨b,0,none⟩)] w fun e w'=>e = .returned (.tuple #[])∧(Lib.BuilderAt 91 5 B b (.pointer (some ⟨b,0,none⟩)) bs w'∧Below B w w'):=by
 rcases h with h | h
 ·refine (cc_fresh b w h.cell0 h.shape h.frozen0).mono ?_
  rintro e w' ⟨rfl,rfl⟩
  exact ⟨rfl,h.used _,(Below.refl B w).setCell (p:=⟨b,0,none⟩) h.1 _⟩
 ·refine (cc_used b w h.cell0).mono ?_
  rintro e w' ⟨rfl,rfl⟩
  exact ⟨rfl,h,Below.refl B _⟩
set_option maxHeartbeats 2000000 in
set_option maxRecDepth 100000 in
theorem writeByte (B b : Nat) (bs : List Value) (c : Int) (w : World) (h : Lib.IsBuilder 91 5 B b bs w) (hlen : bs.length + 1 ≤ 140737488355328) (hBw : B ≤ w.heap.size) :
    Calls Tryz.prog 141 #[.pointer (some ⟨b, 0, none⟩), .int .u8 c] w fun e w' => e = .returned .nilIface ∧ (Lib.BuilderAt 91 5 B b (.pointer (some ⟨b, 0, none⟩)) (bs ++ [.int .u8 c]) w' ∧ Below B w w') := by
  obtain ⟨i0, hi, hz0, hz1, hz2⟩ := info_parts bByte
  go_enter Tryz.func141, Tryz.ntmps141
  go_wp2_with (go_at_call 82; refine (cc B b bs _ h).mono ?_)
  rintro e w1 ⟨rfl, h1, hb1⟩
  obtain ⟨hB, v, hbk, hown, hne⟩ := h1
  have c0 : w1.cell? ⟨b, 0, none⟩ = some (.pointer (some ⟨b, 0, none⟩)) := by rw [Lib.cell_of_heap hbk]; rfl
  have c1 : w1.cell? ⟨b, 1, none⟩ = some v := by rw [Lib.cell_of_heap hbk]; rfl
  go_wp2_with (at_builtin; refine wpList_append_own _ rfl _ _ 89 rfl B 5 i0 (.int .u8 0) 1 1 Tryz.underlying89 hi hz0 hz1 hz2 rfl (by decide) _ _ _ rfl (hown.alloc _) ⟨w1.heap.size, 0, none⟩ 1 1 [.int .u8 c] rfl rfl ?c1 ?c2 ?c3 ?c4 ?c5 ?_)
  case c1 =>
    intro j u hj
    match j, hj with
    | 0, hj => simp at hj; subst hj; simp [Addr.add]
  case c2 => intro u hu; simp at hu; subst hu; rfl
  case c3 => unfold maxLen; omega
  case c4 => omega
  case c5 => have := hb1.size; simp; omega
  intro v' w2 hown' hgrow _
  have hlt : b < w1.heap.size := by
    rcases Nat.lt_or_ge b w1.heap.size with h' | h'
    · exact h'
    · simp [Array.getElem?_eq_none h'] at hbk
  have hb2 : w2.heap[b]? = some (.cells #[.pointer (some ⟨b, 0, none⟩), v] 91 (0, 0)) := by
    rw [hgrow.block b (by simp; omega) (fun e => hne e.symm), Lib.alloc_old w1 _ b hlt]
    exact hbk
  have d0 : w2.cell? ⟨b, 0, none⟩ = some (.pointer (some ⟨b, 0, none⟩)) := by rw [Lib.cell_of_heap hb2]; rfl
  have d1 : w2.cell? ⟨b, 1, none⟩ = some v := by rw [Lib.cell_of_heap hb2]; rfl
  have f1 : w2.frozen? ⟨b, 1, none⟩ = false := Lib.frozen_of_heap hb2 1
  obtain ⟨g, cap, rfl⟩ : ∃ g cap, v' = .slice (some ⟨g, 0, none⟩) (bs.length + 1) cap := by
    rcases hown'.2 with ⟨_, h0⟩ | ⟨g, cap, cur, hv, _⟩
    · omega
    · exact ⟨g, cap, hv⟩
  go_wp2
  go_ret
  refine ⟨rfl, ?_, ?_⟩
  · exact Lib.BuilderAt.put (T := 91) (e := 5) hB hb2 (bs' := bs ++ [.int .u8 c]) (by simpa using hown') (by decide)
  · exact ((hb1.alloc (by have := hb1.size; omega) _).grown hgrow (by have := hb1.size; simp; omega) (fun k hk => (hown.lt k hk).1)).setCell (p := ⟨b, 1, none⟩) hB _
def lays169_ren:Go.Shelf.Ren:=⟨fun | 169=>57 | n=>n,fun | 70=>88 | 9=>9 | 0=>0 | 72=>91 | 37=>89 | 127=>123 | 3=>3 | 5=>5 | n=>n,fun | n=>n⟩
theorem lays169:Go.Proofs.Lays.n169 Tryz.prog lays169_ren:={
 mixed:=by kernel_rfl
 f169:=Tryz.func57.trans (congrArg some (by kernel_rfl))
 t0:=Tryz.underlying0
 a0:=Tryz.isAgg0
 z0:=Tryz.sizeOf0
 v0:=Tryz.zeroValue0
 t3:=Tryz.underlying3
 a3:=Tryz.isAgg3
 z3:=Tryz.sizeOf3
 v3:=Tryz.zeroValue3
 t9:=Tryz.underlying9
 a9:=Tryz.isAgg9
 z9:=Tryz.sizeOf9
 v9:=Tryz.zeroValue9
 t37:=Tryz.underlying89
 a37:=Tryz.isAgg89
 z37:=Tryz.sizeOf89
 v37:=Tryz.zeroValue89
 t70:=Tryz.underlying88
 a70:=Tryz.isAgg88
 z70:=Tryz.sizeOf88
 v70:=Tryz.zeroValue88
 t72:=Tryz.underlying91
 a72:=Tryz.isAgg91
 z72:=Tryz.sizeOf91
 v72:=Tryz.zeroValue91
 t127:=Tryz.underlying123
 a127:=Tryz.isAgg123
 z127:=Tryz.sizeOf123
 v127:=Tryz.zeroValue123 }
theorem extra169:Builder.Extra Tryz.prog lays169_ren:={
 sizeBuilder:=by kernel_rfl
 liesBuilder:=by kernel_rfl
 t5:=Tryz.underlying5
 a5:=Tryz.isAgg5
 z5:=Tryz.sizeOf5
 v5:=Tryz.zeroValue5
 infoByte:=by kernel_rfl
 cellsByte:=by kernel_rfl
 sizeByte:=by kernel_rfl
 neB5:=by decide }
theorem bString (B b:Nat) (l:List UInt8) (w:World) (h:Lib.IsBuilder 91 5 B b (Lib.byteCells l) w) (hBw:B≤w.heap.size) :
  Calls Tryz.prog 57 #[.pointer (some ⟨b,0,none⟩)] w fun e w'=>e = .returned (.string ⟨l.toArray⟩)∧Below B w w':=Any.Builder_String_any lays169 extra169 B b l w h hBw
end Go.Ev

/- The function that writes a number's bytes: its walk. -/
namespace Go.Ev
open Go Go.Proofs Go.RowKit Go.Shelf
theorem clamp_eq {bytes:Int}:min (max bytes 0) 8=(N.clamp bytes:Int)∧N.clamp bytes≤8:=by
 unfold N.clamp
 rw [ilt_eq,ilt_eq]
 by_cases h1:0<bytes
 ·by_cases h2:8<bytes
  ·simp [h1,h2]; omega
  ·simp [h1,h2]; omega
 ·simp [h1]; omega
theorem two_blocks {w wr:World} {o1 o2:Obj} (h:Below (w.heap.size+1+1) ((w.alloc o1).alloc o2) wr):wr.heap[w.heap.size]? = some o1∧wr.heap[w.heap.size+1]? = some o2:=by
 have e:(w.alloc o1).heap.size=w.heap.size+1:=by simp
 refine ⟨?_,?_⟩
 ·rw [h.block _ (by omega),Below.heap_alloc _ _ _ (by omega)]; exact Go.heap_alloc_new w o1
 ·rw [h.block _ (by omega),← e]; exact Go.heap_alloc_new _ o2
set_option maxHeartbeats 4000000 in
set_option maxRecDepth 1000000 in
theorem outNum_walk (s : ByteArray) (er n bytes : Int) (w : World) (hs : (s.size : Int) ≤ 9223372036854775799) :
    Calls Tryz.prog 127 #[.agg #[.string s, .int .i64 er], .int .u64 n, .int .i64 bytes] w fun e w' =>
      e = .returned (.agg #[.string ⟨(s.data.toList ++ N.numB n (N.clamp bytes)).toArray⟩, .int .i64 er]) ∧ Below w.heap.size w w' := by
  go_enter Tryz.func127, Tryz.ntmps127
  go_wp2
  go_loopw [8] (fun i wr => ∃ (k : Int) (acc : List UInt8), i = .int .i64 k ∧ Lib.IsBuilder 91 5 (w.heap.size + 1 + 1) (w.heap.size + 1 + 1) (Lib.byteCells acc) wr ∧
      Below (w.heap.size + 1 + 1) ((w.alloc (Obj.cells #[Value.string s, Value.int IntKind.i64 er] 168)).alloc (Obj.cells #[Value.string { data := #[] }, Value.int IntKind.i64 0] 168)) wr ∧
      -1 ≤ k ∧ acc ++ N.numB n (k + 1).toNat = N.numB n (N.clamp bytes) ∧ acc.length + (k + 1).toNat ≤ 8) (fun i _ => (RowKit.intOf i + 1).toNat)
  case atStart =>
    obtain ⟨hcl, hc8⟩ := clamp_eq (bytes := bytes)
    have hf := Lib.fresh_isBuilder 91 5 ((w.alloc (Obj.cells #[Value.string s, Value.int IntKind.i64 er] 168)).alloc (Obj.cells #[Value.string { data := #[] }, Value.int IntKind.i64 0] 168))
    have e0 : ((w.alloc (Obj.cells #[Value.string s, Value.int IntKind.i64 er] 168)).alloc (Obj.cells #[Value.string { data := #[] }, Value.int IntKind.i64 0] 168)).heap.size = w.heap.size + 1 + 1 := by simp
    rw [e0] at hf
    refine ⟨(N.clamp bytes : Int) - 1, [], by rw [hcl], hf, (Below.refl _ _).alloc (by simp) _, by omega, ?_, ?_⟩
    · rw [show ((N.clamp bytes : Int) - 1 + 1).toNat = N.clamp bytes by omega]; rfl
    · simp only [List.length_nil]; omega
  case round =>
    obtain ⟨k, acc, rfl, hI, hB, hk, hacc, hal⟩ := hrel
    by_cases hk0 : 0 ≤ k
    · go_wp2_with (go_at_call 141; refine (writeByte (w.heap.size + 1 + 1) (w.heap.size + 1 + 1) _ _ _ hI (by rw [Lib.byteCells_length]; omega) (by have := hB.size; simp at this; omega)).mono ?_)
      rintro e w1 ⟨rfl, h1, b1⟩
      go_wp2
      go_roundw
      case rel =>
        have e1 : N.numB n (k + 1).toNat = UInt8.ofNat ((n / 2 ^ (8 * k.toNat)) % 256).toNat :: N.numB n k.toNat := by
          rw [show (k + 1).toNat = k.toNat + 1 by omega]; rfl
        have e2 : ((UInt8.ofNat ((n / 2 ^ (8 * k.toNat)) % 256).toNat).toNat : Int) = n / 2 ^ (8 * k).toNat % 256 := by
          rw [show (8 * k).toNat = 8 * k.toNat by omega]
          have h0 : 0 ≤ (n / 2 ^ (8 * k.toNat)) % 256 := Int.emod_nonneg _ (by decide)
          have h1 : (n / 2 ^ (8 * k.toNat)) % 256 < 256 := Int.emod_lt_of_pos _ (by decide)
          have h2 : (UInt8.ofNat ((n / 2 ^ (8 * k.toNat)) % 256).toNat).toNat = ((n / 2 ^ (8 * k.toNat)) % 256).toNat := UInt8.toNat_ofNat_of_lt' (by
            show ((n / 2 ^ (8 * k.toNat)) % 256).toNat < 256
            omega)
          rw [h2]; omega
        refine ⟨k - 1, acc ++ [UInt8.ofNat ((n / 2 ^ (8 * k.toNat)) % 256).toNat], rfl, ?_, hB.trans b1, by omega, ?_, ?_⟩
        · rw [Lib.byteCells_append]
          have e3 : Lib.byteCells [UInt8.ofNat ((n / 2 ^ (8 * k.toNat)) % 256).toNat] = [Value.int .u8 (n / 2 ^ (8 * k).toNat % 256)] := by
            rw [← e2]; rfl
          rw [e3]; exact Or.inr h1
        · rw [e1] at hacc
          rw [← hacc, show (k - 1 + 1).toNat = k.toNat by omega, List.append_assoc]; rfl
        · rw [List.length_append]; simp only [List.length_cons, List.length_nil]; omega
      case measure => simp [RowKit.intOf]; omega
    · have hk1 : k = -1 := by omega
      subst hk1
      have hfin : N.numB n (N.clamp bytes) = acc := by rw [← hacc]; show acc ++ [] = acc; simp
      have hal : acc.length ≤ 8 := by omega
      clear hacc
      rw [hfin]
      obtain ⟨hb0, hb1⟩ := two_blocks hB
      have c0 : wr.cell? ⟨w.heap.size, 0, none⟩ = some (.string s) := by rw [Lib.cell_of_heap hb0]; rfl
      have c1 : wr.cell? ⟨w.heap.size, 1, none⟩ = some (.int .i64 er) := by rw [Lib.cell_of_heap hb0]; rfl
      have c2 : wr.cell? ⟨w.heap.size + 1, 0, none⟩ = some (.string ⟨#[]⟩) := by rw [Lib.cell_of_heap hb1]; rfl
      have c3 : wr.cell? ⟨w.heap.size + 1, 1, none⟩ = some (.int .i64 0) := by rw [Lib.cell_of_heap hb1]; rfl
      have f0 : wr.frozen? ⟨w.heap.size, 0, none⟩ = false := Lib.frozen_of_heap hb0 0
      have f1 : wr.frozen? ⟨w.heap.size, 1, none⟩ = false := Lib.frozen_of_heap hb0 1
      have f2 : wr.frozen? ⟨w.heap.size + 1, 0, none⟩ = false := Lib.frozen_of_heap hb1 0
      have f3 : wr.frozen? ⟨w.heap.size + 1, 1, none⟩ = false := Lib.frozen_of_heap hb1 1
      have hBw : w.heap.size + 1 + 1 ≤ wr.heap.size := by have := hB.size; simp at this; omega
      have hadd : ¬ 9223372036854775807 < s.size + acc.length := by omega
      have hadd2 : ¬ 9223372036854775807 < s.size + (⟨acc.toArray⟩ : ByteArray).size := by
        show ¬ 9223372036854775807 < s.size + acc.toArray.size
        rw [List.size_toArray]; exact hadd
      have hadd3 : ¬ (s.size + (⟨acc.toArray⟩ : ByteArray).size > 9223372036854775807) := hadd2
      have hadd4 : s.size + (⟨acc.toArray⟩ : ByteArray).size ≤ 9223372036854775807 := Nat.not_lt.1 hadd2
      have hadd5 : s.size + acc.length ≤ 9223372036854775807 := Nat.not_lt.1 hadd
      go_wp2
      go_region_with (go_at_call 57; refine (bString (w.heap.size + 1 + 1) (w.heap.size + 1 + 1) acc _ (by exact hI) (by exact hBw)).mono ?_; rintro e w2 ⟨rfl, b2⟩
                      have d0 : w2.cell? ⟨w.heap.size, 0, none⟩ = some (.string s) := by rw [b2.cell (by show w.heap.size < w.heap.size + 1 + 1; omega)]; exact c0
                      have d1 : w2.cell? ⟨w.heap.size, 1, none⟩ = some (.int .i64 er) := by rw [b2.cell (by show w.heap.size < w.heap.size + 1 + 1; omega)]; exact c1
                      have d2 : w2.cell? ⟨w.heap.size + 1, 0, none⟩ = some (.string ⟨#[]⟩) := by rw [b2.cell (by show w.heap.size + 1 < w.heap.size + 1 + 1; omega)]; exact c2
                      have d3 : w2.cell? ⟨w.heap.size + 1, 1, none⟩ = some (.int .i64 0) := by rw [b2.cell (by show w.heap.size + 1 < w.heap.size + 1 + 1; omega)]; exact c3
                      have e0 : w2.frozen? ⟨w.heap.size, 0, none⟩ = false := by rw [b2.frozen (by show w.heap.size < w.heap.size + 1 + 1; omega)]; exact f0
                      have e1 : w2.frozen? ⟨w.heap.size, 1, none⟩ = false := by rw [b2.frozen (by show w.heap.size < w.heap.size + 1 + 1; omega)]; exact f1
                      have e2 : w2.frozen? ⟨w.heap.size + 1, 0, none⟩ = false := by rw [b2.frozen (by show w.heap.size + 1 < w.heap.size + 1 + 1; omega)]; exact f2
                      have e3 : w2.frozen? ⟨w.heap.size + 1, 1, none⟩ = false := by rw [b2.frozen (by show w.heap.size + 1 < w.heap.size + 1 + 1; omega)]; exact f3)
      all_goals go_wp2
      all_goals
        refine ⟨rfl, .agg #[.string (s ++ ⟨acc.toArray⟩), .int .i64 er], ?_, ?_, ?_⟩
        · simp [results, Tryz.results127, go_sem, d2, d3]
        · rw [hfin, ← bytes_append]
        · have b0 : Below w.heap.size w wr := (((Below.refl _ w).alloc (Nat.le_refl _) _).alloc (by simp) _).trans (hB.mono (by omega))
          exact (((b0.drew.trans (b2.mono (by omega))).setCell (p := ⟨w.heap.size, 0, none⟩) (Nat.le_refl _) _).setCell (p := ⟨w.heap.size + 1, 0, none⟩) (Nat.le_succ _) _).setCell (p := ⟨w.heap.size + 1, 1, none⟩) (Nat.le_succ _) _
theorem keeps_below {w w' : World} (X:Nat→Nat→Prop) (h:Below w.heap.size w w'):Keeps X w w' :=
 ⟨h.os,h.tape,h.output,h.size,fun b hb=>ObjOk.same (h.block b hb)⟩
theorem outNum_ok:FnOk Tryz.prog 127 dOutNum:=by
 refine den_of fun a b hp=>?_
 obtain ⟨o,n,bytes⟩:=a
 intro x y hxy w J locs xs hlen hJ hx _ _ _
 have hxy:x=(aCons (vAgg cOut) (aCons (vInt .u64) (aOne (vInt .i64)))).enc (o,n,bytes)∧y=bNil.enc b:=by simpa using hxy
 obtain ⟨rfl,rfl⟩:=hxy
 have hlen:locs=[]:=List.eq_nil_of_length_eq_zero hlen
 subst hlen
 obtain ⟨hp1,hp⟩:=bcond hp
 obtain ⟨hp2,hp3⟩:=bcond hp
 have hp3:o.s.length≤9223372036854775799:=Nat.le_of_ble_eq_true hp3
 obtain ⟨x0,xs1,rfl,hx0,hx⟩:=hx.uncons
 obtain ⟨x1,xs2,rfl,hx1,hx⟩:=hx.uncons
 obtain ⟨x2,rfl,hx2⟩:=hx.one
 obtain ⟨cs,rfl,hc1,hc2⟩:=Rv.agg_inv (show Rv w J _ (.agg [.str o.s,.int .i64 o.err]) x0 from hx0)
 have hx1:=Rv.int_inv (show Rv w J _ (.int .u64 n) x1 from hx1)
 have hx2:=Rv.int_inv (show Rv w J _ (.int .i64 bytes) x2 from hx2)
 subst hx1 hx2
 match cs,hc1,hc2 with
 | [c0,c1],_,hc2 =>
  have h0:=Rv.str_inv (show Rv w J _ (.str o.s) c0 from hc2 0 (by simp))
  have h1:=Rv.int_inv (show Rv w J _ (.int .i64 o.err) c1 from hc2 1 (by simp))
  subst h0 h1
  refine .inl ⟨?_,?_⟩
  ·have hnm : ¬ (Tryz.f127).name = "runtime.NumGoroutine" := by
    intro e
    have : ((Tryz.f127).name == "runtime.NumGoroutine") = false := by kernel_rfl
    rw [e] at this; cases this
   obtain ⟨c,hc⟩:=Option.isSome_iff_exists.1 (show (Tryz.f127).body.isSome=true by kernel_rfl)
   simp [callFunc,Tryz.func127,hnm,hc]
  ·refine (outNum_walk ⟨o.s.toArray⟩ o.err n bytes w (by rw [bytes_size]; omega)).mono fun e w' ⟨he,hb⟩=>⟨_,he,J,?_⟩
   refine ⟨keeps_below _ hb,fun _ _ h=>h,fun b o' h=>Nat.lt_of_lt_of_le (hJ b o' h) hb.size,fun _ _ h _=>h,rfl,(fun j cs cs' p hj=>by cases hj),.inl ⟨rfl,?_⟩⟩
   refine .agg [.str (N.outNum o n bytes).s,.int .i64 (N.outNum o n bytes).err] [.string ⟨(o.s++N.numB n (N.clamp bytes)).toArray⟩,.int .i64 o.err] rfl fun i hi=>?_
   match i,hi with
   | 0,_=>exact .dat (.str _)
   | 1,_=>exact .dat (.int _ _)
end Go.Ev
