/- The program's functions on heads answer what the plain ones do: lemmas; the function that writes numbers is a premise. -/
import Derived.Test.YtpdaepodhfdplaaGreatDoorGc
namespace Go.Ev
open Go Go.Proofs
set_option maxRecDepth 100000
def schEqP:SSch:={ fr:=[(0,.slc [.str,.int .u8,.int .i64,.str]),(1,.slc [.str,.int .u8,.int .i64,.str]),(12,.int .i64),(13,.int .i64)],tab:=[] }
def gEqP:List Leaf→(Ex→St→Option R)→Option R
 | [.r r0,.r r1,.i i12,.i i13],K=>cond (i12==r0.length) (cond (Nat.beq r0.length r1.length) (cond (ile 0 i13) (cond (Nat.ble r0.length (LIM+1)) (cond (N.samePs ((rowsP r0).drop i13.toNat) ((rowsP r1).drop i13.toNat)) (K (.exit 0) { fr:=[],tab:=[] }) (K .ret { fr:=[(4,.bool false)],tab:=[] })) none) none) none) none
 | _,_=>none
noncomputable def eEqP:Env:=env Tryz.prog [] [(4,loopF schEqP gEqP)] [(4,[(0,[0,1,12,13]),(1,[]),(1000,[4])])]
theorem q_eqP (a b:List HPair):evFn eEqP 145 ((aCons (vSl cPair) (aOne (vSl cPair))).enc (a,b)) ([]) some =
 cond ((↑(List.length (List.map (fun p=>[V.str (HPair.key p),V.int .u8 (HPair.kind p),V.int .i64 (HPair.num p),V.str (HPair.text p)]) a)):Int) != (↑(List.length (List.map (fun p=>[V.str (HPair.key p),V.int .u8 (HPair.kind p),V.int .i64 (HPair.num p),V.str (HPair.text p)]) b)):Int)) (some {v:=V.bool false,bx:=[]:DRes}) (cond ((↑(List.length (List.map (fun p=>[V.str (HPair.key p),V.int .u8 (HPair.kind p),V.int .i64 (HPair.num p),V.str (HPair.text p)]) a)):Int)==(↑(List.length (List.map (fun p=>[V.str (HPair.key p),V.int .u8 (HPair.kind p),V.int .i64 (HPair.num p),V.str (HPair.text p)]) a)):Int)) (cond (Nat.beq (List.length (List.map (fun p=>[V.str (HPair.key p),V.int .u8 (HPair.kind p),V.int .i64 (HPair.num p),V.str (HPair.text p)]) a)) (List.length (List.map (fun p=>[V.str (HPair.key p),V.int .u8 (HPair.kind p),V.int .i64 (HPair.num p),V.str (HPair.text p)]) b))) (cond (Nat.ble (List.length (List.map (fun p=>[V.str (HPair.key p),V.int .u8 (HPair.kind p),V.int .i64 (HPair.num p),V.str (HPair.text p)]) a)) 1000001) (cond (N.samePs (List.drop 0 (List.map (fun r=>{key:=V.toStr (List.getD r 0 .undef),kind:=V.toInt (List.getD r 1 .undef),num:=V.toInt (List.getD r 2 .undef),text:=V.toStr (List.getD r 3 .undef):HPair}) (List.map (fun p=>[V.str (HPair.key p),V.int .u8 (HPair.kind p),V.int .i64 (HPair.num p),V.str (HPair.text p)]) a))) (List.drop 0 (List.map (fun r=>{key:=V.toStr (List.getD r 0 .undef),kind:=V.toInt (List.getD r 1 .undef),num:=V.toInt (List.getD r 2 .undef),text:=V.toStr (List.getD r 3 .undef):HPair}) (List.map (fun p=>[V.str (HPair.key p),V.int .u8 (HPair.kind p),V.int .i64 (HPair.num p),V.str (HPair.text p)]) b)))) (some {v:=V.bool true,bx:=[]:DRes}) (some {v:=V.bool false,bx:=[]:DRes})) (none)) (none)) (none)):=by kernel_rfl
theorem q_eqPR (r0:List (List V)) (r1:List (List V)) (i12:Int) (i13:Int) (K:Ex→St→Option R):evRound eEqP 145 4 { fr:=[(0,.slc [.str,.int .u8,.int .i64,.str] r0),(1,.slc [.str,.int .u8,.int .i64,.str] r1),(12,.int .i64 i12),(13,.int .i64 i13)],tab:=[] } K =
 cond (ilt i13 i12) (cond (decide ((0:Int)≤i13∧i13<(↑(List.length r0):Int))) (cond (decide ((0:Int)≤i13∧i13<(↑(List.length r1):Int))) (cond (!(V.toStr (List.getD (List.getD r0 (Int.toNat i13) []) 0 V.undef)==V.toStr (List.getD (List.getD r1 (Int.toNat i13) []) 0 V.undef) && (V.toInt (List.getD (List.getD r0 (Int.toNat i13) []) 1 V.undef)==V.toInt (List.getD (List.getD r1 (Int.toNat i13) []) 1 V.undef) && (V.toInt (List.getD (List.getD r0 (Int.toNat i13) []) 2 V.undef)==V.toInt (List.getD (List.getD r1 (Int.toNat i13) []) 2 V.undef) && (V.toStr (List.getD (List.getD r0 (Int.toNat i13) []) 3 V.undef)==V.toStr (List.getD (List.getD r1 (Int.toNat i13) []) 3 V.undef) && true))))) (K Ex.ret {fr:=[(4,V.bool false)],tab:=[]:St}) (K Ex.normal {fr:=[(0,V.slc [.str,.int .u8,.int .i64,.str] r0),(1,V.slc [.str,.int .u8,.int .i64,.str] r1),(12,V.int .i64 i12),(13,V.int .i64 (IntKind.wrap .i64 (i13+(1:Int))))],tab:=[]:St})) (none)) (none)) (K (Ex.exit 0) {fr:=[],tab:=[]:St}):=by kernel_rfl
theorem samePs_len:∀ a b:List HPair,a.length ≠ b.length→N.samePs a b=false
 | [],[],h=>absurd rfl h
 | [],_::_,_=>rfl
 | _::_,[],_=>rfl
 | p::a,q::b,h=>by
  unfold N.samePs
  rw [samePs_len a b (by simpa using h)]
  cases N.eqP p q<;>rfl
theorem samePs_cons (p q:HPair) (a b:List HPair):N.samePs (p::a) (q::b)=cond (N.eqP p q) (N.samePs a b) false:=rfl
theorem ok_eqP:FnOk Tryz.prog 145 dSameP:=by
 refine den_okF (env_ok (TOk.nil _)) (E:=eEqP) Tryz.func145 [4] (by kernel_rfl) (one1 (rounds_of rfl fun l K q h=>?_)) fun a _ h=>?_
 ·unfold gEqP at h
  split at h
  ·rename_i r0 r1 n i
   have h1:=(cond_none h).1; replace h:=(cond_none h).2; have h2:=(cond_none h).1; replace h:=(cond_none h).2; have h3:=(cond_none h).1; replace h:=(cond_none h).2; have h4:=(cond_none h).1; replace h:=(cond_none h).2
   have e1:=ieq_of h1
   have h2:=Nat.eq_of_beq_eq_true h2
   subst e1
   have h4:r0.length≤1000001:=ble_of h4
   refine loop_ind (E:=eEqP) (f:=145) (id:=4) (fun i:Int=>{ fr:=[(0,.slc [.str,.int .u8,.int .i64,.str] r0),(1,.slc [.str,.int .u8,.int .i64,.str] r1),(12,.int .i64 r0.length),(13,.int .i64 i)],tab:=[] }) (fun i=>0≤i) (fun i=>r0.length-i.toNat)
    (fun i K=>cond (N.samePs ((rowsP r0).drop i.toNat) ((rowsP r1).drop i.toNat)) (K (.exit 0) { fr:=[],tab:=[] }) (K .ret { fr:=[(4,.bool false)],tab:=[] })) (fun i hi=>?_) i (ile_of h3) K q (by assumption)
   by_cases hl:i<r0.length
   ·rw [drop_pair (show i.toNat<r0.length by omega),drop_pair (show i.toNat<r1.length by omega),samePs_cons]
    cases hc:N.eqP (rowP (r0.getD i.toNat [])) (rowP (r1.getD i.toNat [])) with
    | true =>
     refine .inl ⟨i+1,by omega,by omega,fun K=>?_,fun K=>?_⟩
     ·rw [q_eqPR]
      unfold N.eqP rowP at hc
      simp (disch:=omega) only [evs,hc,Bool.not_true]
     ·rw [cond_true,show (i+1).toNat=i.toNat+1 by omega]
    | false =>
     refine .inr ⟨.ret,{ fr:=[(4,.bool false)],tab:=[] },by simp,fun K=>?_,fun K=>rfl⟩
     rw [q_eqPR]
     unfold N.eqP rowP at hc
     simp (disch:=omega) only [evs,hc,Bool.not_false]
   ·refine .inr ⟨.exit 0,{ fr:=[],tab:=[] },by simp,fun K=>?_,fun K=>?_⟩
    ·rw [q_eqPR]
     simp (disch:=omega) only [evs]
    ·rw [List.drop_eq_nil_of_le (by rw [rowsP_length]; omega),List.drop_eq_nil_of_le (by rw [rowsP_length]; omega)]; rfl
  ·cases h
 ·obtain ⟨a,b⟩:=a
  have h:a.length≤1000000:=ble_of h
  refine (q_eqP a b).trans ?_
  show _=some (⟨.bool (N.samePs a b),[],[]⟩:DRes)
  by_cases hl:a.length=b.length
  ·simp (disch:=omega) only [evs,pairs_enc,hl,List.drop_zero]
   cases N.samePs a b<;>rfl
  ·rw [samePs_len a b hl]
   simp (disch:=omega) only [evs]
def schRefSame:SSch:=schEqP
noncomputable def eRefSame:Env:=env Tryz.prog [] [(4,loopF schRefSame gEqP)] [(4,[(0,[0,1,12,13]),(1,[]),(1000,[4])])]
theorem q_refSame (a b:List HPair):evFn eRefSame 59 ((aCons (vSl cPair) (aOne (vSl cPair))).enc (a,b)) ([]) some =
 cond ((↑(List.length (List.map (fun p=>[V.str (HPair.key p),V.int .u8 (HPair.kind p),V.int .i64 (HPair.num p),V.str (HPair.text p)]) a)):Int) != (↑(List.length (List.map (fun p=>[V.str (HPair.key p),V.int .u8 (HPair.kind p),V.int .i64 (HPair.num p),V.str (HPair.text p)]) b)):Int)) (some {v:=V.bool false,bx:=[]:DRes}) (cond ((↑(List.length (List.map (fun p=>[V.str (HPair.key p),V.int .u8 (HPair.kind p),V.int .i64 (HPair.num p),V.str (HPair.text p)]) a)):Int)==(↑(List.length (List.map (fun p=>[V.str (HPair.key p),V.int .u8 (HPair.kind p),V.int .i64 (HPair.num p),V.str (HPair.text p)]) a)):Int)) (cond (Nat.beq (List.length (List.map (fun p=>[V.str (HPair.key p),V.int .u8 (HPair.kind p),V.int .i64 (HPair.num p),V.str (HPair.text p)]) a)) (List.length (List.map (fun p=>[V.str (HPair.key p),V.int .u8 (HPair.kind p),V.int .i64 (HPair.num p),V.str (HPair.text p)]) b))) (cond (Nat.ble (List.length (List.map (fun p=>[V.str (HPair.key p),V.int .u8 (HPair.kind p),V.int .i64 (HPair.num p),V.str (HPair.text p)]) a)) 1000001) (cond (N.samePs (List.drop 0 (List.map (fun r=>{key:=V.toStr (List.getD r 0 .undef),kind:=V.toInt (List.getD r 1 .undef),num:=V.toInt (List.getD r 2 .undef),text:=V.toStr (List.getD r 3 .undef):HPair}) (List.map (fun p=>[V.str (HPair.key p),V.int .u8 (HPair.kind p),V.int .i64 (HPair.num p),V.str (HPair.text p)]) a))) (List.drop 0 (List.map (fun r=>{key:=V.toStr (List.getD r 0 .undef),kind:=V.toInt (List.getD r 1 .undef),num:=V.toInt (List.getD r 2 .undef),text:=V.toStr (List.getD r 3 .undef):HPair}) (List.map (fun p=>[V.str (HPair.key p),V.int .u8 (HPair.kind p),V.int .i64 (HPair.num p),V.str (HPair.text p)]) b)))) (some {v:=V.bool true,bx:=[]:DRes}) (some {v:=V.bool false,bx:=[]:DRes})) (none)) (none)) (none)):=by kernel_rfl
theorem q_refSameR (r0:List (List V)) (r1:List (List V)) (i12:Int) (i13:Int) (K:Ex→St→Option R):evRound eRefSame 59 4 { fr:=[(0,.slc [.str,.int .u8,.int .i64,.str] r0),(1,.slc [.str,.int .u8,.int .i64,.str] r1),(12,.int .i64 i12),(13,.int .i64 i13)],tab:=[] } K =
 cond (ilt i13 i12) (cond (decide ((0:Int)≤i13∧i13<(↑(List.length r0):Int))) (cond (decide ((0:Int)≤i13∧i13<(↑(List.length r1):Int))) (cond (!(V.toStr (List.getD (List.getD r0 (Int.toNat i13) []) 0 V.undef)==V.toStr (List.getD (List.getD r1 (Int.toNat i13) []) 0 V.undef) && (V.toInt (List.getD (List.getD r0 (Int.toNat i13) []) 1 V.undef)==V.toInt (List.getD (List.getD r1 (Int.toNat i13) []) 1 V.undef) && (V.toInt (List.getD (List.getD r0 (Int.toNat i13) []) 2 V.undef)==V.toInt (List.getD (List.getD r1 (Int.toNat i13) []) 2 V.undef) && (V.toStr (List.getD (List.getD r0 (Int.toNat i13) []) 3 V.undef)==V.toStr (List.getD (List.getD r1 (Int.toNat i13) []) 3 V.undef) && true))))) (K Ex.ret {fr:=[(4,V.bool false)],tab:=[]:St}) (K Ex.normal {fr:=[(0,V.slc [.str,.int .u8,.int .i64,.str] r0),(1,V.slc [.str,.int .u8,.int .i64,.str] r1),(12,V.int .i64 i12),(13,V.int .i64 (IntKind.wrap .i64 (i13+(1:Int))))],tab:=[]:St})) (none)) (none)) (K (Ex.exit 0) {fr:=[],tab:=[]:St}):=by kernel_rfl
theorem ok_refSame:FnOk Tryz.prog 59 dSameP:=by
 refine den_okF (env_ok (TOk.nil _)) (E:=eRefSame) Tryz.func59 [4] (by kernel_rfl) (one1 (rounds_of rfl fun l K q h=>?_)) fun a _ h=>?_
 ·unfold gEqP at h
  split at h
  ·rename_i r0 r1 n i
   have h1:=(cond_none h).1; replace h:=(cond_none h).2; have h2:=(cond_none h).1; replace h:=(cond_none h).2; have h3:=(cond_none h).1; replace h:=(cond_none h).2; have h4:=(cond_none h).1; replace h:=(cond_none h).2
   have e1:=ieq_of h1
   have h2:=Nat.eq_of_beq_eq_true h2
   subst e1
   have h4:r0.length≤1000001:=ble_of h4
   refine loop_ind (E:=eRefSame) (f:=59) (id:=4) (fun i:Int=>{ fr:=[(0,.slc [.str,.int .u8,.int .i64,.str] r0),(1,.slc [.str,.int .u8,.int .i64,.str] r1),(12,.int .i64 r0.length),(13,.int .i64 i)],tab:=[] }) (fun i=>0≤i) (fun i=>r0.length-i.toNat)
    (fun i K=>cond (N.samePs ((rowsP r0).drop i.toNat) ((rowsP r1).drop i.toNat)) (K (.exit 0) { fr:=[],tab:=[] }) (K .ret { fr:=[(4,.bool false)],tab:=[] })) (fun i hi=>?_) i (ile_of h3) K q (by assumption)
   by_cases hl:i<r0.length
   ·rw [drop_pair (show i.toNat<r0.length by omega),drop_pair (show i.toNat<r1.length by omega),samePs_cons]
    cases hc:N.eqP (rowP (r0.getD i.toNat [])) (rowP (r1.getD i.toNat [])) with
    | true =>
     refine .inl ⟨i+1,by omega,by omega,fun K=>?_,fun K=>?_⟩
     ·rw [q_refSameR]
      unfold N.eqP rowP at hc
      simp (disch:=omega) only [evs,hc,Bool.not_true]
     ·rw [cond_true,show (i+1).toNat=i.toNat+1 by omega]
    | false =>
     refine .inr ⟨.ret,{ fr:=[(4,.bool false)],tab:=[] },by simp,fun K=>?_,fun K=>rfl⟩
     rw [q_refSameR]
     unfold N.eqP rowP at hc
     simp (disch:=omega) only [evs,hc,Bool.not_false]
   ·refine .inr ⟨.exit 0,{ fr:=[],tab:=[] },by simp,fun K=>?_,fun K=>?_⟩
    ·rw [q_refSameR]
     simp (disch:=omega) only [evs]
    ·rw [List.drop_eq_nil_of_le (by rw [rowsP_length]; omega),List.drop_eq_nil_of_le (by rw [rowsP_length]; omega)]; rfl
  ·cases h
 ·obtain ⟨a,b⟩:=a
  have h:a.length≤1000000:=ble_of h
  refine (q_refSame a b).trans ?_
  show _=some (⟨.bool (N.samePs a b),[],[]⟩:DRes)
  by_cases hl:a.length=b.length
  ·simp (disch:=omega) only [evs,pairs_enc,hl,List.drop_zero]
   cases N.samePs a b<;>rfl
  ·rw [samePs_len a b hl]
   simp (disch:=omega) only [evs]
def schLight:SSch:={ fr:=[(8,.slc [.str,.int .u8,.int .i64,.str]),(9,.int .i64),(10,.int .i64)],tab:=[] }
def gLight:List Leaf→(Ex→St→Option R)→Option R
 | [.r r8,.i i9,.i i10],K=>cond (i9==r8.length) (cond (ile 0 i10) (cond (Nat.ble r8.length LIM) (cond (((rowsP r8).drop i10.toNat).all N.lightP) (K (.exit 0) { fr:=[],tab:=[] }) (K .ret { fr:=[(2,.bool false)],tab:=[] })) none) none) none
 | _,_=>none
noncomputable def eLight:Env:=env Tryz.prog [] [(4,loopF schLight gLight)] [(4,[(0,[8,9,10]),(1,[]),(1000,[2])])]
theorem q_light (h:List HPair):evFn eLight 33 ((aOne (vSl cPair)).enc h) ([]) some =
 cond (ilt (12:Int) (↑(List.length (List.map (fun p=>[V.str (HPair.key p),V.int .u8 (HPair.kind p),V.int .i64 (HPair.num p),V.str (HPair.text p)]) h)):Int)) (some {v:=V.bool false,bx:=[]:DRes}) (cond ((↑(List.length (List.map (fun p=>[V.str (HPair.key p),V.int .u8 (HPair.kind p),V.int .i64 (HPair.num p),V.str (HPair.text p)]) h)):Int)==(↑(List.length (List.map (fun p=>[V.str (HPair.key p),V.int .u8 (HPair.kind p),V.int .i64 (HPair.num p),V.str (HPair.text p)]) h)):Int)) (cond (Nat.ble (List.length (List.map (fun p=>[V.str (HPair.key p),V.int .u8 (HPair.kind p),V.int .i64 (HPair.num p),V.str (HPair.text p)]) h)) 1000000) (cond (List.all (List.drop 0 (List.map (fun r=>{key:=V.toStr (List.getD r 0 .undef),kind:=V.toInt (List.getD r 1 .undef),num:=V.toInt (List.getD r 2 .undef),text:=V.toStr (List.getD r 3 .undef):HPair}) (List.map (fun p=>[V.str (HPair.key p),V.int .u8 (HPair.kind p),V.int .i64 (HPair.num p),V.str (HPair.text p)]) h))) N.lightP) (some {v:=V.bool true,bx:=[]:DRes}) (some {v:=V.bool false,bx:=[]:DRes})) (none)) (none)):=by kernel_rfl
theorem q_lightR (r8:List (List V)) (i9:Int) (i10:Int) (K:Ex→St→Option R):evRound eLight 33 4 { fr:=[(8,.slc [.str,.int .u8,.int .i64,.str] r8),(9,.int .i64 i9),(10,.int .i64 i10)],tab:=[] } K =
 cond (ilt i10 i9) (cond (decide ((0:Int)≤i10∧i10<(↑(List.length r8):Int))) (cond (ilt (40:Int) (↑(List.length (V.toStr (List.getD (List.getD r8 (Int.toNat i10) []) 0 V.undef))):Int)) (K Ex.ret {fr:=[(2,V.bool false)],tab:=[]:St}) (cond (ilt (100:Int) (↑(List.length (V.toStr (List.getD (List.getD r8 (Int.toNat i10) []) 3 V.undef))):Int)) (K Ex.ret {fr:=[(2,V.bool false)],tab:=[]:St}) (K Ex.normal {fr:=[(8,V.slc [.str,.int .u8,.int .i64,.str] r8),(9,V.int .i64 i9),(10,V.int .i64 (IntKind.wrap .i64 (i10+(1:Int))))],tab:=[]:St}))) (none)) (K (Ex.exit 0) {fr:=[],tab:=[]:St}):=by kernel_rfl
theorem ok_light:FnOk Tryz.prog 33 dLight:=by
 refine den_okF (env_ok (TOk.nil _)) (E:=eLight) Tryz.func33 [4] (by kernel_rfl) (one1 (rounds_of rfl fun l K q h=>?_)) fun h _ _=>?_
 ·unfold gLight at h
  split at h
  ·rename_i r n i
   have h1:=(cond_none h).1; replace h:=(cond_none h).2; have h2:=(cond_none h).1; replace h:=(cond_none h).2; have h3:=(cond_none h).1; replace h:=(cond_none h).2
   have e1:=ieq_of h1
   subst e1
   have h3:r.length≤1000000:=ble_of h3
   refine loop_ind (E:=eLight) (f:=33) (id:=4) (fun i:Int=>{ fr:=[(8,.slc [.str,.int .u8,.int .i64,.str] r),(9,.int .i64 r.length),(10,.int .i64 i)],tab:=[] }) (fun i=>0≤i) (fun i=>r.length-i.toNat)
    (fun i K=>cond (((rowsP r).drop i.toNat).all N.lightP) (K (.exit 0) { fr:=[],tab:=[] }) (K .ret { fr:=[(2,.bool false)],tab:=[] })) (fun i hi=>?_) i (ile_of h2) K q (by assumption)
   by_cases hl:i<r.length
   ·rw [drop_pair (show i.toNat<r.length by omega),List.all_cons]
    cases hc:N.lightP (rowP (r.getD i.toNat [])) with
    | true =>
     refine .inl ⟨i+1,by omega,by omega,fun K=>?_,fun K=>?_⟩
     ·rw [q_lightR]
      simp (disch:=omega) only [evs]
      revert hc
      unfold N.lightP rowP
      cases ilt 40 (V.toStr (List.getD (List.getD r i.toNat []) 0 V.undef)).length<;>cases ilt 100 (V.toStr (List.getD (List.getD r i.toNat []) 3 V.undef)).length<;>intro hc<;>first | rfl | cases hc
     ·rw [Bool.true_and,show (i+1).toNat=i.toNat+1 by omega]
    | false =>
     refine .inr ⟨.ret,{ fr:=[(2,.bool false)],tab:=[] },by simp,fun K=>?_,fun K=>rfl⟩
     rw [q_lightR]
     simp (disch:=omega) only [evs]
     revert hc
     unfold N.lightP rowP
     cases ilt 40 (V.toStr (List.getD (List.getD r i.toNat []) 0 V.undef)).length<;>cases ilt 100 (V.toStr (List.getD (List.getD r i.toNat []) 3 V.undef)).length<;>intro hc<;>first | rfl | cases hc
   ·refine .inr ⟨.exit 0,{ fr:=[],tab:=[] },by simp,fun K=>?_,fun K=>?_⟩
    ·rw [q_lightR]
     simp (disch:=omega) only [evs]
    ·rw [List.drop_eq_nil_of_le (by rw [rowsP_length]; omega)]; rfl
  ·cases h
 ·refine (q_light h).trans ?_
  show _=some (⟨.bool (N.light h),[],[]⟩:DRes)
  unfold N.light
  by_cases hl:12<h.length
  ·simp (disch:=omega) only [evs]
  ·simp (disch:=omega) only [evs,pairs_enc,List.drop_zero]
   cases h.all N.lightP<;>rfl
noncomputable def eFindFn:Env:=env Tryz.prog [] [] []
theorem q_findFn (p:HPair) (key:Bytes):evFn eFindFn 170 ((aCons (vAgg cPair) (aOne (vPtr 0))).enc (p,())) ((bOne rStr).enc key) some =
 some {v:=V.bool (HPair.key p==key),bx:=[[V.str key]]:DRes}:=by kernel_rfl
theorem ok_findFn:FnOk Tryz.prog 170 dFindFn:=den_okF (env_ok (TOk.nil _)) (E:=eFindFn) Tryz.func170 [] (by kernel_rfl) none0 fun a key _=>q_findFn a.1 key
def schIxf:SSch:={ fr:=[(0,.slc [.str,.int .u8,.int .i64,.str]),(1,.fn 170 [] [.ptr 0 0 0]),(7,.int .i64),(8,.int .i64)],tab:=[(0,.var [.str])] }
def gIxf:List Leaf→(Ex→St→Option R)→Option R
 | [.r r0,.i i7,.i i8,.s key],K=>cond (i7==r0.length) (cond (ile 0 i8) (cond (Nat.ble r0.length LIM)
   (cond (ile 0 (N.findIx key ((rowsP r0).drop i8.toNat) i8)) (K .ret { fr:=[(4,.int .i64 (N.findIx key ((rowsP r0).drop i8.toNat) i8))],tab:=[(0,.var [.str key])] }) (K (.exit 0) { fr:=[],tab:=[(0,.var [.str key])] })) none) none) none
 | _,_=>none
noncomputable def eIxf:Env:=env Tryz.prog [(170,dFindFn)] [(2,loopF schIxf gIxf)] [(2,[(0,[0,1,7,8]),(1,[]),(1000,[4])])]
theorem q_ixf (h:List HPair) (key:Bytes):evFn eIxf 169 ((aCons (vSl cPair) (aOne (vFn 170 0))).enc (h,())) ((bOne rStr).enc key) some =
 cond ((↑(List.length (List.map (fun p=>[V.str (HPair.key p),V.int .u8 (HPair.kind p),V.int .i64 (HPair.num p),V.str (HPair.text p)]) h)):Int)==(↑(List.length (List.map (fun p=>[V.str (HPair.key p),V.int .u8 (HPair.kind p),V.int .i64 (HPair.num p),V.str (HPair.text p)]) h)):Int)) (cond (Nat.ble (List.length (List.map (fun p=>[V.str (HPair.key p),V.int .u8 (HPair.kind p),V.int .i64 (HPair.num p),V.str (HPair.text p)]) h)) 1000000) (cond (ile (0:Int) (N.findIx key (List.drop 0 (List.map (fun r=>{key:=V.toStr (List.getD r 0 .undef),kind:=V.toInt (List.getD r 1 .undef),num:=V.toInt (List.getD r 2 .undef),text:=V.toStr (List.getD r 3 .undef):HPair}) (List.map (fun p=>[V.str (HPair.key p),V.int .u8 (HPair.kind p),V.int .i64 (HPair.num p),V.str (HPair.text p)]) h))) (0:Int))) (some {v:=V.int .i64 (N.findIx key (List.drop 0 (List.map (fun r=>{key:=V.toStr (List.getD r 0 .undef),kind:=V.toInt (List.getD r 1 .undef),num:=V.toInt (List.getD r 2 .undef),text:=V.toStr (List.getD r 3 .undef):HPair}) (List.map (fun p=>[V.str (HPair.key p),V.int .u8 (HPair.kind p),V.int .i64 (HPair.num p),V.str (HPair.text p)]) h))) (0:Int)),bx:=[[V.str key]]:DRes}) (some {v:=V.int .i64 (-1:Int),bx:=[[V.str key]]:DRes})) (none)) (none):=by kernel_rfl
theorem q_ixfR (r0:List (List V)) (i7:Int) (i8:Int) (sx0:Bytes) (K:Ex→St→Option R):evRound eIxf 169 2 { fr:=[(0,.slc [.str,.int .u8,.int .i64,.str] r0),(1,.fn 170 [] [.ptr 0 0 0 0]),(7,.int .i64 i7),(8,.int .i64 i8)],tab:=[(0,.var [.str sx0])] } K =
 cond (ilt i8 i7) (cond (decide ((0:Int)≤i8∧i8<(↑(List.length r0):Int))) (cond (V.toStr (List.getD (List.getD r0 (Int.toNat i8) []) 0 V.undef)==sx0) (K Ex.ret {fr:=[(4,V.int .i64 i8)],tab:=[(0,Box.var [V.str sx0])]:St}) (K Ex.normal {fr:=[(0,V.slc [.str,.int .u8,.int .i64,.str] r0),(1,V.fn 170 [] [V.ptr 0 0 0 0]),(7,V.int .i64 i7),(8,V.int .i64 (IntKind.wrap .i64 (i8+(1:Int))))],tab:=[(0,Box.var [V.str sx0])]:St})) (none)) (K (Ex.exit 0) {fr:=[],tab:=[(0,Box.var [V.str sx0])]:St}):=by kernel_rfl
theorem ok_ixf:FnOk Tryz.prog 169 (dIndexFn 170):=by
 refine den_okF (env_ok ((TOk.nil _).cons ok_findFn)) (E:=eIxf) Tryz.func169 [2] (by kernel_rfl) (one1 (rounds_of rfl fun l K q h=>?_)) fun a key h=>?_
 ·unfold gIxf at h
  split at h
  ·rename_i r n i key
   have h1:=(cond_none h).1; replace h:=(cond_none h).2; have h2:=(cond_none h).1; replace h:=(cond_none h).2; have h3:=(cond_none h).1; replace h:=(cond_none h).2
   have e1:=ieq_of h1
   subst e1
   have h3:r.length≤1000000:=ble_of h3
   refine loop_ind (E:=eIxf) (f:=169) (id:=2) (fun i:Int=>{ fr:=[(0,.slc [.str,.int .u8,.int .i64,.str] r),(1,.fn 170 [] [.ptr 0 0 0 0]),(7,.int .i64 r.length),(8,.int .i64 i)],tab:=[(0,.var [.str key])] }) (fun i=>0≤i) (fun i=>r.length-i.toNat)
    (fun i8 K=>cond (ile 0 (N.findIx key ((rowsP r).drop i8.toNat) i8)) (K .ret { fr:=[(4,.int .i64 (N.findIx key ((rowsP r).drop i8.toNat) i8))],tab:=[(0,.var [.str key])] }) (K (.exit 0) { fr:=[],tab:=[(0,.var [.str key])] })) (fun i hi=>?_) i (ile_of h2) K q (by assumption)
   by_cases hl:i<r.length
   ·rw [drop_pair (show i.toNat<r.length by omega)]
    have e:N.findIx key (rowP (r.getD i.toNat [])::(rowsP r).drop (i.toNat+1)) i=cond ((rowP (r.getD i.toNat [])).key==key) i (N.findIx key ((rowsP r).drop (i.toNat+1)) (i+1)):=rfl
    rw [e]
    cases hc:(rowP (r.getD i.toNat [])).key==key with
    | true =>
     rw [cond_true,ile_t hi]
     refine .inr ⟨.ret,_,by simp,fun K=>?_,fun K=>rfl⟩
     rw [q_ixfR]
     unfold rowP at hc
     simp (disch:=omega) only [evs,hc]
    | false =>
     refine .inl ⟨i+1,by omega,by omega,fun K=>?_,fun K=>?_⟩
     ·rw [q_ixfR]
      unfold rowP at hc
      simp (disch:=omega) only [evs,hc]
     ·rw [cond_false,show (i+1).toNat=i.toNat+1 by omega]
   ·refine .inr ⟨.exit 0,{ fr:=[],tab:=[(0,.var [.str key])] },by simp,fun K=>?_,fun K=>?_⟩
    ·rw [q_ixfR]
     simp (disch:=omega) only [evs]
    ·rw [List.drop_eq_nil_of_le (by rw [rowsP_length]; omega)]; rfl
  ·cases h
 ·obtain ⟨l,u⟩:=a
  have h:l.length≤1000000:=ble_of h
  refine (q_ixf l key).trans ?_
  show _=some (⟨.int .i64 (N.findIx key l 0),[[.str key]],[]⟩:DRes)
  simp (disch:=omega) only [evs,pairs_enc,List.drop_zero]
  rcases findIx_lt key l 0 (Int.le_refl _) with e | ⟨e,_⟩
  ·rw [e]; rfl
  ·rw [ile_t e]; rfl
noncomputable def eFind:Env:=env Tryz.prog [(169,dIndexFn 170)] [] []
theorem q_find (h:List HPair) (key:Bytes):evFn eFind 155 ((aCons (vSl cPair) (aOne vStr)).enc (h,key)) ([]) some =
 cond (Nat.ble (List.length (List.map (fun r=>{key:=V.toStr (List.getD r 0 .undef),kind:=V.toInt (List.getD r 1 .undef),num:=V.toInt (List.getD r 2 .undef),text:=V.toStr (List.getD r 3 .undef):HPair}) (List.map (fun p=>[V.str (HPair.key p),V.int .u8 (HPair.kind p),V.int .i64 (HPair.num p),V.str (HPair.text p)]) h))) 1000000) (cond (ilt (N.findIx key (List.map (fun r=>{key:=V.toStr (List.getD r 0 .undef),kind:=V.toInt (List.getD r 1 .undef),num:=V.toInt (List.getD r 2 .undef),text:=V.toStr (List.getD r 3 .undef):HPair}) (List.map (fun p=>[V.str (HPair.key p),V.int .u8 (HPair.kind p),V.int .i64 (HPair.num p),V.str (HPair.text p)]) h)) (0:Int)) (0:Int)) (some {v:=V.tup [V.agg [V.str [],V.int .u8 (0:Int),V.int .i64 (0:Int),V.str []],V.bool false],bx:=[]:DRes}) (cond (decide ((0:Int)≤N.findIx key (List.map (fun r=>{key:=V.toStr (List.getD r 0 .undef),kind:=V.toInt (List.getD r 1 .undef),num:=V.toInt (List.getD r 2 .undef),text:=V.toStr (List.getD r 3 .undef):HPair}) (List.map (fun p=>[V.str (HPair.key p),V.int .u8 (HPair.kind p),V.int .i64 (HPair.num p),V.str (HPair.text p)]) h)) (0:Int)∧N.findIx key (List.map (fun r=>{key:=V.toStr (List.getD r 0 .undef),kind:=V.toInt (List.getD r 1 .undef),num:=V.toInt (List.getD r 2 .undef),text:=V.toStr (List.getD r 3 .undef):HPair}) (List.map (fun p=>[V.str (HPair.key p),V.int .u8 (HPair.kind p),V.int .i64 (HPair.num p),V.str (HPair.text p)]) h)) (0:Int)<(↑(List.length (List.map (fun p=>[V.str (HPair.key p),V.int .u8 (HPair.kind p),V.int .i64 (HPair.num p),V.str (HPair.text p)]) h)):Int))) (some {v:=V.tup [V.agg [V.str (V.toStr (List.getD (List.getD (List.map (fun p=>[V.str (HPair.key p),V.int .u8 (HPair.kind p),V.int .i64 (HPair.num p),V.str (HPair.text p)]) h) (Int.toNat (N.findIx key (List.map (fun r=>{key:=V.toStr (List.getD r 0 .undef),kind:=V.toInt (List.getD r 1 .undef),num:=V.toInt (List.getD r 2 .undef),text:=V.toStr (List.getD r 3 .undef):HPair}) (List.map (fun p=>[V.str (HPair.key p),V.int .u8 (HPair.kind p),V.int .i64 (HPair.num p),V.str (HPair.text p)]) h)) (0:Int))) []) 0 V.undef)),V.int .u8 (V.toInt (List.getD (List.getD (List.map (fun p=>[V.str (HPair.key p),V.int .u8 (HPair.kind p),V.int .i64 (HPair.num p),V.str (HPair.text p)]) h) (Int.toNat (N.findIx key (List.map (fun r=>{key:=V.toStr (List.getD r 0 .undef),kind:=V.toInt (List.getD r 1 .undef),num:=V.toInt (List.getD r 2 .undef),text:=V.toStr (List.getD r 3 .undef):HPair}) (List.map (fun p=>[V.str (HPair.key p),V.int .u8 (HPair.kind p),V.int .i64 (HPair.num p),V.str (HPair.text p)]) h)) (0:Int))) []) 1 V.undef)),V.int .i64 (V.toInt (List.getD (List.getD (List.map (fun p=>[V.str (HPair.key p),V.int .u8 (HPair.kind p),V.int .i64 (HPair.num p),V.str (HPair.text p)]) h) (Int.toNat (N.findIx key (List.map (fun r=>{key:=V.toStr (List.getD r 0 .undef),kind:=V.toInt (List.getD r 1 .undef),num:=V.toInt (List.getD r 2 .undef),text:=V.toStr (List.getD r 3 .undef):HPair}) (List.map (fun p=>[V.str (HPair.key p),V.int .u8 (HPair.kind p),V.int .i64 (HPair.num p),V.str (HPair.text p)]) h)) (0:Int))) []) 2 V.undef)),V.str (V.toStr (List.getD (List.getD (List.map (fun p=>[V.str (HPair.key p),V.int .u8 (HPair.kind p),V.int .i64 (HPair.num p),V.str (HPair.text p)]) h) (Int.toNat (N.findIx key (List.map (fun r=>{key:=V.toStr (List.getD r 0 .undef),kind:=V.toInt (List.getD r 1 .undef),num:=V.toInt (List.getD r 2 .undef),text:=V.toStr (List.getD r 3 .undef):HPair}) (List.map (fun p=>[V.str (HPair.key p),V.int .u8 (HPair.kind p),V.int .i64 (HPair.num p),V.str (HPair.text p)]) h)) (0:Int))) []) 3 V.undef))],V.bool true],bx:=[]:DRes}) (none))) (none):=by kernel_rfl
theorem ok_find:FnOk Tryz.prog 155 dFind:=by
 refine den_okF (env_ok ((TOk.nil _).cons ok_ixf)) (E:=eFind) Tryz.func155 [] (by kernel_rfl) none0 fun a _ h=>?_
 obtain ⟨l,key⟩:=a
 have h:l.length≤1000000:=ble_of h
 refine (q_find l key).trans ?_
 show _=some (⟨.tup [.agg [.str (N.find l key).1.key,.int .u8 (N.find l key).1.kind,.int .i64 (N.find l key).1.num,.str (N.find l key).1.text],.bool (N.find l key).2],[],[]⟩:DRes)
 unfold N.find
 simp (disch:=omega) only [evs,pairs_enc,pairs_get]
 rcases findIx_lt key l 0 (Int.le_refl _) with e | ⟨e1,e2⟩
 ·rw [e]; rfl
 ·simp (disch:=omega) only [evs]
noncomputable def ePairE:Env:=env Tryz.prog [(118,dName),(155,dFind)] [] []
theorem q_pairE (p:HPair) (l:List HPair):evFn ePairE 167 ((aCons (vAgg cPair) (aOne (vSl cPair))).enc (p,l)) ([]) some =
 cond (N.name (HPair.key p) != (0:Int)) (some {v:=V.int .i64 (N.name (HPair.key p)),bx:=[]:DRes}) (cond (Nat.ble (List.length (List.map (fun r=>{key:=V.toStr (List.getD r 0 .undef),kind:=V.toInt (List.getD r 1 .undef),num:=V.toInt (List.getD r 2 .undef),text:=V.toStr (List.getD r 3 .undef):HPair}) (List.map (fun p=>[V.str (HPair.key p),V.int .u8 (HPair.kind p),V.int .i64 (HPair.num p),V.str (HPair.text p)]) l))) 1000000) (cond (ilt (2:Int) (HPair.kind p)) (some {v:=V.int .i64 (8:Int),bx:=[]:DRes}) (cond (HPair.kind p==(1:Int)) (cond (ilt (64:Int) (↑(List.length (HPair.text p)):Int)) (some {v:=V.int .i64 (5:Int),bx:=[]:DRes}) (cond (HPair.kind p==(2:Int)) (cond (HPair.num p != (0:Int)) (cond (HPair.num p != (1:Int)) (some {v:=V.int .i64 (7:Int),bx:=[]:DRes}) (cond (HPair.kind p==(1:Int)) (cond (HPair.num p != (0:Int)) (cond (HPair.num p != (0:Int)) (some {v:=V.int .i64 (4:Int),bx:=[]:DRes}) (cond (Prod.snd (N.find (List.map (fun r=>{key:=V.toStr (List.getD r 0 .undef),kind:=V.toInt (List.getD r 1 .undef),num:=V.toInt (List.getD r 2 .undef),text:=V.toStr (List.getD r 3 .undef):HPair}) (List.map (fun p=>[V.str (HPair.key p),V.int .u8 (HPair.kind p),V.int .i64 (HPair.num p),V.str (HPair.text p)]) l)) (HPair.key p))) (some {v:=V.int .i64 (9:Int),bx:=[]:DRes}) (some {v:=V.int .i64 (0:Int),bx:=[]:DRes}))) (cond (HPair.kind p != (1:Int)) (cond (!HPair.text p==[]) (some {v:=V.int .i64 (4:Int),bx:=[]:DRes}) (cond (Prod.snd (N.find (List.map (fun r=>{key:=V.toStr (List.getD r 0 .undef),kind:=V.toInt (List.getD r 1 .undef),num:=V.toInt (List.getD r 2 .undef),text:=V.toStr (List.getD r 3 .undef):HPair}) (List.map (fun p=>[V.str (HPair.key p),V.int .u8 (HPair.kind p),V.int .i64 (HPair.num p),V.str (HPair.text p)]) l)) (HPair.key p))) (some {v:=V.int .i64 (9:Int),bx:=[]:DRes}) (some {v:=V.int .i64 (0:Int),bx:=[]:DRes}))) (cond (Prod.snd (N.find (List.map (fun r=>{key:=V.toStr (List.getD r 0 .undef),kind:=V.toInt (List.getD r 1 .undef),num:=V.toInt (List.getD r 2 .undef),text:=V.toStr (List.getD r 3 .undef):HPair}) (List.map (fun p=>[V.str (HPair.key p),V.int .u8 (HPair.kind p),V.int .i64 (HPair.num p),V.str (HPair.text p)]) l)) (HPair.key p))) (some {v:=V.int .i64 (9:Int),bx:=[]:DRes}) (some {v:=V.int .i64 (0:Int),bx:=[]:DRes})))) (cond (HPair.kind p != (1:Int)) (cond (!HPair.text p==[]) (some {v:=V.int .i64 (4:Int),bx:=[]:DRes}) (cond (Prod.snd (N.find (List.map (fun r=>{key:=V.toStr (List.getD r 0 .undef),kind:=V.toInt (List.getD r 1 .undef),num:=V.toInt (List.getD r 2 .undef),text:=V.toStr (List.getD r 3 .undef):HPair}) (List.map (fun p=>[V.str (HPair.key p),V.int .u8 (HPair.kind p),V.int .i64 (HPair.num p),V.str (HPair.text p)]) l)) (HPair.key p))) (some {v:=V.int .i64 (9:Int),bx:=[]:DRes}) (some {v:=V.int .i64 (0:Int),bx:=[]:DRes}))) (cond (Prod.snd (N.find (List.map (fun r=>{key:=V.toStr (List.getD r 0 .undef),kind:=V.toInt (List.getD r 1 .undef),num:=V.toInt (List.getD r 2 .undef),text:=V.toStr (List.getD r 3 .undef):HPair}) (List.map (fun p=>[V.str (HPair.key p),V.int .u8 (HPair.kind p),V.int .i64 (HPair.num p),V.str (HPair.text p)]) l)) (HPair.key p))) (some {v:=V.int .i64 (9:Int),bx:=[]:DRes}) (some {v:=V.int .i64 (0:Int),bx:=[]:DRes}))))) (cond (HPair.kind p==(1:Int)) (cond (HPair.num p != (0:Int)) (cond (HPair.num p != (0:Int)) (some {v:=V.int .i64 (4:Int),bx:=[]:DRes}) (cond (Prod.snd (N.find (List.map (fun r=>{key:=V.toStr (List.getD r 0 .undef),kind:=V.toInt (List.getD r 1 .undef),num:=V.toInt (List.getD r 2 .undef),text:=V.toStr (List.getD r 3 .undef):HPair}) (List.map (fun p=>[V.str (HPair.key p),V.int .u8 (HPair.kind p),V.int .i64 (HPair.num p),V.str (HPair.text p)]) l)) (HPair.key p))) (some {v:=V.int .i64 (9:Int),bx:=[]:DRes}) (some {v:=V.int .i64 (0:Int),bx:=[]:DRes}))) (cond (HPair.kind p != (1:Int)) (cond (!HPair.text p==[]) (some {v:=V.int .i64 (4:Int),bx:=[]:DRes}) (cond (Prod.snd (N.find (List.map (fun r=>{key:=V.toStr (List.getD r 0 .undef),kind:=V.toInt (List.getD r 1 .undef),num:=V.toInt (List.getD r 2 .undef),text:=V.toStr (List.getD r 3 .undef):HPair}) (List.map (fun p=>[V.str (HPair.key p),V.int .u8 (HPair.kind p),V.int .i64 (HPair.num p),V.str (HPair.text p)]) l)) (HPair.key p))) (some {v:=V.int .i64 (9:Int),bx:=[]:DRes}) (some {v:=V.int .i64 (0:Int),bx:=[]:DRes}))) (cond (Prod.snd (N.find (List.map (fun r=>{key:=V.toStr (List.getD r 0 .undef),kind:=V.toInt (List.getD r 1 .undef),num:=V.toInt (List.getD r 2 .undef),text:=V.toStr (List.getD r 3 .undef):HPair}) (List.map (fun p=>[V.str (HPair.key p),V.int .u8 (HPair.kind p),V.int .i64 (HPair.num p),V.str (HPair.text p)]) l)) (HPair.key p))) (some {v:=V.int .i64 (9:Int),bx:=[]:DRes}) (some {v:=V.int .i64 (0:Int),bx:=[]:DRes})))) (cond (HPair.kind p != (1:Int)) (cond (!HPair.text p==[]) (some {v:=V.int .i64 (4:Int),bx:=[]:DRes}) (cond (Prod.snd (N.find (List.map (fun r=>{key:=V.toStr (List.getD r 0 .undef),kind:=V.toInt (List.getD r 1 .undef),num:=V.toInt (List.getD r 2 .undef),text:=V.toStr (List.getD r 3 .undef):HPair}) (List.map (fun p=>[V.str (HPair.key p),V.int .u8 (HPair.kind p),V.int .i64 (HPair.num p),V.str (HPair.text p)]) l)) (HPair.key p))) (some {v:=V.int .i64 (9:Int),bx:=[]:DRes}) (some {v:=V.int .i64 (0:Int),bx:=[]:DRes}))) (cond (Prod.snd (N.find (List.map (fun r=>{key:=V.toStr (List.getD r 0 .undef),kind:=V.toInt (List.getD r 1 .undef),num:=V.toInt (List.getD r 2 .undef),text:=V.toStr (List.getD r 3 .undef):HPair}) (List.map (fun p=>[V.str (HPair.key p),V.int .u8 (HPair.kind p),V.int .i64 (HPair.num p),V.str (HPair.text p)]) l)) (HPair.key p))) (some {v:=V.int .i64 (9:Int),bx:=[]:DRes}) (some {v:=V.int .i64 (0:Int),bx:=[]:DRes}))))) (cond (HPair.kind p==(1:Int)) (cond (HPair.num p != (0:Int)) (cond (HPair.num p != (0:Int)) (some {v:=V.int .i64 (4:Int),bx:=[]:DRes}) (cond (Prod.snd (N.find (List.map (fun r=>{key:=V.toStr (List.getD r 0 .undef),kind:=V.toInt (List.getD r 1 .undef),num:=V.toInt (List.getD r 2 .undef),text:=V.toStr (List.getD r 3 .undef):HPair}) (List.map (fun p=>[V.str (HPair.key p),V.int .u8 (HPair.kind p),V.int .i64 (HPair.num p),V.str (HPair.text p)]) l)) (HPair.key p))) (some {v:=V.int .i64 (9:Int),bx:=[]:DRes}) (some {v:=V.int .i64 (0:Int),bx:=[]:DRes}))) (cond (HPair.kind p != (1:Int)) (cond (!HPair.text p==[]) (some {v:=V.int .i64 (4:Int),bx:=[]:DRes}) (cond (Prod.snd (N.find (List.map (fun r=>{key:=V.toStr (List.getD r 0 .undef),kind:=V.toInt (List.getD r 1 .undef),num:=V.toInt (List.getD r 2 .undef),text:=V.toStr (List.getD r 3 .undef):HPair}) (List.map (fun p=>[V.str (HPair.key p),V.int .u8 (HPair.kind p),V.int .i64 (HPair.num p),V.str (HPair.text p)]) l)) (HPair.key p))) (some {v:=V.int .i64 (9:Int),bx:=[]:DRes}) (some {v:=V.int .i64 (0:Int),bx:=[]:DRes}))) (cond (Prod.snd (N.find (List.map (fun r=>{key:=V.toStr (List.getD r 0 .undef),kind:=V.toInt (List.getD r 1 .undef),num:=V.toInt (List.getD r 2 .undef),text:=V.toStr (List.getD r 3 .undef):HPair}) (List.map (fun p=>[V.str (HPair.key p),V.int .u8 (HPair.kind p),V.int .i64 (HPair.num p),V.str (HPair.text p)]) l)) (HPair.key p))) (some {v:=V.int .i64 (9:Int),bx:=[]:DRes}) (some {v:=V.int .i64 (0:Int),bx:=[]:DRes})))) (cond (HPair.kind p != (1:Int)) (cond (!HPair.text p==[]) (some {v:=V.int .i64 (4:Int),bx:=[]:DRes}) (cond (Prod.snd (N.find (List.map (fun r=>{key:=V.toStr (List.getD r 0 .undef),kind:=V.toInt (List.getD r 1 .undef),num:=V.toInt (List.getD r 2 .undef),text:=V.toStr (List.getD r 3 .undef):HPair}) (List.map (fun p=>[V.str (HPair.key p),V.int .u8 (HPair.kind p),V.int .i64 (HPair.num p),V.str (HPair.text p)]) l)) (HPair.key p))) (some {v:=V.int .i64 (9:Int),bx:=[]:DRes}) (some {v:=V.int .i64 (0:Int),bx:=[]:DRes}))) (cond (Prod.snd (N.find (List.map (fun r=>{key:=V.toStr (List.getD r 0 .undef),kind:=V.toInt (List.getD r 1 .undef),num:=V.toInt (List.getD r 2 .undef),text:=V.toStr (List.getD r 3 .undef):HPair}) (List.map (fun p=>[V.str (HPair.key p),V.int .u8 (HPair.kind p),V.int .i64 (HPair.num p),V.str (HPair.text p)]) l)) (HPair.key p))) (some {v:=V.int .i64 (9:Int),bx:=[]:DRes}) (some {v:=V.int .i64 (0:Int),bx:=[]:DRes})))))) (cond (HPair.kind p==(2:Int)) (cond (HPair.num p != (0:Int)) (cond (HPair.num p != (1:Int)) (some {v:=V.int .i64 (7:Int),bx:=[]:DRes}) (cond (HPair.kind p==(1:Int)) (cond (HPair.num p != (0:Int)) (cond (HPair.num p != (0:Int)) (some {v:=V.int .i64 (4:Int),bx:=[]:DRes}) (cond (Prod.snd (N.find (List.map (fun r=>{key:=V.toStr (List.getD r 0 .undef),kind:=V.toInt (List.getD r 1 .undef),num:=V.toInt (List.getD r 2 .undef),text:=V.toStr (List.getD r 3 .undef):HPair}) (List.map (fun p=>[V.str (HPair.key p),V.int .u8 (HPair.kind p),V.int .i64 (HPair.num p),V.str (HPair.text p)]) l)) (HPair.key p))) (some {v:=V.int .i64 (9:Int),bx:=[]:DRes}) (some {v:=V.int .i64 (0:Int),bx:=[]:DRes}))) (cond (HPair.kind p != (1:Int)) (cond (!HPair.text p==[]) (some {v:=V.int .i64 (4:Int),bx:=[]:DRes}) (cond (Prod.snd (N.find (List.map (fun r=>{key:=V.toStr (List.getD r 0 .undef),kind:=V.toInt (List.getD r 1 .undef),num:=V.toInt (List.getD r 2 .undef),text:=V.toStr (List.getD r 3 .undef):HPair}) (List.map (fun p=>[V.str (HPair.key p),V.int .u8 (HPair.kind p),V.int .i64 (HPair.num p),V.str (HPair.text p)]) l)) (HPair.key p))) (some {v:=V.int .i64 (9:Int),bx:=[]:DRes}) (some {v:=V.int .i64 (0:Int),bx:=[]:DRes}))) (cond (Prod.snd (N.find (List.map (fun r=>{key:=V.toStr (List.getD r 0 .undef),kind:=V.toInt (List.getD r 1 .undef),num:=V.toInt (List.getD r 2 .undef),text:=V.toStr (List.getD r 3 .undef):HPair}) (List.map (fun p=>[V.str (HPair.key p),V.int .u8 (HPair.kind p),V.int .i64 (HPair.num p),V.str (HPair.text p)]) l)) (HPair.key p))) (some {v:=V.int .i64 (9:Int),bx:=[]:DRes}) (some {v:=V.int .i64 (0:Int),bx:=[]:DRes})))) (cond (HPair.kind p != (1:Int)) (cond (!HPair.text p==[]) (some {v:=V.int .i64 (4:Int),bx:=[]:DRes}) (cond (Prod.snd (N.find (List.map (fun r=>{key:=V.toStr (List.getD r 0 .undef),kind:=V.toInt (List.getD r 1 .undef),num:=V.toInt (List.getD r 2 .undef),text:=V.toStr (List.getD r 3 .undef):HPair}) (List.map (fun p=>[V.str (HPair.key p),V.int .u8 (HPair.kind p),V.int .i64 (HPair.num p),V.str (HPair.text p)]) l)) (HPair.key p))) (some {v:=V.int .i64 (9:Int),bx:=[]:DRes}) (some {v:=V.int .i64 (0:Int),bx:=[]:DRes}))) (cond (Prod.snd (N.find (List.map (fun r=>{key:=V.toStr (List.getD r 0 .undef),kind:=V.toInt (List.getD r 1 .undef),num:=V.toInt (List.getD r 2 .undef),text:=V.toStr (List.getD r 3 .undef):HPair}) (List.map (fun p=>[V.str (HPair.key p),V.int .u8 (HPair.kind p),V.int .i64 (HPair.num p),V.str (HPair.text p)]) l)) (HPair.key p))) (some {v:=V.int .i64 (9:Int),bx:=[]:DRes}) (some {v:=V.int .i64 (0:Int),bx:=[]:DRes}))))) (cond (HPair.kind p==(1:Int)) (cond (HPair.num p != (0:Int)) (cond (HPair.num p != (0:Int)) (some {v:=V.int .i64 (4:Int),bx:=[]:DRes}) (cond (Prod.snd (N.find (List.map (fun r=>{key:=V.toStr (List.getD r 0 .undef),kind:=V.toInt (List.getD r 1 .undef),num:=V.toInt (List.getD r 2 .undef),text:=V.toStr (List.getD r 3 .undef):HPair}) (List.map (fun p=>[V.str (HPair.key p),V.int .u8 (HPair.kind p),V.int .i64 (HPair.num p),V.str (HPair.text p)]) l)) (HPair.key p))) (some {v:=V.int .i64 (9:Int),bx:=[]:DRes}) (some {v:=V.int .i64 (0:Int),bx:=[]:DRes}))) (cond (HPair.kind p != (1:Int)) (cond (!HPair.text p==[]) (some {v:=V.int .i64 (4:Int),bx:=[]:DRes}) (cond (Prod.snd (N.find (List.map (fun r=>{key:=V.toStr (List.getD r 0 .undef),kind:=V.toInt (List.getD r 1 .undef),num:=V.toInt (List.getD r 2 .undef),text:=V.toStr (List.getD r 3 .undef):HPair}) (List.map (fun p=>[V.str (HPair.key p),V.int .u8 (HPair.kind p),V.int .i64 (HPair.num p),V.str (HPair.text p)]) l)) (HPair.key p))) (some {v:=V.int .i64 (9:Int),bx:=[]:DRes}) (some {v:=V.int .i64 (0:Int),bx:=[]:DRes}))) (cond (Prod.snd (N.find (List.map (fun r=>{key:=V.toStr (List.getD r 0 .undef),kind:=V.toInt (List.getD r 1 .undef),num:=V.toInt (List.getD r 2 .undef),text:=V.toStr (List.getD r 3 .undef):HPair}) (List.map (fun p=>[V.str (HPair.key p),V.int .u8 (HPair.kind p),V.int .i64 (HPair.num p),V.str (HPair.text p)]) l)) (HPair.key p))) (some {v:=V.int .i64 (9:Int),bx:=[]:DRes}) (some {v:=V.int .i64 (0:Int),bx:=[]:DRes})))) (cond (HPair.kind p != (1:Int)) (cond (!HPair.text p==[]) (some {v:=V.int .i64 (4:Int),bx:=[]:DRes}) (cond (Prod.snd (N.find (List.map (fun r=>{key:=V.toStr (List.getD r 0 .undef),kind:=V.toInt (List.getD r 1 .undef),num:=V.toInt (List.getD r 2 .undef),text:=V.toStr (List.getD r 3 .undef):HPair}) (List.map (fun p=>[V.str (HPair.key p),V.int .u8 (HPair.kind p),V.int .i64 (HPair.num p),V.str (HPair.text p)]) l)) (HPair.key p))) (some {v:=V.int .i64 (9:Int),bx:=[]:DRes}) (some {v:=V.int .i64 (0:Int),bx:=[]:DRes}))) (cond (Prod.snd (N.find (List.map (fun r=>{key:=V.toStr (List.getD r 0 .undef),kind:=V.toInt (List.getD r 1 .undef),num:=V.toInt (List.getD r 2 .undef),text:=V.toStr (List.getD r 3 .undef):HPair}) (List.map (fun p=>[V.str (HPair.key p),V.int .u8 (HPair.kind p),V.int .i64 (HPair.num p),V.str (HPair.text p)]) l)) (HPair.key p))) (some {v:=V.int .i64 (9:Int),bx:=[]:DRes}) (some {v:=V.int .i64 (0:Int),bx:=[]:DRes}))))) (cond (HPair.kind p==(1:Int)) (cond (HPair.num p != (0:Int)) (cond (HPair.num p != (0:Int)) (some {v:=V.int .i64 (4:Int),bx:=[]:DRes}) (cond (Prod.snd (N.find (List.map (fun r=>{key:=V.toStr (List.getD r 0 .undef),kind:=V.toInt (List.getD r 1 .undef),num:=V.toInt (List.getD r 2 .undef),text:=V.toStr (List.getD r 3 .undef):HPair}) (List.map (fun p=>[V.str (HPair.key p),V.int .u8 (HPair.kind p),V.int .i64 (HPair.num p),V.str (HPair.text p)]) l)) (HPair.key p))) (some {v:=V.int .i64 (9:Int),bx:=[]:DRes}) (some {v:=V.int .i64 (0:Int),bx:=[]:DRes}))) (cond (HPair.kind p != (1:Int)) (cond (!HPair.text p==[]) (some {v:=V.int .i64 (4:Int),bx:=[]:DRes}) (cond (Prod.snd (N.find (List.map (fun r=>{key:=V.toStr (List.getD r 0 .undef),kind:=V.toInt (List.getD r 1 .undef),num:=V.toInt (List.getD r 2 .undef),text:=V.toStr (List.getD r 3 .undef):HPair}) (List.map (fun p=>[V.str (HPair.key p),V.int .u8 (HPair.kind p),V.int .i64 (HPair.num p),V.str (HPair.text p)]) l)) (HPair.key p))) (some {v:=V.int .i64 (9:Int),bx:=[]:DRes}) (some {v:=V.int .i64 (0:Int),bx:=[]:DRes}))) (cond (Prod.snd (N.find (List.map (fun r=>{key:=V.toStr (List.getD r 0 .undef),kind:=V.toInt (List.getD r 1 .undef),num:=V.toInt (List.getD r 2 .undef),text:=V.toStr (List.getD r 3 .undef):HPair}) (List.map (fun p=>[V.str (HPair.key p),V.int .u8 (HPair.kind p),V.int .i64 (HPair.num p),V.str (HPair.text p)]) l)) (HPair.key p))) (some {v:=V.int .i64 (9:Int),bx:=[]:DRes}) (some {v:=V.int .i64 (0:Int),bx:=[]:DRes})))) (cond (HPair.kind p != (1:Int)) (cond (!HPair.text p==[]) (some {v:=V.int .i64 (4:Int),bx:=[]:DRes}) (cond (Prod.snd (N.find (List.map (fun r=>{key:=V.toStr (List.getD r 0 .undef),kind:=V.toInt (List.getD r 1 .undef),num:=V.toInt (List.getD r 2 .undef),text:=V.toStr (List.getD r 3 .undef):HPair}) (List.map (fun p=>[V.str (HPair.key p),V.int .u8 (HPair.kind p),V.int .i64 (HPair.num p),V.str (HPair.text p)]) l)) (HPair.key p))) (some {v:=V.int .i64 (9:Int),bx:=[]:DRes}) (some {v:=V.int .i64 (0:Int),bx:=[]:DRes}))) (cond (Prod.snd (N.find (List.map (fun r=>{key:=V.toStr (List.getD r 0 .undef),kind:=V.toInt (List.getD r 1 .undef),num:=V.toInt (List.getD r 2 .undef),text:=V.toStr (List.getD r 3 .undef):HPair}) (List.map (fun p=>[V.str (HPair.key p),V.int .u8 (HPair.kind p),V.int .i64 (HPair.num p),V.str (HPair.text p)]) l)) (HPair.key p))) (some {v:=V.int .i64 (9:Int),bx:=[]:DRes}) (some {v:=V.int .i64 (0:Int),bx:=[]:DRes}))))))) (none)):=by kernel_rfl
theorem ok_pairE:FnOk Tryz.prog 167 dPairE:=by
 refine den_okF (env_ok (((TOk.nil _).cons ok_find).cons ok_name)) (E:=ePairE) Tryz.func167 [] (by kernel_rfl) none0 fun a _ h=>?_
 obtain ⟨p,l⟩:=a
 have h:l.length≤1000000:=ble_of h
 refine (q_pairE p l).trans ?_
 show _=some (⟨.int .i64 (N.pairE p l),[],[]⟩:DRes)
 unfold N.pairE
 simp (disch:=omega) only [evs,pairs_enc,bne]
 cases N.name p.key==0 with
 | false=>rfl
 | true =>
  cases ilt 2 p.kind with
  | true=>rfl
  | false =>
   cases h1:p.kind==1<;>cases ilt 64 p.text.length<;>cases p.kind==2<;>cases p.num==0<;>cases p.num==1<;>cases p.text==[]<;>cases (N.find l p.key).2<;>rfl
def schHeadCheck:SSch:={ fr:=[(0,.slc [.str,.int .u8,.int .i64,.str]),(9,.slc [.str,.int .u8,.int .i64,.str]),(10,.int .i64),(11,.int .i64)],tab:=[] }
def gHeadCheck:List Leaf→(Ex→St→Option R)→Option R
 | [.r r0,.r r9,.i i10,.i i11],K=>cond (i10==r9.length) (cond (Nat.beq r0.length r9.length) (cond (ile 0 i11) (cond (Nat.ble r0.length LIM) (cond (N.samePs (rowsP r0) (rowsP r9))
   (cond (N.checkFrom (rowsP r9) (r9.length-i11.toNat) i11 != 0) (K .ret { fr:=[(2,.int .i64 (N.checkFrom (rowsP r9) (r9.length-i11.toNat) i11))],tab:=[] }) (K (.exit 0) { fr:=[],tab:=[] })) none) none) none) none) none
 | _,_=>none
noncomputable def eHeadCheck:Env:=env Tryz.prog [(167,dPairE)] [(4,loopF schHeadCheck gHeadCheck)] [(4,[(0,[0,9,10,11]),(1,[]),(1000,[2])])]
theorem q_headCheck (h:List HPair):evFn eHeadCheck 151 ((aOne (vSl cPair)).enc h) ([]) some =
 cond (ilt (8:Int) (↑(List.length (List.map (fun p=>[V.str (HPair.key p),V.int .u8 (HPair.kind p),V.int .i64 (HPair.num p),V.str (HPair.text p)]) h)):Int)) (some {v:=V.int .i64 (6:Int),bx:=[]:DRes}) (cond ((↑(List.length (List.map (fun p=>[V.str (HPair.key p),V.int .u8 (HPair.kind p),V.int .i64 (HPair.num p),V.str (HPair.text p)]) h)):Int)==(↑(List.length (List.map (fun p=>[V.str (HPair.key p),V.int .u8 (HPair.kind p),V.int .i64 (HPair.num p),V.str (HPair.text p)]) h)):Int)) (cond (Nat.beq (List.length (List.map (fun p=>[V.str (HPair.key p),V.int .u8 (HPair.kind p),V.int .i64 (HPair.num p),V.str (HPair.text p)]) h)) (List.length (List.map (fun p=>[V.str (HPair.key p),V.int .u8 (HPair.kind p),V.int .i64 (HPair.num p),V.str (HPair.text p)]) h))) (cond (Nat.ble (List.length (List.map (fun p=>[V.str (HPair.key p),V.int .u8 (HPair.kind p),V.int .i64 (HPair.num p),V.str (HPair.text p)]) h)) 1000000) (cond (N.samePs (List.map (fun r=>{key:=V.toStr (List.getD r 0 .undef),kind:=V.toInt (List.getD r 1 .undef),num:=V.toInt (List.getD r 2 .undef),text:=V.toStr (List.getD r 3 .undef):HPair}) (List.map (fun p=>[V.str (HPair.key p),V.int .u8 (HPair.kind p),V.int .i64 (HPair.num p),V.str (HPair.text p)]) h)) (List.map (fun r=>{key:=V.toStr (List.getD r 0 .undef),kind:=V.toInt (List.getD r 1 .undef),num:=V.toInt (List.getD r 2 .undef),text:=V.toStr (List.getD r 3 .undef):HPair}) (List.map (fun p=>[V.str (HPair.key p),V.int .u8 (HPair.kind p),V.int .i64 (HPair.num p),V.str (HPair.text p)]) h))) (cond (N.checkFrom (List.map (fun r=>{key:=V.toStr (List.getD r 0 .undef),kind:=V.toInt (List.getD r 1 .undef),num:=V.toInt (List.getD r 2 .undef),text:=V.toStr (List.getD r 3 .undef):HPair}) (List.map (fun p=>[V.str (HPair.key p),V.int .u8 (HPair.kind p),V.int .i64 (HPair.num p),V.str (HPair.text p)]) h)) (List.length (List.map (fun p=>[V.str (HPair.key p),V.int .u8 (HPair.kind p),V.int .i64 (HPair.num p),V.str (HPair.text p)]) h)-0) (0:Int) != (0:Int)) (some {v:=V.int .i64 (N.checkFrom (List.map (fun r=>{key:=V.toStr (List.getD r 0 .undef),kind:=V.toInt (List.getD r 1 .undef),num:=V.toInt (List.getD r 2 .undef),text:=V.toStr (List.getD r 3 .undef):HPair}) (List.map (fun p=>[V.str (HPair.key p),V.int .u8 (HPair.kind p),V.int .i64 (HPair.num p),V.str (HPair.text p)]) h)) (List.length (List.map (fun p=>[V.str (HPair.key p),V.int .u8 (HPair.kind p),V.int .i64 (HPair.num p),V.str (HPair.text p)]) h)-0) (0:Int)),bx:=[]:DRes}) (some {v:=V.int .i64 (0:Int),bx:=[]:DRes})) (none)) (none)) (none)) (none)):=by kernel_rfl
theorem q_headCheckR (r0:List (List V)) (r9:List (List V)) (i11:Int) (K:Ex→St→Option R):evRound eHeadCheck 151 4 { fr:=[(0,.slc [.str,.int .u8,.int .i64,.str] r0),(9,.slc [.str,.int .u8,.int .i64,.str] r9),(10,.int .i64 r9.length),(11,.int .i64 i11)],tab:=[] } K =
 cond (ilt i11 (↑(List.length r9):Int)) (cond (decide ((0:Int)≤i11∧i11<(↑(List.length r9):Int))) (cond (decide ((0:Int)≤i11∧i11≤(↑(List.length r0):Int))) (cond (Nat.ble (List.length (List.map (fun r=>{key:=V.toStr (List.getD r 0 .undef),kind:=V.toInt (List.getD r 1 .undef),num:=V.toInt (List.getD r 2 .undef),text:=V.toStr (List.getD r 3 .undef):HPair}) (List.drop 0 (List.take (Int.toNat i11) r0)))) 1000000) (cond (N.pairE {key:=V.toStr (List.getD (List.getD r9 (Int.toNat i11) []) 0 V.undef),kind:=V.toInt (List.getD (List.getD r9 (Int.toNat i11) []) 1 V.undef),num:=V.toInt (List.getD (List.getD r9 (Int.toNat i11) []) 2 V.undef),text:=V.toStr (List.getD (List.getD r9 (Int.toNat i11) []) 3 V.undef):HPair} (List.map (fun r=>{key:=V.toStr (List.getD r 0 .undef),kind:=V.toInt (List.getD r 1 .undef),num:=V.toInt (List.getD r 2 .undef),text:=V.toStr (List.getD r 3 .undef):HPair}) (List.drop 0 (List.take (Int.toNat i11) r0))) != (0:Int)) (K Ex.ret {fr:=[(2,V.int .i64 (N.pairE {key:=V.toStr (List.getD (List.getD r9 (Int.toNat i11) []) 0 V.undef),kind:=V.toInt (List.getD (List.getD r9 (Int.toNat i11) []) 1 V.undef),num:=V.toInt (List.getD (List.getD r9 (Int.toNat i11) []) 2 V.undef),text:=V.toStr (List.getD (List.getD r9 (Int.toNat i11) []) 3 V.undef):HPair} (List.map (fun r=>{key:=V.toStr (List.getD r 0 .undef),kind:=V.toInt (List.getD r 1 .undef),num:=V.toInt (List.getD r 2 .undef),text:=V.toStr (List.getD r 3 .undef):HPair}) (List.drop 0 (List.take (Int.toNat i11) r0)))))],tab:=[]:St}) (K Ex.normal {fr:=[(0,V.slc [.str,.int .u8,.int .i64,.str] r0),(9,V.slc [.str,.int .u8,.int .i64,.str] r9),(10,V.int .i64 (↑(List.length r9):Int)),(11,V.int .i64 (IntKind.wrap .i64 (i11+(1:Int))))],tab:=[]:St})) (none)) (none)) (none)) (K (Ex.exit 0) {fr:=[],tab:=[]:St}):=by kernel_rfl
theorem samePs_refl:∀ l,N.samePs l l=true
 | []=>rfl
 | p::l=>by
  unfold N.samePs N.eqP
  rw [samePs_refl l]; simp
theorem eqP_eq {p q:HPair} (h:N.eqP p q=true):p=q:=by
 unfold N.eqP at h
 simp only [Bool.and_eq_true,beq_iff_eq,and_true] at h
 cases p; cases q; simp_all
theorem samePs_eq:∀ {a b:List HPair},N.samePs a b=true→a=b
 | [],[],_=>rfl
 | [],_::_,h=>by cases h
 | _::_,[],h=>by cases h
 | p::a,q::b,h=>by
  unfold N.samePs at h
  cases e:N.eqP p q with
  | true=>rw [e,cond_true] at h; rw [eqP_eq e,samePs_eq h]
  | false=>rw [e] at h; cases h
theorem ok_headCheck:FnOk Tryz.prog 151 dHeadCheck:=by
 refine den_okF (env_ok ((TOk.nil _).cons ok_pairE)) (E:=eHeadCheck) Tryz.func151 [4] (by kernel_rfl) (one1 (rounds_of rfl fun l K q h=>?_)) fun h _ _=>?_
 ·unfold gHeadCheck at h
  split at h
  ·rename_i r0 r n i
   have h1:=(cond_none h).1; replace h:=(cond_none h).2; have h2:=(cond_none h).1; replace h:=(cond_none h).2; have h3:=(cond_none h).1; replace h:=(cond_none h).2; have h4:=(cond_none h).1; replace h:=(cond_none h).2; have h5:=(cond_none h).1; replace h:=(cond_none h).2
   have e1:=ieq_of h1
   subst e1
   have h2:=Nat.eq_of_beq_eq_true h2
   have h4:r0.length≤1000000:=ble_of h4
   have h5:=samePs_eq h5
   refine loop_ind (E:=eHeadCheck) (f:=151) (id:=4) (fun i:Int=>{ fr:=[(0,.slc [.str,.int .u8,.int .i64,.str] r0),(9,.slc [.str,.int .u8,.int .i64,.str] r),(10,.int .i64 r.length),(11,.int .i64 i)],tab:=[] }) (fun i=>0≤i) (fun i=>r.length-i.toNat)
    (fun i11 K=>cond (N.checkFrom (rowsP r) (r.length-i11.toNat) i11 != 0) (K .ret { fr:=[(2,.int .i64 (N.checkFrom (rowsP r) (r.length-i11.toNat) i11))],tab:=[] }) (K (.exit 0) { fr:=[],tab:=[] })) (fun i hi=>?_) i (ile_of h3) K q (by assumption)
   by_cases hl:i<r.length
   ·have e:N.checkFrom (rowsP r) (r.length-i.toNat) i=cond (N.pairE (rowP (r.getD i.toNat [])) ((rowsP r).take i.toNat) != 0) (N.pairE (rowP (r.getD i.toNat [])) ((rowsP r).take i.toNat)) (N.checkFrom (rowsP r) (r.length-(i+1).toNat) (i+1)):=by
     rw [show r.length-i.toNat=(r.length-(i+1).toNat)+1 by omega,N.checkFrom,rowsP_getD]
    rw [e]
    have hm:List.map rowP (List.take i.toNat r0)=(rowsP r).take i.toNat:=by rw [← h5,rowsP,List.map_take]
    unfold rowP at hm
    cases hc:N.pairE (rowP (r.getD i.toNat [])) ((rowsP r).take i.toNat) != 0 with
    | true =>
     rw [cond_true,hc]
     refine .inr ⟨.ret,_,by simp,fun K=>?_,fun K=>rfl⟩
     rw [q_headCheckR]
     unfold rowP at hc
     simp (disch:=omega) only [evs,hc,hm,List.length_take,List.drop_zero]
     try rfl
    | false =>
     refine .inl ⟨i+1,by omega,by omega,fun K=>?_,fun K=>?_⟩
     ·rw [q_headCheckR]
      unfold rowP at hc
      simp (disch:=omega) only [evs,hc,hm,List.length_take,List.drop_zero]
     ·rw [cond_false]
   ·refine .inr ⟨.exit 0,{ fr:=[],tab:=[] },by simp,fun K=>?_,fun K=>?_⟩
    ·rw [q_headCheckR]
     simp (disch:=omega) only [evs]
    ·rw [show r.length-i.toNat=0 by omega]; rfl
  ·cases h
 ·refine (q_headCheck h).trans ?_
  show _=some (⟨.int .i64 (N.headCheck h),[],[]⟩:DRes)
  unfold N.headCheck
  by_cases hl:8<h.length
  ·simp (disch:=omega) only [evs]
  ·simp (disch:=omega) only [evs,pairs_enc,samePs_refl,Nat.sub_zero]
   cases hc:N.checkFrom h h.length 0 != 0 with
   | true=>rfl
   | false =>
    have:N.checkFrom h h.length 0=0:=by simpa using hc
    rw [this]; rfl
def schHeadBytes:SSch:={ fr:=[(5,.ptr 10000 0 0),(18,.slc [.str,.int .u8,.int .i64,.str]),(19,.int .i64),(20,.int .i64)],tab:=[(10000,.var [.str,.int .i64])] }
def gHeadBytes:List Leaf→(Ex→St→Option R)→Option R
 | [.r r,.i n,.i i,.s s,.i e],K=>cond (n==r.length) (cond (e==0) (cond (ile 0 i) (cond (Nat.ble r.length 8) (cond ((rowsP r).all N.fitP) (cond (ile s.length (1+150*i))
   (K (.exit 0) { fr:=[(5,.ptr 10000 0 0 0)],tab:=[(10000,.var [.str (s++N.pairsB ((rowsP r).drop i.toNat)),.int .i64 0])] }) none) none) none) none) none) none
 | _,_=>none
noncomputable def eHeadBytes:Env:=env Tryz.prog [(151,dHeadCheck),(158,dOutNum),(159,dOutText),(161,dOutString)] [(6,loopF schHeadBytes gHeadBytes)] [(6,[(0,[5,18,19,20]),(1,[5]),(1000,[2,3])])]
theorem q_headBytes (h:List HPair):evFn eHeadBytes 157 ((aOne (vSl cPair)).enc h) ([]) some =
 cond (N.headCheck (List.map (fun r=>{key:=V.toStr (List.getD r 0 .undef),kind:=V.toInt (List.getD r 1 .undef),num:=V.toInt (List.getD r 2 .undef),text:=V.toStr (List.getD r 3 .undef):HPair}) (List.map (fun p=>[V.str (HPair.key p),V.int .u8 (HPair.kind p),V.int .i64 (HPair.num p),V.str (HPair.text p)]) h)) != (0:Int)) (some {v:=V.tup [V.str [],V.int .i64 (N.headCheck (List.map (fun r=>{key:=V.toStr (List.getD r 0 .undef),kind:=V.toInt (List.getD r 1 .undef),num:=V.toInt (List.getD r 2 .undef),text:=V.toStr (List.getD r 3 .undef):HPair}) (List.map (fun p=>[V.str (HPair.key p),V.int .u8 (HPair.kind p),V.int .i64 (HPair.num p),V.str (HPair.text p)]) h)))],bx:=[]:DRes}) (cond (bif ilt (IntKind.wrap .u64 (↑(List.length (List.map (fun p=>[V.str (HPair.key p),V.int .u8 (HPair.kind p),V.int .i64 (HPair.num p),V.str (HPair.text p)]) h)):Int)) (18446744073709551616:Int) then true else false) (cond ((↑(List.length (List.map (fun p=>[V.str (HPair.key p),V.int .u8 (HPair.kind p),V.int .i64 (HPair.num p),V.str (HPair.text p)]) h)):Int)==(↑(List.length (List.map (fun p=>[V.str (HPair.key p),V.int .u8 (HPair.kind p),V.int .i64 (HPair.num p),V.str (HPair.text p)]) h)):Int)) (cond (Nat.ble (List.length (List.map (fun p=>[V.str (HPair.key p),V.int .u8 (HPair.kind p),V.int .i64 (HPair.num p),V.str (HPair.text p)]) h)) 8) (cond (List.all (List.map (fun r=>{key:=V.toStr (List.getD r 0 .undef),kind:=V.toInt (List.getD r 1 .undef),num:=V.toInt (List.getD r 2 .undef),text:=V.toStr (List.getD r 3 .undef):HPair}) (List.map (fun p=>[V.str (HPair.key p),V.int .u8 (HPair.kind p),V.int .i64 (HPair.num p),V.str (HPair.text p)]) h)) N.fitP) (some {v:=V.tup [V.str (OutS.s (N.outNum {s:=[],err:=(0:Int):OutS} (IntKind.wrap .u64 (↑(List.length (List.map (fun p=>[V.str (HPair.key p),V.int .u8 (HPair.kind p),V.int .i64 (HPair.num p),V.str (HPair.text p)]) h)):Int)) (1:Int))++N.pairsB (List.drop 0 (List.map (fun r=>{key:=V.toStr (List.getD r 0 .undef),kind:=V.toInt (List.getD r 1 .undef),num:=V.toInt (List.getD r 2 .undef),text:=V.toStr (List.getD r 3 .undef):HPair}) (List.map (fun p=>[V.str (HPair.key p),V.int .u8 (HPair.kind p),V.int .i64 (HPair.num p),V.str (HPair.text p)]) h)))),V.int .i64 (0:Int)],bx:=[]:DRes}) (none)) (none)) (none)) (none)):=by kernel_rfl
theorem q_headBytesR (r:List (List V)) (i:Int) (s:Bytes) (K:Ex→St→Option R):evRound eHeadBytes 157 6 { fr:=[(5,.ptr 10000 0 0 0),(18,.slc [.str,.int .u8,.int .i64,.str] r),(19,.int .i64 r.length),(20,.int .i64 i)],tab:=[(10000,.var [.str s,.int .i64 0])] } K =
 cond (ilt i (↑(List.length r):Int)) (cond (decide ((0:Int)≤i∧i<(↑(List.length r):Int))) (cond (Nat.ble (List.length s+List.length (V.toStr (List.getD (List.getD r (Int.toNat i) []) 0 V.undef))) 9223372036854775790) (cond (bif ile (0:Int) (IntKind.wrap .u64 (V.toInt (List.getD (List.getD r (Int.toNat i) []) 1 V.undef))) then bif ilt (IntKind.wrap .u64 (V.toInt (List.getD (List.getD r (Int.toNat i) []) 1 V.undef))) (18446744073709551616:Int) then Nat.ble (List.length (OutS.s (N.outText {s:=s,err:=(0:Int):OutS} (V.toStr (List.getD (List.getD r (Int.toNat i) []) 0 V.undef))))) 9223372036854775799 else false else false) (cond (V.toInt (List.getD (List.getD r (Int.toNat i) []) 1 V.undef)==(0:Int)) (cond (bif ile (0:Int) (IntKind.wrap .u64 (V.toInt (List.getD (List.getD r (Int.toNat i) []) 2 V.undef))) then bif ilt (IntKind.wrap .u64 (V.toInt (List.getD (List.getD r (Int.toNat i) []) 2 V.undef))) (18446744073709551616:Int) then Nat.ble (List.length (OutS.s (N.outNum (N.outText {s:=s,err:=(0:Int):OutS} (V.toStr (List.getD (List.getD r (Int.toNat i) []) 0 V.undef))) (IntKind.wrap .u64 (V.toInt (List.getD (List.getD r (Int.toNat i) []) 1 V.undef))) (1:Int)))) 9223372036854775799 else false else false) (K Ex.normal {fr:=[(5,V.ptr 10000 0 0 0),(18,V.slc [.str,.int .u8,.int .i64,.str] r),(19,V.int .i64 (↑(List.length r):Int)),(20,V.int .i64 (IntKind.wrap .i64 (i+(1:Int))))],tab:=[(10000,Box.var [V.str (OutS.s (N.outNum (N.outNum (N.outText {s:=s,err:=(0:Int):OutS} (V.toStr (List.getD (List.getD r (Int.toNat i) []) 0 V.undef))) (IntKind.wrap .u64 (V.toInt (List.getD (List.getD r (Int.toNat i) []) 1 V.undef))) (1:Int)) (IntKind.wrap .u64 (V.toInt (List.getD (List.getD r (Int.toNat i) []) 2 V.undef))) (8:Int))),V.int .i64 (OutS.err (N.outNum (N.outNum (N.outText {s:=s,err:=(0:Int):OutS} (V.toStr (List.getD (List.getD r (Int.toNat i) []) 0 V.undef))) (IntKind.wrap .u64 (V.toInt (List.getD (List.getD r (Int.toNat i) []) 1 V.undef))) (1:Int)) (IntKind.wrap .u64 (V.toInt (List.getD (List.getD r (Int.toNat i) []) 2 V.undef))) (8:Int)))])]:St}) (none)) (cond (V.toInt (List.getD (List.getD r (Int.toNat i) []) 1 V.undef)==(1:Int)) (cond (Nat.ble (List.length (OutS.s (N.outNum (N.outText {s:=s,err:=(0:Int):OutS} (V.toStr (List.getD (List.getD r (Int.toNat i) []) 0 V.undef))) (IntKind.wrap .u64 (V.toInt (List.getD (List.getD r (Int.toNat i) []) 1 V.undef))) (1:Int)))+List.length (V.toStr (List.getD (List.getD r (Int.toNat i) []) 3 V.undef))) 9223372036854775790) (K Ex.normal {fr:=[(5,V.ptr 10000 0 0 0),(18,V.slc [.str,.int .u8,.int .i64,.str] r),(19,V.int .i64 (↑(List.length r):Int)),(20,V.int .i64 (IntKind.wrap .i64 (i+(1:Int))))],tab:=[(10000,Box.var [V.str (OutS.s (N.outText (N.outNum (N.outText {s:=s,err:=(0:Int):OutS} (V.toStr (List.getD (List.getD r (Int.toNat i) []) 0 V.undef))) (IntKind.wrap .u64 (V.toInt (List.getD (List.getD r (Int.toNat i) []) 1 V.undef))) (1:Int)) (V.toStr (List.getD (List.getD r (Int.toNat i) []) 3 V.undef)))),V.int .i64 (OutS.err (N.outText (N.outNum (N.outText {s:=s,err:=(0:Int):OutS} (V.toStr (List.getD (List.getD r (Int.toNat i) []) 0 V.undef))) (IntKind.wrap .u64 (V.toInt (List.getD (List.getD r (Int.toNat i) []) 1 V.undef))) (1:Int)) (V.toStr (List.getD (List.getD r (Int.toNat i) []) 3 V.undef))))])]:St}) (none)) (cond (V.toInt (List.getD (List.getD r (Int.toNat i) []) 1 V.undef)==(2:Int)) (cond (bif ile (0:Int) (IntKind.wrap .u64 (V.toInt (List.getD (List.getD r (Int.toNat i) []) 2 V.undef))) then bif ilt (IntKind.wrap .u64 (V.toInt (List.getD (List.getD r (Int.toNat i) []) 2 V.undef))) (18446744073709551616:Int) then Nat.ble (List.length (OutS.s (N.outNum (N.outText {s:=s,err:=(0:Int):OutS} (V.toStr (List.getD (List.getD r (Int.toNat i) []) 0 V.undef))) (IntKind.wrap .u64 (V.toInt (List.getD (List.getD r (Int.toNat i) []) 1 V.undef))) (1:Int)))) 9223372036854775799 else false else false) (K Ex.normal {fr:=[(5,V.ptr 10000 0 0 0),(18,V.slc [.str,.int .u8,.int .i64,.str] r),(19,V.int .i64 (↑(List.length r):Int)),(20,V.int .i64 (IntKind.wrap .i64 (i+(1:Int))))],tab:=[(10000,Box.var [V.str (OutS.s (N.outNum (N.outNum (N.outText {s:=s,err:=(0:Int):OutS} (V.toStr (List.getD (List.getD r (Int.toNat i) []) 0 V.undef))) (IntKind.wrap .u64 (V.toInt (List.getD (List.getD r (Int.toNat i) []) 1 V.undef))) (1:Int)) (IntKind.wrap .u64 (V.toInt (List.getD (List.getD r (Int.toNat i) []) 2 V.undef))) (1:Int))),V.int .i64 (OutS.err (N.outNum (N.outNum (N.outText {s:=s,err:=(0:Int):OutS} (V.toStr (List.getD (List.getD r (Int.toNat i) []) 0 V.undef))) (IntKind.wrap .u64 (V.toInt (List.getD (List.getD r (Int.toNat i) []) 1 V.undef))) (1:Int)) (IntKind.wrap .u64 (V.toInt (List.getD (List.getD r (Int.toNat i) []) 2 V.undef))) (1:Int)))])]:St}) (none)) (K Ex.normal {fr:=[(5,V.ptr 10000 0 0 0),(18,V.slc [.str,.int .u8,.int .i64,.str] r),(19,V.int .i64 (↑(List.length r):Int)),(20,V.int .i64 (IntKind.wrap .i64 (i+(1:Int))))],tab:=[(10000,Box.var [V.str (OutS.s (N.outNum (N.outText {s:=s,err:=(0:Int):OutS} (V.toStr (List.getD (List.getD r (Int.toNat i) []) 0 V.undef))) (IntKind.wrap .u64 (V.toInt (List.getD (List.getD r (Int.toNat i) []) 1 V.undef))) (1:Int))),V.int .i64 (OutS.err (N.outNum (N.outText {s:=s,err:=(0:Int):OutS} (V.toStr (List.getD (List.getD r (Int.toNat i) []) 0 V.undef))) (IntKind.wrap .u64 (V.toInt (List.getD (List.getD r (Int.toNat i) []) 1 V.undef))) (1:Int)))])]:St})))) (none)) (none)) (none)) (K (Ex.exit 0) {fr:=[(5,V.ptr 10000 0 0 0)],tab:=[(10000,Box.var [V.str s,V.int .i64 (0:Int)])]:St}):=by kernel_rfl
theorem pairE_fit {p : HPair} {l : List HPair} (h : N.pairE p l = 0) : N.fitP p = true := by
  unfold N.pairE at h
  cases h1 : N.name p.key != 0 with
  | true => rw [h1, cond_true] at h; rw [h] at h1; cases h1
  | false =>
    have hk : p.key.length ≤ 16 := by
      unfold N.name at h1
      cases e1 : p.key == [] with
      | true => rw [e1] at h1; cases h1
      | false =>
        rw [e1] at h1
        cases e2 : ilt 16 p.key.length with
        | true => rw [e2] at h1; cases h1
        | false => have := ilt_nof e2; omega
    rw [h1] at h
    simp only [cond_false, bne] at h
    have ht : p.text.length ≤ 64 := by
      cases h2 : ilt 2 p.kind with
      | true => rw [h2] at h; cases h
      | false =>
        rw [h2] at h
        cases e1 : p.kind == 1 with
        | true =>
          rw [e1] at h
          cases e2 : ilt 64 p.text.length with
          | true => rw [e2] at h; cases h
          | false => have := ilt_nof e2; omega
        | false =>
          rw [e1] at h
          cases e2 : p.text == [] with
          | true => have : p.text = [] := by simpa using e2
                    rw [this]; exact Nat.zero_le _
          | false =>
            rw [e2] at h
            simp only [cond_false, cond_true, Bool.not_false] at h
            revert h
            cases (cond (cond (p.kind == 2) (!p.num == 0) false) (!p.num == 1) false) <;> intro h <;> cases h
    show cond (Nat.ble p.key.length 64) (Nat.ble p.text.length 64) false = true
    rw [ble_t (by omega), ble_t ht]; rfl
theorem checkFrom_fit (h:List HPair):∀ (f:Nat) (i:Int),0≤i→N.checkFrom h f i=0→∀ j:Nat,i≤j→(j:Int)<i+f→N.fitP (h.getD j pair0)=true
 | 0,i,_,_,j,h1,h2=>by omega
 | f+1,i,h0,hc,j,h1,h2=>by
  unfold N.checkFrom at hc
  cases e:N.pairE (h.getD i.toNat pair0) (h.take i.toNat) != 0 with
  | true=>rw [e,cond_true] at hc; rw [hc] at e; cases e
  | false =>
   rw [e] at hc
   by_cases hj:(j:Int)=i
   ·have:j=i.toNat:=by omega
    rw [this]; exact pairE_fit (by simpa using e)
   ·exact checkFrom_fit h f (i+1) (by omega) hc j (by omega) (by omega)
theorem check_fit {h:List HPair} (hz:N.headCheck h=0):h.length≤8∧h.all N.fitP=true:=by
 unfold N.headCheck at hz
 cases e:ilt 8 h.length with
 | true=>rw [e] at hz; cases hz
 | false =>
  have e':=ilt_nof e
  rw [e] at hz
  refine ⟨by omega,List.all_eq_true.2 fun p hp=>?_⟩
  obtain ⟨j,hj,rfl⟩:=List.getElem_of_mem hp
  have:=checkFrom_fit h h.length 0 (Int.le_refl _) hz j (by omega) (by omega)
  rwa [List.getD_eq_getElem?_getD,List.getElem?_eq_getElem hj] at this
theorem wu64 (x:Int):0≤IntKind.wrap .u64 x∧IntKind.wrap .u64 x<18446744073709551616:=by
 simp only [IntKind.wrap,IntKind.signed,IntKind.bits]
 simp
 omega
theorem numB_len (n:Int):∀ k,(N.numB n k).length=k
 | 0=>rfl
 | k+1=>by simp [N.numB,numB_len n k]
theorem textB_len (s:Bytes):(N.textB s).length=2+s.length:=by unfold N.textB; rw [List.length_append,numB_len]
theorem outText_le {x s:Bytes} (h:s.length≤65535):N.outText ⟨x,0⟩ s=⟨x++N.textB s,0⟩:=by
 unfold N.outText
 rw [ilt_f (by omega)]
 show (⟨x++N.numB s.length 2++s,0⟩:OutS)=_
 unfold N.textB; rw [List.append_assoc]
theorem outNum_1 (x:Bytes) (n:Int):N.outNum ⟨x,0⟩ n 1=⟨x++N.numB n 1,0⟩:=rfl
theorem outNum_8 (x:Bytes) (n:Int):N.outNum ⟨x,0⟩ n 8=⟨x++N.numB n 8,0⟩:=rfl
theorem ok_headBytes (hN:FnOk Tryz.prog 158 dOutNum):FnOk Tryz.prog 157 dHeadBytes:=by
 refine den_okF (env_ok (((((TOk.nil _).cons ok_outString).cons (ok_outText hN)).cons hN).cons ok_headCheck)) (E:=eHeadBytes) Tryz.func157 [6] (by kernel_rfl) (one1 (rounds_of rfl fun l K q h=>?_)) fun h _ _=>?_
 ·unfold gHeadBytes at h
  split at h
  ·rename_i r n i s e
   have h1:=(cond_none h).1; replace h:=(cond_none h).2; have h2:=(cond_none h).1; replace h:=(cond_none h).2; have h3:=(cond_none h).1; replace h:=(cond_none h).2; have h4:=(cond_none h).1; replace h:=(cond_none h).2; have h5:=(cond_none h).1; replace h:=(cond_none h).2; have h6:=(cond_none h).1; replace h:=(cond_none h).2
   have e1:=ieq_of h1
   have e2:=ieq_of h2
   subst e1 e2
   have h4:r.length≤8:=ble_of h4
   refine loop_ind (E:=eHeadBytes) (f:=157) (id:=6) (σ:=Int × Bytes) (fun x=>{ fr:=[(5,.ptr 10000 0 0 0),(18,.slc [.str,.int .u8,.int .i64,.str] r),(19,.int .i64 r.length),(20,.int .i64 x.1)],tab:=[(10000,.var [.str x.2,.int .i64 0])] })
    (fun x=>0≤x.1∧(x.2.length:Int)≤1+150*x.1) (fun x=>r.length-x.1.toNat)
    (fun x K=>K (.exit 0) { fr:=[(5,.ptr 10000 0 0 0)],tab:=[(10000,.var [.str (x.2++N.pairsB ((rowsP r).drop x.1.toNat)),.int .i64 0])] }) ?_ (i,s) ⟨ile_of h3,ile_of h6⟩ K q (by assumption)
   rintro ⟨i,s⟩ ⟨hi,hs⟩
   simp only at hi hs ⊢
   by_cases hl:i<r.length
   ·have hlt:i.toNat<r.length:=by omega
    have hfit:N.fitP (rowP (r.getD i.toNat []))=true:=List.all_eq_true.1 h5 _ (by
     rw [List.getD_eq_getElem?_getD,List.getElem?_eq_getElem hlt]; exact List.mem_map_of_mem (List.getElem_mem _))
    obtain ⟨f1,f2⟩:=bcond hfit
    have f1:(V.toStr (List.getD (List.getD r i.toNat []) 0 V.undef)).length≤64:=ble_of f1
    have f2:(V.toStr (List.getD (List.getD r i.toNat []) 3 V.undef)).length≤64:=ble_of f2
    have u1:=wu64 (V.toInt (List.getD (List.getD r i.toNat []) 1 V.undef))
    have u2:=wu64 (V.toInt (List.getD (List.getD r i.toNat []) 2 V.undef))
    have o1:N.outText ⟨s,0⟩ (V.toStr (List.getD (List.getD r i.toNat []) 0 V.undef))=⟨s++N.textB (V.toStr (List.getD (List.getD r i.toNat []) 0 V.undef)),0⟩:=outText_le (by omega)
    have o2:∀ x:Bytes,N.outText ⟨x,0⟩ (V.toStr (List.getD (List.getD r i.toNat []) 3 V.undef))=⟨x++N.textB (V.toStr (List.getD (List.getD r i.toNat []) 3 V.undef)),0⟩:=fun x=>outText_le (by omega)
    rw [drop_pair hlt]
    have e:N.pairsB (rowP (r.getD i.toNat [])::(rowsP r).drop (i.toNat+1))=N.pairB (rowP (r.getD i.toNat []))++N.pairsB ((rowsP r).drop (i.toNat+1)):=rfl
    rw [e,← List.append_assoc]
    have hlen:(N.pairB (rowP (r.getD i.toNat []))).length≤150:=by
     unfold N.pairB rowP
     simp only [List.length_append,textB_len,numB_len]
     cases V.toInt (List.getD (List.getD r i.toNat []) 1 V.undef)==0<;>cases V.toInt (List.getD (List.getD r i.toNat []) 1 V.undef)==1<;>cases V.toInt (List.getD (List.getD r i.toNat []) 1 V.undef)==2<;>simp only [cond_true,cond_false,numB_len,textB_len,List.length_nil]<;>omega
    refine .inl ⟨(i+1,s++N.pairB (rowP (r.getD i.toNat []))),⟨by simp only; omega,by simp only [List.length_append]; omega⟩,by simp only; omega,fun K=>?_,fun K=>?_⟩
    ·rw [q_headBytesR]
     unfold N.pairB rowP
     simp (disch:=omega) only [evs,o1,o2,outNum_1,outNum_8,textB_len,numB_len,← List.append_assoc]
     cases V.toInt (List.getD (List.getD r i.toNat []) 1 V.undef)==0<;>cases V.toInt (List.getD (List.getD r i.toNat []) 1 V.undef)==1<;>cases V.toInt (List.getD (List.getD r i.toNat []) 1 V.undef)==2<;>simp only [cond_true,cond_false,List.append_nil]
    ·rw [show (i+1).toNat=i.toNat+1 by omega]
   ·refine .inr ⟨.exit 0,{ fr:=[(5,.ptr 10000 0 0 0)],tab:=[(10000,.var [.str s,.int .i64 0])] },by simp,fun K=>?_,fun K=>?_⟩
    ·rw [q_headBytesR]
     simp (disch:=omega) only [evs]
    ·rw [List.drop_eq_nil_of_le (by rw [rowsP_length]; omega)]
     show K _ { fr:=_,tab:=[(10000,.var [.str (s++[]),.int .i64 0])] }=_
     rw [List.append_nil]
  ·cases h
 ·refine (q_headBytes h).trans ?_
  show _=some (⟨.tup [.str (cond (N.headCheck h != 0) (([]:Bytes),N.headCheck h) (N.headBytes h,0)).1,.int .i64 (cond (N.headCheck h != 0) (([]:Bytes),N.headCheck h) (N.headBytes h,0)).2],[],[]⟩:DRes)
  cases hc:N.headCheck h != 0 with
  | true =>
   simp (disch:=omega) only [evs,pairs_enc,hc]
  | false =>
   have hz:N.headCheck h=0:=by simpa using hc
   obtain ⟨c1,c2⟩:=check_fit hz
   have u:=wu64 (h.length:Int)
   have ul:IntKind.wrap .u64 (h.length:Int)=h.length:=wrap_u64 (by omega) (by omega)
   simp (disch:=omega) only [evs,pairs_enc,hc,ul,outNum_1,c2,List.drop_zero,List.nil_append]
   try rfl
end Go.Ev

/- The program's functions that read heads answer what the plain ones do: lemmas. -/
namespace Go.Ev
open Go Go.Proofs
set_option maxRecDepth 100000
end Go.Ev

/- The program's functions that read heads,those with loops,answer what the plain ones do: lemmas. -/
namespace Go.Ev
open Go Go.Proofs
set_option maxRecDepth 100000
namespace N
def hl:Nat→InS→List (List V)→Bool × List (List V) × InS
 | 0,i,rows=>(true,rows,i)
 | k+1,i,rows=>cond ((bad (one i).1 (rowsP rows) (one i).2).err != 0) (false,[],bad (one i).1 (rowsP rows) (one i).2) (hl k (bad (one i).1 (rowsP rows) (one i).2) (rows++[cPair.enc (one i).1]))
end N
namespace N
end N
def schRefPair:SSch:={ fr:=[(2,.ptr 10000 0 0),(57,.slc [.str,.int .u8,.int .i64,.str]),(58,.int .i64),(59,.int .i64)],tab:=[(10000,.var [.str,.int .u8,.int .i64,.str])] }
def gRefPair:List Leaf→(Ex→St→Option R)→Option R
 | [.r r57,.i i58,.i i59,.s sx0,.i _,.i _,.s _],K=>cond (i58==r57.length) (cond (ile 0 i59) (cond (Nat.ble r57.length LIM)
   (cond (ile 0 (N.findIx sx0 ((rowsP r57).drop i59.toNat) i59)) (K .ret { fr:=[(4,.int .i64 9)],tab:=[] }) (K (.exit 0) { fr:=[],tab:=[] })) none) none) none
 | _,_=>none
noncomputable def eRefPair:Env:=env Tryz.prog [(125,dName)] [(13,loopF schRefPair gRefPair)] [(13,[(0,[2,57,58,59]),(1,[]),(1000,[4])])]
theorem q_refPair (p:HPair) (l:List HPair):evFn eRefPair 79 (((aCons (vAgg cPair) (aOne (vSl cPair))).enc (p,l))) ([]) some =
 cond (N.name (HPair.key p) != (0:Int)) (some {v:=V.int .i64 (N.name (HPair.key p)),bx:=[]:DRes}) (cond (ilt (2:Int) (HPair.kind p)) (some {v:=V.int .i64 (8:Int),bx:=[]:DRes}) (cond (HPair.kind p==(1:Int)) (cond (ilt (64:Int) (↑(List.length (HPair.text p)):Int)) (some {v:=V.int .i64 (5:Int),bx:=[]:DRes}) (cond (HPair.kind p==(2:Int)) (cond (ilt (HPair.num p) (0:Int)) (some {v:=V.int .i64 (7:Int),bx:=[]:DRes}) (cond (ilt (1:Int) (HPair.num p)) (some {v:=V.int .i64 (7:Int),bx:=[]:DRes}) (cond (HPair.kind p==(1:Int)) (cond (HPair.num p != (0:Int)) (some {v:=V.int .i64 (4:Int),bx:=[]:DRes}) (cond (HPair.kind p != (1:Int)) (cond (!HPair.text p==[]) (some {v:=V.int .i64 (4:Int),bx:=[]:DRes}) (cond ((↑(List.length (List.map (fun p=>[V.str (HPair.key p),V.int .u8 (HPair.kind p),V.int .i64 (HPair.num p),V.str (HPair.text p)]) l)):Int)==(↑(List.length (List.map (fun p=>[V.str (HPair.key p),V.int .u8 (HPair.kind p),V.int .i64 (HPair.num p),V.str (HPair.text p)]) l)):Int)) (cond (Nat.ble (List.length (List.map (fun p=>[V.str (HPair.key p),V.int .u8 (HPair.kind p),V.int .i64 (HPair.num p),V.str (HPair.text p)]) l)) 1000000) (cond (ile (0:Int) (N.findIx (HPair.key p) (List.drop 0 (List.map (fun r=>{key:=V.toStr (List.getD r 0 .undef),kind:=V.toInt (List.getD r 1 .undef),num:=V.toInt (List.getD r 2 .undef),text:=V.toStr (List.getD r 3 .undef):HPair}) (List.map (fun p=>[V.str (HPair.key p),V.int .u8 (HPair.kind p),V.int .i64 (HPair.num p),V.str (HPair.text p)]) l))) (0:Int))) (some {v:=V.int .i64 (9:Int),bx:=[]:DRes}) (some {v:=V.int .i64 (0:Int),bx:=[]:DRes})) (none)) (none))) (cond ((↑(List.length (List.map (fun p=>[V.str (HPair.key p),V.int .u8 (HPair.kind p),V.int .i64 (HPair.num p),V.str (HPair.text p)]) l)):Int)==(↑(List.length (List.map (fun p=>[V.str (HPair.key p),V.int .u8 (HPair.kind p),V.int .i64 (HPair.num p),V.str (HPair.text p)]) l)):Int)) (cond (Nat.ble (List.length (List.map (fun p=>[V.str (HPair.key p),V.int .u8 (HPair.kind p),V.int .i64 (HPair.num p),V.str (HPair.text p)]) l)) 1000000) (cond (ile (0:Int) (N.findIx (HPair.key p) (List.drop 0 (List.map (fun r=>{key:=V.toStr (List.getD r 0 .undef),kind:=V.toInt (List.getD r 1 .undef),num:=V.toInt (List.getD r 2 .undef),text:=V.toStr (List.getD r 3 .undef):HPair}) (List.map (fun p=>[V.str (HPair.key p),V.int .u8 (HPair.kind p),V.int .i64 (HPair.num p),V.str (HPair.text p)]) l))) (0:Int))) (some {v:=V.int .i64 (9:Int),bx:=[]:DRes}) (some {v:=V.int .i64 (0:Int),bx:=[]:DRes})) (none)) (none)))) (cond (HPair.kind p != (1:Int)) (cond (!HPair.text p==[]) (some {v:=V.int .i64 (4:Int),bx:=[]:DRes}) (cond ((↑(List.length (List.map (fun p=>[V.str (HPair.key p),V.int .u8 (HPair.kind p),V.int .i64 (HPair.num p),V.str (HPair.text p)]) l)):Int)==(↑(List.length (List.map (fun p=>[V.str (HPair.key p),V.int .u8 (HPair.kind p),V.int .i64 (HPair.num p),V.str (HPair.text p)]) l)):Int)) (cond (Nat.ble (List.length (List.map (fun p=>[V.str (HPair.key p),V.int .u8 (HPair.kind p),V.int .i64 (HPair.num p),V.str (HPair.text p)]) l)) 1000000) (cond (ile (0:Int) (N.findIx (HPair.key p) (List.drop 0 (List.map (fun r=>{key:=V.toStr (List.getD r 0 .undef),kind:=V.toInt (List.getD r 1 .undef),num:=V.toInt (List.getD r 2 .undef),text:=V.toStr (List.getD r 3 .undef):HPair}) (List.map (fun p=>[V.str (HPair.key p),V.int .u8 (HPair.kind p),V.int .i64 (HPair.num p),V.str (HPair.text p)]) l))) (0:Int))) (some {v:=V.int .i64 (9:Int),bx:=[]:DRes}) (some {v:=V.int .i64 (0:Int),bx:=[]:DRes})) (none)) (none))) (cond ((↑(List.length (List.map (fun p=>[V.str (HPair.key p),V.int .u8 (HPair.kind p),V.int .i64 (HPair.num p),V.str (HPair.text p)]) l)):Int)==(↑(List.length (List.map (fun p=>[V.str (HPair.key p),V.int .u8 (HPair.kind p),V.int .i64 (HPair.num p),V.str (HPair.text p)]) l)):Int)) (cond (Nat.ble (List.length (List.map (fun p=>[V.str (HPair.key p),V.int .u8 (HPair.kind p),V.int .i64 (HPair.num p),V.str (HPair.text p)]) l)) 1000000) (cond (ile (0:Int) (N.findIx (HPair.key p) (List.drop 0 (List.map (fun r=>{key:=V.toStr (List.getD r 0 .undef),kind:=V.toInt (List.getD r 1 .undef),num:=V.toInt (List.getD r 2 .undef),text:=V.toStr (List.getD r 3 .undef):HPair}) (List.map (fun p=>[V.str (HPair.key p),V.int .u8 (HPair.kind p),V.int .i64 (HPair.num p),V.str (HPair.text p)]) l))) (0:Int))) (some {v:=V.int .i64 (9:Int),bx:=[]:DRes}) (some {v:=V.int .i64 (0:Int),bx:=[]:DRes})) (none)) (none)))))) (cond (HPair.kind p==(1:Int)) (cond (HPair.num p != (0:Int)) (some {v:=V.int .i64 (4:Int),bx:=[]:DRes}) (cond (HPair.kind p != (1:Int)) (cond (!HPair.text p==[]) (some {v:=V.int .i64 (4:Int),bx:=[]:DRes}) (cond ((↑(List.length (List.map (fun p=>[V.str (HPair.key p),V.int .u8 (HPair.kind p),V.int .i64 (HPair.num p),V.str (HPair.text p)]) l)):Int)==(↑(List.length (List.map (fun p=>[V.str (HPair.key p),V.int .u8 (HPair.kind p),V.int .i64 (HPair.num p),V.str (HPair.text p)]) l)):Int)) (cond (Nat.ble (List.length (List.map (fun p=>[V.str (HPair.key p),V.int .u8 (HPair.kind p),V.int .i64 (HPair.num p),V.str (HPair.text p)]) l)) 1000000) (cond (ile (0:Int) (N.findIx (HPair.key p) (List.drop 0 (List.map (fun r=>{key:=V.toStr (List.getD r 0 .undef),kind:=V.toInt (List.getD r 1 .undef),num:=V.toInt (List.getD r 2 .undef),text:=V.toStr (List.getD r 3 .undef):HPair}) (List.map (fun p=>[V.str (HPair.key p),V.int .u8 (HPair.kind p),V.int .i64 (HPair.num p),V.str (HPair.text p)]) l))) (0:Int))) (some {v:=V.int .i64 (9:Int),bx:=[]:DRes}) (some {v:=V.int .i64 (0:Int),bx:=[]:DRes})) (none)) (none))) (cond ((↑(List.length (List.map (fun p=>[V.str (HPair.key p),V.int .u8 (HPair.kind p),V.int .i64 (HPair.num p),V.str (HPair.text p)]) l)):Int)==(↑(List.length (List.map (fun p=>[V.str (HPair.key p),V.int .u8 (HPair.kind p),V.int .i64 (HPair.num p),V.str (HPair.text p)]) l)):Int)) (cond (Nat.ble (List.length (List.map (fun p=>[V.str (HPair.key p),V.int .u8 (HPair.kind p),V.int .i64 (HPair.num p),V.str (HPair.text p)]) l)) 1000000) (cond (ile (0:Int) (N.findIx (HPair.key p) (List.drop 0 (List.map (fun r=>{key:=V.toStr (List.getD r 0 .undef),kind:=V.toInt (List.getD r 1 .undef),num:=V.toInt (List.getD r 2 .undef),text:=V.toStr (List.getD r 3 .undef):HPair}) (List.map (fun p=>[V.str (HPair.key p),V.int .u8 (HPair.kind p),V.int .i64 (HPair.num p),V.str (HPair.text p)]) l))) (0:Int))) (some {v:=V.int .i64 (9:Int),bx:=[]:DRes}) (some {v:=V.int .i64 (0:Int),bx:=[]:DRes})) (none)) (none)))) (cond (HPair.kind p != (1:Int)) (cond (!HPair.text p==[]) (some {v:=V.int .i64 (4:Int),bx:=[]:DRes}) (cond ((↑(List.length (List.map (fun p=>[V.str (HPair.key p),V.int .u8 (HPair.kind p),V.int .i64 (HPair.num p),V.str (HPair.text p)]) l)):Int)==(↑(List.length (List.map (fun p=>[V.str (HPair.key p),V.int .u8 (HPair.kind p),V.int .i64 (HPair.num p),V.str (HPair.text p)]) l)):Int)) (cond (Nat.ble (List.length (List.map (fun p=>[V.str (HPair.key p),V.int .u8 (HPair.kind p),V.int .i64 (HPair.num p),V.str (HPair.text p)]) l)) 1000000) (cond (ile (0:Int) (N.findIx (HPair.key p) (List.drop 0 (List.map (fun r=>{key:=V.toStr (List.getD r 0 .undef),kind:=V.toInt (List.getD r 1 .undef),num:=V.toInt (List.getD r 2 .undef),text:=V.toStr (List.getD r 3 .undef):HPair}) (List.map (fun p=>[V.str (HPair.key p),V.int .u8 (HPair.kind p),V.int .i64 (HPair.num p),V.str (HPair.text p)]) l))) (0:Int))) (some {v:=V.int .i64 (9:Int),bx:=[]:DRes}) (some {v:=V.int .i64 (0:Int),bx:=[]:DRes})) (none)) (none))) (cond ((↑(List.length (List.map (fun p=>[V.str (HPair.key p),V.int .u8 (HPair.kind p),V.int .i64 (HPair.num p),V.str (HPair.text p)]) l)):Int)==(↑(List.length (List.map (fun p=>[V.str (HPair.key p),V.int .u8 (HPair.kind p),V.int .i64 (HPair.num p),V.str (HPair.text p)]) l)):Int)) (cond (Nat.ble (List.length (List.map (fun p=>[V.str (HPair.key p),V.int .u8 (HPair.kind p),V.int .i64 (HPair.num p),V.str (HPair.text p)]) l)) 1000000) (cond (ile (0:Int) (N.findIx (HPair.key p) (List.drop 0 (List.map (fun r=>{key:=V.toStr (List.getD r 0 .undef),kind:=V.toInt (List.getD r 1 .undef),num:=V.toInt (List.getD r 2 .undef),text:=V.toStr (List.getD r 3 .undef):HPair}) (List.map (fun p=>[V.str (HPair.key p),V.int .u8 (HPair.kind p),V.int .i64 (HPair.num p),V.str (HPair.text p)]) l))) (0:Int))) (some {v:=V.int .i64 (9:Int),bx:=[]:DRes}) (some {v:=V.int .i64 (0:Int),bx:=[]:DRes})) (none)) (none)))))) (cond (HPair.kind p==(2:Int)) (cond (ilt (HPair.num p) (0:Int)) (some {v:=V.int .i64 (7:Int),bx:=[]:DRes}) (cond (ilt (1:Int) (HPair.num p)) (some {v:=V.int .i64 (7:Int),bx:=[]:DRes}) (cond (HPair.kind p==(1:Int)) (cond (HPair.num p != (0:Int)) (some {v:=V.int .i64 (4:Int),bx:=[]:DRes}) (cond (HPair.kind p != (1:Int)) (cond (!HPair.text p==[]) (some {v:=V.int .i64 (4:Int),bx:=[]:DRes}) (cond ((↑(List.length (List.map (fun p=>[V.str (HPair.key p),V.int .u8 (HPair.kind p),V.int .i64 (HPair.num p),V.str (HPair.text p)]) l)):Int)==(↑(List.length (List.map (fun p=>[V.str (HPair.key p),V.int .u8 (HPair.kind p),V.int .i64 (HPair.num p),V.str (HPair.text p)]) l)):Int)) (cond (Nat.ble (List.length (List.map (fun p=>[V.str (HPair.key p),V.int .u8 (HPair.kind p),V.int .i64 (HPair.num p),V.str (HPair.text p)]) l)) 1000000) (cond (ile (0:Int) (N.findIx (HPair.key p) (List.drop 0 (List.map (fun r=>{key:=V.toStr (List.getD r 0 .undef),kind:=V.toInt (List.getD r 1 .undef),num:=V.toInt (List.getD r 2 .undef),text:=V.toStr (List.getD r 3 .undef):HPair}) (List.map (fun p=>[V.str (HPair.key p),V.int .u8 (HPair.kind p),V.int .i64 (HPair.num p),V.str (HPair.text p)]) l))) (0:Int))) (some {v:=V.int .i64 (9:Int),bx:=[]:DRes}) (some {v:=V.int .i64 (0:Int),bx:=[]:DRes})) (none)) (none))) (cond ((↑(List.length (List.map (fun p=>[V.str (HPair.key p),V.int .u8 (HPair.kind p),V.int .i64 (HPair.num p),V.str (HPair.text p)]) l)):Int)==(↑(List.length (List.map (fun p=>[V.str (HPair.key p),V.int .u8 (HPair.kind p),V.int .i64 (HPair.num p),V.str (HPair.text p)]) l)):Int)) (cond (Nat.ble (List.length (List.map (fun p=>[V.str (HPair.key p),V.int .u8 (HPair.kind p),V.int .i64 (HPair.num p),V.str (HPair.text p)]) l)) 1000000) (cond (ile (0:Int) (N.findIx (HPair.key p) (List.drop 0 (List.map (fun r=>{key:=V.toStr (List.getD r 0 .undef),kind:=V.toInt (List.getD r 1 .undef),num:=V.toInt (List.getD r 2 .undef),text:=V.toStr (List.getD r 3 .undef):HPair}) (List.map (fun p=>[V.str (HPair.key p),V.int .u8 (HPair.kind p),V.int .i64 (HPair.num p),V.str (HPair.text p)]) l))) (0:Int))) (some {v:=V.int .i64 (9:Int),bx:=[]:DRes}) (some {v:=V.int .i64 (0:Int),bx:=[]:DRes})) (none)) (none)))) (cond (HPair.kind p != (1:Int)) (cond (!HPair.text p==[]) (some {v:=V.int .i64 (4:Int),bx:=[]:DRes}) (cond ((↑(List.length (List.map (fun p=>[V.str (HPair.key p),V.int .u8 (HPair.kind p),V.int .i64 (HPair.num p),V.str (HPair.text p)]) l)):Int)==(↑(List.length (List.map (fun p=>[V.str (HPair.key p),V.int .u8 (HPair.kind p),V.int .i64 (HPair.num p),V.str (HPair.text p)]) l)):Int)) (cond (Nat.ble (List.length (List.map (fun p=>[V.str (HPair.key p),V.int .u8 (HPair.kind p),V.int .i64 (HPair.num p),V.str (HPair.text p)]) l)) 1000000) (cond (ile (0:Int) (N.findIx (HPair.key p) (List.drop 0 (List.map (fun r=>{key:=V.toStr (List.getD r 0 .undef),kind:=V.toInt (List.getD r 1 .undef),num:=V.toInt (List.getD r 2 .undef),text:=V.toStr (List.getD r 3 .undef):HPair}) (List.map (fun p=>[V.str (HPair.key p),V.int .u8 (HPair.kind p),V.int .i64 (HPair.num p),V.str (HPair.text p)]) l))) (0:Int))) (some {v:=V.int .i64 (9:Int),bx:=[]:DRes}) (some {v:=V.int .i64 (0:Int),bx:=[]:DRes})) (none)) (none))) (cond ((↑(List.length (List.map (fun p=>[V.str (HPair.key p),V.int .u8 (HPair.kind p),V.int .i64 (HPair.num p),V.str (HPair.text p)]) l)):Int)==(↑(List.length (List.map (fun p=>[V.str (HPair.key p),V.int .u8 (HPair.kind p),V.int .i64 (HPair.num p),V.str (HPair.text p)]) l)):Int)) (cond (Nat.ble (List.length (List.map (fun p=>[V.str (HPair.key p),V.int .u8 (HPair.kind p),V.int .i64 (HPair.num p),V.str (HPair.text p)]) l)) 1000000) (cond (ile (0:Int) (N.findIx (HPair.key p) (List.drop 0 (List.map (fun r=>{key:=V.toStr (List.getD r 0 .undef),kind:=V.toInt (List.getD r 1 .undef),num:=V.toInt (List.getD r 2 .undef),text:=V.toStr (List.getD r 3 .undef):HPair}) (List.map (fun p=>[V.str (HPair.key p),V.int .u8 (HPair.kind p),V.int .i64 (HPair.num p),V.str (HPair.text p)]) l))) (0:Int))) (some {v:=V.int .i64 (9:Int),bx:=[]:DRes}) (some {v:=V.int .i64 (0:Int),bx:=[]:DRes})) (none)) (none)))))) (cond (HPair.kind p==(1:Int)) (cond (HPair.num p != (0:Int)) (some {v:=V.int .i64 (4:Int),bx:=[]:DRes}) (cond (HPair.kind p != (1:Int)) (cond (!HPair.text p==[]) (some {v:=V.int .i64 (4:Int),bx:=[]:DRes}) (cond ((↑(List.length (List.map (fun p=>[V.str (HPair.key p),V.int .u8 (HPair.kind p),V.int .i64 (HPair.num p),V.str (HPair.text p)]) l)):Int)==(↑(List.length (List.map (fun p=>[V.str (HPair.key p),V.int .u8 (HPair.kind p),V.int .i64 (HPair.num p),V.str (HPair.text p)]) l)):Int)) (cond (Nat.ble (List.length (List.map (fun p=>[V.str (HPair.key p),V.int .u8 (HPair.kind p),V.int .i64 (HPair.num p),V.str (HPair.text p)]) l)) 1000000) (cond (ile (0:Int) (N.findIx (HPair.key p) (List.drop 0 (List.map (fun r=>{key:=V.toStr (List.getD r 0 .undef),kind:=V.toInt (List.getD r 1 .undef),num:=V.toInt (List.getD r 2 .undef),text:=V.toStr (List.getD r 3 .undef):HPair}) (List.map (fun p=>[V.str (HPair.key p),V.int .u8 (HPair.kind p),V.int .i64 (HPair.num p),V.str (HPair.text p)]) l))) (0:Int))) (some {v:=V.int .i64 (9:Int),bx:=[]:DRes}) (some {v:=V.int .i64 (0:Int),bx:=[]:DRes})) (none)) (none))) (cond ((↑(List.length (List.map (fun p=>[V.str (HPair.key p),V.int .u8 (HPair.kind p),V.int .i64 (HPair.num p),V.str (HPair.text p)]) l)):Int)==(↑(List.length (List.map (fun p=>[V.str (HPair.key p),V.int .u8 (HPair.kind p),V.int .i64 (HPair.num p),V.str (HPair.text p)]) l)):Int)) (cond (Nat.ble (List.length (List.map (fun p=>[V.str (HPair.key p),V.int .u8 (HPair.kind p),V.int .i64 (HPair.num p),V.str (HPair.text p)]) l)) 1000000) (cond (ile (0:Int) (N.findIx (HPair.key p) (List.drop 0 (List.map (fun r=>{key:=V.toStr (List.getD r 0 .undef),kind:=V.toInt (List.getD r 1 .undef),num:=V.toInt (List.getD r 2 .undef),text:=V.toStr (List.getD r 3 .undef):HPair}) (List.map (fun p=>[V.str (HPair.key p),V.int .u8 (HPair.kind p),V.int .i64 (HPair.num p),V.str (HPair.text p)]) l))) (0:Int))) (some {v:=V.int .i64 (9:Int),bx:=[]:DRes}) (some {v:=V.int .i64 (0:Int),bx:=[]:DRes})) (none)) (none)))) (cond (HPair.kind p != (1:Int)) (cond (!HPair.text p==[]) (some {v:=V.int .i64 (4:Int),bx:=[]:DRes}) (cond ((↑(List.length (List.map (fun p=>[V.str (HPair.key p),V.int .u8 (HPair.kind p),V.int .i64 (HPair.num p),V.str (HPair.text p)]) l)):Int)==(↑(List.length (List.map (fun p=>[V.str (HPair.key p),V.int .u8 (HPair.kind p),V.int .i64 (HPair.num p),V.str (HPair.text p)]) l)):Int)) (cond (Nat.ble (List.length (List.map (fun p=>[V.str (HPair.key p),V.int .u8 (HPair.kind p),V.int .i64 (HPair.num p),V.str (HPair.text p)]) l)) 1000000) (cond (ile (0:Int) (N.findIx (HPair.key p) (List.drop 0 (List.map (fun r=>{key:=V.toStr (List.getD r 0 .undef),kind:=V.toInt (List.getD r 1 .undef),num:=V.toInt (List.getD r 2 .undef),text:=V.toStr (List.getD r 3 .undef):HPair}) (List.map (fun p=>[V.str (HPair.key p),V.int .u8 (HPair.kind p),V.int .i64 (HPair.num p),V.str (HPair.text p)]) l))) (0:Int))) (some {v:=V.int .i64 (9:Int),bx:=[]:DRes}) (some {v:=V.int .i64 (0:Int),bx:=[]:DRes})) (none)) (none))) (cond ((↑(List.length (List.map (fun p=>[V.str (HPair.key p),V.int .u8 (HPair.kind p),V.int .i64 (HPair.num p),V.str (HPair.text p)]) l)):Int)==(↑(List.length (List.map (fun p=>[V.str (HPair.key p),V.int .u8 (HPair.kind p),V.int .i64 (HPair.num p),V.str (HPair.text p)]) l)):Int)) (cond (Nat.ble (List.length (List.map (fun p=>[V.str (HPair.key p),V.int .u8 (HPair.kind p),V.int .i64 (HPair.num p),V.str (HPair.text p)]) l)) 1000000) (cond (ile (0:Int) (N.findIx (HPair.key p) (List.drop 0 (List.map (fun r=>{key:=V.toStr (List.getD r 0 .undef),kind:=V.toInt (List.getD r 1 .undef),num:=V.toInt (List.getD r 2 .undef),text:=V.toStr (List.getD r 3 .undef):HPair}) (List.map (fun p=>[V.str (HPair.key p),V.int .u8 (HPair.kind p),V.int .i64 (HPair.num p),V.str (HPair.text p)]) l))) (0:Int))) (some {v:=V.int .i64 (9:Int),bx:=[]:DRes}) (some {v:=V.int .i64 (0:Int),bx:=[]:DRes})) (none)) (none))))))):=by kernel_rfl
theorem q_refPairR (r57:List (List V)) (i58:Int) (i59:Int) (sx0:Bytes) (ix0:Int) (ix0_1:Int) (sx0_1:Bytes) (K:Ex→St→Option R):evRound eRefPair 79 13 { fr:=[(2,.ptr 10000 0 0 0),(57,.slc [.str,.int .u8,.int .i64,.str] r57),(58,.int .i64 i58),(59,.int .i64 i59)],tab:=[(10000,.var [.str sx0,.int .u8 ix0,.int .i64 ix0_1,.str sx0_1])] } K =
 cond (ilt i59 i58) (cond (decide ((0:Int)≤i59∧i59<(↑(List.length r57):Int))) (cond (V.toStr (List.getD (List.getD r57 (Int.toNat i59) []) 0 V.undef)==sx0) (K Ex.ret {fr:=[(4,V.int .i64 (9:Int))],tab:=[]:St}) (K Ex.normal {fr:=[(2,V.ptr 10000 0 0 0),(57,V.slc [.str,.int .u8,.int .i64,.str] r57),(58,V.int .i64 i58),(59,V.int .i64 (IntKind.wrap .i64 (i59+(1:Int))))],tab:=[(10000,Box.var [V.str sx0,V.int .u8 ix0,V.int .i64 ix0_1,V.str sx0_1])]:St})) (none)) (K (Ex.exit 0) {fr:=[],tab:=[]:St}):=by kernel_rfl
theorem ok_refPair:FnOk Tryz.prog 79 dPairE:=by
 refine den_okF (env_ok ((TOk.nil _).cons ok_refName)) (E:=eRefPair) Tryz.func79 [13] (by kernel_rfl) (one1 (rounds_of rfl fun l K q h=>?_)) fun a _ h=>?_
 ·unfold gRefPair at h
  split at h
  ·rename_i r n i key x1 x2 x3
   have h1:=(cond_none h).1; replace h:=(cond_none h).2; have h2:=(cond_none h).1; replace h:=(cond_none h).2; have h3:=(cond_none h).1; replace h:=(cond_none h).2
   have e1:=ieq_of h1
   subst e1
   have h3:r.length≤1000000:=ble_of h3
   refine loop_ind (E:=eRefPair) (f:=79) (id:=13) (fun i:Int=>{ fr:=[(2,.ptr 10000 0 0 0),(57,.slc [.str,.int .u8,.int .i64,.str] r),(58,.int .i64 r.length),(59,.int .i64 i)],tab:=[(10000,.var [.str key,.int .u8 x1,.int .i64 x2,.str x3])] }) (fun i=>0≤i) (fun i=>r.length-i.toNat)
    (fun i K=>cond (ile 0 (N.findIx key ((rowsP r).drop i.toNat) i)) (K .ret { fr:=[(4,.int .i64 9)],tab:=[] }) (K (.exit 0) { fr:=[],tab:=[] })) (fun i hi=>?_) i (ile_of h2) K q (by assumption)
   by_cases hl:i<r.length
   ·rw [drop_pair (show i.toNat<r.length by omega)]
    have e:N.findIx key (rowP (r.getD i.toNat [])::(rowsP r).drop (i.toNat+1)) i=cond ((rowP (r.getD i.toNat [])).key==key) i (N.findIx key ((rowsP r).drop (i.toNat+1)) (i+1)):=rfl
    rw [e]
    cases hc:(rowP (r.getD i.toNat [])).key==key with
    | true =>
     rw [cond_true,ile_t hi]
     refine .inr ⟨.ret,{ fr:=[(4,.int .i64 9)],tab:=[] },by simp,fun K=>?_,fun K=>rfl⟩
     rw [q_refPairR]
     unfold rowP at hc
     simp (disch:=omega) only [evs,hc]
    | false =>
     refine .inl ⟨i+1,by omega,by omega,fun K=>?_,fun K=>?_⟩
     ·rw [q_refPairR]
      unfold rowP at hc
      simp (disch:=omega) only [evs,hc]
     ·rw [cond_false,show (i+1).toNat=i.toNat+1 by omega]
   ·refine .inr ⟨.exit 0,{ fr:=[],tab:=[] },by simp,fun K=>?_,fun K=>?_⟩
    ·rw [q_refPairR]
     simp (disch:=omega) only [evs]
    ·rw [List.drop_eq_nil_of_le (by rw [rowsP_length]; omega)]; rfl
  ·cases h
 ·obtain ⟨p,l⟩:=a
  have h:l.length≤1000000:=ble_of h
  refine (q_refPair p l).trans ?_
  show _=some (⟨.int .i64 (N.pairE p l),[],[]⟩:DRes)
  unfold N.pairE N.find
  have en:(cond (p.num != 0) (p.num != 1) false)=cond (ilt p.num 0) true (ilt 1 p.num):=by
   rcases (by omega:p.num<0∨p.num=0∨p.num=1∨1<p.num) with h | h | h | h
   ·simp (disch:=omega) only [evs]
   ·rw [h]; rfl
   ·rw [h]; rfl
   ·simp (disch:=omega) only [evs]
  have en' : cond (cond (p.kind==2) (p.num != 0) false) (p.num != 1) false=cond (p.kind==2) (cond (ilt p.num 0) true (ilt 1 p.num)) false:=by
   rw [← en]; cases p.kind==2<;>rfl
  rw [en']
  have ef:(cond (ilt (N.findIx p.key l 0) 0) (pair0,false) (l.getD (N.findIx p.key l 0).toNat pair0,true)).2=ile 0 (N.findIx p.key l 0):=by
   by_cases h:N.findIx p.key l 0<0
   ·simp (disch:=omega) only [evs]
   ·simp (disch:=omega) only [evs]
  rw [ef]
  simp (disch:=omega) only [evs,pairs_enc,List.drop_zero,bne]
  cases hn:N.name p.key==0 with
  | false=>rfl
  | true =>
   cases ilt 2 p.kind with
   | true=>rfl
   | false =>
    cases p.kind==1<;>cases ilt 64 p.text.length<;>cases p.kind==2<;>cases ilt p.num 0<;>cases ilt 1 p.num<;>cases p.num==0<;>cases p.text==[]<;>cases ile 0 (N.findIx p.key l 0)<;>rfl
end Go.Ev

/- The document's function that checks heads answers what the plain one does: lemmas. -/
namespace Go.Ev
open Go Go.Proofs
set_option maxRecDepth 100000
def schRefCheck:SSch:={ fr:=[(0,.slc [.str,.int .u8,.int .i64,.str]),(9,.slc [.str,.int .u8,.int .i64,.str]),(10,.int .i64),(11,.int .i64)],tab:=[] }
def gRefCheck:List Leaf→(Ex→St→Option R)→Option R
 | [.r r0,.r r9,.i i10,.i i11],K=>cond (i10==r9.length) (cond (Nat.beq r0.length r9.length) (cond (ile 0 i11) (cond (Nat.ble r0.length LIM) (cond (N.samePs (rowsP r0) (rowsP r9))
   (cond (N.checkFrom (rowsP r9) (r9.length-i11.toNat) i11 != 0) (K .ret { fr:=[(2,.int .i64 (N.checkFrom (rowsP r9) (r9.length-i11.toNat) i11))],tab:=[] }) (K (.exit 0) { fr:=[],tab:=[] })) none) none) none) none) none
 | _,_=>none
noncomputable def eRefCheck:Env:=env Tryz.prog [(79,dPairE)] [(4,loopF schRefCheck gRefCheck)] [(4,[(0,[0,9,10,11]),(1,[]),(1000,[2])])]
theorem q_refCheck (h:List HPair):evFn eRefCheck 34 ((aOne (vSl cPair)).enc h) ([]) some =
 cond (ilt (8:Int) (↑(List.length (List.map (fun p=>[V.str (HPair.key p),V.int .u8 (HPair.kind p),V.int .i64 (HPair.num p),V.str (HPair.text p)]) h)):Int)) (some {v:=V.int .i64 (6:Int),bx:=[]:DRes}) (cond ((↑(List.length (List.map (fun p=>[V.str (HPair.key p),V.int .u8 (HPair.kind p),V.int .i64 (HPair.num p),V.str (HPair.text p)]) h)):Int)==(↑(List.length (List.map (fun p=>[V.str (HPair.key p),V.int .u8 (HPair.kind p),V.int .i64 (HPair.num p),V.str (HPair.text p)]) h)):Int)) (cond (Nat.beq (List.length (List.map (fun p=>[V.str (HPair.key p),V.int .u8 (HPair.kind p),V.int .i64 (HPair.num p),V.str (HPair.text p)]) h)) (List.length (List.map (fun p=>[V.str (HPair.key p),V.int .u8 (HPair.kind p),V.int .i64 (HPair.num p),V.str (HPair.text p)]) h))) (cond (Nat.ble (List.length (List.map (fun p=>[V.str (HPair.key p),V.int .u8 (HPair.kind p),V.int .i64 (HPair.num p),V.str (HPair.text p)]) h)) 1000000) (cond (N.samePs (List.map (fun r=>{key:=V.toStr (List.getD r 0 .undef),kind:=V.toInt (List.getD r 1 .undef),num:=V.toInt (List.getD r 2 .undef),text:=V.toStr (List.getD r 3 .undef):HPair}) (List.map (fun p=>[V.str (HPair.key p),V.int .u8 (HPair.kind p),V.int .i64 (HPair.num p),V.str (HPair.text p)]) h)) (List.map (fun r=>{key:=V.toStr (List.getD r 0 .undef),kind:=V.toInt (List.getD r 1 .undef),num:=V.toInt (List.getD r 2 .undef),text:=V.toStr (List.getD r 3 .undef):HPair}) (List.map (fun p=>[V.str (HPair.key p),V.int .u8 (HPair.kind p),V.int .i64 (HPair.num p),V.str (HPair.text p)]) h))) (cond (N.checkFrom (List.map (fun r=>{key:=V.toStr (List.getD r 0 .undef),kind:=V.toInt (List.getD r 1 .undef),num:=V.toInt (List.getD r 2 .undef),text:=V.toStr (List.getD r 3 .undef):HPair}) (List.map (fun p=>[V.str (HPair.key p),V.int .u8 (HPair.kind p),V.int .i64 (HPair.num p),V.str (HPair.text p)]) h)) (List.length (List.map (fun p=>[V.str (HPair.key p),V.int .u8 (HPair.kind p),V.int .i64 (HPair.num p),V.str (HPair.text p)]) h)-0) (0:Int) != (0:Int)) (some {v:=V.int .i64 (N.checkFrom (List.map (fun r=>{key:=V.toStr (List.getD r 0 .undef),kind:=V.toInt (List.getD r 1 .undef),num:=V.toInt (List.getD r 2 .undef),text:=V.toStr (List.getD r 3 .undef):HPair}) (List.map (fun p=>[V.str (HPair.key p),V.int .u8 (HPair.kind p),V.int .i64 (HPair.num p),V.str (HPair.text p)]) h)) (List.length (List.map (fun p=>[V.str (HPair.key p),V.int .u8 (HPair.kind p),V.int .i64 (HPair.num p),V.str (HPair.text p)]) h)-0) (0:Int)),bx:=[]:DRes}) (some {v:=V.int .i64 (0:Int),bx:=[]:DRes})) (none)) (none)) (none)) (none)):=by kernel_rfl
theorem q_refCheckR (r0:List (List V)) (r9:List (List V)) (i11:Int) (K:Ex→St→Option R):evRound eRefCheck 34 4 { fr:=[(0,.slc [.str,.int .u8,.int .i64,.str] r0),(9,.slc [.str,.int .u8,.int .i64,.str] r9),(10,.int .i64 r9.length),(11,.int .i64 i11)],tab:=[] } K =
 cond (ilt i11 (↑(List.length r9):Int)) (cond (decide ((0:Int)≤i11∧i11<(↑(List.length r9):Int))) (cond (decide ((0:Int)≤i11∧i11≤(↑(List.length r0):Int))) (cond (Nat.ble (List.length (List.map (fun r=>{key:=V.toStr (List.getD r 0 .undef),kind:=V.toInt (List.getD r 1 .undef),num:=V.toInt (List.getD r 2 .undef),text:=V.toStr (List.getD r 3 .undef):HPair}) (List.drop 0 (List.take (Int.toNat i11) r0)))) 1000000) (cond (N.pairE {key:=V.toStr (List.getD (List.getD r9 (Int.toNat i11) []) 0 V.undef),kind:=V.toInt (List.getD (List.getD r9 (Int.toNat i11) []) 1 V.undef),num:=V.toInt (List.getD (List.getD r9 (Int.toNat i11) []) 2 V.undef),text:=V.toStr (List.getD (List.getD r9 (Int.toNat i11) []) 3 V.undef):HPair} (List.map (fun r=>{key:=V.toStr (List.getD r 0 .undef),kind:=V.toInt (List.getD r 1 .undef),num:=V.toInt (List.getD r 2 .undef),text:=V.toStr (List.getD r 3 .undef):HPair}) (List.drop 0 (List.take (Int.toNat i11) r0))) != (0:Int)) (K Ex.ret {fr:=[(2,V.int .i64 (N.pairE {key:=V.toStr (List.getD (List.getD r9 (Int.toNat i11) []) 0 V.undef),kind:=V.toInt (List.getD (List.getD r9 (Int.toNat i11) []) 1 V.undef),num:=V.toInt (List.getD (List.getD r9 (Int.toNat i11) []) 2 V.undef),text:=V.toStr (List.getD (List.getD r9 (Int.toNat i11) []) 3 V.undef):HPair} (List.map (fun r=>{key:=V.toStr (List.getD r 0 .undef),kind:=V.toInt (List.getD r 1 .undef),num:=V.toInt (List.getD r 2 .undef),text:=V.toStr (List.getD r 3 .undef):HPair}) (List.drop 0 (List.take (Int.toNat i11) r0)))))],tab:=[]:St}) (K Ex.normal {fr:=[(0,V.slc [.str,.int .u8,.int .i64,.str] r0),(9,V.slc [.str,.int .u8,.int .i64,.str] r9),(10,V.int .i64 (↑(List.length r9):Int)),(11,V.int .i64 (IntKind.wrap .i64 (i11+(1:Int))))],tab:=[]:St})) (none)) (none)) (none)) (K (Ex.exit 0) {fr:=[],tab:=[]:St}):=by kernel_rfl
theorem ok_refCheck:FnOk Tryz.prog 34 dHeadCheck:=by
 refine den_okF (env_ok ((TOk.nil _).cons ok_refPair)) (E:=eRefCheck) Tryz.func34 [4] (by kernel_rfl) (one1 (rounds_of rfl fun l K q h=>?_)) fun h _ _=>?_
 ·unfold gRefCheck at h
  split at h
  ·rename_i r0 r n i
   have h1:=(cond_none h).1; replace h:=(cond_none h).2; have h2:=(cond_none h).1; replace h:=(cond_none h).2; have h3:=(cond_none h).1; replace h:=(cond_none h).2; have h4:=(cond_none h).1; replace h:=(cond_none h).2; have h5:=(cond_none h).1; replace h:=(cond_none h).2
   have e1:=ieq_of h1
   subst e1
   have h2:=Nat.eq_of_beq_eq_true h2
   have h4:r0.length≤1000000:=ble_of h4
   have h5:=samePs_eq h5
   refine loop_ind (E:=eRefCheck) (f:=34) (id:=4) (fun i:Int=>{ fr:=[(0,.slc [.str,.int .u8,.int .i64,.str] r0),(9,.slc [.str,.int .u8,.int .i64,.str] r),(10,.int .i64 r.length),(11,.int .i64 i)],tab:=[] }) (fun i=>0≤i) (fun i=>r.length-i.toNat)
    (fun i11 K=>cond (N.checkFrom (rowsP r) (r.length-i11.toNat) i11 != 0) (K .ret { fr:=[(2,.int .i64 (N.checkFrom (rowsP r) (r.length-i11.toNat) i11))],tab:=[] }) (K (.exit 0) { fr:=[],tab:=[] })) (fun i hi=>?_) i (ile_of h3) K q (by assumption)
   by_cases hl:i<r.length
   ·have e:N.checkFrom (rowsP r) (r.length-i.toNat) i=cond (N.pairE (rowP (r.getD i.toNat [])) ((rowsP r).take i.toNat) != 0) (N.pairE (rowP (r.getD i.toNat [])) ((rowsP r).take i.toNat)) (N.checkFrom (rowsP r) (r.length-(i+1).toNat) (i+1)):=by
     rw [show r.length-i.toNat=(r.length-(i+1).toNat)+1 by omega,N.checkFrom,rowsP_getD]
    rw [e]
    have hm:List.map rowP (List.take i.toNat r0)=(rowsP r).take i.toNat:=by rw [← h5,rowsP,List.map_take]
    unfold rowP at hm
    cases hc:N.pairE (rowP (r.getD i.toNat [])) ((rowsP r).take i.toNat) != 0 with
    | true =>
     rw [cond_true,hc]
     refine .inr ⟨.ret,_,by simp,fun K=>?_,fun K=>rfl⟩
     rw [q_refCheckR]
     unfold rowP at hc
     simp (disch:=omega) only [evs,hc,hm,List.length_take,List.drop_zero]
     try rfl
    | false =>
     refine .inl ⟨i+1,by omega,by omega,fun K=>?_,fun K=>?_⟩
     ·rw [q_refCheckR]
      unfold rowP at hc
      simp (disch:=omega) only [evs,hc,hm,List.length_take,List.drop_zero]
     ·rw [cond_false]
   ·refine .inr ⟨.exit 0,{ fr:=[],tab:=[] },by simp,fun K=>?_,fun K=>?_⟩
    ·rw [q_refCheckR]
     simp (disch:=omega) only [evs]
    ·rw [show r.length-i.toNat=0 by omega]; rfl
  ·cases h
 ·refine (q_refCheck h).trans ?_
  show _=some (⟨.int .i64 (N.headCheck h),[],[]⟩:DRes)
  unfold N.headCheck
  by_cases hl:8<h.length
  ·simp (disch:=omega) only [evs]
  ·simp (disch:=omega) only [evs,pairs_enc,samePs_refl,Nat.sub_zero]
   cases hc:N.checkFrom h h.length 0 != 0 with
   | true=>rfl
   | false =>
    have:N.checkFrom h h.length 0=0:=by simpa using hc
    rw [this]; rfl
end Go.Ev

/- The functions on rules answer what the plain ones do: lemmas,no condition. -/
namespace Go.Ev
open Go Go.Proofs
set_option maxRecDepth 100000
noncomputable def eRuleCheck:Env:=env Tryz.prog [(149,dKey),(150,dPattern),(151,dHeadCheck)] [] []
theorem q_ruleCheck (r:HRule):evFn eRuleCheck 119 ((aOne (vAgg cRule)).enc r) ([]) some =
 cond (ilt (3:Int) (HRule.sort r)) (some {v:=V.int .i64 (8:Int),bx:=[]:DRes}) (cond (HRule.sort r==(0:Int)) (cond (N.key (HRule.key r) [] != (0:Int)) (some {v:=V.int .i64 (N.key (HRule.key r) []),bx:=[]:DRes}) (some {v:=V.int .i64 (N.headCheck (List.map (fun r=>{key:=V.toStr (List.getD r 0 .undef),kind:=V.toInt (List.getD r 1 .undef),num:=V.toInt (List.getD r 2 .undef),text:=V.toStr (List.getD r 3 .undef):HPair}) (List.map (fun p=>[V.str (HPair.key p),V.int .u8 (HPair.kind p),V.int .i64 (HPair.num p),V.str (HPair.text p)]) (HRule.want r)))),bx:=[]:DRes})) (cond (N.key (HRule.key r) [[(42:UInt8)],[(35:UInt8)]] != (0:Int)) (some {v:=V.int .i64 (N.key (HRule.key r) [[(42:UInt8)],[(35:UInt8)]]),bx:=[]:DRes}) (some {v:=V.int .i64 (N.headCheck (List.map (fun r=>{key:=V.toStr (List.getD r 0 .undef),kind:=V.toInt (List.getD r 1 .undef),num:=V.toInt (List.getD r 2 .undef),text:=V.toStr (List.getD r 3 .undef):HPair}) (List.map (fun p=>[V.str (HPair.key p),V.int .u8 (HPair.kind p),V.int .i64 (HPair.num p),V.str (HPair.text p)]) (HRule.want r)))),bx:=[]:DRes}))):=by kernel_rfl
theorem ok_ruleCheck:FnOk Tryz.prog 119 dRuleCheck:=by
 refine den_okF (env_ok ((((TOk.nil _).cons ok_headCheck).cons ok_pattern).cons ok_key)) (E:=eRuleCheck) Tryz.func119 [] (by kernel_rfl) none0 fun r _ _=>?_
 refine (q_ruleCheck r).trans ?_
 show _=some (⟨.int .i64 (N.ruleCheck r),[],[]⟩:DRes)
 unfold N.ruleCheck
 simp only [pairs_enc]
 cases ilt 3 r.sort with
 | true=>rfl
 | false =>
  cases r.sort==0 with
  | true=>cases h:N.key r.key [] != 0<;>first | rfl | simp only [cond_true,cond_false,h]
  | false=>cases h:N.key r.key [[42],[35]] != 0<;>first | rfl | simp only [cond_true,cond_false,h]
noncomputable def eRefRuleCheck:Env:=env Tryz.prog [(32,dRefKey),(34,dHeadCheck)] [] []
theorem q_refRuleCheck (r:HRule):evFn eRefRuleCheck 130 ((aOne (vAgg cRule)).enc r) ([]) some =
 cond (ilt (3:Int) (HRule.sort r)) (some {v:=V.int .i64 (8:Int),bx:=[]:DRes}) (cond (N.refKey (HRule.key r) (ilt (0:Int) (HRule.sort r)) != (0:Int)) (some {v:=V.int .i64 (N.refKey (HRule.key r) (ilt (0:Int) (HRule.sort r))),bx:=[]:DRes}) (some {v:=V.int .i64 (N.headCheck (List.map (fun r=>{key:=V.toStr (List.getD r 0 .undef),kind:=V.toInt (List.getD r 1 .undef),num:=V.toInt (List.getD r 2 .undef),text:=V.toStr (List.getD r 3 .undef):HPair}) (List.map (fun p=>[V.str (HPair.key p),V.int .u8 (HPair.kind p),V.int .i64 (HPair.num p),V.str (HPair.text p)]) (HRule.want r)))),bx:=[]:DRes})):=by kernel_rfl
theorem ok_refRuleCheck:FnOk Tryz.prog 130 dRefRuleCheck:=by
 refine den_okF (env_ok (((TOk.nil _).cons ok_refCheck).cons ok_refKey)) (E:=eRefRuleCheck) Tryz.func130 [] (by kernel_rfl) none0 fun r _ _=>?_
 refine (q_refRuleCheck r).trans ?_
 show _=some (⟨.int .i64 (N.refRuleCheck r),[],[]⟩:DRes)
 unfold N.refRuleCheck
 simp only [pairs_enc]
 cases ilt 3 r.sort with
 | true=>rfl
 | false=>cases h:N.refKey r.key (ilt 0 r.sort) != 0<;>first | rfl | simp only [cond_true,cond_false,h]
noncomputable def eRuleSame:Env:=env Tryz.prog [(145,dSameP)] [] []
theorem q_ruleSame (a b:HRule):evFn eRuleSame 138 ((aCons (vAgg cRule) (aOne (vAgg cRule))).enc (a,b)) ([]) some =
 cond (HRule.sort a==HRule.sort b) (cond (HRule.key a==HRule.key b) (cond (HRule.all a==HRule.all b) (cond (Nat.ble (List.length (List.map (fun r=>{key:=V.toStr (List.getD r 0 .undef),kind:=V.toInt (List.getD r 1 .undef),num:=V.toInt (List.getD r 2 .undef),text:=V.toStr (List.getD r 3 .undef):HPair}) (List.map (fun p=>[V.str (HPair.key p),V.int .u8 (HPair.kind p),V.int .i64 (HPair.num p),V.str (HPair.text p)]) (HRule.want a)))) 1000000) (some {v:=V.bool (N.samePs (List.map (fun r=>{key:=V.toStr (List.getD r 0 .undef),kind:=V.toInt (List.getD r 1 .undef),num:=V.toInt (List.getD r 2 .undef),text:=V.toStr (List.getD r 3 .undef):HPair}) (List.map (fun p=>[V.str (HPair.key p),V.int .u8 (HPair.kind p),V.int .i64 (HPair.num p),V.str (HPair.text p)]) (HRule.want a))) (List.map (fun r=>{key:=V.toStr (List.getD r 0 .undef),kind:=V.toInt (List.getD r 1 .undef),num:=V.toInt (List.getD r 2 .undef),text:=V.toStr (List.getD r 3 .undef):HPair}) (List.map (fun p=>[V.str (HPair.key p),V.int .u8 (HPair.kind p),V.int .i64 (HPair.num p),V.str (HPair.text p)]) (HRule.want b)))),bx:=[]:DRes}) (none)) (some {v:=V.bool false,bx:=[]:DRes})) (some {v:=V.bool false,bx:=[]:DRes})) (some {v:=V.bool false,bx:=[]:DRes}):=by kernel_rfl
theorem ok_ruleSame:FnOk Tryz.prog 138 dRuleSame:=by
 refine den_okF (env_ok ((TOk.nil _).cons ok_eqP)) (E:=eRuleSame) Tryz.func138 [] (by kernel_rfl) none0 fun a _ h=>?_
 obtain ⟨a,b⟩:=a
 have h:a.want.length≤1000000:=ble_of h
 refine (q_ruleSame a b).trans ?_
 show _=some (⟨.bool (N.ruleSame a b),[],[]⟩:DRes)
 unfold N.ruleSame
 cases a.sort==b.sort<;>cases a.key==b.key<;>cases a.all==b.all<;>first | rfl | simp (disch:=omega) only [evs,pairs_enc]
def schHeads:SSch:={ fr:=[(1,.slc [.str,.int .u8,.int .i64,.str]),(2,.ptr 10000 0 0),(11,.slc [.str,.int .u8,.int .i64,.str]),(12,.int .i64),(13,.int .i64)],tab:=[(10000,.var [.int .u8,.str,.slc [.str,.int .u8,.int .i64,.str],.bool])] }
def gHeads:List Leaf→(Ex→St→Option R)→Option R
 | [.r r1,.r r11,.i i12,.i i13,.i ix0,.s sx0,.r rx0,.b bx0],K=>cond (i12==r11.length) (cond (ile 0 i13) (cond (ile i13 r11.length) (cond (Nat.ble r11.length LIM) (cond (Nat.ble r1.length LIM)
   (cond (N.headsP (rowsP r1) bx0 (rowsP (r11.drop i13.toNat))==bx0) (K (.exit 0) { fr:=[(2,.ptr 10000 0 0 0)],tab:=[(10000,.var [.int .u8 ix0,.str sx0,.slc [.str,.int .u8,.int .i64,.str] rx0,.bool bx0])] })
    (K .ret { fr:=[(4,.bool !bx0)],tab:=[] })) none) none) none) none) none
 | _,_=>none
noncomputable def eHeads:Env:=env Tryz.prog [(155,dFind)] [(2,loopF schHeads gHeads)] [(2,[(0,[1,2,11,12,13]),(1,[2]),(1000,[4])])]
theorem q_heads (r:HRule) (h:List HPair):evFn eHeads 133 ((aCons (vAgg cRule) (aOne (vSl cPair))).enc (r,h)) ([]) some =
 cond ((↑(List.length (List.map (fun p=>[V.str (HPair.key p),V.int .u8 (HPair.kind p),V.int .i64 (HPair.num p),V.str (HPair.text p)]) (HRule.want r))):Int)==(↑(List.length (List.map (fun p=>[V.str (HPair.key p),V.int .u8 (HPair.kind p),V.int .i64 (HPair.num p),V.str (HPair.text p)]) (HRule.want r))):Int)) (cond (Nat.ble (List.length (List.map (fun p=>[V.str (HPair.key p),V.int .u8 (HPair.kind p),V.int .i64 (HPair.num p),V.str (HPair.text p)]) (HRule.want r))) 1000000) (cond (Nat.ble (List.length (List.map (fun p=>[V.str (HPair.key p),V.int .u8 (HPair.kind p),V.int .i64 (HPair.num p),V.str (HPair.text p)]) h)) 1000000) (cond (N.headsP (List.map (fun r=>{key:=V.toStr (List.getD r 0 .undef),kind:=V.toInt (List.getD r 1 .undef),num:=V.toInt (List.getD r 2 .undef),text:=V.toStr (List.getD r 3 .undef):HPair}) (List.map (fun p=>[V.str (HPair.key p),V.int .u8 (HPair.kind p),V.int .i64 (HPair.num p),V.str (HPair.text p)]) h)) (HRule.all r) (List.map (fun r=>{key:=V.toStr (List.getD r 0 .undef),kind:=V.toInt (List.getD r 1 .undef),num:=V.toInt (List.getD r 2 .undef),text:=V.toStr (List.getD r 3 .undef):HPair}) (List.drop 0 (List.map (fun p=>[V.str (HPair.key p),V.int .u8 (HPair.kind p),V.int .i64 (HPair.num p),V.str (HPair.text p)]) (HRule.want r))))==HRule.all r) (some {v:=V.bool (HRule.all r),bx:=[]:DRes}) (some {v:=V.bool !HRule.all r,bx:=[]:DRes})) (none)) (none)) (none):=by kernel_rfl
theorem q_headsR (r1:List (List V)) (r11:List (List V)) (i12:Int) (i13:Int) (ix0:Int) (sx0:Bytes) (rx0:List (List V)) (bx0:Bool) (K:Ex→St→Option R):evRound eHeads 133 2 { fr:=[(1,.slc [.str,.int .u8,.int .i64,.str] r1),(2,.ptr 10000 0 0 0),(11,.slc [.str,.int .u8,.int .i64,.str] r11),(12,.int .i64 i12),(13,.int .i64 i13)],tab:=[(10000,.var [.int .u8 ix0,.str sx0,.slc [.str,.int .u8,.int .i64,.str] rx0,.bool bx0])] } K =
 cond (ilt i13 i12) (cond (decide ((0:Int)≤i13∧i13<(↑(List.length r11):Int))) (cond (Nat.ble (List.length (List.map (fun r=>{key:=V.toStr (List.getD r 0 .undef),kind:=V.toInt (List.getD r 1 .undef),num:=V.toInt (List.getD r 2 .undef),text:=V.toStr (List.getD r 3 .undef):HPair}) r1)) 1000000) (cond (Prod.snd (N.find (List.map (fun r=>{key:=V.toStr (List.getD r 0 .undef),kind:=V.toInt (List.getD r 1 .undef),num:=V.toInt (List.getD r 2 .undef),text:=V.toStr (List.getD r 3 .undef):HPair}) r1) (V.toStr (List.getD (List.getD r11 (Int.toNat i13) []) 0 V.undef)))) (cond (HPair.key (Prod.fst (N.find (List.map (fun r=>{key:=V.toStr (List.getD r 0 .undef),kind:=V.toInt (List.getD r 1 .undef),num:=V.toInt (List.getD r 2 .undef),text:=V.toStr (List.getD r 3 .undef):HPair}) r1) (V.toStr (List.getD (List.getD r11 (Int.toNat i13) []) 0 V.undef))))==V.toStr (List.getD (List.getD r11 (Int.toNat i13) []) 0 V.undef) && (HPair.kind (Prod.fst (N.find (List.map (fun r=>{key:=V.toStr (List.getD r 0 .undef),kind:=V.toInt (List.getD r 1 .undef),num:=V.toInt (List.getD r 2 .undef),text:=V.toStr (List.getD r 3 .undef):HPair}) r1) (V.toStr (List.getD (List.getD r11 (Int.toNat i13) []) 0 V.undef))))==V.toInt (List.getD (List.getD r11 (Int.toNat i13) []) 1 V.undef) && (HPair.num (Prod.fst (N.find (List.map (fun r=>{key:=V.toStr (List.getD r 0 .undef),kind:=V.toInt (List.getD r 1 .undef),num:=V.toInt (List.getD r 2 .undef),text:=V.toStr (List.getD r 3 .undef):HPair}) r1) (V.toStr (List.getD (List.getD r11 (Int.toNat i13) []) 0 V.undef))))==V.toInt (List.getD (List.getD r11 (Int.toNat i13) []) 2 V.undef) && (HPair.text (Prod.fst (N.find (List.map (fun r=>{key:=V.toStr (List.getD r 0 .undef),kind:=V.toInt (List.getD r 1 .undef),num:=V.toInt (List.getD r 2 .undef),text:=V.toStr (List.getD r 3 .undef):HPair}) r1) (V.toStr (List.getD (List.getD r11 (Int.toNat i13) []) 0 V.undef))))==V.toStr (List.getD (List.getD r11 (Int.toNat i13) []) 3 V.undef) && true)))) (cond (bx0) (K Ex.normal {fr:=[(1,V.slc [.str,.int .u8,.int .i64,.str] r1),(2,V.ptr 10000 0 0 0),(11,V.slc [.str,.int .u8,.int .i64,.str] r11),(12,V.int .i64 i12),(13,V.int .i64 (IntKind.wrap .i64 (i13+(1:Int))))],tab:=[(10000,Box.var [V.int .u8 ix0,V.str sx0,V.slc [.str,.int .u8,.int .i64,.str] rx0,V.bool bx0])]:St}) (cond (HPair.key (Prod.fst (N.find (List.map (fun r=>{key:=V.toStr (List.getD r 0 .undef),kind:=V.toInt (List.getD r 1 .undef),num:=V.toInt (List.getD r 2 .undef),text:=V.toStr (List.getD r 3 .undef):HPair}) r1) (V.toStr (List.getD (List.getD r11 (Int.toNat i13) []) 0 V.undef))))==V.toStr (List.getD (List.getD r11 (Int.toNat i13) []) 0 V.undef) && (HPair.kind (Prod.fst (N.find (List.map (fun r=>{key:=V.toStr (List.getD r 0 .undef),kind:=V.toInt (List.getD r 1 .undef),num:=V.toInt (List.getD r 2 .undef),text:=V.toStr (List.getD r 3 .undef):HPair}) r1) (V.toStr (List.getD (List.getD r11 (Int.toNat i13) []) 0 V.undef))))==V.toInt (List.getD (List.getD r11 (Int.toNat i13) []) 1 V.undef) && (HPair.num (Prod.fst (N.find (List.map (fun r=>{key:=V.toStr (List.getD r 0 .undef),kind:=V.toInt (List.getD r 1 .undef),num:=V.toInt (List.getD r 2 .undef),text:=V.toStr (List.getD r 3 .undef):HPair}) r1) (V.toStr (List.getD (List.getD r11 (Int.toNat i13) []) 0 V.undef))))==V.toInt (List.getD (List.getD r11 (Int.toNat i13) []) 2 V.undef) && (HPair.text (Prod.fst (N.find (List.map (fun r=>{key:=V.toStr (List.getD r 0 .undef),kind:=V.toInt (List.getD r 1 .undef),num:=V.toInt (List.getD r 2 .undef),text:=V.toStr (List.getD r 3 .undef):HPair}) r1) (V.toStr (List.getD (List.getD r11 (Int.toNat i13) []) 0 V.undef))))==V.toStr (List.getD (List.getD r11 (Int.toNat i13) []) 3 V.undef) && true)))) (K Ex.ret {fr:=[(4,V.bool true)],tab:=[]:St}) (cond (bx0) (K Ex.ret {fr:=[(4,V.bool false)],tab:=[]:St}) (K Ex.normal {fr:=[(1,V.slc [.str,.int .u8,.int .i64,.str] r1),(2,V.ptr 10000 0 0 0),(11,V.slc [.str,.int .u8,.int .i64,.str] r11),(12,V.int .i64 i12),(13,V.int .i64 (IntKind.wrap .i64 (i13+(1:Int))))],tab:=[(10000,Box.var [V.int .u8 ix0,V.str sx0,V.slc [.str,.int .u8,.int .i64,.str] rx0,V.bool bx0])]:St})))) (cond (HPair.key (Prod.fst (N.find (List.map (fun r=>{key:=V.toStr (List.getD r 0 .undef),kind:=V.toInt (List.getD r 1 .undef),num:=V.toInt (List.getD r 2 .undef),text:=V.toStr (List.getD r 3 .undef):HPair}) r1) (V.toStr (List.getD (List.getD r11 (Int.toNat i13) []) 0 V.undef))))==V.toStr (List.getD (List.getD r11 (Int.toNat i13) []) 0 V.undef) && (HPair.kind (Prod.fst (N.find (List.map (fun r=>{key:=V.toStr (List.getD r 0 .undef),kind:=V.toInt (List.getD r 1 .undef),num:=V.toInt (List.getD r 2 .undef),text:=V.toStr (List.getD r 3 .undef):HPair}) r1) (V.toStr (List.getD (List.getD r11 (Int.toNat i13) []) 0 V.undef))))==V.toInt (List.getD (List.getD r11 (Int.toNat i13) []) 1 V.undef) && (HPair.num (Prod.fst (N.find (List.map (fun r=>{key:=V.toStr (List.getD r 0 .undef),kind:=V.toInt (List.getD r 1 .undef),num:=V.toInt (List.getD r 2 .undef),text:=V.toStr (List.getD r 3 .undef):HPair}) r1) (V.toStr (List.getD (List.getD r11 (Int.toNat i13) []) 0 V.undef))))==V.toInt (List.getD (List.getD r11 (Int.toNat i13) []) 2 V.undef) && (HPair.text (Prod.fst (N.find (List.map (fun r=>{key:=V.toStr (List.getD r 0 .undef),kind:=V.toInt (List.getD r 1 .undef),num:=V.toInt (List.getD r 2 .undef),text:=V.toStr (List.getD r 3 .undef):HPair}) r1) (V.toStr (List.getD (List.getD r11 (Int.toNat i13) []) 0 V.undef))))==V.toStr (List.getD (List.getD r11 (Int.toNat i13) []) 3 V.undef) && true)))) (K Ex.ret {fr:=[(4,V.bool true)],tab:=[]:St}) (cond (bx0) (K Ex.ret {fr:=[(4,V.bool false)],tab:=[]:St}) (K Ex.normal {fr:=[(1,V.slc [.str,.int .u8,.int .i64,.str] r1),(2,V.ptr 10000 0 0 0),(11,V.slc [.str,.int .u8,.int .i64,.str] r11),(12,V.int .i64 i12),(13,V.int .i64 (IntKind.wrap .i64 (i13+(1:Int))))],tab:=[(10000,Box.var [V.int .u8 ix0,V.str sx0,V.slc [.str,.int .u8,.int .i64,.str] rx0,V.bool bx0])]:St})))) (cond (bx0) (K Ex.ret {fr:=[(4,V.bool false)],tab:=[]:St}) (K Ex.normal {fr:=[(1,V.slc [.str,.int .u8,.int .i64,.str] r1),(2,V.ptr 10000 0 0 0),(11,V.slc [.str,.int .u8,.int .i64,.str] r11),(12,V.int .i64 i12),(13,V.int .i64 (IntKind.wrap .i64 (i13+(1:Int))))],tab:=[(10000,Box.var [V.int .u8 ix0,V.str sx0,V.slc [.str,.int .u8,.int .i64,.str] rx0,V.bool bx0])]:St}))) (none)) (none)) (K (Ex.exit 0) {fr:=[(2,V.ptr 10000 0 0 0)],tab:=[(10000,Box.var [V.int .u8 ix0,V.str sx0,V.slc [.str,.int .u8,.int .i64,.str] rx0,V.bool bx0])]:St}):=by kernel_rfl
theorem fold_rowsP (l:List (List V)):l.map (fun r=>({ key:=V.toStr (List.getD r 0 .undef),kind:=V.toInt (List.getD r 1 .undef),num:=V.toInt (List.getD r 2 .undef),text:=V.toStr (List.getD r 3 .undef) }:HPair))=rowsP l:=rfl
theorem fold_eqP (p:HPair) (l:List V):(p.key==V.toStr (List.getD l 0 .undef) && (p.kind==V.toInt (List.getD l 1 .undef) && (p.num==V.toInt (List.getD l 2 .undef) && (p.text==V.toStr (List.getD l 3 .undef) && true))))=N.eqP p (rowP l):=rfl
theorem ok_heads:FnOk Tryz.prog 133 dHeads:=by
 refine den_okF (env_ok ((TOk.nil _).cons ok_find)) (E:=eHeads) Tryz.func133 [2] (by kernel_rfl) (one1 (rounds_of rfl fun l K q h=>?_)) fun a _ h=>?_
 ·unfold gHeads at h
  split at h
  ·rename_i r1 r n i s1 s2 s3 all
   have h1:=(cond_none h).1; replace h:=(cond_none h).2; have h2:=(cond_none h).1; replace h:=(cond_none h).2; have h3:=(cond_none h).1; replace h:=(cond_none h).2; have h4:=(cond_none h).1; replace h:=(cond_none h).2; have h5:=(cond_none h).1; replace h:=(cond_none h).2
   have e1:=ieq_of h1
   subst e1
   have h4:r.length≤1000000:=ble_of h4
   have h5:r1.length≤1000000:=ble_of h5
   refine range_ind (E:=eHeads) (f:=133) (id:=2) (A:=Unit) r (fun _ i=>{ fr:=[(1,.slc [.str,.int .u8,.int .i64,.str] r1),(2,.ptr 10000 0 0 0),(11,.slc [.str,.int .u8,.int .i64,.str] r),(12,.int .i64 r.length),(13,.int .i64 i)],tab:=[(10000,.var [.int .u8 s1,.str s2,.slc [.str,.int .u8,.int .i64,.str] s3,.bool all])] }) (fun _ _=>True)
    (fun _ l K=>cond (N.headsP (rowsP r1) all (rowsP l)==all) (K (.exit 0) { fr:=[(2,.ptr 10000 0 0 0)],tab:=[(10000,.var [.int .u8 s1,.str s2,.slc [.str,.int .u8,.int .i64,.str] s3,.bool all])] })
    (K .ret { fr:=[(4,.bool !all)],tab:=[] })) (fun _ i _ hi=>?_) (fun _ _=>?_) () i (ile_of h2) (ile_of h3) trivial K q (by assumption)
   ·have e:∀ l,N.headsP (rowsP r1) all (rowsP (r.getD i []::l))=cond (N.hasP (rowsP r1) (rowP (r.getD i []))) (cond all (N.headsP (rowsP r1) all (rowsP l)) true) (cond all false (N.headsP (rowsP r1) all (rowsP l))):=fun _=>rfl
    have T:∀ K:Ex→St→Option R,evRound eHeads 133 2 { fr:=[(1,.slc [.str,.int .u8,.int .i64,.str] r1),(2,.ptr 10000 0 0 0),(11,.slc [.str,.int .u8,.int .i64,.str] r),(12,.int .i64 r.length),(13,.int .i64 i)],tab:=[(10000,.var [.int .u8 s1,.str s2,.slc [.str,.int .u8,.int .i64,.str] s3,.bool all])] } K =
      cond (N.find (rowsP r1) (rowP (r.getD i [])).key).2 (cond (N.eqP (N.find (rowsP r1) (rowP (r.getD i [])).key).1 (rowP (r.getD i [])))
        (cond all (K .normal { fr:=[(1,.slc [.str,.int .u8,.int .i64,.str] r1),(2,.ptr 10000 0 0 0),(11,.slc [.str,.int .u8,.int .i64,.str] r),(12,.int .i64 r.length),(13,.int .i64 ((i:Int)+1))],tab:=[(10000,.var [.int .u8 s1,.str s2,.slc [.str,.int .u8,.int .i64,.str] s3,.bool all])] })
         (K .ret { fr:=[(4,.bool true)],tab:=[] }))
        (cond all (K .ret { fr:=[(4,.bool false)],tab:=[] }) (K .normal { fr:=[(1,.slc [.str,.int .u8,.int .i64,.str] r1),(2,.ptr 10000 0 0 0),(11,.slc [.str,.int .u8,.int .i64,.str] r),(12,.int .i64 r.length),(13,.int .i64 ((i:Int)+1))],tab:=[(10000,.var [.int .u8 s1,.str s2,.slc [.str,.int .u8,.int .i64,.str] s3,.bool all])] })))
       (cond all (K .ret { fr:=[(4,.bool false)],tab:=[] }) (K .normal { fr:=[(1,.slc [.str,.int .u8,.int .i64,.str] r1),(2,.ptr 10000 0 0 0),(11,.slc [.str,.int .u8,.int .i64,.str] r),(12,.int .i64 r.length),(13,.int .i64 ((i:Int)+1))],tab:=[(10000,.var [.int .u8 s1,.str s2,.slc [.str,.int .u8,.int .i64,.str] s3,.bool all])] })):=fun K=>by
     rw [q_headsR]
     simp (disch:=omega) only [evs,Int.toNat_natCast,fold_rowsP,fold_eqP,rowsP_length]
     show cond (N.find (rowsP r1) (rowP (r.getD i [])).key).2 _ _=_
     rw [show N.find (rowsP r1) (V.toStr (List.getD (r.getD i []) 0 .undef))=N.find (rowsP r1) (rowP (r.getD i [])).key from rfl]
     cases (N.find (rowsP r1) (rowP (r.getD i [])).key).2<;>cases N.eqP (N.find (rowsP r1) (rowP (r.getD i [])).key).1 (rowP (r.getD i []))<;>cases all<;>rfl
    have eh:N.hasP (rowsP r1) (rowP (r.getD i []))=cond (N.find (rowsP r1) (rowP (r.getD i [])).key).2 (N.eqP (N.find (rowsP r1) (rowP (r.getD i [])).key).1 (rowP (r.getD i []))) false:=rfl
    cases e1:(N.find (rowsP r1) (rowP (r.getD i [])).key).2<;>cases e2:N.eqP (N.find (rowsP r1) (rowP (r.getD i [])).key).1 (rowP (r.getD i []))<;>cases all<;>rw [e1,e2] at eh
    all_goals first
     | exact .inl ⟨(),trivial,fun K=>by rw [T,e1,e2]; rfl,fun K=>by rw [e,eh]; rfl⟩
     | exact .inr ⟨.ret,_,by simp,fun K=>by rw [T,e1,e2]; rfl,fun K=>by rw [e,eh]; rfl⟩
   ·refine ⟨.exit 0,{ fr:=[(2,.ptr 10000 0 0 0)],tab:=[(10000,.var [.int .u8 s1,.str s2,.slc [.str,.int .u8,.int .i64,.str] s3,.bool all])] },by simp,fun K=>?_,fun K=>?_⟩
    ·rw [q_headsR]
     simp (disch:=omega) only [evs]
    ·show cond (all==all) _ _=_
     cases all<;>rfl
  ·cases h
 ·obtain ⟨r,h'⟩:=a
  obtain ⟨h1,h2⟩:=bcond h
  have h1:r.want.length≤1000000:=ble_of h1
  have h2:h'.length≤1000000:=ble_of h2
  refine (q_heads r h').trans ?_
  show _=some (⟨.bool (N.headsP h' r.all r.want),[],[]⟩:DRes)
  simp (disch:=omega) only [evs,List.drop_zero,pairs_enc]
  cases N.headsP h' r.all r.want<;>cases r.all<;>rfl
end Go.Ev

/- The document's function that reads heads answers what the plain one does: lemmas. -/
namespace Go.Ev
open Go Go.Proofs
set_option maxRecDepth 100000
end Go.Ev

/- What the statement on same heads reckons: lemmas; the function that writes numbers is a premise. -/
namespace Go.Ev
open Go Go.Proofs
set_option maxRecDepth 100000
noncomputable def eAw4' : Env:=env Tryz.prog [(123,dTrueW)] [] []
theorem q_aw4'  : evFn eAw4' 75 [] [] some =
 some {v:=V.bool true,bx:=[]:DRes}:=by kernel_rfl
theorem ok_aw4' : FnOk Tryz.prog 75 dTrue:=den_okF (env_ok ((TOk.nil _).cons ok_awW)) (E:=eAw4') Tryz.func75 [] (by kernel_rfl) none0 fun _ _ _=>q_aw4'
noncomputable def eAw9:Env:=env Tryz.prog [(157,dHeadBytes),(173,dTrue),(75,dTrue)] [] []
theorem q_aw9  : evFn eAw9 162 [] [] some =
 some {v:=V.bool true,bx:=[]:DRes}:=by kernel_rfl
theorem ok_aw9 (hN:FnOk Tryz.prog 158 dOutNum):FnOk Tryz.prog 162 dTrue :=
 den_okF (env_ok ((((TOk.nil _).cons ok_aw4').cons (ok_aw1' hN)).cons (ok_headBytes hN))) (E:=eAw9) Tryz.func162 [] (by kernel_rfl) none0 fun _ _ _=>q_aw9
theorem light_small {h:List HPair} (hl:N.light h=true):h.length≤12:=by
 unfold N.light at hl
 cases e:ilt 12 h.length with
 | true=>rw [e] at hl; cases hl
 | false=>have:=ilt_nof e; omega
end Go.Ev

/- What was written is read again: lemmas on the plain functions. -/
namespace Go.Ev
open Go
end Go.Ev

/- The document's functions that write heads answer what the plain ones do: lemmas; its function that writes numbers is a premise. -/
namespace Go.Ev
open Go Go.Proofs
set_option maxRecDepth 100000
namespace N
end N
end Go.Ev

/- The document's function that writes numbers answers what the plain one does: lemmas,no condition. -/
namespace Go.Ev
open Go Go.Proofs
set_option maxRecDepth 100000
end Go.Ev

/- The functions on messages answer what the plain ones do: lemmas; the function that writes numbers is a premise. -/
namespace Go.Ev
open Go Go.Proofs
set_option maxRecDepth 100000
noncomputable def eClone:Env:=env Tryz.prog [] [] []
theorem q_clone (l:List HPair):evFn eClone 143 ((aOne (vSl cPair)).enc l) ([]) some =
 cond (!Nat.beq (List.length (List.map (fun p=>[V.str (HPair.key p),V.int .u8 (HPair.kind p),V.int .i64 (HPair.num p),V.str (HPair.text p)]) l)) 0) (cond (Nat.beq (List.length (List.map (fun p=>[V.str (HPair.key p),V.int .u8 (HPair.kind p),V.int .i64 (HPair.num p),V.str (HPair.text p)]) l)) 0) (some {v:=V.slc [.str,.int .u8,.int .i64,.str] [],bx:=[]:DRes}) (cond (decide (List.length (List.map (fun p=>[V.str (HPair.key p),V.int .u8 (HPair.kind p),V.int .i64 (HPair.num p),V.str (HPair.text p)]) l)*48≤140737488355328)) (some {v:=V.slc [.str,.int .u8,.int .i64,.str] (List.map (fun p=>[V.str (HPair.key p),V.int .u8 (HPair.kind p),V.int .i64 (HPair.num p),V.str (HPair.text p)]) l),bx:=[]:DRes}) (none))) (none):=by kernel_rfl
theorem q_cloneN  : evFn eClone 143 [.nils [.str,.int .u8,.int .i64,.str]] ([]) some =
 some {v:=V.slc [.str,.int .u8,.int .i64,.str] [],bx:=[]:DRes}:=by kernel_rfl
theorem q_cloneE  : evFn eClone 143 [.nn [.str,.int .u8,.int .i64,.str]] ([]) some =
 some {v:=V.slc [.str,.int .u8,.int .i64,.str] [],bx:=[]:DRes}:=by kernel_rfl
theorem ok_clone:FnOk Tryz.prog 143 dClone:=by
 refine den_of fun l b h=>?_
 have h:l.length≤1000000:=ble_of h
 have fo:=fun a r=>fn_okF (E:=eClone) (env_ok (TOk.nil _)) Tryz.func143 [] (by kernel_rfl) none0 a [] r
 cases l with
 | nil=>exact FnOk.empty (fo _ _ q_cloneN) (fo _ _ q_cloneE)
 | cons p r =>
  refine fo _ _ ((q_clone (p::r)).trans ?_)
  show _=some (⟨.slc [.str,.int .u8,.int .i64,.str] ((p::r).map fun p=>[V.str p.key,V.int .u8 p.kind,V.int .i64 p.num,V.str p.text]),[],[]⟩:DRes)
  rw [show Nat.beq (List.length ((p::r).map fun p=>[V.str p.key,V.int .u8 p.kind,V.int .i64 p.num,V.str p.text])) 0=false from rfl]
  simp (disch:=omega) only [evs,Bool.not_false]
end Go.Ev

/- slices.Concat and slices.Grow at messages answer what the plain ones do: lemmas,no condition. -/
namespace Go.Ev
open Go Go.Proofs
set_option maxRecDepth 100000
-- FOLD
def vNils {α:Type} (c:RCod α):VCod Unit where
 ok:=fun | .nils s=>Sh.beqL c.sh s | _=>false
 enc _:=.nils c.sh
 dec _:=()
 ed _:=⟨c.rf,rfl⟩
 law w I ρ v x h hx:=by
  split at h
  ·have:=Sh.beqL_eq _ _ h; subst this; exact hx
  ·cases h
def dGrow {α:Type} (c:RCod α):Den:=den (aCons (vNils c) (aOne (vInt .i64))) bNil (oOwn c) (fun a _=>cond (ile 0 a.2) (ile a.2 1000000) false) fun _ _=>(([]:List α),())
def N.flat {α:Type}:List (List α)→List α
 | []=>[] | l::r=>l++N.flat r
def sumLen {α:Type}:List (List α)→Nat
 | []=>0 | l::r=>l.length+sumLen r
theorem flat_len {α:Type}:∀ l:List (List α),(N.flat l).length=sumLen l
 | []=>rfl
 | l::r=>by show (l++N.flat r).length=_; rw [List.length_append,flat_len r]; rfl
def dConcat {α:Type} (c:RCod α):Den:=den (aOne (vSl (rSl c))) bNil (oV (vSl c)) (fun l _=>cond (Nat.ble l.length 1000) (Nat.ble (sumLen l) 100000) false) fun l _=>(N.flat l,())
def flatR:List (List V)→List (List V)
 | []=>[] | r::rs=>V.toRows (List.getD r 0 .undef)++flatR rs
theorem flatR_enc {α:Type} (c:RCod α):∀ l:List (List α),flatR (l.map (rSl c).enc)=(N.flat l).map c.enc
 | []=>rfl
 | l::r=>by
  show l.map c.enc++flatR (r.map (rSl c).enc)=(l++N.flat r).map c.enc
  rw [flatR_enc c r,List.map_append]
theorem flatR_cons (x:List V) (l:List (List V)):flatR (x::l)=V.toRows (List.getD x 0 .undef)++flatR l:=rfl
end Go.Ev

/- The functions on rises answer what the plain ones do: lemmas,no condition. -/
namespace Go.Ev
open Go Go.Proofs
set_option maxRecDepth 100000
-- FOLD
structure HRise where
 total:Int
 kept:List HMail
theorem dec_encs {α:Type} (c:RCod α) (l:List α):(l.map c.enc).map c.dec=l:=by
 rw [List.map_map]
 exact (List.map_congr_left (fun a _=>c.de a)).trans (List.map_id _)
namespace N
def risePut (x:HRise) (m:HMail):HRise × Int :=
 cond (mailCheck m != 0) (x,mailCheck m) (cond (x.total==18446744073709551615) (x,18)
  (⟨x.total+1,(x.kept++[m]).drop (x.kept.length+1-16)⟩,0))
end N
def goodRise (x:HRise):Bool:=cond (cond (ile 0 x.total) (ile x.total 18446744073709551615) false) (cond (Nat.ble x.kept.length 16) (x.kept.all smallM) false) false
theorem flat_two {α:Type} (a b:List α):N.flat [a,b]=a++b:=by
 show a++(b++[])=_
 rw [List.append_nil]
end Go.Ev

/- What a rise tells behind a number: lemmas,no condition. -/
namespace Go.Ev
open Go Go.Proofs
set_option maxRecDepth 100000
-- FOLD
namespace N
def riseAfter (x:HRise) (n:Int):Int × HMail × Bool :=
 cond (ile x.total n) (0,mail0,false) (cond (ilt (x.total-x.kept.length+1) (n+1)) (n+1,x.kept.getD (n+1-(x.total-x.kept.length+1)).toNat mail0,true) (x.total-x.kept.length+1,x.kept.getD 0 mail0,true))
end N
def fullRise (x:HRise):Bool:=cond (goodRise x) (cond (ile x.kept.length x.total) (cond (Nat.beq x.kept.length 0) (x.total==0) true) false) false
theorem getD_enc {α:Type} (c:RCod α) (l:List α) (i:Nat) (d:α) (h:i<l.length):(l.map c.enc).getD i []=c.enc (l.getD i d):=by
 rw [List.getD_eq_getElem?_getD,List.getD_eq_getElem?_getD,List.getElem?_map,List.getElem?_eq_getElem h]
 try rfl
end Go.Ev

/- What rises tell,in plain terms: lemmas,no condition. -/
namespace Go.Ev
open Go Go.Proofs
set_option maxRecDepth 100000
namespace N
def tell (x:HRise):Nat→Int→List HMail→Int × List HMail
 | 0,last,got=>(last,got)
 | n+1,last,got=>cond (riseAfter x last).2.2 (tell x n (riseAfter x last).1 (got++[(riseAfter x last).2.1])) (last,got)
def many (asks:List Int) (n k:Nat):Nat:=cond (Nat.blt k n) (cond (Nat.blt k asks.length) (Int.tmod (IntKind.wrap .i64 (asks.getD k 0)) 3).toNat 0) 16
def play (asks:List Int) (l:List HMail):Nat→Nat→HRise→Int→List HMail→List HMail→Option (HRise × Int × List HMail × List HMail)
 | 0,_,x,last,good,got=>some (x,last,good,got)
 | f+1,k,x,last,good,got=>cond (ilt 16 (x.total-last)) none
   (cond (Nat.blt k l.length)
    (play asks l f (k+1) (risePut x (l.getD k mail0)).1 (tell x (many asks l.length k) last got).1 (cond ((risePut x (l.getD k mail0)).2==0) (good++[l.getD k mail0]) good) (tell x (many asks l.length k) last got).2)
    (play asks l f (k+1) x (tell x (many asks l.length k) last got).1 good (tell x (many asks l.length k) last got).2))
end N
structure RInv (x:HRise) (g:List HMail):Prop where
 total:x.total=g.length
 kept:x.kept=g.drop (g.length-16)
 small:g.all smallM=true
 few:g.length<1000
theorem RInv.len {x:HRise} {g:List HMail} (h:RInv x g):x.kept.length=g.length-(g.length-16):=by rw [h.kept,List.length_drop]
theorem RInv.good {x:HRise} {g:List HMail} (h:RInv x g):goodRise x=true:=by
 have:=h.few
 have hl:=h.len
 unfold goodRise
 rw [h.total,ile_t (by omega),ile_t (by omega),ble_t (by omega),h.kept]
 show (List.all (g.drop _) smallM)=true
 rw [List.all_eq_true]
 intro m hm
 exact List.all_eq_true.1 h.small m (List.mem_of_mem_drop hm)
theorem RInv.full {x:HRise} {g:List HMail} (h:RInv x g):fullRise x=true:=by
 have hl:=h.len
 unfold fullRise
 rw [h.good,h.total,ile_t (by omega)]
 simp only [cond_true]
 cases e:Nat.beq x.kept.length 0 with
 | false=>rfl
 | true =>
  have:=Nat.eq_of_beq_eq_true e
  show (((g.length:Nat):Int)==0)=true
  exact ieq_t (by omega)
end Go.Ev

/- What the statement on heads that are read reckons: lemmas; the function that writes numbers is a premise. -/
namespace Go.Ev
open Go Go.Proofs
set_option maxRecDepth 100000
end Go.Ev

/- What the statement on heads' bytes reckons: lemmas; the functions that write numbers are premises. -/
namespace Go.Ev
open Go Go.Proofs
set_option maxRecDepth 100000
def N.back (key:Bytes) (l:List HPair):Nat→HPair × Bool→HPair × Bool
 | 0,w=>w
 | k+1,w=>back key l k (cond ((l.getD k pair0).key==key) (l.getD k pair0,true) w)
end Go.Ev

/- What the statement on heads' bytes reckons: it is true; the functions that write numbers are premises. -/
namespace Go.Ev
open Go Go.Proofs
set_option maxRecDepth 100000
end Go.Ev

/- Messages: what was written is read again; the program's reader and the document's go together: lemmas on the plain functions. -/
namespace Go.Ev
open Go
end Go.Ev

/- Rules: the program's way and the document's are one: lemmas on the plain functions. -/
namespace Go.Ev
open Go
end Go.Ev

/- The functions that tell which messages go by a rule answer what the plain ones do: lemmas,no condition. -/
namespace Go.Ev
open Go Go.Proofs
set_option maxRecDepth 100000
noncomputable def eGoes:Env:=env Tryz.prog [(132,dMatches),(133,dHeads)] [] []
theorem q_goes (r:HRule) (k:Bytes) (h:List HPair):evFn eGoes 90 ((aCons (vAgg cRule) (aCons vStr (aOne (vSl cPair)))).enc (r,k,h)) ([]) some =
 cond (HRule.sort r==(0:Int)) (some {v:=V.bool (k==HRule.key r),bx:=[]:DRes}) (cond (HRule.sort r==(2:Int)) (cond (bif Nat.ble (List.length (HRule.key r)) 1000000 then Nat.ble (List.length k) 1000000 else false) (some {v:=V.bool (N.matchW (N.words (HRule.key r)) (N.words k)),bx:=[]:DRes}) (none)) (cond (HRule.sort r==(3:Int)) (cond (bif Nat.ble (List.length (List.map (fun r=>{key:=V.toStr (List.getD r 0 .undef),kind:=V.toInt (List.getD r 1 .undef),num:=V.toInt (List.getD r 2 .undef),text:=V.toStr (List.getD r 3 .undef):HPair}) (List.map (fun p=>[V.str (HPair.key p),V.int .u8 (HPair.kind p),V.int .i64 (HPair.num p),V.str (HPair.text p)]) (HRule.want r)))) 1000000 then Nat.ble (List.length (List.map (fun r=>{key:=V.toStr (List.getD r 0 .undef),kind:=V.toInt (List.getD r 1 .undef),num:=V.toInt (List.getD r 2 .undef),text:=V.toStr (List.getD r 3 .undef):HPair}) (List.map (fun p=>[V.str (HPair.key p),V.int .u8 (HPair.kind p),V.int .i64 (HPair.num p),V.str (HPair.text p)]) h))) 1000000 else false) (some {v:=V.bool (N.headsP (List.map (fun r=>{key:=V.toStr (List.getD r 0 .undef),kind:=V.toInt (List.getD r 1 .undef),num:=V.toInt (List.getD r 2 .undef),text:=V.toStr (List.getD r 3 .undef):HPair}) (List.map (fun p=>[V.str (HPair.key p),V.int .u8 (HPair.kind p),V.int .i64 (HPair.num p),V.str (HPair.text p)]) h)) (HRule.all r) (List.map (fun r=>{key:=V.toStr (List.getD r 0 .undef),kind:=V.toInt (List.getD r 1 .undef),num:=V.toInt (List.getD r 2 .undef),text:=V.toStr (List.getD r 3 .undef):HPair}) (List.map (fun p=>[V.str (HPair.key p),V.int .u8 (HPair.kind p),V.int .i64 (HPair.num p),V.str (HPair.text p)]) (HRule.want r)))),bx:=[]:DRes}) (none)) (some {v:=V.bool true,bx:=[]:DRes}))):=by kernel_rfl
theorem ok_goes:FnOk Tryz.prog 90 dGoes:=by
 refine den_okF (env_ok (((TOk.nil _).cons ok_heads).cons ok_matches)) (E:=eGoes) Tryz.func90 [] (by kernel_rfl) none0 fun a _ h=>?_
 obtain ⟨r,k,h'⟩:=a
 obtain ⟨h1,h2⟩:=bcond h
 obtain ⟨h1,h3⟩:=bcond h1
 obtain ⟨h2,h4⟩:=bcond h2
 have h1:r.key.length+1≤1000000:=ble_of h1
 have h3:k.length+1≤1000000:=ble_of h3
 have h2:r.want.length≤1000000:=ble_of h2
 have h4:h'.length≤1000000:=ble_of h4
 refine (q_goes r k h').trans ?_
 show _=some (⟨.bool (N.goes r k h'),[],[]⟩:DRes)
 unfold N.goes
 cases r.sort==0<;>cases r.sort==2<;>cases r.sort==3<;>first | rfl | simp (disch:=omega) only [evs,pairs_enc]
end Go.Ev

/- Words joined again,patterns of stars: plain lemmas,no condition. -/
namespace Go.Ev
open Go
namespace N
end N
end Go.Ev

/- What the statements on rules reckon: each is true; lemmas; the function that writes numbers is a premise. -/
namespace Go.Ev
open Go Go.Proofs
set_option maxRecDepth 100000
noncomputable def eAw9' : Env:=env Tryz.prog [(162,dTrue)] [] []
theorem q_aw9'  : evFn eAw9' 141 [] [] some =
 some {v:=V.bool true,bx:=[]:DRes}:=by kernel_rfl
theorem ok_aw9' (hN:FnOk Tryz.prog 158 dOutNum):FnOk Tryz.prog 141 dTrue:=den_okF (env_ok ((TOk.nil _).cons (ok_aw9 hN))) (E:=eAw9') Tryz.func141 [] (by kernel_rfl) none0 fun _ _ _=>q_aw9'
noncomputable def eAw10:Env:=env Tryz.prog [(75,dTrue),(141,dTrue),(119,dRuleCheck),(90,dGoes)] [] []
theorem q_aw10:evFn eAw10 124 [] [] some=some { v:=.bool true,bx:=[] }:=by kernel_rfl
theorem ok_aw10 (hN:FnOk Tryz.prog 158 dOutNum):FnOk Tryz.prog 124 dTrue :=
 den_okF (env_ok (((((TOk.nil _).cons ok_goes).cons ok_ruleCheck).cons (ok_aw9' hN)).cons ok_aw4')) (E:=eAw10) Tryz.func124 [] (by kernel_rfl) none0 fun _ _ _=>q_aw10
theorem int_wf' {k:IntKind} {n:Int} (h:wfV (.int k n)=true):k.min≤n∧n≤k.max:=by
 unfold wfV Lit.wf at h
 simp at h
 exact h
end Go.Ev

/- The statement on heads' bytes: what it reckons is true of what comes in; lemmas,no condition. -/
namespace Go.Ev
open Go Go.Proofs
set_option maxRecDepth 100000
end Go.Ev

/- What the statements on messages' bytes reckon: each is true; lemmas; the function that writes numbers is a premise. -/
namespace Go.Ev
open Go Go.Proofs
set_option maxRecDepth 100000
end Go.Ev

/- The example of the statements on rises,and which messages they go through: lemmas; the function that writes numbers is a premise. -/
namespace Go.Ev
open Go Go.Proofs
set_option maxRecDepth 100000
-- FOLD
theorem nbeq_of {x y:Nat} (h:Nat.beq x y=true):x=y:=Nat.eq_of_beq_eq_true h
end Go.Ev

/- What the statement on a rise's numbers reckons: it is true; lemmas; the function that writes numbers is a premise. -/
namespace Go.Ev
open Go Go.Proofs
set_option maxRecDepth 100000
-- FOLD
theorem len_wf {α:Type} {c:RCod α} {l:List α} (h:wfL ((rSl c).enc l)=true):Nat.ble l.length 9223372036854775807=true:=by
 have h:cond (cond (Nat.ble (l.map c.enc).length 9223372036854775807) (cond (fitsRows c.sh (l.map c.enc)) (wfRs (l.map c.enc)) false) false) true false=true:=h
 rw [List.length_map] at h
 exact (bcond (bcond h).1).1
end Go.Ev

/- The functions on rises that one statement on them needs: sizes,sameness,the document's: lemmas; the function that writes numbers is a premise. -/
namespace Go.Ev
open Go Go.Proofs
set_option maxRecDepth 100000
-- FOLD
namespace N
end N
end Go.Ev

/- Sameness of rises,and what the statements' helpers tell: lemmas; the function that writes numbers is a premise. -/
namespace Go.Ev
open Go Go.Proofs
set_option maxRecDepth 100000
-- FOLD
namespace N
end N
end Go.Ev

/- Rises as bytes,and read of them: lemmas; the functions that write numbers are premises. -/
namespace Go.Ev
open Go Go.Proofs
set_option maxRecDepth 100000
-- FOLD
namespace N
end N
end Go.Ev

/- Rises read of bytes: the program's and the document's: lemmas. -/
namespace Go.Ev
open Go Go.Proofs
set_option maxRecDepth 100000
-- FOLD
namespace N
end N
end Go.Ev

/- What the statements that play and read rises reckon: each is true; lemmas; the functions that write numbers are premises. -/
namespace Go.Ev
open Go Go.Proofs
set_option maxRecDepth 100000
-- FOLD
end Go.Ev

/- Books: their codecs: definitions,no condition. -/
namespace Go.Ev
open Go
set_option maxRecDepth 100000
structure HShop where
 name:Bytes
 sort:Int
 to:Bytes
structure HBind where
 shop:Bytes
 to:Bytes
 up:Bool
 key:Bytes
 want:List HPair
 all:Bool
structure HBook where
 shops:List HShop
 binds:List HBind
def rowShop (r:List V):HShop:=⟨(r.getD 0 .undef).toStr,(r.getD 1 .undef).toInt,(r.getD 2 .undef).toStr⟩
def cShop:RCod HShop:=((rStr.and ((rInt .u8).and rStr)).iso (fun p=>(⟨p.1,p.2.1,p.2.2⟩:HShop)) (fun o=>(o.name,o.sort,o.to)) (fun _=>rfl) fun _=>rfl).spelt
 [.str,.int .u8,.str] (fun s=>[.str s.name,.int .u8 s.sort,.str s.to]) rowShop rfl (fun _=>rfl) fun r=>by
  show (⟨((r.take 1).getD 0 .undef).toStr,(((r.drop 1).take 1).getD 0 .undef).toInt,(((r.drop 1).drop 1).getD 0 .undef).toStr⟩:HShop)=rowShop r
  simp only [getD_take_one,getD_drop_one]; rfl
def rowBind (r:List V):HBind:=⟨(r.getD 0 .undef).toStr,(r.getD 1 .undef).toStr,(r.getD 2 .undef).toBool,(r.getD 3 .undef).toStr,rowsP (r.getD 4 .undef).toRows,(r.getD 5 .undef).toBool⟩
def cBind:RCod HBind:=((rStr.and (rStr.and (rBool.and (rStr.and ((rSl cPair).and rBool))))).iso (fun p=>(⟨p.1,p.2.1,p.2.2.1,p.2.2.2.1,p.2.2.2.2.1,p.2.2.2.2.2⟩:HBind)) (fun o=>(o.shop,o.to,o.up,o.key,o.want,o.all)) (fun _=>rfl) fun _=>rfl).spelt
 [.str,.str,.bool,.str,.slc [.str,.int .u8,.int .i64,.str],.bool]
 (fun b=>[.str b.shop,.str b.to,.bool b.up,.str b.key,.slc [.str,.int .u8,.int .i64,.str] (b.want.map fun p=>[V.str p.key,V.int .u8 p.kind,V.int .i64 p.num,V.str p.text]),.bool b.all]) rowBind rfl (fun _=>rfl) fun r=>by
  show (⟨((r.take 1).getD 0 .undef).toStr,(((r.drop 1).take 1).getD 0 .undef).toStr,((((r.drop 1).drop 1).take 1).getD 0 .undef).toBool,(((((r.drop 1).drop 1).drop 1).take 1).getD 0 .undef).toStr,
   ((((((r.drop 1).drop 1).drop 1).drop 1).take 1).getD 0 .undef).toRows.map cPair.dec,((((((r.drop 1).drop 1).drop 1).drop 1).drop 1).getD 0 .undef).toBool⟩:HBind)=rowBind r
  simp only [getD_take_one,getD_drop_one]; rfl
def rowBook (r:List V):HBook:=⟨(r.getD 0 .undef).toRows.map cShop.dec,(r.getD 1 .undef).toRows.map cBind.dec⟩
def cBook:RCod HBook:=(((rSl cShop).and (rSl cBind)).iso (fun p=>(⟨p.1,p.2⟩:HBook)) (fun o=>(o.shops,o.binds)) (fun _=>rfl) fun _=>rfl).spelt
 [.slc [.str,.int .u8,.str],.slc [.str,.str,.bool,.str,.slc [.str,.int .u8,.int .i64,.str],.bool]]
 (fun b=>[.slc [.str,.int .u8,.str] (b.shops.map cShop.enc),.slc [.str,.str,.bool,.str,.slc [.str,.int .u8,.int .i64,.str],.bool] (b.binds.map cBind.enc)]) rowBook rfl (fun _=>rfl) fun r=>by
  show (⟨((r.take 1).getD 0 .undef).toRows.map cShop.dec,((r.drop 1).getD 0 .undef).toRows.map cBind.dec⟩:HBook)=rowBook r
  simp only [getD_take_one,getD_drop_one]; rfl
end Go.Ev

/- slices.Concat and slices.Grow at another type answer what the plain ones do: lemmas,no condition. -/
namespace Go.Ev
open Go Go.Proofs
set_option maxRecDepth 100000
-- FOLD
noncomputable def eGrowS:Env:={ env Tryz.prog [] [] [] [147] with tr:=true }
theorem q_growS (n:Int):evFn eGrowS 147 ((aCons (vNils cShop) (aOne (vInt .i64))).enc ((),n)) ([]) some =
 cond (ilt n (0:Int)) (none) (cond (ilt (0:Int) (IntKind.wrap .i64 (n-IntKind.wrap .i64 ((0:Int)-(0:Int))))) (cond (decide ((0:Int)≤IntKind.wrap .i64 (n-IntKind.wrap .i64 ((0:Int)-(0:Int)))∧IntKind.wrap .i64 (n-IntKind.wrap .i64 ((0:Int)-(0:Int)))*(↑(40:Nat):Int)≤(140737488355328:Int)∧IntKind.wrap .i64 (n-IntKind.wrap .i64 ((0:Int)-(0:Int)))≤(140737488355328:Int))) (some {v:=V.own 1000 0,bx:=[],nb:=[Box.sl [.str,.int .u8,.str] [] 0]:DRes}) (none)) (some {v:=V.own 1000 0,bx:=[],nb:=[Box.sl [.str,.int .u8,.str] [] 0]:DRes})):=by kernel_rfl
theorem ok_growS:FnOk Tryz.prog 147 (dGrow cShop):=by
 refine den_okF (E:=eGrowS) (env_ok (TOk.nil _)) Tryz.func147 [] (by kernel_rfl) none0 fun a _ h=>?_
 obtain ⟨⟨⟩,n⟩:=a
 obtain ⟨h1,h2⟩:=bcond h
 have h1:0≤n:=ile_of h1
 have h2:n≤1000000:=ile_of h2
 refine (q_growS n).trans ?_
 have w0:IntKind.wrap .i64 ((0:Int)-0)=0:=rfl
 have w:IntKind.wrap .i64 (n-0)=n:=by rw [Int.sub_zero]; exact wr_i64 (by omega) (by omega)
 rw [w0,w]
 have d:decide (0≤n∧n*((40:Nat):Int)≤140737488355328∧n≤140737488355328)=true:=decide_eq_true (by omega)
 rw [d,ilt_f h1]
 cases ilt 0 n<;>rfl
def schConcatS3:SSch:={ fr:=[(0,.slc [.slc [.str,.int .u8,.str]]),(3,.int .i64),(9,.slc [.slc [.str,.int .u8,.str]]),(10,.int .i64),(11,.int .i64)],tab:=[] }
def gConcatS3:List Leaf→(Ex→St→Option R)→Option R
 | [.r r0,.i i3,.r r9,.i i10,.i i11],K=>cond (i10==r9.length) (cond (i11==0) (cond (i3==0) (cond (Nat.ble (flatR r9).length LIM) (cond (Nat.ble r9.length LIM)
   (K (.exit 0) { fr:=[(0,.slc [.slc [.str,.int .u8,.str]] r0),(3,.int .i64 (flatR r9).length)],tab:=[] }) none) none) none) none) none
 | _,_=>none
def schConcatS11:SSch:={ fr:=[(6,.own 10000),(25,.slc [.slc [.str,.int .u8,.str]]),(26,.int .i64),(27,.int .i64)],tab:=[(10000,.sl [.str,.int .u8,.str])] }
def gConcatS11:List Leaf→(Ex→St→Option R)→Option R
 | [.r r25,.i i26,.i i27,.r rx0],K=>cond (i26==r25.length) (cond (i27==0) (cond (Nat.beq rx0.length 0) (cond (Nat.ble (flatR r25).length LIM) (cond (Nat.ble r25.length LIM)
   (K (.exit 2) { fr:=[(6,.own 10000 0)],tab:=[(10000,.sl [.str,.int .u8,.str] (flatR r25) 0)] }) none) none) none) none) none
 | _,_=>none
noncomputable def eConcatS:Env:=env Tryz.prog [(147,dGrow cShop)] [(11,loopF schConcatS11 gConcatS11),(3,loopF schConcatS3 gConcatS3)] [(3,[(0,[0,3,9,10,11]),(1,[0,3]),(1000,[2])]),(11,[(0,[6,25,26,27]),(3,[6]),(1000,[2])])]
theorem q_concatS (l:List (List HShop)):evFn eConcatS 117 ((aOne (vSl (rSl cShop))).enc l) ([]) some =
 cond ((↑(List.length (List.map (RCod.enc (rSl cShop)) l)):Int)==(↑(List.length (List.map (RCod.enc (rSl cShop)) l)):Int)) (cond (Nat.ble (List.length (flatR (List.map (RCod.enc (rSl cShop)) l))) 1000000) (cond (Nat.ble (List.length (List.map (RCod.enc (rSl cShop)) l)) 1000000) (cond (ile (↑(List.length (flatR (List.map (RCod.enc (rSl cShop)) l))):Int) (1000000:Int)) (cond ((↑(List.length (List.map (RCod.enc (rSl cShop)) l)):Int)==(↑(List.length (List.map (RCod.enc (rSl cShop)) l)):Int)) (cond (Nat.ble (List.length (flatR (List.map (RCod.enc (rSl cShop)) l))) 1000000) (cond (Nat.ble (List.length (List.map (RCod.enc (rSl cShop)) l)) 1000000) (some {v:=V.slc [.str,.int .u8,.str] (flatR (List.map (RCod.enc (rSl cShop)) l)),bx:=[]:DRes}) (none)) (none)) (none)) (none)) (none)) (none)) (none):=by kernel_rfl
theorem q_concatSR3 (r0:List (List V)) (i3:Int) (r9:List (List V)) (i10:Int) (i11:Int) (K:Ex→St→Option R):evRound eConcatS 117 3 { fr:=[(0,.slc [.slc [.str,.int .u8,.str]] r0),(3,.int .i64 i3),(9,.slc [.slc [.str,.int .u8,.str]] r9),(10,.int .i64 i10),(11,.int .i64 i11)],tab:=[] } K =
 cond (ilt i11 i10) (cond (decide ((0:Int)≤i11∧i11<(↑(List.length r9):Int))) (cond (ilt (IntKind.wrap .i64 (i3+(↑(List.length (V.toRows (List.getD (List.getD r9 (Int.toNat i11) []) 0 V.undef))):Int))) (0:Int)) (none) (K Ex.normal {fr:=[(0,V.slc [.slc [.str,.int .u8,.str]] r0),(3,V.int .i64 (IntKind.wrap .i64 (i3+(↑(List.length (V.toRows (List.getD (List.getD r9 (Int.toNat i11) []) 0 V.undef))):Int)))),(9,V.slc [.slc [.str,.int .u8,.str]] r9),(10,V.int .i64 i10),(11,V.int .i64 (IntKind.wrap .i64 (i11+(1:Int))))],tab:=[]:St})) (none)) (K (Ex.exit 0) {fr:=[(0,V.slc [.slc [.str,.int .u8,.str]] r0),(3,V.int .i64 i3)],tab:=[]:St}):=by kernel_rfl
theorem q_concatSR11 (r25:List (List V)) (i26:Int) (i27:Int) (rx0:List (List V)) (K:Ex→St→Option R):evRound eConcatS 117 11 { fr:=[(6,.own 10000 0),(25,.slc [.slc [.str,.int .u8,.str]] r25),(26,.int .i64 i26),(27,.int .i64 i27)],tab:=[(10000,.sl [.str,.int .u8,.str] rx0 0)] } K =
 cond (ilt i27 i26) (cond (decide ((0:Int)≤i27∧i27<(↑(List.length r25):Int))) (cond (decide ((List.length rx0+List.length (V.toRows (List.getD (List.getD r25 (Int.toNat i27) []) 0 V.undef)))*40≤140737488355328)) (K Ex.normal {fr:=[(6,V.own 10000 0),(25,V.slc [.slc [.str,.int .u8,.str]] r25),(26,V.int .i64 i26),(27,V.int .i64 (IntKind.wrap .i64 (i27+(1:Int))))],tab:=[(10000,Box.sl [.str,.int .u8,.str] (rx0++V.toRows (List.getD (List.getD r25 (Int.toNat i27) []) 0 V.undef)) 0)]:St}) (none)) (none)) (K (Ex.exit 2) {fr:=[(6,V.own 10000 0)],tab:=[(10000,Box.sl [.str,.int .u8,.str] rx0 0)]:St}):=by kernel_rfl
theorem ok_concatS:FnOk Tryz.prog 117 (dConcat cShop):=by
 refine den_okF (env_ok ((TOk.nil _).cons ok_growS)) (E:=eConcatS) Tryz.func117 [3,11] (by kernel_rfl) (two2 (rounds_of rfl fun l K q h=>?_) (rounds_of rfl fun l K q h=>?_)) fun a _ h=>?_
 ·unfold gConcatS3 at h
  split at h
  ·rename_i r0 i3 r i10 i11
   have h1:=(cond_none h).1; replace h:=(cond_none h).2; have h2:=(cond_none h).1; replace h:=(cond_none h).2; have h3:=(cond_none h).1; replace h:=(cond_none h).2; have h4:=(cond_none h).1; replace h:=(cond_none h).2; have h5:=(cond_none h).1; replace h:=(cond_none h).2
   have e1:=ieq_of h1
   have e2:=ieq_of h2
   have e3:=ieq_of h3
   subst e1 e2 e3
   have h4:(flatR r).length≤1000000:=ble_of h4
   have h5:r.length≤1000000:=ble_of h5
   refine range_ind (E:=eConcatS) (f:=117) (id:=3) (A:=Int) r (fun n i=>{ fr:=[(0,.slc [.slc [.str,.int .u8,.str]] r0),(3,.int .i64 n),(9,.slc [.slc [.str,.int .u8,.str]] r),(10,.int .i64 r.length),(11,.int .i64 i)],tab:=[] })
    (fun n i=>0≤n∧n+((flatR (r.drop i)).length:Int)≤1000000)
    (fun n l K=>K (.exit 0) { fr:=[(0,.slc [.slc [.str,.int .u8,.str]] r0),(3,.int .i64 (n+((flatR l).length:Int)))],tab:=[] }) (fun n i ⟨hn,hn2⟩ hi=>?_) (fun n _=>?_) 0 0 (Int.le_refl _) (by omega) ⟨Int.le_refl _,by simp; omega⟩ K q (by simpa using h)
   ·rw [drop_row hi,flatR_cons,List.length_append] at hn2
    have w:=wr_i64 (n:=n+((V.toRows (List.getD (r.getD i []) 0 .undef)).length:Int)) (by omega) (by omega)
    have w2:=wr_i64 (n:=(i:Int)+1) (by omega) (by omega)
    refine .inl ⟨n+((V.toRows (List.getD (r.getD i []) 0 .undef)).length:Int),⟨by omega,by omega⟩,fun K=>?_,fun K=>?_⟩
    ·rw [q_concatSR3,ilt_t (by omega),decide_eq_true (by omega),Int.toNat_natCast,w,w2,ilt_f (by omega)]
     try rfl
    ·show K _ _=K _ _
     rw [flatR_cons,List.length_append,Int.natCast_add,Int.add_assoc]
   ·refine ⟨.exit 0,{ fr:=[(0,.slc [.slc [.str,.int .u8,.str]] r0),(3,.int .i64 n)],tab:=[] },by simp,fun K=>?_,fun K=>?_⟩
    ·rw [q_concatSR3,ilt_f (Int.le_refl _)]
     try rfl
    ·show K _ _=K _ _
     rw [show ((flatR []).length:Int)=0 from rfl,Int.add_zero]
  ·cases h
 ·unfold gConcatS11 at h
  split at h
  ·rename_i r i26 i27 acc
   have h1:=(cond_none h).1; replace h:=(cond_none h).2; have h2:=(cond_none h).1; replace h:=(cond_none h).2; have h3:=(cond_none h).1; replace h:=(cond_none h).2; have h4:=(cond_none h).1; replace h:=(cond_none h).2; have h5:=(cond_none h).1; replace h:=(cond_none h).2
   have e1:=ieq_of h1
   have e2:=ieq_of h2
   subst e1 e2
   have h3:acc.length=0:=Nat.eq_of_beq_eq_true h3
   obtain rfl:acc=[]:=List.length_eq_zero_iff.1 h3
   have h4:(flatR r).length≤1000000:=ble_of h4
   have h5:r.length≤1000000:=ble_of h5
   refine range_ind (E:=eConcatS) (f:=117) (id:=11) (A:=List (List V)) r (fun n i=>{ fr:=[(6,.own 10000 0),(25,.slc [.slc [.str,.int .u8,.str]] r),(26,.int .i64 r.length),(27,.int .i64 i)],tab:=[(10000,.sl [.str,.int .u8,.str] n 0)] })
    (fun n i=>n.length+(flatR (r.drop i)).length≤1000000)
    (fun n l K=>K (.exit 2) { fr:=[(6,.own 10000 0)],tab:=[(10000,.sl [.str,.int .u8,.str] (n++flatR l) 0)] }) (fun n i hn hi=>?_) (fun n _=>?_) [] 0 (Int.le_refl _) (by omega) (by simp; omega) K q (by simpa using h)
   ·rw [drop_row hi,flatR_cons,List.length_append] at hn
    have w2:=wr_i64 (n:=(i:Int)+1) (by omega) (by omega)
    refine .inl ⟨n++V.toRows (List.getD (r.getD i []) 0 .undef),by rw [List.length_append]; omega,fun K=>?_,fun K=>?_⟩
    ·rw [q_concatSR11,ilt_t (by omega),decide_eq_true (by omega),Int.toNat_natCast,w2]
     rw [decide_eq_true (by omega)]
     try rfl
    ·show K _ _=K _ _
     rw [flatR_cons,List.append_assoc]
   ·refine ⟨.exit 2,{ fr:=[(6,.own 10000 0)],tab:=[(10000,.sl [.str,.int .u8,.str] n 0)] },by simp,fun K=>?_,fun K=>?_⟩
    ·rw [q_concatSR11,ilt_f (Int.le_refl _)]
     try rfl
    ·show K _ _=K _ _
     rw [show flatR []=[] from rfl,List.append_nil]
  ·cases h
 ·obtain ⟨h1,h2⟩:=bcond h
  have h1:a.length≤1000:=ble_of h1
  have h2:sumLen a≤100000:=ble_of h2
  refine (q_concatS a).trans ?_
  have e:(flatR (a.map (rSl cShop).enc)).length=sumLen a:=by rw [flatR_enc,List.length_map,flat_len]
  rw [e,List.length_map,ble_t (show sumLen a≤1000000 by omega),ble_t (show a.length≤1000000 by omega),ile_t (by omega),flatR_enc]
  rw [show (((a.length:Int))==(a.length:Int))=true from beq_self_eq_true _]
  try rfl
end Go.Ev

/- slices.Concat and slices.Grow at another type answer what the plain ones do: lemmas,no condition. -/
namespace Go.Ev
open Go Go.Proofs
set_option maxRecDepth 100000
-- FOLD
noncomputable def eGrowB:Env:={ env Tryz.prog [] [] [] [153] with tr:=true }
theorem q_growB (n:Int):evFn eGrowB 153 ((aCons (vNils cBind) (aOne (vInt .i64))).enc ((),n)) ([]) some =
 cond (ilt n (0:Int)) (none) (cond (ilt (0:Int) (IntKind.wrap .i64 (n-IntKind.wrap .i64 ((0:Int)-(0:Int))))) (cond (decide ((0:Int)≤IntKind.wrap .i64 (n-IntKind.wrap .i64 ((0:Int)-(0:Int)))∧IntKind.wrap .i64 (n-IntKind.wrap .i64 ((0:Int)-(0:Int)))*(↑(88:Nat):Int)≤(140737488355328:Int)∧IntKind.wrap .i64 (n-IntKind.wrap .i64 ((0:Int)-(0:Int)))≤(140737488355328:Int))) (some {v:=V.own 1000 0,bx:=[],nb:=[Box.sl [.str,.str,.bool,.str,.slc [.str,.int .u8,.int .i64,.str],.bool] [] 0]:DRes}) (none)) (some {v:=V.own 1000 0,bx:=[],nb:=[Box.sl [.str,.str,.bool,.str,.slc [.str,.int .u8,.int .i64,.str],.bool] [] 0]:DRes})):=by kernel_rfl
theorem ok_growB:FnOk Tryz.prog 153 (dGrow cBind):=by
 refine den_okF (E:=eGrowB) (env_ok (TOk.nil _)) Tryz.func153 [] (by kernel_rfl) none0 fun a _ h=>?_
 obtain ⟨⟨⟩,n⟩:=a
 obtain ⟨h1,h2⟩:=bcond h
 have h1:0≤n:=ile_of h1
 have h2:n≤1000000:=ile_of h2
 refine (q_growB n).trans ?_
 have w0:IntKind.wrap .i64 ((0:Int)-0)=0:=rfl
 have w:IntKind.wrap .i64 (n-0)=n:=by rw [Int.sub_zero]; exact wr_i64 (by omega) (by omega)
 rw [w0,w]
 have d:decide (0≤n∧n*((88:Nat):Int)≤140737488355328∧n≤140737488355328)=true:=decide_eq_true (by omega)
 rw [d,ilt_f h1]
 cases ilt 0 n<;>rfl
def schConcatB3:SSch:={ fr:=[(0,.slc [.slc [.str,.str,.bool,.str,.slc [.str,.int .u8,.int .i64,.str],.bool]]),(3,.int .i64),(9,.slc [.slc [.str,.str,.bool,.str,.slc [.str,.int .u8,.int .i64,.str],.bool]]),(10,.int .i64),(11,.int .i64)],tab:=[] }
def gConcatB3:List Leaf→(Ex→St→Option R)→Option R
 | [.r r0,.i i3,.r r9,.i i10,.i i11],K=>cond (i10==r9.length) (cond (i11==0) (cond (i3==0) (cond (Nat.ble (flatR r9).length LIM) (cond (Nat.ble r9.length LIM)
   (K (.exit 0) { fr:=[(0,.slc [.slc [.str,.str,.bool,.str,.slc [.str,.int .u8,.int .i64,.str],.bool]] r0),(3,.int .i64 (flatR r9).length)],tab:=[] }) none) none) none) none) none
 | _,_=>none
def schConcatB11:SSch:={ fr:=[(6,.own 10000),(25,.slc [.slc [.str,.str,.bool,.str,.slc [.str,.int .u8,.int .i64,.str],.bool]]),(26,.int .i64),(27,.int .i64)],tab:=[(10000,.sl [.str,.str,.bool,.str,.slc [.str,.int .u8,.int .i64,.str],.bool])] }
def gConcatB11:List Leaf→(Ex→St→Option R)→Option R
 | [.r r25,.i i26,.i i27,.r rx0],K=>cond (i26==r25.length) (cond (i27==0) (cond (Nat.beq rx0.length 0) (cond (Nat.ble (flatR r25).length LIM) (cond (Nat.ble r25.length LIM)
   (K (.exit 2) { fr:=[(6,.own 10000 0)],tab:=[(10000,.sl [.str,.str,.bool,.str,.slc [.str,.int .u8,.int .i64,.str],.bool] (flatR r25) 0)] }) none) none) none) none) none
 | _,_=>none
noncomputable def eConcatB:Env:=env Tryz.prog [(153,dGrow cBind)] [(11,loopF schConcatB11 gConcatB11),(3,loopF schConcatB3 gConcatB3)] [(3,[(0,[0,3,9,10,11]),(1,[0,3]),(1000,[2])]),(11,[(0,[6,25,26,27]),(3,[6]),(1000,[2])])]
theorem q_concatB (l:List (List HBind)):evFn eConcatB 121 ((aOne (vSl (rSl cBind))).enc l) ([]) some =
 cond ((↑(List.length (List.map (RCod.enc (rSl cBind)) l)):Int)==(↑(List.length (List.map (RCod.enc (rSl cBind)) l)):Int)) (cond (Nat.ble (List.length (flatR (List.map (RCod.enc (rSl cBind)) l))) 1000000) (cond (Nat.ble (List.length (List.map (RCod.enc (rSl cBind)) l)) 1000000) (cond (ile (↑(List.length (flatR (List.map (RCod.enc (rSl cBind)) l))):Int) (1000000:Int)) (cond ((↑(List.length (List.map (RCod.enc (rSl cBind)) l)):Int)==(↑(List.length (List.map (RCod.enc (rSl cBind)) l)):Int)) (cond (Nat.ble (List.length (flatR (List.map (RCod.enc (rSl cBind)) l))) 1000000) (cond (Nat.ble (List.length (List.map (RCod.enc (rSl cBind)) l)) 1000000) (some {v:=V.slc [.str,.str,.bool,.str,.slc [.str,.int .u8,.int .i64,.str],.bool] (flatR (List.map (RCod.enc (rSl cBind)) l)),bx:=[]:DRes}) (none)) (none)) (none)) (none)) (none)) (none)) (none):=by kernel_rfl
theorem q_concatBR3 (r0:List (List V)) (i3:Int) (r9:List (List V)) (i10:Int) (i11:Int) (K:Ex→St→Option R):evRound eConcatB 121 3 { fr:=[(0,.slc [.slc [.str,.str,.bool,.str,.slc [.str,.int .u8,.int .i64,.str],.bool]] r0),(3,.int .i64 i3),(9,.slc [.slc [.str,.str,.bool,.str,.slc [.str,.int .u8,.int .i64,.str],.bool]] r9),(10,.int .i64 i10),(11,.int .i64 i11)],tab:=[] } K =
 cond (ilt i11 i10) (cond (decide ((0:Int)≤i11∧i11<(↑(List.length r9):Int))) (cond (ilt (IntKind.wrap .i64 (i3+(↑(List.length (V.toRows (List.getD (List.getD r9 (Int.toNat i11) []) 0 V.undef))):Int))) (0:Int)) (none) (K Ex.normal {fr:=[(0,V.slc [.slc [.str,.str,.bool,.str,.slc [.str,.int .u8,.int .i64,.str],.bool]] r0),(3,V.int .i64 (IntKind.wrap .i64 (i3+(↑(List.length (V.toRows (List.getD (List.getD r9 (Int.toNat i11) []) 0 V.undef))):Int)))),(9,V.slc [.slc [.str,.str,.bool,.str,.slc [.str,.int .u8,.int .i64,.str],.bool]] r9),(10,V.int .i64 i10),(11,V.int .i64 (IntKind.wrap .i64 (i11+(1:Int))))],tab:=[]:St})) (none)) (K (Ex.exit 0) {fr:=[(0,V.slc [.slc [.str,.str,.bool,.str,.slc [.str,.int .u8,.int .i64,.str],.bool]] r0),(3,V.int .i64 i3)],tab:=[]:St}):=by kernel_rfl
theorem q_concatBR11 (r25:List (List V)) (i26:Int) (i27:Int) (rx0:List (List V)) (K:Ex→St→Option R):evRound eConcatB 121 11 { fr:=[(6,.own 10000 0),(25,.slc [.slc [.str,.str,.bool,.str,.slc [.str,.int .u8,.int .i64,.str],.bool]] r25),(26,.int .i64 i26),(27,.int .i64 i27)],tab:=[(10000,.sl [.str,.str,.bool,.str,.slc [.str,.int .u8,.int .i64,.str],.bool] rx0 0)] } K =
 cond (ilt i27 i26) (cond (decide ((0:Int)≤i27∧i27<(↑(List.length r25):Int))) (cond (decide ((List.length rx0+List.length (V.toRows (List.getD (List.getD r25 (Int.toNat i27) []) 0 V.undef)))*88≤140737488355328)) (K Ex.normal {fr:=[(6,V.own 10000 0),(25,V.slc [.slc [.str,.str,.bool,.str,.slc [.str,.int .u8,.int .i64,.str],.bool]] r25),(26,V.int .i64 i26),(27,V.int .i64 (IntKind.wrap .i64 (i27+(1:Int))))],tab:=[(10000,Box.sl [.str,.str,.bool,.str,.slc [.str,.int .u8,.int .i64,.str],.bool] (rx0++V.toRows (List.getD (List.getD r25 (Int.toNat i27) []) 0 V.undef)) 0)]:St}) (none)) (none)) (K (Ex.exit 2) {fr:=[(6,V.own 10000 0)],tab:=[(10000,Box.sl [.str,.str,.bool,.str,.slc [.str,.int .u8,.int .i64,.str],.bool] rx0 0)]:St}):=by kernel_rfl
theorem ok_concatB:FnOk Tryz.prog 121 (dConcat cBind):=by
 refine den_okF (env_ok ((TOk.nil _).cons ok_growB)) (E:=eConcatB) Tryz.func121 [3,11] (by kernel_rfl) (two2 (rounds_of rfl fun l K q h=>?_) (rounds_of rfl fun l K q h=>?_)) fun a _ h=>?_
 ·unfold gConcatB3 at h
  split at h
  ·rename_i r0 i3 r i10 i11
   have h1:=(cond_none h).1; replace h:=(cond_none h).2; have h2:=(cond_none h).1; replace h:=(cond_none h).2; have h3:=(cond_none h).1; replace h:=(cond_none h).2; have h4:=(cond_none h).1; replace h:=(cond_none h).2; have h5:=(cond_none h).1; replace h:=(cond_none h).2
   have e1:=ieq_of h1
   have e2:=ieq_of h2
   have e3:=ieq_of h3
   subst e1 e2 e3
   have h4:(flatR r).length≤1000000:=ble_of h4
   have h5:r.length≤1000000:=ble_of h5
   refine range_ind (E:=eConcatB) (f:=121) (id:=3) (A:=Int) r (fun n i=>{ fr:=[(0,.slc [.slc [.str,.str,.bool,.str,.slc [.str,.int .u8,.int .i64,.str],.bool]] r0),(3,.int .i64 n),(9,.slc [.slc [.str,.str,.bool,.str,.slc [.str,.int .u8,.int .i64,.str],.bool]] r),(10,.int .i64 r.length),(11,.int .i64 i)],tab:=[] })
    (fun n i=>0≤n∧n+((flatR (r.drop i)).length:Int)≤1000000)
    (fun n l K=>K (.exit 0) { fr:=[(0,.slc [.slc [.str,.str,.bool,.str,.slc [.str,.int .u8,.int .i64,.str],.bool]] r0),(3,.int .i64 (n+((flatR l).length:Int)))],tab:=[] }) (fun n i ⟨hn,hn2⟩ hi=>?_) (fun n _=>?_) 0 0 (Int.le_refl _) (by omega) ⟨Int.le_refl _,by simp; omega⟩ K q (by simpa using h)
   ·rw [drop_row hi,flatR_cons,List.length_append] at hn2
    have w:=wr_i64 (n:=n+((V.toRows (List.getD (r.getD i []) 0 .undef)).length:Int)) (by omega) (by omega)
    have w2:=wr_i64 (n:=(i:Int)+1) (by omega) (by omega)
    refine .inl ⟨n+((V.toRows (List.getD (r.getD i []) 0 .undef)).length:Int),⟨by omega,by omega⟩,fun K=>?_,fun K=>?_⟩
    ·rw [q_concatBR3,ilt_t (by omega),decide_eq_true (by omega),Int.toNat_natCast,w,w2,ilt_f (by omega)]
     try rfl
    ·show K _ _=K _ _
     rw [flatR_cons,List.length_append,Int.natCast_add,Int.add_assoc]
   ·refine ⟨.exit 0,{ fr:=[(0,.slc [.slc [.str,.str,.bool,.str,.slc [.str,.int .u8,.int .i64,.str],.bool]] r0),(3,.int .i64 n)],tab:=[] },by simp,fun K=>?_,fun K=>?_⟩
    ·rw [q_concatBR3,ilt_f (Int.le_refl _)]
     try rfl
    ·show K _ _=K _ _
     rw [show ((flatR []).length:Int)=0 from rfl,Int.add_zero]
  ·cases h
 ·unfold gConcatB11 at h
  split at h
  ·rename_i r i26 i27 acc
   have h1:=(cond_none h).1; replace h:=(cond_none h).2; have h2:=(cond_none h).1; replace h:=(cond_none h).2; have h3:=(cond_none h).1; replace h:=(cond_none h).2; have h4:=(cond_none h).1; replace h:=(cond_none h).2; have h5:=(cond_none h).1; replace h:=(cond_none h).2
   have e1:=ieq_of h1
   have e2:=ieq_of h2
   subst e1 e2
   have h3:acc.length=0:=Nat.eq_of_beq_eq_true h3
   obtain rfl:acc=[]:=List.length_eq_zero_iff.1 h3
   have h4:(flatR r).length≤1000000:=ble_of h4
   have h5:r.length≤1000000:=ble_of h5
   refine range_ind (E:=eConcatB) (f:=121) (id:=11) (A:=List (List V)) r (fun n i=>{ fr:=[(6,.own 10000 0),(25,.slc [.slc [.str,.str,.bool,.str,.slc [.str,.int .u8,.int .i64,.str],.bool]] r),(26,.int .i64 r.length),(27,.int .i64 i)],tab:=[(10000,.sl [.str,.str,.bool,.str,.slc [.str,.int .u8,.int .i64,.str],.bool] n 0)] })
    (fun n i=>n.length+(flatR (r.drop i)).length≤1000000)
    (fun n l K=>K (.exit 2) { fr:=[(6,.own 10000 0)],tab:=[(10000,.sl [.str,.str,.bool,.str,.slc [.str,.int .u8,.int .i64,.str],.bool] (n++flatR l) 0)] }) (fun n i hn hi=>?_) (fun n _=>?_) [] 0 (Int.le_refl _) (by omega) (by simp; omega) K q (by simpa using h)
   ·rw [drop_row hi,flatR_cons,List.length_append] at hn
    have w2:=wr_i64 (n:=(i:Int)+1) (by omega) (by omega)
    refine .inl ⟨n++V.toRows (List.getD (r.getD i []) 0 .undef),by rw [List.length_append]; omega,fun K=>?_,fun K=>?_⟩
    ·rw [q_concatBR11,ilt_t (by omega),decide_eq_true (by omega),Int.toNat_natCast,w2]
     rw [decide_eq_true (by omega)]
     try rfl
    ·show K _ _=K _ _
     rw [flatR_cons,List.append_assoc]
   ·refine ⟨.exit 2,{ fr:=[(6,.own 10000 0)],tab:=[(10000,.sl [.str,.str,.bool,.str,.slc [.str,.int .u8,.int .i64,.str],.bool] n 0)] },by simp,fun K=>?_,fun K=>?_⟩
    ·rw [q_concatBR11,ilt_f (Int.le_refl _)]
     try rfl
    ·show K _ _=K _ _
     rw [show flatR []=[] from rfl,List.append_nil]
  ·cases h
 ·obtain ⟨h1,h2⟩:=bcond h
  have h1:a.length≤1000:=ble_of h1
  have h2:sumLen a≤100000:=ble_of h2
  refine (q_concatB a).trans ?_
  have e:(flatR (a.map (rSl cBind).enc)).length=sumLen a:=by rw [flatR_enc,List.length_map,flat_len]
  rw [e,List.length_map,ble_t (show sumLen a≤1000000 by omega),ble_t (show a.length≤1000000 by omega),ile_t (by omega),flatR_enc]
  rw [show (((a.length:Int))==(a.length:Int))=true from beq_self_eq_true _]
  try rfl
end Go.Ev

/- The functions on exchanges and bindings answer what the plain ones do: lemmas. -/
namespace Go.Ev
open Go Go.Proofs
set_option maxRecDepth 100000
-- FOLD
namespace N
def bindRule (b:HBind) (sort:Int):HRule:=⟨sort,b.key,b.want,b.all⟩
def bindSame (a b:HBind):Bool:=cond (a.shop==b.shop) (cond (a.to==b.to) (cond (a.up==b.up) (ruleSame (bindRule a 0) (bindRule b 0)) false) false) false
def shopCheck (s:HShop):Int:=cond (name s.name != 0) (name s.name) (cond (ilt 4 s.sort) 8 (cond (s.sort==4) (name s.to) (cond (s.to != []) 4 0)))
end N
def smallB (b:HBind):Bool:=smallP b.want
def dBindRule:Den:=den (aCons (vAgg cBind) (aOne (vInt .u8))) bNil (oV (vAgg cRule)) (fun _ _=>true) fun a _=>(N.bindRule a.1 a.2,())
def dBindSame:Den:=den (aCons (vAgg cBind) (aOne (vAgg cBind))) bNil (oV vBool) (fun a _=>smallB a.1) fun a _=>(N.bindSame a.1 a.2,())
def dBindClone:Den:=den (aOne (vAgg cBind)) bNil (oV (vAgg cBind)) (fun b _=>smallB b) fun b _=>(b,())
def dShopCheck:Den:=den (aOne (vAgg cShop)) bNil (oV (vInt .i64)) (fun _ _=>true) fun s _=>(N.shopCheck s,())
noncomputable def eTNone:Env:=env Tryz.prog [] [] []
theorem q_bindRule (b:HBind) (s:Int):evFn eTNone 89 ((aCons (vAgg cBind) (aOne (vInt .u8))).enc (b,s)) ([]) some =
 some {v:=V.agg [V.int .u8 s,V.str (HBind.key b),V.slc [.str,.int .u8,.int .i64,.str] (List.map (fun p=>[V.str (HPair.key p),V.int .u8 (HPair.kind p),V.int .i64 (HPair.num p),V.str (HPair.text p)]) (HBind.want b)),V.bool (HBind.all b)],bx:=[]:DRes}:=by kernel_rfl
noncomputable def eBindSame:Env:=env Tryz.prog [(89,dBindRule),(138,dRuleSame)] [] []
theorem q_bindSame (a b:HBind):evFn eBindSame 100 ((aCons (vAgg cBind) (aOne (vAgg cBind))).enc (a,b)) ([]) some =
 cond (HBind.shop a==HBind.shop b) (cond (HBind.to a==HBind.to b) (cond (HBind.up a==HBind.up b) (cond (smallP (List.map (fun r=>{key:=V.toStr (List.getD r 0 .undef),kind:=V.toInt (List.getD r 1 .undef),num:=V.toInt (List.getD r 2 .undef),text:=V.toStr (List.getD r 3 .undef):HPair}) (List.map (fun p=>[V.str (HPair.key p),V.int .u8 (HPair.kind p),V.int .i64 (HPair.num p),V.str (HPair.text p)]) (HRule.want (N.bindRule {shop:=HBind.shop a,to:=HBind.to a,up:=HBind.up a,key:=HBind.key a,want:=List.map (fun r=>{key:=V.toStr (List.getD r 0 .undef),kind:=V.toInt (List.getD r 1 .undef),num:=V.toInt (List.getD r 2 .undef),text:=V.toStr (List.getD r 3 .undef):HPair}) (List.map (fun p=>[V.str (HPair.key p),V.int .u8 (HPair.kind p),V.int .i64 (HPair.num p),V.str (HPair.text p)]) (HBind.want a)),all:=HBind.all a:HBind} (0:Int)))))) (some {v:=V.bool (N.ruleSame {sort:=HRule.sort (N.bindRule {shop:=HBind.shop a,to:=HBind.to a,up:=HBind.up a,key:=HBind.key a,want:=List.map (fun r=>{key:=V.toStr (List.getD r 0 .undef),kind:=V.toInt (List.getD r 1 .undef),num:=V.toInt (List.getD r 2 .undef),text:=V.toStr (List.getD r 3 .undef):HPair}) (List.map (fun p=>[V.str (HPair.key p),V.int .u8 (HPair.kind p),V.int .i64 (HPair.num p),V.str (HPair.text p)]) (HBind.want a)),all:=HBind.all a:HBind} (0:Int)),key:=HRule.key (N.bindRule {shop:=HBind.shop a,to:=HBind.to a,up:=HBind.up a,key:=HBind.key a,want:=List.map (fun r=>{key:=V.toStr (List.getD r 0 .undef),kind:=V.toInt (List.getD r 1 .undef),num:=V.toInt (List.getD r 2 .undef),text:=V.toStr (List.getD r 3 .undef):HPair}) (List.map (fun p=>[V.str (HPair.key p),V.int .u8 (HPair.kind p),V.int .i64 (HPair.num p),V.str (HPair.text p)]) (HBind.want a)),all:=HBind.all a:HBind} (0:Int)),want:=List.map (fun r=>{key:=V.toStr (List.getD r 0 .undef),kind:=V.toInt (List.getD r 1 .undef),num:=V.toInt (List.getD r 2 .undef),text:=V.toStr (List.getD r 3 .undef):HPair}) (List.map (fun p=>[V.str (HPair.key p),V.int .u8 (HPair.kind p),V.int .i64 (HPair.num p),V.str (HPair.text p)]) (HRule.want (N.bindRule {shop:=HBind.shop a,to:=HBind.to a,up:=HBind.up a,key:=HBind.key a,want:=List.map (fun r=>{key:=V.toStr (List.getD r 0 .undef),kind:=V.toInt (List.getD r 1 .undef),num:=V.toInt (List.getD r 2 .undef),text:=V.toStr (List.getD r 3 .undef):HPair}) (List.map (fun p=>[V.str (HPair.key p),V.int .u8 (HPair.kind p),V.int .i64 (HPair.num p),V.str (HPair.text p)]) (HBind.want a)),all:=HBind.all a:HBind} (0:Int)))),all:=HRule.all (N.bindRule {shop:=HBind.shop a,to:=HBind.to a,up:=HBind.up a,key:=HBind.key a,want:=List.map (fun r=>{key:=V.toStr (List.getD r 0 .undef),kind:=V.toInt (List.getD r 1 .undef),num:=V.toInt (List.getD r 2 .undef),text:=V.toStr (List.getD r 3 .undef):HPair}) (List.map (fun p=>[V.str (HPair.key p),V.int .u8 (HPair.kind p),V.int .i64 (HPair.num p),V.str (HPair.text p)]) (HBind.want a)),all:=HBind.all a:HBind} (0:Int)):HRule} {sort:=HRule.sort (N.bindRule {shop:=HBind.shop b,to:=HBind.to b,up:=HBind.up b,key:=HBind.key b,want:=List.map (fun r=>{key:=V.toStr (List.getD r 0 .undef),kind:=V.toInt (List.getD r 1 .undef),num:=V.toInt (List.getD r 2 .undef),text:=V.toStr (List.getD r 3 .undef):HPair}) (List.map (fun p=>[V.str (HPair.key p),V.int .u8 (HPair.kind p),V.int .i64 (HPair.num p),V.str (HPair.text p)]) (HBind.want b)),all:=HBind.all b:HBind} (0:Int)),key:=HRule.key (N.bindRule {shop:=HBind.shop b,to:=HBind.to b,up:=HBind.up b,key:=HBind.key b,want:=List.map (fun r=>{key:=V.toStr (List.getD r 0 .undef),kind:=V.toInt (List.getD r 1 .undef),num:=V.toInt (List.getD r 2 .undef),text:=V.toStr (List.getD r 3 .undef):HPair}) (List.map (fun p=>[V.str (HPair.key p),V.int .u8 (HPair.kind p),V.int .i64 (HPair.num p),V.str (HPair.text p)]) (HBind.want b)),all:=HBind.all b:HBind} (0:Int)),want:=List.map (fun r=>{key:=V.toStr (List.getD r 0 .undef),kind:=V.toInt (List.getD r 1 .undef),num:=V.toInt (List.getD r 2 .undef),text:=V.toStr (List.getD r 3 .undef):HPair}) (List.map (fun p=>[V.str (HPair.key p),V.int .u8 (HPair.kind p),V.int .i64 (HPair.num p),V.str (HPair.text p)]) (HRule.want (N.bindRule {shop:=HBind.shop b,to:=HBind.to b,up:=HBind.up b,key:=HBind.key b,want:=List.map (fun r=>{key:=V.toStr (List.getD r 0 .undef),kind:=V.toInt (List.getD r 1 .undef),num:=V.toInt (List.getD r 2 .undef),text:=V.toStr (List.getD r 3 .undef):HPair}) (List.map (fun p=>[V.str (HPair.key p),V.int .u8 (HPair.kind p),V.int .i64 (HPair.num p),V.str (HPair.text p)]) (HBind.want b)),all:=HBind.all b:HBind} (0:Int)))),all:=HRule.all (N.bindRule {shop:=HBind.shop b,to:=HBind.to b,up:=HBind.up b,key:=HBind.key b,want:=List.map (fun r=>{key:=V.toStr (List.getD r 0 .undef),kind:=V.toInt (List.getD r 1 .undef),num:=V.toInt (List.getD r 2 .undef),text:=V.toStr (List.getD r 3 .undef):HPair}) (List.map (fun p=>[V.str (HPair.key p),V.int .u8 (HPair.kind p),V.int .i64 (HPair.num p),V.str (HPair.text p)]) (HBind.want b)),all:=HBind.all b:HBind} (0:Int)):HRule}),bx:=[]:DRes}) (none)) (some {v:=V.bool false,bx:=[]:DRes})) (some {v:=V.bool false,bx:=[]:DRes})) (some {v:=V.bool false,bx:=[]:DRes}):=by kernel_rfl
noncomputable def eBindClone:Env:=env Tryz.prog [(143,dClone)] [] []
theorem q_bindClone (b:HBind):evFn eBindClone 122 ((aOne (vAgg cBind)).enc b) ([]) some =
 cond (smallP (List.map (RCod.dec cPair) (List.map (fun p=>[V.str (HPair.key p),V.int .u8 (HPair.kind p),V.int .i64 (HPair.num p),V.str (HPair.text p)]) (HBind.want b)))) (some {v:=V.agg [V.str (HBind.shop b),V.str (HBind.to b),V.bool (HBind.up b),V.str (HBind.key b),V.slc [.str,.int .u8,.int .i64,.str] (List.map (RCod.enc cPair) (List.map (RCod.dec cPair) (List.map (fun p=>[V.str (HPair.key p),V.int .u8 (HPair.kind p),V.int .i64 (HPair.num p),V.str (HPair.text p)]) (HBind.want b)))),V.bool (HBind.all b)],bx:=[]:DRes}) (none):=by kernel_rfl
noncomputable def eShopCheck:Env:=env Tryz.prog [(118,dName)] [] []
theorem q_shopCheck (s:HShop):evFn eShopCheck 116 ((aOne (vAgg cShop)).enc s) ([]) some =
 cond (N.name (HShop.name s) != (0:Int)) (some {v:=V.int .i64 (N.name (HShop.name s)),bx:=[]:DRes}) (cond (ilt (4:Int) (HShop.sort s)) (some {v:=V.int .i64 (8:Int),bx:=[]:DRes}) (cond (HShop.sort s==(4:Int)) (some {v:=V.int .i64 (N.name (HShop.to s)),bx:=[]:DRes}) (cond (!HShop.to s==[]) (some {v:=V.int .i64 (4:Int),bx:=[]:DRes}) (some {v:=V.int .i64 (0:Int),bx:=[]:DRes})))):=by kernel_rfl
theorem ok_bindRule:FnOk Tryz.prog 89 dBindRule:=by
 refine den_okF (env_ok (TOk.nil _)) (E:=eTNone) Tryz.func89 [] (by kernel_rfl) none0 fun a _ _=>?_
 exact q_bindRule a.1 a.2
theorem fold_ruleE (x:HRule):(⟨x.sort,x.key,(x.want.map (fun p=>[V.str p.key,V.int .u8 p.kind,V.int .i64 p.num,V.str p.text])).map (fun r=>({ key:=V.toStr (List.getD r 0 .undef),kind:=V.toInt (List.getD r 1 .undef),num:=V.toInt (List.getD r 2 .undef),text:=V.toStr (List.getD r 3 .undef) }:HPair)),x.all⟩:HRule)=x:=by rw [pairs_enc]
theorem fold_bindE (x:HBind):(⟨x.shop,x.to,x.up,x.key,(x.want.map (fun p=>[V.str p.key,V.int .u8 p.kind,V.int .i64 p.num,V.str p.text])).map (fun r=>({ key:=V.toStr (List.getD r 0 .undef),kind:=V.toInt (List.getD r 1 .undef),num:=V.toInt (List.getD r 2 .undef),text:=V.toStr (List.getD r 3 .undef) }:HPair)),x.all⟩:HBind)=x:=by rw [pairs_enc]
theorem fold_bind (r:List V):(⟨(r.getD 0 .undef).toStr,(r.getD 1 .undef).toStr,(r.getD 2 .undef).toBool,(r.getD 3 .undef).toStr,(r.getD 4 .undef).toRows.map (fun r=>({ key:=V.toStr (List.getD r 0 .undef),kind:=V.toInt (List.getD r 1 .undef),num:=V.toInt (List.getD r 2 .undef),text:=V.toStr (List.getD r 3 .undef) }:HPair)),(r.getD 5 .undef).toBool⟩:HBind)=cBind.dec r:=rfl
theorem fold_bindX (b:HBind):[V.str b.shop,V.str b.to,V.bool b.up,V.str b.key,V.slc [.str,.int .u8,.int .i64,.str] (b.want.map fun p=>[V.str p.key,V.int .u8 p.kind,V.int .i64 p.num,V.str p.text]),V.bool b.all]=cBind.enc b:=rfl
theorem fold_shop (r:List V):(⟨(r.getD 0 .undef).toStr,(r.getD 1 .undef).toInt,(r.getD 2 .undef).toStr⟩:HShop)=cShop.dec r:=rfl
theorem fold_shopX (s:HShop):[V.str s.name,V.int .u8 s.sort,V.str s.to]=cShop.enc s:=rfl
theorem decs_pairs (l:List HPair):(l.map (fun p=>[V.str p.key,V.int .u8 p.kind,V.int .i64 p.num,V.str p.text])).map cPair.dec=l:=rowsP_enc l
theorem ok_bindSame:FnOk Tryz.prog 100 dBindSame:=by
 refine den_okF (env_ok (((TOk.nil _).cons ok_ruleSame).cons ok_bindRule)) (E:=eBindSame) Tryz.func100 [] (by kernel_rfl) none0 fun a _ h=>?_
 obtain ⟨a,b⟩:=a
 have h:smallP a.want=true:=h
 refine (q_bindSame a b).trans ?_
 show _=some (⟨.bool (N.bindSame a b),[],[]⟩:DRes)
 simp only [fold_bindE]
 simp only [pairs_enc]
 have h2:smallP (N.bindRule a 0).want=true:=h
 rw [h2]
 unfold N.bindSame
 cases a.shop==b.shop<;>cases a.to==b.to<;>cases a.up==b.up<;>rfl
theorem ok_bindClone:FnOk Tryz.prog 122 dBindClone:=by
 refine den_okF (env_ok ((TOk.nil _).cons ok_clone)) (E:=eBindClone) Tryz.func122 [] (by kernel_rfl) none0 fun b _ h=>?_
 have h:smallP b.want=true:=h
 refine (q_bindClone b).trans ?_
 simp only [decs_pairs,h,cond_true]
 try rfl
theorem ok_shopCheck:FnOk Tryz.prog 116 dShopCheck:=by
 refine den_okF (env_ok ((TOk.nil _).cons ok_name)) (E:=eShopCheck) Tryz.func116 [] (by kernel_rfl) none0 fun s _ _=>?_
 refine (q_shopCheck s).trans ?_
 show _=some (⟨.int .i64 (N.shopCheck s),[],[]⟩:DRes)
 unfold N.shopCheck
 have e:(!s.to==[])=(s.to != []):=rfl
 rw [e]
 cases N.name s.name != 0<;>cases ilt 4 s.sort<;>cases s.sort==4<;>cases s.to != []<;>rfl
end Go.Ev

/- What exchanges and bindings do,in plain terms: lemmas,no condition. -/
namespace Go.Ev
open Go
set_option maxRecDepth 100000
def N.ixG {α:Type} (p:α→Bool):List α→Int→Int
 | [],_=>-1
 | x::r,i=>cond (p x) i (N.ixG p r (i+1))
theorem ixG_cons {α:Type} (p:α→Bool) (x:α) (r:List α) (i:Int):N.ixG p (x::r) i=cond (p x) i (N.ixG p r (i+1)):=rfl
theorem ixG_spec {α:Type} (p:α→Bool):∀ (l:List α) (i:Int),(N.ixG p l i = -1∧l.any p=false)∨∃ (a:List α) (x:α) (b:List α),l=a++x::b∧N.ixG p l i=i+a.length∧p x=true∧a.any p=false∧l.any p=true
 | [],i=>.inl ⟨rfl,rfl⟩
 | x::r,i=>by
  unfold N.ixG
  rw [List.any_cons]
  cases hc:p x with
  | true=>exact .inr ⟨[],x,r,rfl,by simp,hc,rfl,rfl⟩
  | false =>
   rcases ixG_spec p r (i+1) with ⟨h1,h2⟩ | ⟨a,y,b,h1,h2,h3,h4,h5⟩
   ·exact .inl ⟨h1,by rw [h2]; rfl⟩
   ·exact .inr ⟨x::a,y,b,by rw [h1]; rfl,by rw [cond_false,h2]; simp; omega,h3,by rw [List.any_cons,hc,h4]; rfl,by rw [h5]; rfl⟩
theorem ixG_end {α:Type} {p:α→Bool} {l:List α} (h:ile 0 (N.ixG p l 0)=false):N.ixG p l 0 = -1:=by
 rcases ixG_spec p l 0 with ⟨h1,_⟩ | ⟨a,x,b,_,h1,_⟩
 ·exact h1
 ·rw [h1,ile_t (by omega)] at h; cases h
theorem ixG_ge {α:Type} (p:α→Bool) (l:List α):ile 0 (N.ixG p l 0)=l.any p:=by
 rcases ixG_spec p l 0 with ⟨h1,h2⟩ | ⟨a,x,b,_,h1,_,_,h5⟩
 ·rw [h1,h2]; rfl
 ·rw [h1,h5,ile_t (by omega)]
theorem ixG_lt {α:Type} (p:α→Bool) (l:List α):ilt (N.ixG p l 0) 0 = !l.any p:=by
 show (!ile 0 (N.ixG p l 0))=_
 rw [ixG_ge]
def shop0:HShop:=⟨[],0,[]⟩
namespace N
def isShop (n:Bytes) (x:HShop):Bool:=x.name==n
def ofShop (n:Bytes) (x:HBind):Bool:=x.shop==n
def offShop (n:Bytes) (x:HBind):Bool:=!ofShop n x
def eqShop (a b:HShop):Bool:=cond (a.name==b.name) (cond (a.sort==b.sort) (a.to==b.to) false) false
def shopOf (n:Bytes):List HShop→HShop × Bool
 | []=>(shop0,false)
 | x::r=>cond (isShop n x) (x,true) (shopOf n r)
def bMake (b:HBook) (x:HShop):HBook × Int :=
 cond (shopCheck x != 0) (b,shopCheck x) (cond (shopOf x.name b.shops).2 (cond (eqShop x (shopOf x.name b.shops).1) (b,0) (b,9)) (cond (ile 8 b.shops.length) (b,12) (⟨b.shops++[x],b.binds⟩,0)))
def cutG {α:Type} (l:List α) (k:Nat):List α:=l.take k++l.drop (k+1)
def bDrop (b:HBook) (n:Bytes):HBook × Int:=cond (ilt (ixG (isShop n) b.shops 0) 0) (b,10) (⟨cutG b.shops (ixG (isShop n) b.shops 0).toNat,b.binds.filter (offShop n)⟩,0)
def offS (n:Bytes) (x:HShop):Bool:=!isShop n x
def rDrop (b:HBook) (n:Bytes):HBook × Int:=cond (ilt (ixG (isShop n) b.shops 0) 0) (b,10) (⟨b.shops.filter (offS n),b.binds.filter (offShop n)⟩,0)
def bBind (b:HBook) (x:HBind):HBook × Int :=
 cond (shopOf x.shop b.shops).2 (cond ((shopOf x.shop b.shops).1.sort==4) (b,8) (cond (name x.to != 0) (b,name x.to) (cond (ruleCheck (bindRule x (shopOf x.shop b.shops).1.sort) != 0) (b,ruleCheck (bindRule x (shopOf x.shop b.shops).1.sort))
  (cond (b.binds.any (bindSame x)) (b,0) (cond (ile 32 b.binds.length) (b,12) (⟨b.shops,b.binds++[x]⟩,0)))))) (b,10)
def rBind (b:HBook) (x:HBind):HBook × Int :=
 cond (shopOf x.shop b.shops).2 (cond ((shopOf x.shop b.shops).1.sort==4) (b,8) (cond (name x.to != 0) (b,name x.to) (cond (refRuleCheck (bindRule x (shopOf x.shop b.shops).1.sort) != 0) (b,refRuleCheck (bindRule x (shopOf x.shop b.shops).1.sort))
  (cond (b.binds.any (bindSame x)) (b,0) (cond (ile 32 b.binds.length) (b,12) (⟨b.shops,b.binds++[x]⟩,0)))))) (b,10)
def bUnbind (b:HBook) (x:HBind):HBook × Int:=cond (ilt (ixG (bindSame x) b.binds 0) 0) (b,10) (⟨b.shops,cutG b.binds (ixG (bindSame x) b.binds 0).toNat⟩,0)
def offBind (x y:HBind):Bool:=!bindSame x y
def rUnbind (b:HBook) (x:HBind):HBook × Int:=cond (b.binds.any (bindSame x)) (⟨b.shops,b.binds.filter (offBind x)⟩,0) (b,10)
def stays (q:Bytes) (x:HBind):Bool:=cond x.up true (x.to != q)
def bForget (b:HBook) (q:Bytes):HBook:=⟨b.shops,b.binds.filter (stays q)⟩
def eqS (s x:Bytes):Bool:=x==s
def putS (l:List Bytes) (s:Bytes):List Bytes:=cond (l.any (eqS s)) l (l++[s])
def leadsR (shop:Bytes) (sort:Int) (key:Bytes) (h:List HPair):List HBind→List Bytes→List Bytes→List Bytes × List Bytes
 | [],q,p=>(q,p)
 | y::r,q,p=>cond (cond (ofShop shop y) (goes (bindRule y sort) key h) false) (cond y.up (leadsR shop sort key h r q (putS p y.to)) (leadsR shop sort key h r (putS q y.to) p)) (leadsR shop sort key h r q p)
def bLeads (b:HBook) (shop key:Bytes) (h:List HPair):List Bytes × List Bytes × Int :=
 cond (shopOf shop b.shops).2 (cond ((shopOf shop b.shops).1.sort==4) ([],[(shopOf shop b.shops).1.to],0)
  ((leadsR shop (shopOf shop b.shops).1.sort key h b.binds [] []).1,(leadsR shop (shopOf shop b.shops).1.sort key h b.binds [] []).2,0)) ([],[],10)
end N
theorem bindSame_eq {a b:HBind}:N.bindSame a b=true↔a=b:=by
 obtain ⟨a1,a2,a3,a4,a5,a6⟩:=a
 obtain ⟨b1,b2,b3,b4,b5,b6⟩:=b
 show cond (a1==b1) (cond (a2==b2) (cond (a3==b3) (cond ((0:Int)==0) (cond (a4==b4) (cond (a6==b6) (N.samePs a5 b5) false) false) false) false) false) false=true↔_
 constructor
 ·intro h
  obtain ⟨h1,h⟩:=bcond h
  obtain ⟨h2,h⟩:=bcond h
  obtain ⟨h3,h⟩:=bcond h
  obtain ⟨_,h⟩:=bcond h
  obtain ⟨h4,h⟩:=bcond h
  obtain ⟨h6,h5⟩:=bcond h
  rw [beq_iff_eq.1 h1,beq_iff_eq.1 h2,beq_iff_eq.1 h3,beq_iff_eq.1 h4,samePs_eq h5,beq_iff_eq.1 h6]
 ·intro h
  cases h
  simp only [beq_self_eq_true,cond_true,samePs_refl]
theorem shopOf_ix (n:Bytes):∀ l:List HShop,(N.shopOf n l).2=l.any (N.isShop n)
 | []=>rfl
 | x::r=>by
  unfold N.shopOf
  rw [List.any_cons]
  cases N.isShop n x with
  | true=>rfl
  | false=>exact shopOf_ix n r
end Go.Ev

/- The program's functions on exchanges and bindings answer what the plain ones do: lemmas. -/
namespace Go.Ev
open Go Go.Proofs
set_option maxRecDepth 100000
-- FOLD
def vBnd {α:Type} (f:FuncId) (c:VCod α):VCod α where
 ok:=fun | .fn g [v] []=>cond (Nat.beq f g) (c.ok v) false | _=>false
 enc a:=.fn f [c.enc a] []
 dec:=fun | .fn _ (v::_) _=>c.dec v | _=>c.dec .undef
 ed a:=⟨by show cond (Nat.beq f f) (c.ok (c.enc a)) false=true; rw [Nat.beq_refl]; exact (c.ed a).1,(c.ed a).2⟩
 law w I ρ v x h hx:=by
  split at h
  ·rename_i g v
   obtain ⟨h1,h2⟩:=bcond h
   have:=Nat.eq_of_beq_eq_true h1; subst this
   obtain ⟨xs,ys,rfl,l1,r1,l2,r2⟩:=hx.fn_spec
   refine .fn f [c.enc (c.dec v)] [] xs ys l1 (fun i hi=>?_) l2 r2
   have e:i=0:=by simpa using hi
   subst e
   exact c.law w I ρ v _ h2 (r1 0 (by simp))
  ·cases h
def reS (r:List V):List V:=[V.str (V.toStr (List.getD r 0 .undef)),V.int .u8 (V.toInt (List.getD r 1 .undef)),V.str (V.toStr (List.getD r 2 .undef))]
def reB (r:List V):List V:=[V.str (V.toStr (List.getD r 0 .undef)),V.str (V.toStr (List.getD r 1 .undef)),V.bool (V.toBool (List.getD r 2 .undef)),V.str (V.toStr (List.getD r 3 .undef)),V.slc [.str,.int .u8,.int .i64,.str] (V.toRows (List.getD r 4 .undef)),V.bool (V.toBool (List.getD r 5 .undef))]
theorem fold_reS (r:List V):[V.str (V.toStr (List.getD r 0 .undef)),V.int .u8 (V.toInt (List.getD r 1 .undef)),V.str (V.toStr (List.getD r 2 .undef))]=reS r:=rfl
theorem fold_reB (r:List V):[V.str (V.toStr (List.getD r 0 .undef)),V.str (V.toStr (List.getD r 1 .undef)),V.bool (V.toBool (List.getD r 2 .undef)),V.str (V.toStr (List.getD r 3 .undef)),V.slc [.str,.int .u8,.int .i64,.str] (V.toRows (List.getD r 4 .undef)),V.bool (V.toBool (List.getD r 5 .undef))]=reB r:=rfl
def N.fltB (p:HBind→Bool):List (List V)→List (List V)
 | []=>[] | r::rs=>cond (p (cBind.dec r)) (reB r::N.fltB p rs) (N.fltB p rs)
theorem fltB_cons (p:HBind→Bool) (r:List V) (rs:List (List V)):N.fltB p (r::rs)=cond (p (cBind.dec r)) (reB r::N.fltB p rs) (N.fltB p rs):=rfl
theorem fltB_enc (p:HBind→Bool) (l:List HBind):N.fltB p (l.map cBind.enc)=(l.filter p).map cBind.enc:=by
 induction l with
 | nil=>rfl
 | cons x r ih =>
  rw [List.map_cons,fltB_cons,List.filter_cons,cBind.de x,ih]
  cases p x<;>rfl
def smallBs (l:List HBind):Bool:=cond (Nat.ble l.length 1000) (l.all smallB) false
def dDrop1:Den:=den (aCons (vAgg cShop) (aOne (vPtr 0))) (bOne rStr) (oV vBool) (fun _ _=>true) fun a n=>(N.isShop n a.1,n)
def dDrop2:Den:=den (aCons (vAgg cBind) (aOne (vPtr 0))) (bOne rStr) (oV vBool) (fun _ _=>true) fun a n=>(N.offShop n a.1,n)
def dForget1:Den:=den (aCons (vAgg cBind) (aOne (vPtr 0))) (bOne rStr) (oV vBool) (fun _ _=>true) fun a n=>(N.stays n a.1,n)
theorem q_drop1 (x:HShop) (n:Bytes):evFn eTNone 127 ((aCons (vAgg cShop) (aOne (vPtr 0))).enc (x,())) ((bOne rStr).enc n) some =
 some {v:=V.bool (HShop.name x==n),bx:=[[V.str n]]:DRes}:=by kernel_rfl
theorem q_drop2 (x:HBind) (n:Bytes):evFn eTNone 129 ((aCons (vAgg cBind) (aOne (vPtr 0))).enc (x,())) ((bOne rStr).enc n) some =
 some {v:=V.bool !HBind.shop x==n,bx:=[[V.str n]]:DRes}:=by kernel_rfl
theorem q_forget1 (x:HBind) (n:Bytes):evFn eTNone 131 ((aCons (vAgg cBind) (aOne (vPtr 0))).enc (x,())) ((bOne rStr).enc n) some =
 cond (HBind.up x) (some {v:=V.bool true,bx:=[[V.str n]]:DRes}) (some {v:=V.bool !HBind.to x==n,bx:=[[V.str n]]:DRes}):=by kernel_rfl
theorem ok_drop1:FnOk Tryz.prog 127 dDrop1:=den_okF (env_ok (TOk.nil _)) (E:=eTNone) Tryz.func127 [] (by kernel_rfl) none0 fun a n _=>q_drop1 a.1 n
theorem ok_drop2:FnOk Tryz.prog 129 dDrop2:=den_okF (env_ok (TOk.nil _)) (E:=eTNone) Tryz.func129 [] (by kernel_rfl) none0 fun a n _=>q_drop2 a.1 n
theorem ok_forget1:FnOk Tryz.prog 131 dForget1:=by
 refine den_okF (env_ok (TOk.nil _)) (E:=eTNone) Tryz.func131 [] (by kernel_rfl) none0 fun a n _=>?_
 obtain ⟨x,⟨⟩⟩:=a
 refine (q_forget1 x n).trans ?_
 show _=some (⟨.bool (N.stays n x),[[.str n]],[]⟩:DRes)
 unfold N.stays
 cases x.up<;>rfl
def dIxShop:Den:=den (aCons (vSl cShop) (aOne (vFn 127 0))) (bOne rStr) (oV (vInt .i64)) (fun a _=>Nat.ble a.1.length 1000) fun a n=>(N.ixG (N.isShop n) a.1 0,n)
def schIxShop:SSch:={ fr:=[(0,.slc [.str,.int .u8,.str]),(1,.fn 127 [] [.ptr 0 0 0]),(7,.int .i64),(8,.int .i64)],tab:=[(0,.var [.str])] }
def gIxShop:List Leaf→(Ex→St→Option R)→Option R
 | [.r r,.i n,.i i,.s s],K=>cond (n==r.length) (cond (i==0) (cond (Nat.ble r.length 1000) (cond (ile 0 (N.ixG (N.isShop s) (r.map cShop.dec) 0)) (K .ret { fr:=[(4,.int .i64 (N.ixG (N.isShop s) (r.map cShop.dec) 0))],tab:=[(0,.var [.str s])] }) (K (.exit 0) { fr:=[],tab:=[(0,.var [.str s])] })) none) none) none
 | _,_=>none
noncomputable def eIxShop:Env:=env Tryz.prog [(127,dDrop1)] [(2,loopF schIxShop gIxShop)] [(2,[(0,[0,1,7,8]),(1,[]),(1000,[4])])]
theorem q_ixShop (l:List HShop) (s:Bytes):evFn eIxShop 126 ((aCons (vSl cShop) (aOne (vFn 127 0))).enc (l,())) ((bOne rStr).enc s) some =
 cond ((↑(List.length (List.map (RCod.enc cShop) l)):Int)==(↑(List.length (List.map (RCod.enc cShop) l)):Int)) (cond (Nat.ble (List.length (List.map (RCod.enc cShop) l)) 1000) (cond (ile (0:Int) (N.ixG (N.isShop s) (List.map (RCod.dec cShop) (List.map (RCod.enc cShop) l)) (0:Int))) (some {v:=V.int .i64 (N.ixG (N.isShop s) (List.map (RCod.dec cShop) (List.map (RCod.enc cShop) l)) (0:Int)),bx:=[[V.str s]]:DRes}) (some {v:=V.int .i64 (-1:Int),bx:=[[V.str s]]:DRes})) (none)) (none):=by kernel_rfl
theorem q_ixShopR (r:List (List V)) (n i:Int) (s:Bytes) (K:Ex→St→Option R):evRound eIxShop 126 2 { fr:=[(0,.slc [.str,.int .u8,.str] r),(1,.fn 127 [] [.ptr 0 0 0 0]),(7,.int .i64 n),(8,.int .i64 i)],tab:=[(0,.var [.str s])] } K =
 cond (ilt i n) (cond (decide ((0:Int)≤i∧i<(↑(List.length r):Int))) (cond (N.isShop s {name:=V.toStr (List.getD (List.getD r (Int.toNat i) []) 0 V.undef),sort:=V.toInt (List.getD (List.getD r (Int.toNat i) []) 1 V.undef),to:=V.toStr (List.getD (List.getD r (Int.toNat i) []) 2 V.undef):HShop}) (K Ex.ret {fr:=[(4,V.int .i64 i)],tab:=[(0,Box.var [V.str s])]:St}) (K Ex.normal {fr:=[(0,V.slc [.str,.int .u8,.str] r),(1,V.fn 127 [] [V.ptr 0 0 0 0]),(7,V.int .i64 n),(8,V.int .i64 (IntKind.wrap .i64 (i+(1:Int))))],tab:=[(0,Box.var [V.str s])]:St})) (none)) (K (Ex.exit 0) {fr:=[],tab:=[(0,Box.var [V.str s])]:St}):=by kernel_rfl
theorem ok_ixShop_2:RoundsOk eIxShop 126 2:=by
 refine rounds_of rfl fun l K q h=>?_
 unfold gIxShop at h
 split at h
 ·rename_i r n i s
  have h1:=(cond_none h).1; replace h:=(cond_none h).2; have h2:=(cond_none h).1; replace h:=(cond_none h).2; have h3:=(cond_none h).1; replace h:=(cond_none h).2
  have e1:=ieq_of h1
  have e2:=ieq_of h2
  subst e1 e2
  have h3:r.length≤1000:=ble_of h3
  have main:=loop_ind (E:=eIxShop) (f:=126) (id:=2) (σ:=Nat) (fun i=>{ fr:=[(0,.slc [.str,.int .u8,.str] r),(1,.fn 127 [] [.ptr 0 0 0 0]),(7,.int .i64 r.length),(8,.int .i64 (i:Int))],tab:=[(0,.var [.str s])] }) (fun i=>i≤r.length) (fun i=>r.length-i)
   (fun i K=>cond (ile 0 (N.ixG (N.isShop s) ((r.drop i).map cShop.dec) i)) (K .ret { fr:=[(4,.int .i64 (N.ixG (N.isShop s) ((r.drop i).map cShop.dec) i))],tab:=[(0,.var [.str s])] }) (K (.exit 0) { fr:=[],tab:=[(0,.var [.str s])] })) (fun i hi=>?_) 0 (Nat.zero_le _) K q (by assumption)
  ·exact main
  ·by_cases hl:i<r.length
   ·rw [drop_row hl,List.map_cons,ixG_cons]
    have hq:=fun K=>q_ixShopR r r.length i s K
    have t1:ilt (i:Int) r.length=true:=ilt_t (by omega)
    have t2:decide ((0:Int)≤i∧(i:Int)<r.length)=true:=decide_eq_true (by omega)
    have t3:IntKind.wrap .i64 ((i:Int)+1)=(i:Int)+1:=wr_i64 (by omega) (by omega)
    simp only [Int.toNat_natCast,fold_shop] at hq
    simp only [t1,t2,t3,cond_true] at hq
    cases hc:(N.isShop s) (cShop.dec (r.getD i [])) with
    | true =>
     refine .inr ⟨.ret,{ fr:=[(4,.int .i64 (i:Int))],tab:=[(0,.var [.str s])] },by simp,fun K=>?_,fun K=>?_⟩
     ·rw [hq,hc]; rfl
     ·simp only [cond_true]
      rw [ile_t (by omega)]; rfl
    | false =>
     refine .inl ⟨i+1,hl,by omega,fun K=>?_,fun K=>rfl⟩
     rw [hq,hc]
     try rfl
   ·refine .inr ⟨.exit 0,{ fr:=[],tab:=[(0,.var [.str s])] },by simp,fun K=>?_,fun K=>?_⟩
    ·rw [q_ixShopR]
     simp (disch:=omega) only [evs]
    ·rw [List.drop_eq_nil_of_le (by omega)]; rfl
 ·cases h
theorem ok_ixShop:FnOk Tryz.prog 126 dIxShop:=by
 refine den_okF (env_ok ((TOk.nil _).cons ok_drop1)) (E:=eIxShop) Tryz.func126 [2] (by kernel_rfl) (one1 ok_ixShop_2) fun a b hp=>?_
 obtain ⟨l,⟨⟩⟩:=a
 refine (q_ixShop l b).trans ?_
 have hp:Nat.ble l.length 1000=true:=hp
 simp only [List.length_map,dec_encs,hp,beq_self_eq_true,cond_true]
 show _=some (⟨.int .i64 (N.ixG (N.isShop b) l 0),[[.str b]],[]⟩:DRes)
 cases hc:ile 0 (N.ixG (N.isShop b) l 0) with
 | true=>rfl
 | false=>rw [ixG_end hc]; rfl
def dIxBind:Den:=den (aCons (vSl cBind) (aOne (vBnd 100 (vAgg cBind)))) bNil (oV (vInt .i64)) (fun a _=>cond (Nat.ble a.1.length 1000) (smallB a.2) false) fun a _=>(N.ixG (N.bindSame a.2) a.1 0,())
def schIxBind:SSch:={ fr:=[(0,.slc [.str,.str,.bool,.str,.slc [.str,.int .u8,.int .i64,.str],.bool]),(1,.fn 100 [.agg [.str,.str,.bool,.str,.slc [.str,.int .u8,.int .i64,.str],.bool]] []),(7,.int .i64),(8,.int .i64)],tab:=[] }
def gIxBind:List Leaf→(Ex→St→Option R)→Option R
 | [.r r,.s x0,.s x1,.b x2,.s x3,.r x4,.b x5,.i n,.i i],K=>cond (n==r.length) (cond (i==0) (cond (Nat.ble r.length 1000) (cond (smallB (⟨x0,x1,x2,x3,x4.map fun r=>({ key:=V.toStr (List.getD r 0 .undef),kind:=V.toInt (List.getD r 1 .undef),num:=V.toInt (List.getD r 2 .undef),text:=V.toStr (List.getD r 3 .undef) }:HPair),x5⟩:HBind)) (cond (ile 0 (N.ixG (N.bindSame (⟨x0,x1,x2,x3,x4.map fun r=>({ key:=V.toStr (List.getD r 0 .undef),kind:=V.toInt (List.getD r 1 .undef),num:=V.toInt (List.getD r 2 .undef),text:=V.toStr (List.getD r 3 .undef) }:HPair),x5⟩:HBind)) (r.map cBind.dec) 0)) (K .ret { fr:=[(4,.int .i64 (N.ixG (N.bindSame (⟨x0,x1,x2,x3,x4.map fun r=>({ key:=V.toStr (List.getD r 0 .undef),kind:=V.toInt (List.getD r 1 .undef),num:=V.toInt (List.getD r 2 .undef),text:=V.toStr (List.getD r 3 .undef) }:HPair),x5⟩:HBind)) (r.map cBind.dec) 0))],tab:=[] }) (K (.exit 0) { fr:=[],tab:=[] })) none) none) none) none
 | _,_=>none
noncomputable def eIxBind:Env:=env Tryz.prog [(100,dBindSame)] [(2,loopF schIxBind gIxBind)] [(2,[(0,[0,1,7,8]),(1,[]),(1000,[4])])]
theorem q_ixBind (l:List HBind) (x:HBind):evFn eIxBind 152 ((aCons (vSl cBind) (aOne (vBnd 100 (vAgg cBind)))).enc (l,x)) ([]) some =
 cond ((↑(List.length (List.map (RCod.enc cBind) l)):Int)==(↑(List.length (List.map (RCod.enc cBind) l)):Int)) (cond (Nat.ble (List.length (List.map (RCod.enc cBind) l)) 1000) (cond (smallB {shop:=HBind.shop x,to:=HBind.to x,up:=HBind.up x,key:=HBind.key x,want:=List.map (fun r=>{key:=V.toStr (List.getD r 0 .undef),kind:=V.toInt (List.getD r 1 .undef),num:=V.toInt (List.getD r 2 .undef),text:=V.toStr (List.getD r 3 .undef):HPair}) (List.map (fun p=>[V.str (HPair.key p),V.int .u8 (HPair.kind p),V.int .i64 (HPair.num p),V.str (HPair.text p)]) (HBind.want x)),all:=HBind.all x:HBind}) (cond (ile (0:Int) (N.ixG (N.bindSame {shop:=HBind.shop x,to:=HBind.to x,up:=HBind.up x,key:=HBind.key x,want:=List.map (fun r=>{key:=V.toStr (List.getD r 0 .undef),kind:=V.toInt (List.getD r 1 .undef),num:=V.toInt (List.getD r 2 .undef),text:=V.toStr (List.getD r 3 .undef):HPair}) (List.map (fun p=>[V.str (HPair.key p),V.int .u8 (HPair.kind p),V.int .i64 (HPair.num p),V.str (HPair.text p)]) (HBind.want x)),all:=HBind.all x:HBind}) (List.map (RCod.dec cBind) (List.map (RCod.enc cBind) l)) (0:Int))) (some {v:=V.int .i64 (N.ixG (N.bindSame {shop:=HBind.shop x,to:=HBind.to x,up:=HBind.up x,key:=HBind.key x,want:=List.map (fun r=>{key:=V.toStr (List.getD r 0 .undef),kind:=V.toInt (List.getD r 1 .undef),num:=V.toInt (List.getD r 2 .undef),text:=V.toStr (List.getD r 3 .undef):HPair}) (List.map (fun p=>[V.str (HPair.key p),V.int .u8 (HPair.kind p),V.int .i64 (HPair.num p),V.str (HPair.text p)]) (HBind.want x)),all:=HBind.all x:HBind}) (List.map (RCod.dec cBind) (List.map (RCod.enc cBind) l)) (0:Int)),bx:=[]:DRes}) (some {v:=V.int .i64 (-1:Int),bx:=[]:DRes})) (none)) (none)) (none):=by kernel_rfl
theorem q_ixBindR (r:List (List V)) (n i:Int) (x0:Bytes) (x1:Bytes) (x2:Bool) (x3:Bytes) (x4:List (List V)) (x5:Bool) (K:Ex→St→Option R):evRound eIxBind 152 2 { fr:=[(0,.slc [.str,.str,.bool,.str,.slc [.str,.int .u8,.int .i64,.str],.bool] r),(1,.fn 100 [.agg [.str x0,.str x1,.bool x2,.str x3,.slc [.str,.int .u8,.int .i64,.str] x4,.bool x5]] []),(7,.int .i64 n),(8,.int .i64 i)],tab:=[] } K =
 cond (ilt i n) (cond (decide ((0:Int)≤i∧i<(↑(List.length r):Int))) (cond (smallB {shop:=x0,to:=x1,up:=x2,key:=x3,want:=List.map (fun r=>{key:=V.toStr (List.getD r 0 .undef),kind:=V.toInt (List.getD r 1 .undef),num:=V.toInt (List.getD r 2 .undef),text:=V.toStr (List.getD r 3 .undef):HPair}) x4,all:=x5:HBind}) (cond (N.bindSame {shop:=x0,to:=x1,up:=x2,key:=x3,want:=List.map (fun r=>{key:=V.toStr (List.getD r 0 .undef),kind:=V.toInt (List.getD r 1 .undef),num:=V.toInt (List.getD r 2 .undef),text:=V.toStr (List.getD r 3 .undef):HPair}) x4,all:=x5:HBind} {shop:=V.toStr (List.getD (List.getD r (Int.toNat i) []) 0 V.undef),to:=V.toStr (List.getD (List.getD r (Int.toNat i) []) 1 V.undef),up:=V.toBool (List.getD (List.getD r (Int.toNat i) []) 2 V.undef),key:=V.toStr (List.getD (List.getD r (Int.toNat i) []) 3 V.undef),want:=List.map (fun r=>{key:=V.toStr (List.getD r 0 .undef),kind:=V.toInt (List.getD r 1 .undef),num:=V.toInt (List.getD r 2 .undef),text:=V.toStr (List.getD r 3 .undef):HPair}) (V.toRows (List.getD (List.getD r (Int.toNat i) []) 4 V.undef)),all:=V.toBool (List.getD (List.getD r (Int.toNat i) []) 5 V.undef):HBind}) (K Ex.ret {fr:=[(4,V.int .i64 i)],tab:=[]:St}) (K Ex.normal {fr:=[(0,V.slc [.str,.str,.bool,.str,.slc [.str,.int .u8,.int .i64,.str],.bool] r),(1,V.fn 100 [V.agg [V.str x0,V.str x1,V.bool x2,V.str x3,V.slc [.str,.int .u8,.int .i64,.str] x4,V.bool x5]] []),(7,V.int .i64 n),(8,V.int .i64 (IntKind.wrap .i64 (i+(1:Int))))],tab:=[]:St})) (none)) (none)) (K (Ex.exit 0) {fr:=[],tab:=[]:St}):=by kernel_rfl
theorem ok_ixBind_2:RoundsOk eIxBind 152 2:=by
 refine rounds_of rfl fun l K q h=>?_
 unfold gIxBind at h
 split at h
 ·rename_i r x0 x1 x2 x3 x4 x5 n i
  have h1:=(cond_none h).1; replace h:=(cond_none h).2; have h2:=(cond_none h).1; replace h:=(cond_none h).2; have h3:=(cond_none h).1; replace h:=(cond_none h).2; have g0:=(cond_none h).1; replace h:=(cond_none h).2
  have e1:=ieq_of h1
  have e2:=ieq_of h2
  subst e1 e2
  have h3:r.length≤1000:=ble_of h3
  have main:=loop_ind (E:=eIxBind) (f:=152) (id:=2) (σ:=Nat) (fun i=>{ fr:=[(0,.slc [.str,.str,.bool,.str,.slc [.str,.int .u8,.int .i64,.str],.bool] r),(1,.fn 100 [.agg [.str x0,.str x1,.bool x2,.str x3,.slc [.str,.int .u8,.int .i64,.str] x4,.bool x5]] []),(7,.int .i64 r.length),(8,.int .i64 (i:Int))],tab:=[] }) (fun i=>i≤r.length) (fun i=>r.length-i)
   (fun i K=>cond (ile 0 (N.ixG (N.bindSame (⟨x0,x1,x2,x3,x4.map fun r=>({ key:=V.toStr (List.getD r 0 .undef),kind:=V.toInt (List.getD r 1 .undef),num:=V.toInt (List.getD r 2 .undef),text:=V.toStr (List.getD r 3 .undef) }:HPair),x5⟩:HBind)) ((r.drop i).map cBind.dec) i)) (K .ret { fr:=[(4,.int .i64 (N.ixG (N.bindSame (⟨x0,x1,x2,x3,x4.map fun r=>({ key:=V.toStr (List.getD r 0 .undef),kind:=V.toInt (List.getD r 1 .undef),num:=V.toInt (List.getD r 2 .undef),text:=V.toStr (List.getD r 3 .undef) }:HPair),x5⟩:HBind)) ((r.drop i).map cBind.dec) i))],tab:=[] }) (K (.exit 0) { fr:=[],tab:=[] })) (fun i hi=>?_) 0 (Nat.zero_le _) K q (by assumption)
  ·exact main
  ·by_cases hl:i<r.length
   ·rw [drop_row hl,List.map_cons,ixG_cons]
    have hq:=fun K=>q_ixBindR r r.length i x0 x1 x2 x3 x4 x5 K
    have t1:ilt (i:Int) r.length=true:=ilt_t (by omega)
    have t2:decide ((0:Int)≤i∧(i:Int)<r.length)=true:=decide_eq_true (by omega)
    have t3:IntKind.wrap .i64 ((i:Int)+1)=(i:Int)+1:=wr_i64 (by omega) (by omega)
    simp only [Int.toNat_natCast,fold_bind,g0] at hq
    simp only [t1,t2,t3,cond_true] at hq
    cases hc:(N.bindSame (⟨x0,x1,x2,x3,x4.map fun r=>({ key:=V.toStr (List.getD r 0 .undef),kind:=V.toInt (List.getD r 1 .undef),num:=V.toInt (List.getD r 2 .undef),text:=V.toStr (List.getD r 3 .undef) }:HPair),x5⟩:HBind)) (cBind.dec (r.getD i [])) with
    | true =>
     refine .inr ⟨.ret,{ fr:=[(4,.int .i64 (i:Int))],tab:=[] },by simp,fun K=>?_,fun K=>?_⟩
     ·rw [hq,hc]; rfl
     ·simp only [cond_true]
      rw [ile_t (by omega)]; rfl
    | false =>
     refine .inl ⟨i+1,hl,by omega,fun K=>?_,fun K=>rfl⟩
     rw [hq,hc]
     try rfl
   ·refine .inr ⟨.exit 0,{ fr:=[],tab:=[] },by simp,fun K=>?_,fun K=>?_⟩
    ·rw [q_ixBindR]
     simp (disch:=omega) only [evs]
    ·rw [List.drop_eq_nil_of_le (by omega)]; rfl
 ·cases h
theorem ok_ixBind:FnOk Tryz.prog 152 dIxBind:=by
 refine den_okF (env_ok ((TOk.nil _).cons ok_bindSame)) (E:=eIxBind) Tryz.func152 [2] (by kernel_rfl) (one1 ok_ixBind_2) fun a b hp=>?_
 obtain ⟨l,x⟩:=a
 obtain ⟨hp,hx⟩:=bcond hp
 have hx:smallB x=true:=hx
 refine (q_ixBind l x).trans ?_
 simp only [fold_bindE,hx,cond_true]
 have hp:Nat.ble l.length 1000=true:=hp
 simp only [List.length_map,dec_encs,hp,beq_self_eq_true,cond_true]
 show _=some (⟨.int .i64 (N.ixG (N.bindSame x) l 0),[],[]⟩:DRes)
 cases hc:ile 0 (N.ixG (N.bindSame x) l 0) with
 | true=>rfl
 | false=>rw [ixG_end hc]; rfl
def dKeepD:Den:=den (aCons (vAgg cBook) (aOne (vFn 129 0))) (bOne rStr) (oV (vSl cBind)) (fun a _=>Nat.ble a.1.binds.length 1000) fun a n=>(a.1.binds.filter (N.offShop n),n)
def dKeepF:Den:=den (aCons (vAgg cBook) (aOne (vFn 131 0))) (bOne rStr) (oV (vSl cBind)) (fun a _=>Nat.ble a.1.binds.length 1000) fun a n=>(a.1.binds.filter (N.stays n),n)
def schKeepD:SSch:={ fr:=[(1,.fn 129 [] [.ptr 0 0 0]),(5,.own 10000),(9,.slc [.str,.str,.bool,.str,.slc [.str,.int .u8,.int .i64,.str],.bool]),(10,.int .i64),(11,.int .i64)],tab:=[(0,.var [.str]),(10000,.sl [.str,.str,.bool,.str,.slc [.str,.int .u8,.int .i64,.str],.bool])] }
def gKeepD:List Leaf→(Ex→St→Option R)→Option R
 | [.r r,.i n,.i i,.s s,.r a],K=>cond (n==r.length) (cond (i==0) (cond (Nat.ble r.length 1000) (cond (Nat.beq a.length 0) (K (.exit 0) { fr:=[(5,.own 10000 0)],tab:=[(0,.var [.str s]),(10000,.sl [.str,.str,.bool,.str,.slc [.str,.int .u8,.int .i64,.str],.bool] (N.fltB (N.offShop s) r) 0)] }) none) none) none) none
 | _,_=>none
noncomputable def eKeepD:Env:=env Tryz.prog [(129,dDrop2)] [(3,loopF schKeepD gKeepD)] [(3,[(0,[1,5,9,10,11]),(1,[5]),(1000,[4])])]
theorem q_keepD (b:HBook) (s:Bytes):evFn eKeepD 128 ((aCons (vAgg cBook) (aOne (vFn 129 0))).enc (b,())) ((bOne rStr).enc s) some =
 cond ((↑(List.length (List.map (RCod.enc cBind) (HBook.binds b))):Int)==(↑(List.length (List.map (RCod.enc cBind) (HBook.binds b))):Int)) (cond (Nat.ble (List.length (List.map (RCod.enc cBind) (HBook.binds b))) 1000) (some {v:=V.slc [.str,.str,.bool,.str,.slc [.str,.int .u8,.int .i64,.str],.bool] (N.fltB (N.offShop s) (List.map (RCod.enc cBind) (HBook.binds b))),bx:=[[V.str s]]:DRes}) (none)) (none):=by kernel_rfl
theorem q_keepDR (r:List (List V)) (n i:Int) (s:Bytes) (a:List (List V)) (K:Ex→St→Option R):evRound eKeepD 128 3 { fr:=[(1,.fn 129 [] [.ptr 0 0 0 0]),(5,.own 10000 0),(9,.slc [.str,.str,.bool,.str,.slc [.str,.int .u8,.int .i64,.str],.bool] r),(10,.int .i64 n),(11,.int .i64 i)],tab:=[(0,.var [.str s]),(10000,.sl [.str,.str,.bool,.str,.slc [.str,.int .u8,.int .i64,.str],.bool] a 0)] } K =
 cond (ilt i n) (cond (decide ((0:Int)≤i∧i<(↑(List.length r):Int))) (cond (N.offShop s {shop:=V.toStr (List.getD (List.getD r (Int.toNat i) []) 0 V.undef),to:=V.toStr (List.getD (List.getD r (Int.toNat i) []) 1 V.undef),up:=V.toBool (List.getD (List.getD r (Int.toNat i) []) 2 V.undef),key:=V.toStr (List.getD (List.getD r (Int.toNat i) []) 3 V.undef),want:=List.map (fun r=>{key:=V.toStr (List.getD r 0 .undef),kind:=V.toInt (List.getD r 1 .undef),num:=V.toInt (List.getD r 2 .undef),text:=V.toStr (List.getD r 3 .undef):HPair}) (V.toRows (List.getD (List.getD r (Int.toNat i) []) 4 V.undef)),all:=V.toBool (List.getD (List.getD r (Int.toNat i) []) 5 V.undef):HBind}) (cond (decide ((List.length a+1)*88≤140737488355328)) (K Ex.normal {fr:=[(1,V.fn 129 [] [V.ptr 0 0 0 0]),(5,V.own 10000 0),(9,V.slc [.str,.str,.bool,.str,.slc [.str,.int .u8,.int .i64,.str],.bool] r),(10,V.int .i64 n),(11,V.int .i64 (IntKind.wrap .i64 (i+(1:Int))))],tab:=[(0,Box.var [V.str s]),(10000,Box.sl [.str,.str,.bool,.str,.slc [.str,.int .u8,.int .i64,.str],.bool] (a++[[V.str (V.toStr (List.getD (List.getD r (Int.toNat i) []) 0 V.undef)),V.str (V.toStr (List.getD (List.getD r (Int.toNat i) []) 1 V.undef)),V.bool (V.toBool (List.getD (List.getD r (Int.toNat i) []) 2 V.undef)),V.str (V.toStr (List.getD (List.getD r (Int.toNat i) []) 3 V.undef)),V.slc [.str,.int .u8,.int .i64,.str] (V.toRows (List.getD (List.getD r (Int.toNat i) []) 4 V.undef)),V.bool (V.toBool (List.getD (List.getD r (Int.toNat i) []) 5 V.undef))]]) 0)]:St}) (none)) (K Ex.normal {fr:=[(1,V.fn 129 [] [V.ptr 0 0 0 0]),(5,V.own 10000 0),(9,V.slc [.str,.str,.bool,.str,.slc [.str,.int .u8,.int .i64,.str],.bool] r),(10,V.int .i64 n),(11,V.int .i64 (IntKind.wrap .i64 (i+(1:Int))))],tab:=[(0,Box.var [V.str s]),(10000,Box.sl [.str,.str,.bool,.str,.slc [.str,.int .u8,.int .i64,.str],.bool] a 0)]:St})) (none)) (K (Ex.exit 0) {fr:=[(5,V.own 10000 0)],tab:=[(0,Box.var [V.str s]),(10000,Box.sl [.str,.str,.bool,.str,.slc [.str,.int .u8,.int .i64,.str],.bool] a 0)]:St}):=by kernel_rfl
theorem ok_keepD_3:RoundsOk eKeepD 128 3:=by
 refine rounds_of rfl fun l K q h=>?_
 unfold gKeepD at h
 split at h
 ·rename_i r n i s a
  have h1:=(cond_none h).1; replace h:=(cond_none h).2; have h2:=(cond_none h).1; replace h:=(cond_none h).2; have h3:=(cond_none h).1; replace h:=(cond_none h).2; have h4:=(cond_none h).1; replace h:=(cond_none h).2
  have e1:=ieq_of h1
  have e2:=ieq_of h2
  have e3:=List.eq_nil_of_length_eq_zero (nbeq_of h4)
  subst e1 e2 e3
  have h3:r.length≤1000:=ble_of h3
  have main:=range_ind (E:=eKeepD) (f:=128) (id:=3) (A:=List (List V)) r (fun acc i=>{ fr:=[(1,.fn 129 [] [.ptr 0 0 0 0]),(5,.own 10000 0),(9,.slc [.str,.str,.bool,.str,.slc [.str,.int .u8,.int .i64,.str],.bool] r),(10,.int .i64 r.length),(11,.int .i64 i)],tab:=[(0,.var [.str s]),(10000,.sl [.str,.str,.bool,.str,.slc [.str,.int .u8,.int .i64,.str],.bool] acc 0)] }) (fun acc i=>acc.length≤i)
   (fun acc rows K=>K (.exit 0) { fr:=[(5,.own 10000 0)],tab:=[(0,.var [.str s]),(10000,.sl [.str,.str,.bool,.str,.slc [.str,.int .u8,.int .i64,.str],.bool] (acc++N.fltB (N.offShop s) rows) 0)] }) (fun acc i ha hi=>?_) (fun acc ha=>?_) [] 0 (Int.le_refl _) (by omega) (Nat.zero_le _) K q (by assumption)
  ·exact main
  ·have hq:=fun K=>q_keepDR r r.length i s acc K
   have t1:ilt (i:Int) r.length=true:=ilt_t (by omega)
   have t2:decide ((0:Int)≤i∧(i:Int)<r.length)=true:=decide_eq_true (by omega)
   have t3:IntKind.wrap .i64 ((i:Int)+1)=(i:Int)+1:=wr_i64 (by omega) (by omega)
   simp only [Int.toNat_natCast,fold_bind,fold_reB] at hq
   simp only [t1,t2,t3,cond_true] at hq
   cases hc:(N.offShop s) (cBind.dec (r.getD i [])) with
   | true =>
    refine .inl ⟨acc++[reB (r.getD i [])],by rw [List.length_append]; simp only [List.length_cons,List.length_nil]; omega,fun K=>?_,fun K=>?_⟩
    ·rw [hq,hc]
     have t5:decide ((acc.length+1)*88≤140737488355328)=true:=decide_eq_true (by omega)
     simp only [cond_true,t5]
    ·simp only [fltB_cons,hc,cond_true,List.append_assoc,List.singleton_append]
   | false =>
    refine .inl ⟨acc,by omega,fun K=>?_,fun K=>?_⟩
    ·rw [hq,hc]
     try rfl
    ·simp only [fltB_cons,hc,cond_false]
  ·refine ⟨.exit 0,{ fr:=[(5,.own 10000 0)],tab:=[(0,.var [.str s]),(10000,.sl [.str,.str,.bool,.str,.slc [.str,.int .u8,.int .i64,.str],.bool] (acc) 0)] },by simp,fun K=>?_,fun K=>by show K _ _=K _ _; rw [show N.fltB (N.offShop s) []=[] from rfl,List.append_nil]⟩
   rw [q_keepDR]
   simp (disch:=omega) only [evs]
   try rfl
 ·cases h
theorem ok_keepD:FnOk Tryz.prog 128 dKeepD:=by
 refine den_okF (env_ok ((TOk.nil _).cons ok_drop2)) (E:=eKeepD) Tryz.func128 [3] (by kernel_rfl) (one1 ok_keepD_3) fun a s hp=>?_
 obtain ⟨b,⟨⟩⟩:=a
 have hp:Nat.ble b.binds.length 1000=true:=hp
 refine (q_keepD b s).trans ?_
 simp only [List.length_map,hp,beq_self_eq_true,cond_true,fltB_enc]
 try rfl
def schKeepF:SSch:={ fr:=[(1,.fn 131 [] [.ptr 0 0 0]),(5,.own 10000),(9,.slc [.str,.str,.bool,.str,.slc [.str,.int .u8,.int .i64,.str],.bool]),(10,.int .i64),(11,.int .i64)],tab:=[(0,.var [.str]),(10000,.sl [.str,.str,.bool,.str,.slc [.str,.int .u8,.int .i64,.str],.bool])] }
def gKeepF:List Leaf→(Ex→St→Option R)→Option R
 | [.r r,.i n,.i i,.s s,.r a],K=>cond (n==r.length) (cond (i==0) (cond (Nat.ble r.length 1000) (cond (Nat.beq a.length 0) (K (.exit 0) { fr:=[(5,.own 10000 0)],tab:=[(0,.var [.str s]),(10000,.sl [.str,.str,.bool,.str,.slc [.str,.int .u8,.int .i64,.str],.bool] (N.fltB (N.stays s) r) 0)] }) none) none) none) none
 | _,_=>none
noncomputable def eKeepF:Env:=env Tryz.prog [(131,dForget1)] [(3,loopF schKeepF gKeepF)] [(3,[(0,[1,5,9,10,11]),(1,[5]),(1000,[4])])]
theorem q_keepF (b:HBook) (s:Bytes):evFn eKeepF 128 ((aCons (vAgg cBook) (aOne (vFn 131 0))).enc (b,())) ((bOne rStr).enc s) some =
 cond ((↑(List.length (List.map (RCod.enc cBind) (HBook.binds b))):Int)==(↑(List.length (List.map (RCod.enc cBind) (HBook.binds b))):Int)) (cond (Nat.ble (List.length (List.map (RCod.enc cBind) (HBook.binds b))) 1000) (some {v:=V.slc [.str,.str,.bool,.str,.slc [.str,.int .u8,.int .i64,.str],.bool] (N.fltB (N.stays s) (List.map (RCod.enc cBind) (HBook.binds b))),bx:=[[V.str s]]:DRes}) (none)) (none):=by kernel_rfl
theorem q_keepFR (r:List (List V)) (n i:Int) (s:Bytes) (a:List (List V)) (K:Ex→St→Option R):evRound eKeepF 128 3 { fr:=[(1,.fn 131 [] [.ptr 0 0 0 0]),(5,.own 10000 0),(9,.slc [.str,.str,.bool,.str,.slc [.str,.int .u8,.int .i64,.str],.bool] r),(10,.int .i64 n),(11,.int .i64 i)],tab:=[(0,.var [.str s]),(10000,.sl [.str,.str,.bool,.str,.slc [.str,.int .u8,.int .i64,.str],.bool] a 0)] } K =
 cond (ilt i n) (cond (decide ((0:Int)≤i∧i<(↑(List.length r):Int))) (cond (N.stays s {shop:=V.toStr (List.getD (List.getD r (Int.toNat i) []) 0 V.undef),to:=V.toStr (List.getD (List.getD r (Int.toNat i) []) 1 V.undef),up:=V.toBool (List.getD (List.getD r (Int.toNat i) []) 2 V.undef),key:=V.toStr (List.getD (List.getD r (Int.toNat i) []) 3 V.undef),want:=List.map (fun r=>{key:=V.toStr (List.getD r 0 .undef),kind:=V.toInt (List.getD r 1 .undef),num:=V.toInt (List.getD r 2 .undef),text:=V.toStr (List.getD r 3 .undef):HPair}) (V.toRows (List.getD (List.getD r (Int.toNat i) []) 4 V.undef)),all:=V.toBool (List.getD (List.getD r (Int.toNat i) []) 5 V.undef):HBind}) (cond (decide ((List.length a+1)*88≤140737488355328)) (K Ex.normal {fr:=[(1,V.fn 131 [] [V.ptr 0 0 0 0]),(5,V.own 10000 0),(9,V.slc [.str,.str,.bool,.str,.slc [.str,.int .u8,.int .i64,.str],.bool] r),(10,V.int .i64 n),(11,V.int .i64 (IntKind.wrap .i64 (i+(1:Int))))],tab:=[(0,Box.var [V.str s]),(10000,Box.sl [.str,.str,.bool,.str,.slc [.str,.int .u8,.int .i64,.str],.bool] (a++[[V.str (V.toStr (List.getD (List.getD r (Int.toNat i) []) 0 V.undef)),V.str (V.toStr (List.getD (List.getD r (Int.toNat i) []) 1 V.undef)),V.bool (V.toBool (List.getD (List.getD r (Int.toNat i) []) 2 V.undef)),V.str (V.toStr (List.getD (List.getD r (Int.toNat i) []) 3 V.undef)),V.slc [.str,.int .u8,.int .i64,.str] (V.toRows (List.getD (List.getD r (Int.toNat i) []) 4 V.undef)),V.bool (V.toBool (List.getD (List.getD r (Int.toNat i) []) 5 V.undef))]]) 0)]:St}) (none)) (K Ex.normal {fr:=[(1,V.fn 131 [] [V.ptr 0 0 0 0]),(5,V.own 10000 0),(9,V.slc [.str,.str,.bool,.str,.slc [.str,.int .u8,.int .i64,.str],.bool] r),(10,V.int .i64 n),(11,V.int .i64 (IntKind.wrap .i64 (i+(1:Int))))],tab:=[(0,Box.var [V.str s]),(10000,Box.sl [.str,.str,.bool,.str,.slc [.str,.int .u8,.int .i64,.str],.bool] a 0)]:St})) (none)) (K (Ex.exit 0) {fr:=[(5,V.own 10000 0)],tab:=[(0,Box.var [V.str s]),(10000,Box.sl [.str,.str,.bool,.str,.slc [.str,.int .u8,.int .i64,.str],.bool] a 0)]:St}):=by kernel_rfl
theorem ok_keepF_3:RoundsOk eKeepF 128 3:=by
 refine rounds_of rfl fun l K q h=>?_
 unfold gKeepF at h
 split at h
 ·rename_i r n i s a
  have h1:=(cond_none h).1; replace h:=(cond_none h).2; have h2:=(cond_none h).1; replace h:=(cond_none h).2; have h3:=(cond_none h).1; replace h:=(cond_none h).2; have h4:=(cond_none h).1; replace h:=(cond_none h).2
  have e1:=ieq_of h1
  have e2:=ieq_of h2
  have e3:=List.eq_nil_of_length_eq_zero (nbeq_of h4)
  subst e1 e2 e3
  have h3:r.length≤1000:=ble_of h3
  have main:=range_ind (E:=eKeepF) (f:=128) (id:=3) (A:=List (List V)) r (fun acc i=>{ fr:=[(1,.fn 131 [] [.ptr 0 0 0 0]),(5,.own 10000 0),(9,.slc [.str,.str,.bool,.str,.slc [.str,.int .u8,.int .i64,.str],.bool] r),(10,.int .i64 r.length),(11,.int .i64 i)],tab:=[(0,.var [.str s]),(10000,.sl [.str,.str,.bool,.str,.slc [.str,.int .u8,.int .i64,.str],.bool] acc 0)] }) (fun acc i=>acc.length≤i)
   (fun acc rows K=>K (.exit 0) { fr:=[(5,.own 10000 0)],tab:=[(0,.var [.str s]),(10000,.sl [.str,.str,.bool,.str,.slc [.str,.int .u8,.int .i64,.str],.bool] (acc++N.fltB (N.stays s) rows) 0)] }) (fun acc i ha hi=>?_) (fun acc ha=>?_) [] 0 (Int.le_refl _) (by omega) (Nat.zero_le _) K q (by assumption)
  ·exact main
  ·have hq:=fun K=>q_keepFR r r.length i s acc K
   have t1:ilt (i:Int) r.length=true:=ilt_t (by omega)
   have t2:decide ((0:Int)≤i∧(i:Int)<r.length)=true:=decide_eq_true (by omega)
   have t3:IntKind.wrap .i64 ((i:Int)+1)=(i:Int)+1:=wr_i64 (by omega) (by omega)
   simp only [Int.toNat_natCast,fold_bind,fold_reB] at hq
   simp only [t1,t2,t3,cond_true] at hq
   cases hc:(N.stays s) (cBind.dec (r.getD i [])) with
   | true =>
    refine .inl ⟨acc++[reB (r.getD i [])],by rw [List.length_append]; simp only [List.length_cons,List.length_nil]; omega,fun K=>?_,fun K=>?_⟩
    ·rw [hq,hc]
     have t5:decide ((acc.length+1)*88≤140737488355328)=true:=decide_eq_true (by omega)
     simp only [cond_true,t5]
    ·simp only [fltB_cons,hc,cond_true,List.append_assoc,List.singleton_append]
   | false =>
    refine .inl ⟨acc,by omega,fun K=>?_,fun K=>?_⟩
    ·rw [hq,hc]
     try rfl
    ·simp only [fltB_cons,hc,cond_false]
  ·refine ⟨.exit 0,{ fr:=[(5,.own 10000 0)],tab:=[(0,.var [.str s]),(10000,.sl [.str,.str,.bool,.str,.slc [.str,.int .u8,.int .i64,.str],.bool] (acc) 0)] },by simp,fun K=>?_,fun K=>by show K _ _=K _ _; rw [show N.fltB (N.stays s) []=[] from rfl,List.append_nil]⟩
   rw [q_keepFR]
   simp (disch:=omega) only [evs]
   try rfl
 ·cases h
theorem ok_keepF:FnOk Tryz.prog 128 dKeepF:=by
 refine den_okF (env_ok ((TOk.nil _).cons ok_forget1)) (E:=eKeepF) Tryz.func128 [3] (by kernel_rfl) (one1 ok_keepF_3) fun a s hp=>?_
 obtain ⟨b,⟨⟩⟩:=a
 have hp:Nat.ble b.binds.length 1000=true:=hp
 refine (q_keepF b s).trans ?_
 simp only [List.length_map,hp,beq_self_eq_true,cond_true,fltB_enc]
 try rfl
def dBookShop:Den:=den (aCons (vAgg cBook) (aOne vStr)) bNil (oTup (aCons (vAgg cShop) (aOne vBool))) (fun a _=>Nat.ble a.1.shops.length 1000) fun a _=>(N.shopOf a.2 a.1.shops,())
def schBookShop:SSch:={ fr:=[(1,.str),(4,.ptr 10000 0 0),(9,.slc [.str,.int .u8,.str]),(10,.int .i64),(11,.int .i64)],tab:=[(10000,.var [.str,.int .u8,.str])] }
def gBookShop:List Leaf→(Ex→St→Option R)→Option R
 | [.s s,.r r,.i n,.i i,.s x0,.i x1,.s x2],K=>cond (n==r.length) (cond (i==0) (cond (Nat.ble r.length 1000) (cond (N.shopOf s (r.map cShop.dec)).2 (K .ret { fr:=[(4,.ptr 10000 0 0 0),(5,.bool true)],tab:=[(10000,.var (cShop.enc (N.shopOf s (r.map cShop.dec)).1))] }) (K (.exit 0) { fr:=[(4,.ptr 10000 0 0 0)],tab:=[(10000,.var [.str x0,.int .u8 x1,.str x2])] })) none) none) none
 | _,_=>none
noncomputable def eBookShop:Env:=env Tryz.prog [] [(2,loopF schBookShop gBookShop)] [(2,[(0,[1,4,9,10,11]),(1,[4]),(1000,[4,5])])]
theorem q_bookShop (b:HBook) (s:Bytes):evFn eBookShop 38 ((aCons (vAgg cBook) (aOne vStr)).enc (b,s)) ([]) some =
 cond ((↑(List.length (List.map (RCod.enc cShop) (HBook.shops b))):Int)==(↑(List.length (List.map (RCod.enc cShop) (HBook.shops b))):Int)) (cond (Nat.ble (List.length (List.map (RCod.enc cShop) (HBook.shops b))) 1000) (cond (Prod.snd (N.shopOf s (List.map (RCod.dec cShop) (List.map (RCod.enc cShop) (HBook.shops b))))) (some {v:=V.tup [V.agg [V.str (HShop.name (Prod.fst (N.shopOf s (List.map (RCod.dec cShop) (List.map (RCod.enc cShop) (HBook.shops b)))))),V.int .u8 (HShop.sort (Prod.fst (N.shopOf s (List.map (RCod.dec cShop) (List.map (RCod.enc cShop) (HBook.shops b)))))),V.str (HShop.to (Prod.fst (N.shopOf s (List.map (RCod.dec cShop) (List.map (RCod.enc cShop) (HBook.shops b))))))],V.bool true],bx:=[]:DRes}) (some {v:=V.tup [V.agg [V.str [],V.int .u8 (0:Int),V.str []],V.bool false],bx:=[]:DRes})) (none)) (none):=by kernel_rfl
theorem q_bookShopR (s:Bytes) (r:List (List V)) (n i:Int) (x0:Bytes) (x1:Int) (x2:Bytes) (K:Ex→St→Option R):evRound eBookShop 38 2 { fr:=[(1,.str s),(4,.ptr 10000 0 0 0),(9,.slc [.str,.int .u8,.str] r),(10,.int .i64 n),(11,.int .i64 i)],tab:=[(10000,.var [.str x0,.int .u8 x1,.str x2])] } K =
 cond (ilt i n) (cond (decide ((0:Int)≤i∧i<(↑(List.length r):Int))) (cond (V.toStr (List.getD (List.getD r (Int.toNat i) []) 0 V.undef)==s) (K Ex.ret {fr:=[(4,V.ptr 10000 0 0 0),(5,V.bool true)],tab:=[(10000,Box.var [V.str (V.toStr (List.getD (List.getD r (Int.toNat i) []) 0 V.undef)),V.int .u8 (V.toInt (List.getD (List.getD r (Int.toNat i) []) 1 V.undef)),V.str (V.toStr (List.getD (List.getD r (Int.toNat i) []) 2 V.undef))])]:St}) (K Ex.normal {fr:=[(1,V.str s),(4,V.ptr 10000 0 0 0),(9,V.slc [.str,.int .u8,.str] r),(10,V.int .i64 n),(11,V.int .i64 (IntKind.wrap .i64 (i+(1:Int))))],tab:=[(10000,Box.var [V.str x0,V.int .u8 x1,V.str x2])]:St})) (none)) (K (Ex.exit 0) {fr:=[(4,V.ptr 10000 0 0 0)],tab:=[(10000,Box.var [V.str x0,V.int .u8 x1,V.str x2])]:St}):=by kernel_rfl
theorem shopOf_cons (n:Bytes) (x:HShop) (r:List HShop):N.shopOf n (x::r)=cond (N.isShop n x) (x,true) (N.shopOf n r):=rfl
theorem ok_bookShop_2:RoundsOk eBookShop 38 2:=by
 refine rounds_of rfl fun l K q h=>?_
 unfold gBookShop at h
 split at h
 ·rename_i s r n i x0 x1 x2
  have h1:=(cond_none h).1; replace h:=(cond_none h).2; have h2:=(cond_none h).1; replace h:=(cond_none h).2; have h3:=(cond_none h).1; replace h:=(cond_none h).2
  have e1:=ieq_of h1
  have e2:=ieq_of h2
  subst e1 e2
  have h3:r.length≤1000:=ble_of h3
  have main:=range_ind (E:=eBookShop) (f:=38) (id:=2) (A:=Unit) r (fun _ i=>{ fr:=[(1,.str s),(4,.ptr 10000 0 0 0),(9,.slc [.str,.int .u8,.str] r),(10,.int .i64 r.length),(11,.int .i64 i)],tab:=[(10000,.var [.str x0,.int .u8 x1,.str x2])] }) (fun _ _=>True)
   (fun _ rows K=>cond (N.shopOf s (rows.map cShop.dec)).2 (K .ret { fr:=[(4,.ptr 10000 0 0 0),(5,.bool true)],tab:=[(10000,.var (cShop.enc (N.shopOf s (rows.map cShop.dec)).1))] }) (K (.exit 0) { fr:=[(4,.ptr 10000 0 0 0)],tab:=[(10000,.var [.str x0,.int .u8 x1,.str x2])] })) (fun a i ha hi=>?_) (fun a ha=>?_) () 0 (Int.le_refl _) (by omega) trivial K q (by assumption)
  ·exact main
  ·have hq:=fun K=>q_bookShopR s r r.length i x0 x1 x2 K
   have t1:ilt (i:Int) r.length=true:=ilt_t (by omega)
   have t2:decide ((0:Int)≤i∧(i:Int)<r.length)=true:=decide_eq_true (by omega)
   have t3:IntKind.wrap .i64 ((i:Int)+1)=(i:Int)+1:=wr_i64 (by omega) (by omega)
   have hn:V.toStr (List.getD (List.getD r i []) 0 V.undef)=(cShop.dec (r.getD i [])).name:=rfl
   simp only [Int.toNat_natCast,fold_reS] at hq
   simp only [t1,t2,t3,cond_true,hn] at hq
   simp only [List.map_cons,shopOf_cons]
   cases hc:N.isShop s (cShop.dec (r.getD i [])) with
   | true =>
    refine .inr ⟨.ret,{ fr:=[(4,.ptr 10000 0 0 0),(5,.bool true)],tab:=[(10000,.var (reS (r.getD i [])))] },by simp,fun K=>?_,fun K=>rfl⟩
    have hc:((cShop.dec (r.getD i [])).name==s)=true:=hc
    rw [hq,hc]
    try rfl
   | false =>
    refine .inl ⟨(),trivial,fun K=>?_,fun K=>rfl⟩
    have hc:((cShop.dec (r.getD i [])).name==s)=false:=hc
    rw [hq,hc]
    try rfl
  ·refine ⟨.exit 0,_,by simp,fun K=>?_,fun K=>rfl⟩
   rw [q_bookShopR]
   simp (disch:=omega) only [evs]
 ·cases h
theorem shopOf_none {n:Bytes} {l:List HShop} (h:(N.shopOf n l).2=false):(N.shopOf n l).1=shop0:=by
 induction l with
 | nil=>rfl
 | cons x r ih =>
  unfold N.shopOf at h ⊢
  cases hc:N.isShop n x with
  | true=>rw [hc] at h; cases h
  | false=>rw [hc] at h; exact ih h
theorem ok_bookShop:FnOk Tryz.prog 38 dBookShop:=by
 refine den_okF (env_ok (TOk.nil _)) (E:=eBookShop) Tryz.func38 [2] (by kernel_rfl) (one1 ok_bookShop_2) fun a b hp=>?_
 obtain ⟨b,s⟩:=a
 have hp:Nat.ble b.shops.length 1000=true:=hp
 refine (q_bookShop b s).trans ?_
 simp only [List.length_map,dec_encs,hp,beq_self_eq_true,cond_true]
 show _=some (⟨.tup [.agg (cShop.enc (N.shopOf s b.shops).1),.bool (N.shopOf s b.shops).2],[],[]⟩:DRes)
 cases hc:(N.shopOf s b.shops).2 with
 | true=>rfl
 | false=>rw [shopOf_none hc]; rfl
end Go.Ev

/- The program's functions on exchanges and bindings answer what the plain ones do: lemmas. -/
namespace Go.Ev
open Go Go.Proofs
set_option maxRecDepth 100000
-- FOLD
end Go.Ev

/- The program's functions on books: lemmas. -/
namespace Go.Ev
open Go Go.Proofs
set_option maxRecDepth 100000
-- FOLD
def smallBook (b:HBook):Bool:=cond (Nat.ble b.shops.length 1000) (smallBs b.binds) false
def dBMake:Den:=den (aCons (vAgg cBook) (aOne (vAgg cShop))) bNil (oTup (aCons (vAgg cBook) (aOne (vInt .i64)))) (fun a _=>smallBook a.1) fun a _=>(N.bMake a.1 a.2,())
def dBDrop:Den:=den (aCons (vAgg cBook) (aOne vStr)) bNil (oTup (aCons (vAgg cBook) (aOne (vInt .i64)))) (fun a _=>smallBook a.1) fun a _=>(N.bDrop a.1 a.2,())
def dThere:Den:=den (aCons (vAgg cBook) (aOne (vAgg cBind))) bNil (oV (vInt .i64)) (fun a _=>cond (smallBook a.1) (smallB a.2) false) fun a _=>(N.ixG (N.bindSame a.2) a.1.binds 0,())
def dBBind:Den:=den (aCons (vAgg cBook) (aOne (vAgg cBind))) bNil (oTup (aCons (vAgg cBook) (aOne (vInt .i64)))) (fun a _=>cond (smallBook a.1) (smallB a.2) false) fun a _=>(N.bBind a.1 a.2,())
def dBUnbind:Den:=den (aCons (vAgg cBook) (aOne (vAgg cBind))) bNil (oTup (aCons (vAgg cBook) (aOne (vInt .i64)))) (fun a _=>cond (smallBook a.1) (smallB a.2) false) fun a _=>(N.bUnbind a.1 a.2,())
def dBForget:Den:=den (aCons (vAgg cBook) (aOne vStr)) bNil (oV (vAgg cBook)) (fun a _=>smallBook a.1) fun a _=>(N.bForget a.1 a.2,())
noncomputable def eBMake:Env:=env Tryz.prog [(116,dShopCheck),(38,dBookShop),(117,dConcat cShop)] [] []
theorem q_bMake (b:HBook) (x:HShop):evFn eBMake 73 ((aCons (vAgg cBook) (aOne (vAgg cShop))).enc (b,x)) ([]) some =
 cond (N.shopCheck x != (0:Int)) (some {v:=V.tup [V.agg [V.slc [.str,.int .u8,.str] (List.map (RCod.enc cShop) (HBook.shops b)),V.slc [.str,.str,.bool,.str,.slc [.str,.int .u8,.int .i64,.str],.bool] (List.map (RCod.enc cBind) (HBook.binds b))],V.int .i64 (N.shopCheck x)],bx:=[]:DRes}) (cond (Nat.ble (List.length (List.map (RCod.dec cShop) (List.map (RCod.enc cShop) (HBook.shops b)))) 1000) (cond (Prod.snd (N.shopOf (HShop.name x) (List.map (RCod.dec cShop) (List.map (RCod.enc cShop) (HBook.shops b))))) (cond (HShop.name x==HShop.name (Prod.fst (N.shopOf (HShop.name x) (List.map (RCod.dec cShop) (List.map (RCod.enc cShop) (HBook.shops b))))) && (HShop.sort x==HShop.sort (Prod.fst (N.shopOf (HShop.name x) (List.map (RCod.dec cShop) (List.map (RCod.enc cShop) (HBook.shops b))))) && (HShop.to x==HShop.to (Prod.fst (N.shopOf (HShop.name x) (List.map (RCod.dec cShop) (List.map (RCod.enc cShop) (HBook.shops b))))) && true))) (some {v:=V.tup [V.agg [V.slc [.str,.int .u8,.str] (List.map (RCod.enc cShop) (HBook.shops b)),V.slc [.str,.str,.bool,.str,.slc [.str,.int .u8,.int .i64,.str],.bool] (List.map (RCod.enc cBind) (HBook.binds b))],V.int .i64 (0:Int)],bx:=[]:DRes}) (cond (Prod.snd (N.shopOf (HShop.name x) (List.map (RCod.dec cShop) (List.map (RCod.enc cShop) (HBook.shops b))))) (some {v:=V.tup [V.agg [V.slc [.str,.int .u8,.str] (List.map (RCod.enc cShop) (HBook.shops b)),V.slc [.str,.str,.bool,.str,.slc [.str,.int .u8,.int .i64,.str],.bool] (List.map (RCod.enc cBind) (HBook.binds b))],V.int .i64 (9:Int)],bx:=[]:DRes}) (cond (ile (8:Int) (↑(List.length (List.map (RCod.enc cShop) (HBook.shops b))):Int)) (some {v:=V.tup [V.agg [V.slc [.str,.int .u8,.str] (List.map (RCod.enc cShop) (HBook.shops b)),V.slc [.str,.str,.bool,.str,.slc [.str,.int .u8,.int .i64,.str],.bool] (List.map (RCod.enc cBind) (HBook.binds b))],V.int .i64 (12:Int)],bx:=[]:DRes}) (cond (Nat.ble (List.length (List.map (RCod.dec cShop) (List.map (RCod.enc cShop) (HBook.shops b)))+1) 100000) (some {v:=V.tup [V.agg [V.slc [.str,.int .u8,.str] (List.map (RCod.enc cShop) (N.flat [List.map (RCod.dec cShop) (List.map (RCod.enc cShop) (HBook.shops b)),List.map (RCod.dec cShop) [[V.str (HShop.name x),V.int .u8 (HShop.sort x),V.str (HShop.to x)]]])),V.slc [.str,.str,.bool,.str,.slc [.str,.int .u8,.int .i64,.str],.bool] (List.map (RCod.enc cBind) (HBook.binds b))],V.int .i64 (0:Int)],bx:=[]:DRes}) (none))))) (cond (Prod.snd (N.shopOf (HShop.name x) (List.map (RCod.dec cShop) (List.map (RCod.enc cShop) (HBook.shops b))))) (some {v:=V.tup [V.agg [V.slc [.str,.int .u8,.str] (List.map (RCod.enc cShop) (HBook.shops b)),V.slc [.str,.str,.bool,.str,.slc [.str,.int .u8,.int .i64,.str],.bool] (List.map (RCod.enc cBind) (HBook.binds b))],V.int .i64 (9:Int)],bx:=[]:DRes}) (cond (ile (8:Int) (↑(List.length (List.map (RCod.enc cShop) (HBook.shops b))):Int)) (some {v:=V.tup [V.agg [V.slc [.str,.int .u8,.str] (List.map (RCod.enc cShop) (HBook.shops b)),V.slc [.str,.str,.bool,.str,.slc [.str,.int .u8,.int .i64,.str],.bool] (List.map (RCod.enc cBind) (HBook.binds b))],V.int .i64 (12:Int)],bx:=[]:DRes}) (cond (Nat.ble (List.length (List.map (RCod.dec cShop) (List.map (RCod.enc cShop) (HBook.shops b)))+1) 100000) (some {v:=V.tup [V.agg [V.slc [.str,.int .u8,.str] (List.map (RCod.enc cShop) (N.flat [List.map (RCod.dec cShop) (List.map (RCod.enc cShop) (HBook.shops b)),List.map (RCod.dec cShop) [[V.str (HShop.name x),V.int .u8 (HShop.sort x),V.str (HShop.to x)]]])),V.slc [.str,.str,.bool,.str,.slc [.str,.int .u8,.int .i64,.str],.bool] (List.map (RCod.enc cBind) (HBook.binds b))],V.int .i64 (0:Int)],bx:=[]:DRes}) (none))))) (none)):=by kernel_rfl
noncomputable def eBDrop:Env:=env Tryz.prog [(126,dIxShop),(117,dConcat cShop),(128,dKeepD)] [] []
theorem q_bDrop (b:HBook) (n:Bytes):evFn eBDrop 81 ((aCons (vAgg cBook) (aOne vStr)).enc (b,n)) ([]) some =
 cond (Nat.ble (List.length (List.map (RCod.dec cShop) (List.map (RCod.enc cShop) (HBook.shops b)))) 1000) (cond (ilt (N.ixG (N.isShop n) (List.map (RCod.dec cShop) (List.map (RCod.enc cShop) (HBook.shops b))) (0:Int)) (0:Int)) (some {v:=V.tup [V.agg [V.slc [.str,.int .u8,.str] (List.map (RCod.enc cShop) (HBook.shops b)),V.slc [.str,.str,.bool,.str,.slc [.str,.int .u8,.int .i64,.str],.bool] (List.map (RCod.enc cBind) (HBook.binds b))],V.int .i64 (10:Int)],bx:=[]:DRes}) (cond (decide ((0:Int)≤N.ixG (N.isShop n) (List.map (RCod.dec cShop) (List.map (RCod.enc cShop) (HBook.shops b))) (0:Int)∧N.ixG (N.isShop n) (List.map (RCod.dec cShop) (List.map (RCod.enc cShop) (HBook.shops b))) (0:Int)≤(↑(List.length (List.map (RCod.enc cShop) (HBook.shops b))):Int))) (cond (decide ((0:Int)≤IntKind.wrap .i64 (N.ixG (N.isShop n) (List.map (RCod.dec cShop) (List.map (RCod.enc cShop) (HBook.shops b))) (0:Int)+(1:Int))∧IntKind.wrap .i64 (N.ixG (N.isShop n) (List.map (RCod.dec cShop) (List.map (RCod.enc cShop) (HBook.shops b))) (0:Int)+(1:Int))≤(↑(List.length (List.map (RCod.enc cShop) (HBook.shops b))):Int))) (cond (Nat.ble (List.length (List.map (RCod.dec cShop) (List.drop 0 (List.take (Int.toNat (N.ixG (N.isShop n) (List.map (RCod.dec cShop) (List.map (RCod.enc cShop) (HBook.shops b))) (0:Int))) (List.map (RCod.enc cShop) (HBook.shops b)))))+(List.length (List.map (RCod.dec cShop) (List.drop (Int.toNat (IntKind.wrap .i64 (N.ixG (N.isShop n) (List.map (RCod.dec cShop) (List.map (RCod.enc cShop) (HBook.shops b))) (0:Int)+(1:Int)))) (List.take (List.length (List.map (RCod.enc cShop) (HBook.shops b))) (List.map (RCod.enc cShop) (HBook.shops b)))))+0)) 100000) (cond (Nat.ble (List.length (List.map (RCod.dec cBind) (List.map (RCod.enc cBind) (HBook.binds b)))) 1000) (some {v:=V.tup [V.agg [V.slc [.str,.int .u8,.str] (List.map (RCod.enc cShop) (N.flat [List.map (RCod.dec cShop) (List.drop 0 (List.take (Int.toNat (N.ixG (N.isShop n) (List.map (RCod.dec cShop) (List.map (RCod.enc cShop) (HBook.shops b))) (0:Int))) (List.map (RCod.enc cShop) (HBook.shops b)))),List.map (RCod.dec cShop) (List.drop (Int.toNat (IntKind.wrap .i64 (N.ixG (N.isShop n) (List.map (RCod.dec cShop) (List.map (RCod.enc cShop) (HBook.shops b))) (0:Int)+(1:Int)))) (List.take (List.length (List.map (RCod.enc cShop) (HBook.shops b))) (List.map (RCod.enc cShop) (HBook.shops b))))])),V.slc [.str,.str,.bool,.str,.slc [.str,.int .u8,.int .i64,.str],.bool] (List.map (RCod.enc cBind) (List.filter (N.offShop n) (List.map (RCod.dec cBind) (List.map (RCod.enc cBind) (HBook.binds b)))))],V.int .i64 (0:Int)],bx:=[]:DRes}) (none)) (none)) (none)) (none))) (none):=by kernel_rfl
noncomputable def eThere:Env:=env Tryz.prog [(152,dIxBind)] [] []
theorem q_there (b:HBook) (x:HBind):evFn eThere 120 ((aCons (vAgg cBook) (aOne (vAgg cBind))).enc (b,x)) ([]) some =
 cond (bif Nat.ble (List.length (List.map (RCod.dec cBind) (List.map (RCod.enc cBind) (HBook.binds b)))) 1000 then smallB {shop:=HBind.shop x,to:=HBind.to x,up:=HBind.up x,key:=HBind.key x,want:=List.map (fun r=>{key:=V.toStr (List.getD r 0 .undef),kind:=V.toInt (List.getD r 1 .undef),num:=V.toInt (List.getD r 2 .undef),text:=V.toStr (List.getD r 3 .undef):HPair}) (List.map (fun p=>[V.str (HPair.key p),V.int .u8 (HPair.kind p),V.int .i64 (HPair.num p),V.str (HPair.text p)]) (HBind.want x)),all:=HBind.all x:HBind} else false) (some {v:=V.int .i64 (N.ixG (N.bindSame {shop:=HBind.shop x,to:=HBind.to x,up:=HBind.up x,key:=HBind.key x,want:=List.map (fun r=>{key:=V.toStr (List.getD r 0 .undef),kind:=V.toInt (List.getD r 1 .undef),num:=V.toInt (List.getD r 2 .undef),text:=V.toStr (List.getD r 3 .undef):HPair}) (List.map (fun p=>[V.str (HPair.key p),V.int .u8 (HPair.kind p),V.int .i64 (HPair.num p),V.str (HPair.text p)]) (HBind.want x)),all:=HBind.all x:HBind}) (List.map (RCod.dec cBind) (List.map (RCod.enc cBind) (HBook.binds b))) (0:Int)),bx:=[]:DRes}) (none):=by kernel_rfl
noncomputable def eBBind:Env:=env Tryz.prog [(38,dBookShop),(118,dName),(89,dBindRule),(119,dRuleCheck),(120,dThere),(122,dBindClone),(121,dConcat cBind)] [] []
theorem q_bBind (b:HBook) (x:HBind):evFn eBBind 74 ((aCons (vAgg cBook) (aOne (vAgg cBind))).enc (b,x)) ([]) some =
 cond (Nat.ble (List.length (List.map (RCod.dec cShop) (List.map (RCod.enc cShop) (HBook.shops b)))) 1000) (cond (!Prod.snd (N.shopOf (HBind.shop x) (List.map (RCod.dec cShop) (List.map (RCod.enc cShop) (HBook.shops b))))) (some {v:=V.tup [V.agg [V.slc [.str,.int .u8,.str] (List.map (RCod.enc cShop) (HBook.shops b)),V.slc [.str,.str,.bool,.str,.slc [.str,.int .u8,.int .i64,.str],.bool] (List.map (RCod.enc cBind) (HBook.binds b))],V.int .i64 (10:Int)],bx:=[]:DRes}) (cond (HShop.sort (Prod.fst (N.shopOf (HBind.shop x) (List.map (RCod.dec cShop) (List.map (RCod.enc cShop) (HBook.shops b)))))==(4:Int)) (some {v:=V.tup [V.agg [V.slc [.str,.int .u8,.str] (List.map (RCod.enc cShop) (HBook.shops b)),V.slc [.str,.str,.bool,.str,.slc [.str,.int .u8,.int .i64,.str],.bool] (List.map (RCod.enc cBind) (HBook.binds b))],V.int .i64 (8:Int)],bx:=[]:DRes}) (cond (N.name (HBind.to x) != (0:Int)) (some {v:=V.tup [V.agg [V.slc [.str,.int .u8,.str] (List.map (RCod.enc cShop) (HBook.shops b)),V.slc [.str,.str,.bool,.str,.slc [.str,.int .u8,.int .i64,.str],.bool] (List.map (RCod.enc cBind) (HBook.binds b))],V.int .i64 (N.name (HBind.to x))],bx:=[]:DRes}) (cond (N.ruleCheck {sort:=HRule.sort (N.bindRule {shop:=HBind.shop x,to:=HBind.to x,up:=HBind.up x,key:=HBind.key x,want:=List.map (fun r=>{key:=V.toStr (List.getD r 0 .undef),kind:=V.toInt (List.getD r 1 .undef),num:=V.toInt (List.getD r 2 .undef),text:=V.toStr (List.getD r 3 .undef):HPair}) (List.map (fun p=>[V.str (HPair.key p),V.int .u8 (HPair.kind p),V.int .i64 (HPair.num p),V.str (HPair.text p)]) (HBind.want x)),all:=HBind.all x:HBind} (HShop.sort (Prod.fst (N.shopOf (HBind.shop x) (List.map (RCod.dec cShop) (List.map (RCod.enc cShop) (HBook.shops b))))))),key:=HRule.key (N.bindRule {shop:=HBind.shop x,to:=HBind.to x,up:=HBind.up x,key:=HBind.key x,want:=List.map (fun r=>{key:=V.toStr (List.getD r 0 .undef),kind:=V.toInt (List.getD r 1 .undef),num:=V.toInt (List.getD r 2 .undef),text:=V.toStr (List.getD r 3 .undef):HPair}) (List.map (fun p=>[V.str (HPair.key p),V.int .u8 (HPair.kind p),V.int .i64 (HPair.num p),V.str (HPair.text p)]) (HBind.want x)),all:=HBind.all x:HBind} (HShop.sort (Prod.fst (N.shopOf (HBind.shop x) (List.map (RCod.dec cShop) (List.map (RCod.enc cShop) (HBook.shops b))))))),want:=List.map (fun r=>{key:=V.toStr (List.getD r 0 .undef),kind:=V.toInt (List.getD r 1 .undef),num:=V.toInt (List.getD r 2 .undef),text:=V.toStr (List.getD r 3 .undef):HPair}) (List.map (fun p=>[V.str (HPair.key p),V.int .u8 (HPair.kind p),V.int .i64 (HPair.num p),V.str (HPair.text p)]) (HRule.want (N.bindRule {shop:=HBind.shop x,to:=HBind.to x,up:=HBind.up x,key:=HBind.key x,want:=List.map (fun r=>{key:=V.toStr (List.getD r 0 .undef),kind:=V.toInt (List.getD r 1 .undef),num:=V.toInt (List.getD r 2 .undef),text:=V.toStr (List.getD r 3 .undef):HPair}) (List.map (fun p=>[V.str (HPair.key p),V.int .u8 (HPair.kind p),V.int .i64 (HPair.num p),V.str (HPair.text p)]) (HBind.want x)),all:=HBind.all x:HBind} (HShop.sort (Prod.fst (N.shopOf (HBind.shop x) (List.map (RCod.dec cShop) (List.map (RCod.enc cShop) (HBook.shops b))))))))),all:=HRule.all (N.bindRule {shop:=HBind.shop x,to:=HBind.to x,up:=HBind.up x,key:=HBind.key x,want:=List.map (fun r=>{key:=V.toStr (List.getD r 0 .undef),kind:=V.toInt (List.getD r 1 .undef),num:=V.toInt (List.getD r 2 .undef),text:=V.toStr (List.getD r 3 .undef):HPair}) (List.map (fun p=>[V.str (HPair.key p),V.int .u8 (HPair.kind p),V.int .i64 (HPair.num p),V.str (HPair.text p)]) (HBind.want x)),all:=HBind.all x:HBind} (HShop.sort (Prod.fst (N.shopOf (HBind.shop x) (List.map (RCod.dec cShop) (List.map (RCod.enc cShop) (HBook.shops b))))))):HRule} != (0:Int)) (some {v:=V.tup [V.agg [V.slc [.str,.int .u8,.str] (List.map (RCod.enc cShop) (HBook.shops b)),V.slc [.str,.str,.bool,.str,.slc [.str,.int .u8,.int .i64,.str],.bool] (List.map (RCod.enc cBind) (HBook.binds b))],V.int .i64 (N.ruleCheck {sort:=HRule.sort (N.bindRule {shop:=HBind.shop x,to:=HBind.to x,up:=HBind.up x,key:=HBind.key x,want:=List.map (fun r=>{key:=V.toStr (List.getD r 0 .undef),kind:=V.toInt (List.getD r 1 .undef),num:=V.toInt (List.getD r 2 .undef),text:=V.toStr (List.getD r 3 .undef):HPair}) (List.map (fun p=>[V.str (HPair.key p),V.int .u8 (HPair.kind p),V.int .i64 (HPair.num p),V.str (HPair.text p)]) (HBind.want x)),all:=HBind.all x:HBind} (HShop.sort (Prod.fst (N.shopOf (HBind.shop x) (List.map (RCod.dec cShop) (List.map (RCod.enc cShop) (HBook.shops b))))))),key:=HRule.key (N.bindRule {shop:=HBind.shop x,to:=HBind.to x,up:=HBind.up x,key:=HBind.key x,want:=List.map (fun r=>{key:=V.toStr (List.getD r 0 .undef),kind:=V.toInt (List.getD r 1 .undef),num:=V.toInt (List.getD r 2 .undef),text:=V.toStr (List.getD r 3 .undef):HPair}) (List.map (fun p=>[V.str (HPair.key p),V.int .u8 (HPair.kind p),V.int .i64 (HPair.num p),V.str (HPair.text p)]) (HBind.want x)),all:=HBind.all x:HBind} (HShop.sort (Prod.fst (N.shopOf (HBind.shop x) (List.map (RCod.dec cShop) (List.map (RCod.enc cShop) (HBook.shops b))))))),want:=List.map (fun r=>{key:=V.toStr (List.getD r 0 .undef),kind:=V.toInt (List.getD r 1 .undef),num:=V.toInt (List.getD r 2 .undef),text:=V.toStr (List.getD r 3 .undef):HPair}) (List.map (fun p=>[V.str (HPair.key p),V.int .u8 (HPair.kind p),V.int .i64 (HPair.num p),V.str (HPair.text p)]) (HRule.want (N.bindRule {shop:=HBind.shop x,to:=HBind.to x,up:=HBind.up x,key:=HBind.key x,want:=List.map (fun r=>{key:=V.toStr (List.getD r 0 .undef),kind:=V.toInt (List.getD r 1 .undef),num:=V.toInt (List.getD r 2 .undef),text:=V.toStr (List.getD r 3 .undef):HPair}) (List.map (fun p=>[V.str (HPair.key p),V.int .u8 (HPair.kind p),V.int .i64 (HPair.num p),V.str (HPair.text p)]) (HBind.want x)),all:=HBind.all x:HBind} (HShop.sort (Prod.fst (N.shopOf (HBind.shop x) (List.map (RCod.dec cShop) (List.map (RCod.enc cShop) (HBook.shops b))))))))),all:=HRule.all (N.bindRule {shop:=HBind.shop x,to:=HBind.to x,up:=HBind.up x,key:=HBind.key x,want:=List.map (fun r=>{key:=V.toStr (List.getD r 0 .undef),kind:=V.toInt (List.getD r 1 .undef),num:=V.toInt (List.getD r 2 .undef),text:=V.toStr (List.getD r 3 .undef):HPair}) (List.map (fun p=>[V.str (HPair.key p),V.int .u8 (HPair.kind p),V.int .i64 (HPair.num p),V.str (HPair.text p)]) (HBind.want x)),all:=HBind.all x:HBind} (HShop.sort (Prod.fst (N.shopOf (HBind.shop x) (List.map (RCod.dec cShop) (List.map (RCod.enc cShop) (HBook.shops b))))))):HRule})],bx:=[]:DRes}) (cond (bif smallBook {shops:=List.map (RCod.dec cShop) (List.map (RCod.enc cShop) (HBook.shops b)),binds:=List.map (RCod.dec cBind) (List.map (RCod.enc cBind) (HBook.binds b)):HBook} then smallB {shop:=HBind.shop x,to:=HBind.to x,up:=HBind.up x,key:=HBind.key x,want:=List.map (fun r=>{key:=V.toStr (List.getD r 0 .undef),kind:=V.toInt (List.getD r 1 .undef),num:=V.toInt (List.getD r 2 .undef),text:=V.toStr (List.getD r 3 .undef):HPair}) (List.map (fun p=>[V.str (HPair.key p),V.int .u8 (HPair.kind p),V.int .i64 (HPair.num p),V.str (HPair.text p)]) (HBind.want x)),all:=HBind.all x:HBind} else false) (cond (ile (0:Int) (N.ixG (N.bindSame {shop:=HBind.shop x,to:=HBind.to x,up:=HBind.up x,key:=HBind.key x,want:=List.map (fun r=>{key:=V.toStr (List.getD r 0 .undef),kind:=V.toInt (List.getD r 1 .undef),num:=V.toInt (List.getD r 2 .undef),text:=V.toStr (List.getD r 3 .undef):HPair}) (List.map (fun p=>[V.str (HPair.key p),V.int .u8 (HPair.kind p),V.int .i64 (HPair.num p),V.str (HPair.text p)]) (HBind.want x)),all:=HBind.all x:HBind}) (List.map (RCod.dec cBind) (List.map (RCod.enc cBind) (HBook.binds b))) (0:Int))) (some {v:=V.tup [V.agg [V.slc [.str,.int .u8,.str] (List.map (RCod.enc cShop) (HBook.shops b)),V.slc [.str,.str,.bool,.str,.slc [.str,.int .u8,.int .i64,.str],.bool] (List.map (RCod.enc cBind) (HBook.binds b))],V.int .i64 (0:Int)],bx:=[]:DRes}) (cond (ile (32:Int) (↑(List.length (List.map (RCod.enc cBind) (HBook.binds b))):Int)) (some {v:=V.tup [V.agg [V.slc [.str,.int .u8,.str] (List.map (RCod.enc cShop) (HBook.shops b)),V.slc [.str,.str,.bool,.str,.slc [.str,.int .u8,.int .i64,.str],.bool] (List.map (RCod.enc cBind) (HBook.binds b))],V.int .i64 (12:Int)],bx:=[]:DRes}) (cond (smallB {shop:=HBind.shop x,to:=HBind.to x,up:=HBind.up x,key:=HBind.key x,want:=List.map (fun r=>{key:=V.toStr (List.getD r 0 .undef),kind:=V.toInt (List.getD r 1 .undef),num:=V.toInt (List.getD r 2 .undef),text:=V.toStr (List.getD r 3 .undef):HPair}) (List.map (fun p=>[V.str (HPair.key p),V.int .u8 (HPair.kind p),V.int .i64 (HPair.num p),V.str (HPair.text p)]) (HBind.want x)),all:=HBind.all x:HBind}) (cond (Nat.ble (List.length (List.map (RCod.dec cBind) (List.map (RCod.enc cBind) (HBook.binds b)))+1) 100000) (some {v:=V.tup [V.agg [V.slc [.str,.int .u8,.str] (List.map (RCod.enc cShop) (HBook.shops b)),V.slc [.str,.str,.bool,.str,.slc [.str,.int .u8,.int .i64,.str],.bool] (List.map (RCod.enc cBind) (N.flat [List.map (RCod.dec cBind) (List.map (RCod.enc cBind) (HBook.binds b)),List.map (RCod.dec cBind) [[V.str (HBind.shop x),V.str (HBind.to x),V.bool (HBind.up x),V.str (HBind.key x),V.slc [.str,.int .u8,.int .i64,.str] (List.map (fun p=>[V.str (HPair.key p),V.int .u8 (HPair.kind p),V.int .i64 (HPair.num p),V.str (HPair.text p)]) (List.map (fun r=>{key:=V.toStr (List.getD r 0 .undef),kind:=V.toInt (List.getD r 1 .undef),num:=V.toInt (List.getD r 2 .undef),text:=V.toStr (List.getD r 3 .undef):HPair}) (List.map (fun p=>[V.str (HPair.key p),V.int .u8 (HPair.kind p),V.int .i64 (HPair.num p),V.str (HPair.text p)]) (HBind.want x)))),V.bool (HBind.all x)]]]))],V.int .i64 (0:Int)],bx:=[]:DRes}) (none)) (none)))) (none)))))) (none):=by kernel_rfl
noncomputable def eBUnbind:Env:=env Tryz.prog [(120,dThere),(121,dConcat cBind)] [] []
theorem q_bUnbind (b:HBook) (x:HBind):evFn eBUnbind 85 ((aCons (vAgg cBook) (aOne (vAgg cBind))).enc (b,x)) ([]) some =
 cond (bif smallBook {shops:=List.map (RCod.dec cShop) (List.map (RCod.enc cShop) (HBook.shops b)),binds:=List.map (RCod.dec cBind) (List.map (RCod.enc cBind) (HBook.binds b)):HBook} then smallB {shop:=HBind.shop x,to:=HBind.to x,up:=HBind.up x,key:=HBind.key x,want:=List.map (fun r=>{key:=V.toStr (List.getD r 0 .undef),kind:=V.toInt (List.getD r 1 .undef),num:=V.toInt (List.getD r 2 .undef),text:=V.toStr (List.getD r 3 .undef):HPair}) (List.map (fun p=>[V.str (HPair.key p),V.int .u8 (HPair.kind p),V.int .i64 (HPair.num p),V.str (HPair.text p)]) (HBind.want x)),all:=HBind.all x:HBind} else false) (cond (ilt (N.ixG (N.bindSame {shop:=HBind.shop x,to:=HBind.to x,up:=HBind.up x,key:=HBind.key x,want:=List.map (fun r=>{key:=V.toStr (List.getD r 0 .undef),kind:=V.toInt (List.getD r 1 .undef),num:=V.toInt (List.getD r 2 .undef),text:=V.toStr (List.getD r 3 .undef):HPair}) (List.map (fun p=>[V.str (HPair.key p),V.int .u8 (HPair.kind p),V.int .i64 (HPair.num p),V.str (HPair.text p)]) (HBind.want x)),all:=HBind.all x:HBind}) (List.map (RCod.dec cBind) (List.map (RCod.enc cBind) (HBook.binds b))) (0:Int)) (0:Int)) (some {v:=V.tup [V.agg [V.slc [.str,.int .u8,.str] (List.map (RCod.enc cShop) (HBook.shops b)),V.slc [.str,.str,.bool,.str,.slc [.str,.int .u8,.int .i64,.str],.bool] (List.map (RCod.enc cBind) (HBook.binds b))],V.int .i64 (10:Int)],bx:=[]:DRes}) (cond (decide ((0:Int)≤N.ixG (N.bindSame {shop:=HBind.shop x,to:=HBind.to x,up:=HBind.up x,key:=HBind.key x,want:=List.map (fun r=>{key:=V.toStr (List.getD r 0 .undef),kind:=V.toInt (List.getD r 1 .undef),num:=V.toInt (List.getD r 2 .undef),text:=V.toStr (List.getD r 3 .undef):HPair}) (List.map (fun p=>[V.str (HPair.key p),V.int .u8 (HPair.kind p),V.int .i64 (HPair.num p),V.str (HPair.text p)]) (HBind.want x)),all:=HBind.all x:HBind}) (List.map (RCod.dec cBind) (List.map (RCod.enc cBind) (HBook.binds b))) (0:Int)∧N.ixG (N.bindSame {shop:=HBind.shop x,to:=HBind.to x,up:=HBind.up x,key:=HBind.key x,want:=List.map (fun r=>{key:=V.toStr (List.getD r 0 .undef),kind:=V.toInt (List.getD r 1 .undef),num:=V.toInt (List.getD r 2 .undef),text:=V.toStr (List.getD r 3 .undef):HPair}) (List.map (fun p=>[V.str (HPair.key p),V.int .u8 (HPair.kind p),V.int .i64 (HPair.num p),V.str (HPair.text p)]) (HBind.want x)),all:=HBind.all x:HBind}) (List.map (RCod.dec cBind) (List.map (RCod.enc cBind) (HBook.binds b))) (0:Int)≤(↑(List.length (List.map (RCod.enc cBind) (HBook.binds b))):Int))) (cond (decide ((0:Int)≤IntKind.wrap .i64 (N.ixG (N.bindSame {shop:=HBind.shop x,to:=HBind.to x,up:=HBind.up x,key:=HBind.key x,want:=List.map (fun r=>{key:=V.toStr (List.getD r 0 .undef),kind:=V.toInt (List.getD r 1 .undef),num:=V.toInt (List.getD r 2 .undef),text:=V.toStr (List.getD r 3 .undef):HPair}) (List.map (fun p=>[V.str (HPair.key p),V.int .u8 (HPair.kind p),V.int .i64 (HPair.num p),V.str (HPair.text p)]) (HBind.want x)),all:=HBind.all x:HBind}) (List.map (RCod.dec cBind) (List.map (RCod.enc cBind) (HBook.binds b))) (0:Int)+(1:Int))∧IntKind.wrap .i64 (N.ixG (N.bindSame {shop:=HBind.shop x,to:=HBind.to x,up:=HBind.up x,key:=HBind.key x,want:=List.map (fun r=>{key:=V.toStr (List.getD r 0 .undef),kind:=V.toInt (List.getD r 1 .undef),num:=V.toInt (List.getD r 2 .undef),text:=V.toStr (List.getD r 3 .undef):HPair}) (List.map (fun p=>[V.str (HPair.key p),V.int .u8 (HPair.kind p),V.int .i64 (HPair.num p),V.str (HPair.text p)]) (HBind.want x)),all:=HBind.all x:HBind}) (List.map (RCod.dec cBind) (List.map (RCod.enc cBind) (HBook.binds b))) (0:Int)+(1:Int))≤(↑(List.length (List.map (RCod.enc cBind) (HBook.binds b))):Int))) (cond (Nat.ble (List.length (List.map (RCod.dec cBind) (List.drop 0 (List.take (Int.toNat (N.ixG (N.bindSame {shop:=HBind.shop x,to:=HBind.to x,up:=HBind.up x,key:=HBind.key x,want:=List.map (fun r=>{key:=V.toStr (List.getD r 0 .undef),kind:=V.toInt (List.getD r 1 .undef),num:=V.toInt (List.getD r 2 .undef),text:=V.toStr (List.getD r 3 .undef):HPair}) (List.map (fun p=>[V.str (HPair.key p),V.int .u8 (HPair.kind p),V.int .i64 (HPair.num p),V.str (HPair.text p)]) (HBind.want x)),all:=HBind.all x:HBind}) (List.map (RCod.dec cBind) (List.map (RCod.enc cBind) (HBook.binds b))) (0:Int))) (List.map (RCod.enc cBind) (HBook.binds b)))))+(List.length (List.map (RCod.dec cBind) (List.drop (Int.toNat (IntKind.wrap .i64 (N.ixG (N.bindSame {shop:=HBind.shop x,to:=HBind.to x,up:=HBind.up x,key:=HBind.key x,want:=List.map (fun r=>{key:=V.toStr (List.getD r 0 .undef),kind:=V.toInt (List.getD r 1 .undef),num:=V.toInt (List.getD r 2 .undef),text:=V.toStr (List.getD r 3 .undef):HPair}) (List.map (fun p=>[V.str (HPair.key p),V.int .u8 (HPair.kind p),V.int .i64 (HPair.num p),V.str (HPair.text p)]) (HBind.want x)),all:=HBind.all x:HBind}) (List.map (RCod.dec cBind) (List.map (RCod.enc cBind) (HBook.binds b))) (0:Int)+(1:Int)))) (List.take (List.length (List.map (RCod.enc cBind) (HBook.binds b))) (List.map (RCod.enc cBind) (HBook.binds b)))))+0)) 100000) (some {v:=V.tup [V.agg [V.slc [.str,.int .u8,.str] (List.map (RCod.enc cShop) (HBook.shops b)),V.slc [.str,.str,.bool,.str,.slc [.str,.int .u8,.int .i64,.str],.bool] (List.map (RCod.enc cBind) (N.flat [List.map (RCod.dec cBind) (List.drop 0 (List.take (Int.toNat (N.ixG (N.bindSame {shop:=HBind.shop x,to:=HBind.to x,up:=HBind.up x,key:=HBind.key x,want:=List.map (fun r=>{key:=V.toStr (List.getD r 0 .undef),kind:=V.toInt (List.getD r 1 .undef),num:=V.toInt (List.getD r 2 .undef),text:=V.toStr (List.getD r 3 .undef):HPair}) (List.map (fun p=>[V.str (HPair.key p),V.int .u8 (HPair.kind p),V.int .i64 (HPair.num p),V.str (HPair.text p)]) (HBind.want x)),all:=HBind.all x:HBind}) (List.map (RCod.dec cBind) (List.map (RCod.enc cBind) (HBook.binds b))) (0:Int))) (List.map (RCod.enc cBind) (HBook.binds b)))),List.map (RCod.dec cBind) (List.drop (Int.toNat (IntKind.wrap .i64 (N.ixG (N.bindSame {shop:=HBind.shop x,to:=HBind.to x,up:=HBind.up x,key:=HBind.key x,want:=List.map (fun r=>{key:=V.toStr (List.getD r 0 .undef),kind:=V.toInt (List.getD r 1 .undef),num:=V.toInt (List.getD r 2 .undef),text:=V.toStr (List.getD r 3 .undef):HPair}) (List.map (fun p=>[V.str (HPair.key p),V.int .u8 (HPair.kind p),V.int .i64 (HPair.num p),V.str (HPair.text p)]) (HBind.want x)),all:=HBind.all x:HBind}) (List.map (RCod.dec cBind) (List.map (RCod.enc cBind) (HBook.binds b))) (0:Int)+(1:Int)))) (List.take (List.length (List.map (RCod.enc cBind) (HBook.binds b))) (List.map (RCod.enc cBind) (HBook.binds b))))]))],V.int .i64 (0:Int)],bx:=[]:DRes}) (none)) (none)) (none))) (none):=by kernel_rfl
noncomputable def eBForget:Env:=env Tryz.prog [(128,dKeepF)] [] []
theorem q_bForget (b:HBook) (n:Bytes):evFn eBForget 87 ((aCons (vAgg cBook) (aOne vStr)).enc (b,n)) ([]) some =
 cond (Nat.ble (List.length (List.map (RCod.dec cBind) (List.map (RCod.enc cBind) (HBook.binds b)))) 1000) (some {v:=V.agg [V.slc [.str,.int .u8,.str] (List.map (RCod.enc cShop) (HBook.shops b)),V.slc [.str,.str,.bool,.str,.slc [.str,.int .u8,.int .i64,.str],.bool] (List.map (RCod.enc cBind) (List.filter (N.stays n) (List.map (RCod.dec cBind) (List.map (RCod.enc cBind) (HBook.binds b)))))],bx:=[]:DRes}) (none):=by kernel_rfl
theorem ok_there:FnOk Tryz.prog 120 dThere:=by
 refine den_okF (env_ok ((TOk.nil _).cons ok_ixBind)) (E:=eThere) Tryz.func120 [] (by kernel_rfl) none0 fun a _ hp=>?_
 obtain ⟨b,x⟩:=a
 obtain ⟨h,hx⟩:=bcond hp
 have h1:Nat.ble b.binds.length 1000=true:=(bcond (bcond h).2).1
 have hx:smallB x=true:=hx
 refine (q_there b x).trans ?_
 simp only [fold_bindE,dec_encs,h1,hx,cond_true]
 try rfl
theorem ok_bForget:FnOk Tryz.prog 87 dBForget:=by
 refine den_okF (env_ok ((TOk.nil _).cons ok_keepF)) (E:=eBForget) Tryz.func87 [] (by kernel_rfl) none0 fun a _ hp=>?_
 obtain ⟨b,n⟩:=a
 have h1:Nat.ble b.binds.length 1000=true:=(bcond (bcond hp).2).1
 refine (q_bForget b n).trans ?_
 simp only [dec_encs,h1,cond_true]
 try rfl
theorem ok_bMake:FnOk Tryz.prog 73 dBMake:=by
 refine den_okF (env_ok ((((TOk.nil _).cons ok_concatS).cons ok_bookShop).cons ok_shopCheck)) (E:=eBMake) Tryz.func73 [] (by kernel_rfl) none0 fun a _ hp=>?_
 obtain ⟨b,x⟩:=a
 have h1:Nat.ble b.shops.length 1000=true:=(bcond hp).1
 have h2:b.shops.length≤1000:=ble_of h1
 refine (q_bMake b x).trans ?_
 show _=some (⟨.tup [.agg (cBook.enc (N.bMake b x).1),.int .i64 (N.bMake b x).2],[],[]⟩:DRes)
 unfold N.bMake N.eqShop
 have hb:Nat.ble (b.shops.length+1) 100000=true:=ble_t (by omega)
 have hf:N.flat [b.shops,[x]]=b.shops++[x]:=flat_two _ _
 simp only [dec_encs,h1,cond_true,fold_shopX,List.map_cons,List.map_nil,cShop.de,List.length_map,hb,hf]
 generalize N.shopOf x.name b.shops=y
 cases N.shopCheck x != 0 with
 | true=>rfl
 | false =>
  obtain ⟨y,t⟩:=y
  simp only [cond_false]
  cases t with
  | true=>cases x.name==y.name<;>cases x.sort==y.sort<;>cases x.to==y.to<;>rfl
  | false =>
   simp only [cond_false]
   cases ile 8 (b.shops.length:Int) with
   | true=>cases x.name==y.name<;>cases x.sort==y.sort<;>cases x.to==y.to<;>rfl
   | false=>cases x.name==y.name<;>cases x.sort==y.sort<;>cases x.to==y.to<;>rfl
theorem ok_bDrop:FnOk Tryz.prog 81 dBDrop:=by
 refine den_okF (env_ok ((((TOk.nil _).cons ok_keepD).cons ok_concatS).cons ok_ixShop)) (E:=eBDrop) Tryz.func81 [] (by kernel_rfl) none0 fun a _ hp=>?_
 obtain ⟨b,n⟩:=a
 have h1:Nat.ble b.shops.length 1000=true:=(bcond hp).1
 have h2:b.shops.length≤1000:=ble_of h1
 have h3:Nat.ble b.binds.length 1000=true:=(bcond (bcond hp).2).1
 refine (q_bDrop b n).trans ?_
 show _=some (⟨.tup [.agg (cBook.enc (N.bDrop b n).1),.int .i64 (N.bDrop b n).2],[],[]⟩:DRes)
 unfold N.bDrop N.cutG
 simp only [dec_encs,h1,h3,cond_true]
 rcases ixG_spec (N.isShop n) b.shops 0 with ⟨e,_⟩ | ⟨a,x,c,el,e,_⟩
 ·rw [e]
  simp (disch:=omega) only [evs]
  try rfl
 ·rw [Int.zero_add] at e
  have hk:a.length<b.shops.length:=by rw [el]; simp
  generalize a.length=k at *
  rw [e]
  have w:IntKind.wrap .i64 ((k:Int)+1)=(k:Int)+1:=wr_i64 (by omega) (by omega)
  have e1:((k:Int)+1).toNat=k+1:=by omega
  have t1:(b.shops.map cShop.enc).take b.shops.length=b.shops.map cShop.enc:=List.take_of_length_le (by rw [List.length_map]; exact Nat.le_refl _)
  have hl:(b.shops.take k).length+((b.shops.drop (k+1)).length+0)≤100000:=by simp; omega
  have hb:Nat.ble ((b.shops.take k).length+((b.shops.drop (k+1)).length+0)) 100000=true:=ble_t hl
  simp (disch:=omega) only [evs,Int.toNat_natCast,w,e1,t1,List.drop_zero,← List.map_take,← List.map_drop,dec_encs,flat_two]
  try rfl
theorem ok_bBind:FnOk Tryz.prog 74 dBBind:=by
 refine den_okF (env_ok ((((((((TOk.nil _).cons ok_concatB).cons ok_bindClone).cons ok_there).cons ok_ruleCheck).cons ok_bindRule).cons ok_name).cons ok_bookShop)) (E:=eBBind) Tryz.func74 [] (by kernel_rfl) none0 fun a _ hp=>?_
 obtain ⟨b,x⟩:=a
 obtain ⟨hb,hx⟩:=bcond hp
 have hb:smallBook b=true:=hb
 have hx:smallB x=true:=hx
 have h1:Nat.ble b.shops.length 1000=true:=(bcond hb).1
 have h3:Nat.ble b.binds.length 1000=true:=(bcond (bcond hb).2).1
 have h4:b.binds.length≤1000:=ble_of h3
 have hc:Nat.ble (b.binds.length+1) 100000=true:=ble_t (by omega)
 have hf:N.flat [b.binds,[x]]=b.binds++[x]:=flat_two _ _
 refine (q_bBind b x).trans ?_
 show _=some (⟨.tup [.agg (cBook.enc (N.bBind b x).1),.int .i64 (N.bBind b x).2],[],[]⟩:DRes)
 unfold N.bBind
 have hB:(⟨b.shops,b.binds⟩:HBook)=b:=rfl
 simp only [fold_bindE,dec_encs,h1,hb,hx,cond_true]
 simp only [fold_bindX,List.map_cons,List.map_nil,cBind.de,List.length_map,hc,hf,pairs_enc,ixG_ge,cond_true]
 generalize N.shopOf x.shop b.shops=y
 obtain ⟨y,t⟩:=y
 cases t with
 | false=>rfl
 | true =>
  simp only [Bool.not_true,cond_false,cond_true]
  cases y.sort==4 with
  | true=>rfl
  | false =>
   simp only [cond_false]
   cases N.name x.to != 0 with
   | true=>rfl
   | false =>
    simp only [cond_false]
    cases N.ruleCheck (N.bindRule x y.sort) != 0 with
    | true=>rfl
    | false =>
     simp only [cond_false]
     cases b.binds.any (N.bindSame x) with
     | true=>rfl
     | false =>
      simp only [cond_false]
      cases ile 32 (b.binds.length:Int)<;>rfl
theorem ok_bUnbind:FnOk Tryz.prog 85 dBUnbind:=by
 refine den_okF (env_ok (((TOk.nil _).cons ok_concatB).cons ok_there)) (E:=eBUnbind) Tryz.func85 [] (by kernel_rfl) none0 fun a _ hp=>?_
 obtain ⟨b,y⟩:=a
 obtain ⟨hb,hx⟩:=bcond hp
 have hb:smallBook b=true:=hb
 have hx:smallB y=true:=hx
 have h3:Nat.ble b.binds.length 1000=true:=(bcond (bcond hb).2).1
 have h2:b.binds.length≤1000:=ble_of h3
 refine (q_bUnbind b y).trans ?_
 show _=some (⟨.tup [.agg (cBook.enc (N.bUnbind b y).1),.int .i64 (N.bUnbind b y).2],[],[]⟩:DRes)
 unfold N.bUnbind N.cutG
 simp only [fold_bindE,dec_encs,hb,hx,cond_true]
 rcases ixG_spec (N.bindSame y) b.binds 0 with ⟨e,_⟩ | ⟨a,x,c,el,e,_⟩
 ·rw [e]
  simp (disch:=omega) only [evs]
  try rfl
 ·rw [Int.zero_add] at e
  have hk:a.length<b.binds.length:=by rw [el]; simp
  generalize a.length=k at *
  rw [e]
  have w:IntKind.wrap .i64 ((k:Int)+1)=(k:Int)+1:=wr_i64 (by omega) (by omega)
  have e1:((k:Int)+1).toNat=k+1:=by omega
  have t1:(b.binds.map cBind.enc).take b.binds.length=b.binds.map cBind.enc:=List.take_of_length_le (by rw [List.length_map]; exact Nat.le_refl _)
  have hl:(b.binds.take k).length+((b.binds.drop (k+1)).length+0)≤100000:=by simp; omega
  have hb:Nat.ble ((b.binds.take k).length+((b.binds.drop (k+1)).length+0)) 100000=true:=ble_t hl
  simp (disch:=omega) only [evs,Int.toNat_natCast,w,e1,t1,List.drop_zero,← List.map_take,← List.map_drop,dec_encs,flat_two]
  try rfl
end Go.Ev

/- Where an exchange leads: the program's function: lemmas. -/
namespace Go.Ev
open Go Go.Proofs
set_option maxRecDepth 100000
-- FOLD
def dIxS:Den:=den (aCons (vSl rStr) (aOne vStr)) bNil (oV (vInt .i64)) (fun a _=>Nat.ble a.1.length 1000) fun a _=>(N.ixG (N.eqS a.2) a.1 0,())
def dHasS:Den:=den (aCons (vSl rStr) (aOne vStr)) bNil (oV vBool) (fun a _=>Nat.ble a.1.length 1000) fun a _=>(a.1.any (N.eqS a.2),())
def schIxS:SSch:={ fr:=[(0,.slc [.str]),(1,.str),(7,.int .i64),(8,.int .i64)],tab:=[] }
def gIxS:List Leaf→(Ex→St→Option R)→Option R
 | [.r r,.s s,.i n,.i i],K=>cond (n==r.length) (cond (i==0) (cond (Nat.ble r.length 1000) (cond (ile 0 (N.ixG (N.eqS s) (r.map rStr.dec) 0)) (K .ret { fr:=[(4,.int .i64 (N.ixG (N.eqS s) (r.map rStr.dec) 0))],tab:=[] }) (K (.exit 0) { fr:=[],tab:=[] })) none) none) none
 | _,_=>none
noncomputable def eIxS:Env:=env Tryz.prog [] [(2,loopF schIxS gIxS)] [(2,[(0,[0,1,7,8]),(1,[]),(1000,[4])])]
theorem q_ixS (l:List Bytes) (s:Bytes):evFn eIxS 156 ((aCons (vSl rStr) (aOne vStr)).enc (l,s)) ([]) some =
 cond ((↑(List.length (List.map (RCod.enc rStr) l)):Int)==(↑(List.length (List.map (RCod.enc rStr) l)):Int)) (cond (Nat.ble (List.length (List.map (RCod.enc rStr) l)) 1000) (cond (ile (0:Int) (N.ixG (N.eqS s) (List.map (RCod.dec rStr) (List.map (RCod.enc rStr) l)) (0:Int))) (some {v:=V.int .i64 (N.ixG (N.eqS s) (List.map (RCod.dec rStr) (List.map (RCod.enc rStr) l)) (0:Int)),bx:=[]:DRes}) (some {v:=V.int .i64 (-1:Int),bx:=[]:DRes})) (none)) (none):=by kernel_rfl
theorem q_ixSR (r:List (List V)) (s:Bytes) (n i:Int) (K:Ex→St→Option R):evRound eIxS 156 2 { fr:=[(0,.slc [.str] r),(1,.str s),(7,.int .i64 n),(8,.int .i64 i)],tab:=[] } K =
 cond (ilt i n) (cond (decide ((0:Int)≤i∧i<(↑(List.length r):Int))) (cond (s==V.toStr (List.getD (List.getD r (Int.toNat i) []) 0 V.undef)) (K Ex.ret {fr:=[(4,V.int .i64 i)],tab:=[]:St}) (K Ex.normal {fr:=[(0,V.slc [.str] r),(1,V.str s),(7,V.int .i64 n),(8,V.int .i64 (IntKind.wrap .i64 (i+(1:Int))))],tab:=[]:St})) (none)) (K (Ex.exit 0) {fr:=[],tab:=[]:St}):=by kernel_rfl
theorem ok_ixS_2:RoundsOk eIxS 156 2:=by
 refine rounds_of rfl fun l K q h=>?_
 unfold gIxS at h
 split at h
 ·rename_i r s n i
  have h1:=(cond_none h).1; replace h:=(cond_none h).2; have h2:=(cond_none h).1; replace h:=(cond_none h).2; have h3:=(cond_none h).1; replace h:=(cond_none h).2
  have e1:=ieq_of h1
  have e2:=ieq_of h2
  subst e1 e2
  have h3:r.length≤1000:=ble_of h3
  have main:=loop_ind (E:=eIxS) (f:=156) (id:=2) (σ:=Nat) (fun i=>{ fr:=[(0,.slc [.str] r),(1,.str s),(7,.int .i64 r.length),(8,.int .i64 (i:Int))],tab:=[] }) (fun i=>i≤r.length) (fun i=>r.length-i)
   (fun i K=>cond (ile 0 (N.ixG (N.eqS s) ((r.drop i).map rStr.dec) i)) (K .ret { fr:=[(4,.int .i64 (N.ixG (N.eqS s) ((r.drop i).map rStr.dec) i))],tab:=[] }) (K (.exit 0) { fr:=[],tab:=[] })) (fun i hi=>?_) 0 (Nat.zero_le _) K q (by assumption)
  ·exact main
  ·by_cases hl:i<r.length
   ·rw [drop_row hl,List.map_cons,ixG_cons]
    have hq:=fun K=>q_ixSR r s r.length i K
    have t1:ilt (i:Int) r.length=true:=ilt_t (by omega)
    have t2:decide ((0:Int)≤i∧(i:Int)<r.length)=true:=decide_eq_true (by omega)
    have t3:IntKind.wrap .i64 ((i:Int)+1)=(i:Int)+1:=wr_i64 (by omega) (by omega)
    have t4:V.toStr (List.getD (List.getD r i []) 0 V.undef)=rStr.dec (r.getD i []):=rfl
    simp only [Int.toNat_natCast] at hq
    simp only [t1,t2,t3,t4,cond_true] at hq
    cases hc:N.eqS s (rStr.dec (r.getD i [])) with
    | true =>
     refine .inr ⟨.ret,{ fr:=[(4,.int .i64 (i:Int))],tab:=[] },by simp,fun K=>?_,fun K=>?_⟩
     ·rw [hq]
      have hc:(rStr.dec (r.getD i [])==s)=true:=hc
      rw [show (s==rStr.dec (r.getD i []))=true by rw [Bool.beq_comm]; exact hc]; rfl
     ·simp only [cond_true]
      rw [ile_t (by omega)]; rfl
    | false =>
     refine .inl ⟨i+1,hl,by omega,fun K=>?_,fun K=>rfl⟩
     rw [hq]
     have hc:(rStr.dec (r.getD i [])==s)=false:=hc
     rw [show (s==rStr.dec (r.getD i []))=false by rw [Bool.beq_comm]; exact hc]; rfl
   ·refine .inr ⟨.exit 0,{ fr:=[],tab:=[] },by simp,fun K=>?_,fun K=>?_⟩
    ·rw [q_ixSR]
     simp (disch:=omega) only [evs]
    ·rw [List.drop_eq_nil_of_le (by omega)]; rfl
 ·cases h
theorem ok_ixS:FnOk Tryz.prog 156 dIxS:=by
 refine den_okF (env_ok (TOk.nil _)) (E:=eIxS) Tryz.func156 [2] (by kernel_rfl) (one1 ok_ixS_2) fun a b hp=>?_
 obtain ⟨l,s⟩:=a
 refine (q_ixS l s).trans ?_
 have hp:Nat.ble l.length 1000=true:=hp
 simp only [List.length_map,dec_encs,hp,beq_self_eq_true,cond_true]
 show _=some (⟨.int .i64 (N.ixG (N.eqS s) l 0),[],[]⟩:DRes)
 cases hc:ile 0 (N.ixG (N.eqS s) l 0) with
 | true=>rfl
 | false=>rw [ixG_end hc]; rfl
noncomputable def eHasS:Env:=env Tryz.prog [(156,dIxS)] [] []
theorem q_hasS (l:List Bytes) (s:Bytes):evFn eHasS 134 ((aCons (vSl rStr) (aOne vStr)).enc (l,s)) ([]) some =
 cond (Nat.ble (List.length (List.map (RCod.dec rStr) (List.map (RCod.enc rStr) l))) 1000) (some {v:=V.bool (ile (0:Int) (N.ixG (N.eqS s) (List.map (RCod.dec rStr) (List.map (RCod.enc rStr) l)) (0:Int))),bx:=[]:DRes}) (none):=by kernel_rfl
theorem ok_hasS:FnOk Tryz.prog 134 dHasS:=by
 refine den_okF (env_ok ((TOk.nil _).cons ok_ixS)) (E:=eHasS) Tryz.func134 [] (by kernel_rfl) none0 fun a b hp=>?_
 obtain ⟨l,s⟩:=a
 have hp:Nat.ble l.length 1000=true:=hp
 refine (q_hasS l s).trans ?_
 simp only [dec_encs,hp,cond_true,ixG_ge]
 try rfl
def mPut:MF:=mvF (aOne vStr) rStr (fun _ l=>Nat.ble l.length 1000) fun s l=>N.putS l s
noncomputable def ePutS:Env:=env Tryz.prog [(134,dHasS)] [] []
theorem q_putS (l:List Bytes) (s:Bytes):evFnM ePutS 91 ((aOne vStr).enc s) [.str] (l.map rStr.enc) =
 cond (Nat.ble (List.length (List.map (RCod.dec rStr) (List.map (RCod.enc rStr) l))) 1000) (cond (List.any (List.map (RCod.dec rStr) (List.map (RCod.enc rStr) l)) (N.eqS s)) (some {v:=V.undef,bx:=List.map (RCod.enc rStr) l:DRes}) (cond (decide ((List.length (List.map (RCod.enc rStr) l)+1)*16≤140737488355328)) (some {v:=V.undef,bx:=List.map (RCod.enc rStr) l++[[V.str s]]:DRes}) (none))) (none):=by kernel_rfl
theorem ok_putS:FnOkM Tryz.prog 91 mPut:=by
 refine mv_okF (env_ok ((TOk.nil _).cons ok_hasS)) (E:=ePutS) Tryz.func91 [] (by kernel_rfl) none0 fun s l hp=>?_
 have hp:Nat.ble l.length 1000=true:=hp
 have hl:l.length≤1000:=ble_of hp
 refine (q_putS l s).trans ?_
 unfold N.putS
 have d:decide ((l.length+1)*16≤140737488355328)=true:=decide_eq_true (by omega)
 simp only [dec_encs,hp,List.length_map,d,cond_true]
 cases l.any (N.eqS s) with
 | true=>rfl
 | false =>
  rw [cond_false,cond_false,List.map_append]
  try rfl
end Go.Ev
