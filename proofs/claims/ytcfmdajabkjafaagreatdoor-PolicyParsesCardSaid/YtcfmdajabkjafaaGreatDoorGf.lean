/- Policies of texts,by the program: the round of Parse,the loop,Parse: lemmas,no condition. -/
import Derived.Test.YtcfmdajabkjafaaGreatDoorGe
import Derived.Test.YtcfmdajabkjafaaGreatDoorGc
import Derived.Stop.LaidErr
import Derived.MakeChecks
import Derived.Lib.LaidTab
import Derived.Test.YtcfmdajabkjafaaGreatDoorRows
import Derived.Lib.ItoaNum
import Derived.Test.YtcfmdajabkjafaaGreatDoorProg
import Derived.KernelRfl
import Derived.Shelf.Strings.Builder1
import Derived.RegionTactic
import Derived.Deep.RegionWith
namespace Go.Ev
open Go Go.Proofs
set_option maxRecDepth 100000
def dPParse:Den:=den (aOne vStr) bNil (oTup (aCons (vAgg cPolicy) (aCons (vInt .i64) (aOne (vInt .i64))))) (fun s _=>cond (Nat.ble s.length 1000000) (Nat.ble (N.splitDotNL s).length 3000) false) fun s _=>(N.pParse s,())
def stPP (r12 rx1 rx2 rx3:List (List V)) (ix0 ix0_1:Int) (p:HPolicy) (j:Int):St:={ fr:=[(2,.ptr 10000 0 0 0),(5,.ptr 10004 0 0 0),(12,.slc [.str] r12),(13,.int .i64 r12.length),(14,.int .i64 j)],tab:=[(10001,.sl [.str,.int .u8,.int .u32,.int .i64,.int .u64] rx1 0),(10002,.sl [.int .i64] rx2 0),(10003,.sl [.int .i64,.int .i64,.int .i64] rx3 0),(10000,.var [.int .i64 ix0,.int .i64 ix0_1,.own 10001 0,.own 10002 0,.own 10003 0]),(10005,.sl [.str,.int .u8,.int .u32,.int .i64,.int .u64] (p.places.map cPlace.enc) 0),(10006,.sl [.int .i64] (p.slots.map (rInt .i64).enc) 0),(10007,.sl [.int .i64,.int .i64,.int .i64] (p.grants.map cGrant.enc) 0),(10004,.var [.int .i64 p.work,.int .i64 p.give,.own 10005 0,.own 10006 0,.own 10007 0])] }
def enPP (rx1 rx2 rx3:List (List V)) (ix0 ix0_1:Int) (p:HPolicy):St:={ fr:=[(2,.ptr 10000 0 0 0),(5,.ptr 10004 0 0 0)],tab:=[(10001,.sl [.str,.int .u8,.int .u32,.int .i64,.int .u64] rx1 0),(10002,.sl [.int .i64] rx2 0),(10003,.sl [.int .i64,.int .i64,.int .i64] rx3 0),(10000,.var [.int .i64 ix0,.int .i64 ix0_1,.own 10001 0,.own 10002 0,.own 10003 0]),(10005,.sl [.str,.int .u8,.int .u32,.int .i64,.int .u64] (p.places.map cPlace.enc) 0),(10006,.sl [.int .i64] (p.slots.map (rInt .i64).enc) 0),(10007,.sl [.int .i64,.int .i64,.int .i64] (p.grants.map cGrant.enc) 0),(10004,.var [.int .i64 p.work,.int .i64 p.give,.own 10005 0,.own 10006 0,.own 10007 0])] }
def erPP (j e:Int):St:={ fr:=[(2,.ptr 10000 0 0 0),(3,.int .i64 j),(4,.int .i64 e)],tab:=[(10001,.sl [.str,.int .u8,.int .u32,.int .i64,.int .u64] [] 0),(10002,.sl [.int .i64] [] 0),(10003,.sl [.int .i64,.int .i64,.int .i64] [] 0),(10000,.var [.int .i64 0,.int .i64 0,.own 10001 0,.own 10002 0,.own 10003 0])] }
theorem str_at:∀ (l:List Bytes) (k:Nat),V.toStr (List.getD (List.getD (l.map rStr.enc) k []) 0 V.undef)=l.getD k []
 | [],0=>rfl
 | [],_+1=>rfl
 | _::_,0=>rfl
 | _::l,k+1=>str_at l k
theorem few_up {n:Nat} (h:n≤3000) (c:Nat) (hc:c≤1000000):decide ((n+1)*c≤140737488355328)=true:=decide_eq_true (by
 have:(n+1)*c≤3001*1000000:=Nat.mul_le_mul (by omega) hc
 omega)
theorem k_lg:(([108,97,98,101,108]:Bytes)==[103,114,97,110,116])=false:=rfl
theorem k_lw:(([108,97,98,101,108]:Bytes)==[119,111,114,107])=false:=rfl
theorem k_lv:(([108,97,98,101,108]:Bytes)==[103,105,118,101])=false:=rfl
theorem k_ls:(([108,97,98,101,108]:Bytes)==[115,108,111,116])=false:=rfl
theorem k_gl:(([103,114,97,110,116]:Bytes)==[108,97,98,101,108])=false:=rfl
theorem k_gw:(([103,114,97,110,116]:Bytes)==[119,111,114,107])=false:=rfl
theorem k_gv:(([103,114,97,110,116]:Bytes)==[103,105,118,101])=false:=rfl
theorem k_gs:(([103,114,97,110,116]:Bytes)==[115,108,111,116])=false:=rfl
theorem k_wl:(([119,111,114,107]:Bytes)==[108,97,98,101,108])=false:=rfl
theorem k_wg:(([119,111,114,107]:Bytes)==[103,114,97,110,116])=false:=rfl
theorem k_wv:(([119,111,114,107]:Bytes)==[103,105,118,101])=false:=rfl
theorem k_ws:(([119,111,114,107]:Bytes)==[115,108,111,116])=false:=rfl
theorem k_vl:(([103,105,118,101]:Bytes)==[108,97,98,101,108])=false:=rfl
theorem k_vg:(([103,105,118,101]:Bytes)==[103,114,97,110,116])=false:=rfl
theorem k_vw:(([103,105,118,101]:Bytes)==[119,111,114,107])=false:=rfl
theorem k_vs:(([103,105,118,101]:Bytes)==[115,108,111,116])=false:=rfl
theorem k_sl:(([115,108,111,116]:Bytes)==[108,97,98,101,108])=false:=rfl
theorem k_sg:(([115,108,111,116]:Bytes)==[103,114,97,110,116])=false:=rfl
theorem k_sw:(([115,108,111,116]:Bytes)==[119,111,114,107])=false:=rfl
theorem k_sv:(([115,108,111,116]:Bytes)==[103,105,118,101])=false:=rfl
theorem k_ll:(([108,97,98,101,108]:Bytes)==[108,97,98,101,108])=true:=rfl
theorem k_gg:(([103,114,97,110,116]:Bytes)==[103,114,97,110,116])=true:=rfl
theorem k_ww:(([119,111,114,107]:Bytes)==[119,111,114,107])=true:=rfl
theorem k_vv:(([103,105,118,101]:Bytes)==[103,105,118,101])=true:=rfl
theorem k_ss:(([115,108,111,116]:Bytes)==[115,108,111,116])=true:=rfl
theorem len_no {w:Bytes} {ws:List Bytes} {n:Nat} (h:ws.length ≠ n):(((w::ws).length:Int) != (n:Int)+1)=true:=by
 rw [bne_iff_ne]; simp only [List.length_cons]; omega
theorem two_of {ws:List Bytes} (h:ws.length=1):∃ a,ws=[a]:=by
 match ws,h with
 | [a],_=>exact ⟨a,rfl⟩
theorem four_of {ws:List Bytes} (h:ws.length=3):∃ a b c,ws=[a,b,c]:=by
 match ws,h with
 | [a,b,c],_=>exact ⟨a,b,c,rfl⟩
theorem five_of {ws:List Bytes} (h:ws.length=4):∃ a b c d,ws=[a,b,c,d]:=by
 match ws,h with
 | [a,b,c,d],_=>exact ⟨a,b,c,d,rfl⟩
theorem pLines_err:∀ (l:List Bytes) (p:HPolicy) (k:Int),((N.pLines p k l).2.2 != 0)=true→(N.pLines p k l).1=pol0
 | [],p,k,h=>by cases h
 | t::r,p,k,h=>by
  have e:N.pLines p k (t::r)=cond (N.skipL (N.wordsOf t)) (N.pLines p (k+1) r) (cond ((N.pLine p (N.wordsOf t)).2 != 0) (pol0,k+1,(N.pLine p (N.wordsOf t)).2) (N.pLines (N.pLine p (N.wordsOf t)).1 (k+1) r)):=rfl
  rw [e] at h ⊢
  cases hs:N.skipL (N.wordsOf t) with
  | true=>rw [hs] at h; exact pLines_err r p (k+1) h
  | false =>
   rw [hs] at h
   cases hl:(N.pLine p (N.wordsOf t)).2 != 0 with
   | true=>rfl
   | false=>rw [hl] at h; exact pLines_err r _ (k+1) h
theorem pl_lab (p:HPolicy) (ws:List Bytes):N.pLine p ([108,97,98,101,108]::ws)=cond (((([108,97,98,101,108]:Bytes)::ws).length:Int) != 5) (p,4) (N.pLabel p ([108,97,98,101,108]::ws)):=rfl
theorem pl_gra (p:HPolicy) (ws:List Bytes):N.pLine p ([103,114,97,110,116]::ws)=cond (((([103,114,97,110,116]:Bytes)::ws).length:Int) != 4) (p,4) (N.pGranted p ([103,114,97,110,116]::ws)):=rfl
theorem pl_wor (p:HPolicy) (ws:List Bytes):N.pLine p ([119,111,114,107]::ws)=cond (((([119,111,114,107]:Bytes)::ws).length:Int) != 2) (p,4) (⟨(N.pSmall (List.getD ([119,111,114,107]::ws) 1 [])).1,p.give,p.places,p.slots,p.grants⟩,(N.pSmall (List.getD ([119,111,114,107]::ws) 1 [])).2):=rfl
theorem pl_giv (p:HPolicy) (ws:List Bytes):N.pLine p ([103,105,118,101]::ws)=cond (((([103,105,118,101]:Bytes)::ws).length:Int) != 2) (p,4) (⟨p.work,(N.pSmall (List.getD ([103,105,118,101]::ws) 1 [])).1,p.places,p.slots,p.grants⟩,(N.pSmall (List.getD ([103,105,118,101]::ws) 1 [])).2):=rfl
theorem pl_slo (p:HPolicy) (ws:List Bytes):N.pLine p ([115,108,111,116]::ws)=cond (((([115,108,111,116]:Bytes)::ws).length:Int) != 2) (p,4) (⟨p.work,p.give,p.places,p.slots++[(N.pNamed p (List.getD ([115,108,111,116]::ws) 1 [])).1],p.grants⟩,(N.pNamed p (List.getD ([115,108,111,116]::ws) 1 [])).2):=rfl
theorem pl_non (p:HPolicy) (w:Bytes) (ws:List Bytes) (h1:(w==[108,97,98,101,108])=false) (h2:(w==[103,114,97,110,116])=false) (h3:(w==[119,111,114,107])=false) (h4:(w==[103,105,118,101])=false) (h5:(w==[115,108,111,116])=false):N.pLine p (w::ws)=(p,4):=by
 have e1:(w==N.kLabel)=false:=h1
 have e2:(w==N.kGrant)=false:=h2
 have e3:(w==N.kWork)=false:=h3
 have e4:(w==N.kGive)=false:=h4
 have e5:(w==N.kSlot)=false:=h5
 unfold N.pLine
 simp only [List.getD_cons_zero,e1,e2,e3,e4,e5,cond_false]
theorem round_pParse (r12 rx1 rx2 rx3:List (List V)) (ix0 ix0_1:Int) (p:HPolicy) (i:Nat) (hi:i<r12.length) (h3:r12.length≤3000) (hp:PInv p i) (ht:(V.toStr (List.getD (List.getD r12 i []) 0 V.undef)).length≤1000000) (K:Ex→St→Option R) :
  evRound ePParse 10 3 (stPP r12 rx1 rx2 rx3 ix0 ix0_1 p i) K=cond (N.skipL (N.wordsOf (V.toStr (List.getD (List.getD r12 i []) 0 V.undef)))) (K .normal (stPP r12 rx1 rx2 rx3 ix0 ix0_1 p ((i:Int)+1)))
   (cond ((N.pLine p (N.wordsOf (V.toStr (List.getD (List.getD r12 i []) 0 V.undef)))).2 != 0) (K .ret (erPP ((i:Int)+1) (N.pLine p (N.wordsOf (V.toStr (List.getD (List.getD r12 i []) 0 V.undef)))).2))
    (K .normal (stPP r12 rx1 rx2 rx3 ix0 ix0_1 (N.pLine p (N.wordsOf (V.toStr (List.getD (List.getD r12 i []) 0 V.undef)))).1 ((i:Int)+1)))):=by
 refine (q_pParseR r12 r12.length (i:Int) rx1 rx2 rx3 ix0 ix0_1 _ _ _ _ _ K).trans ?_
 have t1:ilt (i:Int) r12.length=true:=ilt_t (by omega)
 have t2:decide ((0:Int)≤i∧(i:Int)<r12.length)=true:=decide_eq_true (by omega)
 have t3:IntKind.wrap .i64 ((i:Int)+1)=(i:Int)+1:=wr_i64 (by omega) (by omega)
 obtain ⟨a1,a2,a3,a4⟩:=hp
 have b1:Nat.ble p.places.length 3000=true:=Nat.ble_eq_true_of_le (by omega)
 have b2:Nat.ble p.slots.length 3000=true:=Nat.ble_eq_true_of_le (by omega)
 have b3:Nat.ble p.grants.length 3000=true:=Nat.ble_eq_true_of_le (by omega)
 have b4:=few_up (n:=p.places.length) (by omega) 40 (by omega)
 have b5:=few_up (n:=p.slots.length) (by omega) 8 (by omega)
 have b6:=few_up (n:=p.grants.length) (by omega) 24 (by omega)
 have hW:∀ w∈N.wordsOf (V.toStr (List.getD (List.getD r12 i []) 0 V.undef)),w ≠ []∧Nat.ble w.length 1000000=true:=fun w hw=>⟨(wordsOf_ok hw).1,Nat.ble_eq_true_of_le (Nat.le_trans (wordsOf_ok hw).2 ht)⟩
 have ht:Nat.ble (V.toStr (List.getD (List.getD r12 i []) 0 V.undef)).length 1000000=true:=Nat.ble_eq_true_of_le ht
 simp only [Int.toNat_natCast,t1,t2,t3,cond_true,str_at,List.length_map,dec_encsY,fold_pol,b1,b2,b3,b4,b5,b6,ht]
 generalize N.wordsOf (V.toStr (List.getD (List.getD r12 i []) 0 V.undef))=W at *
 cases W with
 | nil=>rfl
 | cons w0 ws =>
  obtain ⟨hn,hs⟩:=hW w0 (List.mem_cons_self ..)
  have u0:(((w0::ws).length:Int)==0)=false:=by rw [beq_eq_false_iff_ne]; simp only [List.length_cons]; omega
  have u1:decide ((0:Int)≤0∧(0:Int)<((w0::ws).length:Int))=true:=decide_eq_true (by simp only [List.length_cons]; omega)
  have u2:decide ((0:Int)≤0∧(0:Int)<(w0.length:Int))=true:=decide_eq_true (by
   have:=List.length_pos_iff.2 hn
   omega)
  have sk:N.skipL (w0::ws)=(((w0.getD 0 0).toNat:Int)==35):=by unfold N.skipL; rw [u0]; rfl
  have hx:∀ x∈ws,Nat.ble x.length 1000000=true:=fun x hx=>(hW x (List.mem_cons_of_mem _ hx)).2
  simp only [List.getD_cons_zero,u0,u1,u2,cond_true,cond_false,sk]
  cases (((w0.getD 0 0).toNat:Int)==35) with
  | true=>rfl
  | false =>
   simp only [cond_false]
   by_cases k1:w0=[108,97,98,101,108]
   ·subst k1
    simp only [k_ll,k_lg,k_lw,k_lv,k_ls,cond_true,cond_false,pl_lab]
    by_cases hl:ws.length=4
    ·obtain ⟨a,b,c,d,rfl⟩:=five_of hl
     have n1:((([[108,97,98,101,108],a,b,c,d]:List Bytes).length:Int) != 5)=false:=rfl
     have ga:List.getD ([[108,97,98,101,108],a,b,c,d]:List Bytes) 1 []=a:=rfl
     have gb:List.getD ([[108,97,98,101,108],a,b,c,d]:List Bytes) 2 []=b:=rfl
     have gc:List.getD ([[108,97,98,101,108],a,b,c,d]:List Bytes) 3 []=c:=rfl
     have gd:List.getD ([[108,97,98,101,108],a,b,c,d]:List Bytes) 4 []=d:=rfl
     have hb:Nat.ble b.length 9223372036854775806=true:=Nat.ble_eq_true_of_le (Nat.le_trans (ble_of (hx b (by simp))) (by omega))
     have hc:=hx c (by simp)
     have hd:=hx d (by simp)
     simp only [n1,ga,gb,gc,gd,hb,hc,hd,cond_true,cond_false,N.pLabel]
     cases h1:(N.parse b).2 != 0 with
     | true=>simp only [cond_true,h1]; rfl
     | false =>
      cases h2:(N.pSmall c).2 != 0 with
      | true=>simp only [cond_true,cond_false,h2]; rfl
      | false =>
       cases h3:(N.pNumber d 18446744073709551615).2 != 0 with
       | true=>simp only [cond_true,cond_false,h3]; rfl
       | false=>simp only [cond_false,h3,stPP,List.map_append,List.map_cons,List.map_nil]; rfl
    ·have n1:=len_no (w:=[108,97,98,101,108]) hl
     have n1:((([108,97,98,101,108]::ws:List Bytes).length:Int) != 5)=true:=n1
     simp only [n1,cond_true]
     try rfl
   ·by_cases k2:w0=[103,114,97,110,116]
    ·subst k2
     simp only [k_gl,k_gg,k_gw,k_gv,k_gs,cond_true,cond_false,pl_gra]
     by_cases hl:ws.length=3
     ·obtain ⟨a,b,c,rfl⟩:=four_of hl
      have n1:((([[103,114,97,110,116],a,b,c]:List Bytes).length:Int) != 4)=false:=rfl
      have ga:List.getD ([[103,114,97,110,116],a,b,c]:List Bytes) 1 []=a:=rfl
      have gb:List.getD ([[103,114,97,110,116],a,b,c]:List Bytes) 2 []=b:=rfl
      have gc:List.getD ([[103,114,97,110,116],a,b,c]:List Bytes) 3 []=c:=rfl
      have hc:=hx c (by simp)
      simp only [n1,ga,gb,gc,hc,cond_true,cond_false,N.pGranted]
      cases h1:(N.pNamed p a).2 != 0 with
      | true=>simp only [cond_true,h1]; rfl
      | false =>
       cases h2:(N.pNamed p b).2 != 0 with
       | true=>simp only [cond_true,cond_false,h2]; rfl
       | false =>
        cases h3:(N.pSmall c).2 != 0 with
        | true=>simp only [cond_true,cond_false,h3]; rfl
        | false=>simp only [cond_false,h3,stPP,List.map_append,List.map_cons,List.map_nil]; rfl
     ·have n1:=len_no (w:=[103,114,97,110,116]) hl
      have n1:((([103,114,97,110,116]::ws:List Bytes).length:Int) != 4)=true:=n1
      simp only [n1,cond_true]
      try rfl
    ·by_cases k3:w0=[119,111,114,107]
     ·subst k3
      simp only [k_wl,k_wg,k_ww,k_wv,k_ws,cond_true,cond_false,pl_wor]
      by_cases hl:ws.length=1
      ·obtain ⟨a,rfl⟩:=two_of hl
       have n1:((([[119,111,114,107],a]:List Bytes).length:Int) != 2)=false:=rfl
       have ga:List.getD ([[119,111,114,107],a]:List Bytes) 1 []=a:=rfl
       have ha:=hx a (by simp)
       simp only [n1,ga,ha,cond_true,cond_false]
       cases h1:(N.pSmall a).2 != 0 with
       | true=>simp only [cond_true]; rfl
       | false=>simp only [cond_false,stPP]; rfl
      ·have n1:=len_no (w:=[119,111,114,107]) hl
       have n1:((([119,111,114,107]::ws:List Bytes).length:Int) != 2)=true:=n1
       simp only [n1,cond_true]
       try rfl
     ·by_cases k4:w0=[103,105,118,101]
      ·subst k4
       simp only [k_vl,k_vg,k_vw,k_vv,k_vs,cond_true,cond_false,pl_giv]
       by_cases hl:ws.length=1
       ·obtain ⟨a,rfl⟩:=two_of hl
        have n1:((([[103,105,118,101],a]:List Bytes).length:Int) != 2)=false:=rfl
        have ga:List.getD ([[103,105,118,101],a]:List Bytes) 1 []=a:=rfl
        have ha:=hx a (by simp)
        simp only [n1,ga,ha,cond_true,cond_false]
        cases h1:(N.pSmall a).2 != 0 with
        | true=>simp only [cond_true]; rfl
        | false=>simp only [cond_false,stPP]; rfl
       ·have n1:=len_no (w:=[103,105,118,101]) hl
        have n1:((([103,105,118,101]::ws:List Bytes).length:Int) != 2)=true:=n1
        simp only [n1,cond_true]
        try rfl
      ·by_cases k5:w0=[115,108,111,116]
       ·subst k5
        simp only [k_sl,k_sg,k_sw,k_sv,k_ss,cond_true,cond_false,pl_slo]
        by_cases hl:ws.length=1
        ·obtain ⟨a,rfl⟩:=two_of hl
         have n1:((([[115,108,111,116],a]:List Bytes).length:Int) != 2)=false:=rfl
         have ga:List.getD ([[115,108,111,116],a]:List Bytes) 1 []=a:=rfl
         have ha:=hx a (by simp)
         simp only [n1,ga,cond_false]
         cases h1:(N.pNamed p a).2 != 0 with
         | true=>simp only [cond_true]; rfl
         | false=>simp only [cond_false,stPP,List.map_append,List.map_cons,List.map_nil]; rfl
        ·have n1:=len_no (w:=[115,108,111,116]) hl
         have n1:((([115,108,111,116]::ws:List Bytes).length:Int) != 2)=true:=n1
         simp only [n1,cond_true]
         try rfl
       ·have e1:(w0==[108,97,98,101,108])=false:=beq_eq_false_iff_ne.2 k1
        have e2:(w0==[103,114,97,110,116])=false:=beq_eq_false_iff_ne.2 k2
        have e3:(w0==[119,111,114,107])=false:=beq_eq_false_iff_ne.2 k3
        have e4:(w0==[103,105,118,101])=false:=beq_eq_false_iff_ne.2 k4
        have e5:(w0==[115,108,111,116])=false:=beq_eq_false_iff_ne.2 k5
        simp only [e1,e2,e3,e4,e5,cond_false,pl_non p w0 ws e1 e2 e3 e4 e5]
        try rfl
theorem ok_pParse_3:RoundsOk ePParse 10 3:=by
 refine rounds_of rfl fun l K q h=>?_
 unfold gPParse at h
 split at h
 ·rename_i r12 i13 i14 rx1 rx2 rx3 ix0 ix0_1 rx5 rx6 rx7 ix4 ix4_1
  have h1:=(cond_none h).1; replace h:=(cond_none h).2; have h2:=(cond_none h).1; replace h:=(cond_none h).2; have h3:=(cond_none h).1; replace h:=(cond_none h).2; have g1:=(cond_none h).1; replace h:=(cond_none h).2; have g2:=(cond_none h).1; replace h:=(cond_none h).2; have g3:=(cond_none h).1; replace h:=(cond_none h).2; have g4:=(cond_none h).1; replace h:=(cond_none h).2; have g5:=(cond_none h).1; replace h:=(cond_none h).2; have g6:=(cond_none h).1; replace h:=(cond_none h).2
  have e1:=ieq_of h1
  have e2:=ieq_of h2
  subst e1 e2
  have h3:r12.length≤3000:=ble_of h3
  have g6:∀ r∈r12,(V.toStr (List.getD r 0 V.undef)).length≤1000000:=fun r hr=>ble_of (List.all_eq_true.1 g6 r hr)
  have e3:=ieq_of g1
  have e4:=ieq_of g2
  have e5:=List.eq_nil_of_length_eq_zero (Nat.eq_of_beq_eq_true g3)
  have e6:=List.eq_nil_of_length_eq_zero (Nat.eq_of_beq_eq_true g4)
  have e7:=List.eq_nil_of_length_eq_zero (Nat.eq_of_beq_eq_true g5)
  subst e3 e4 e5 e6 e7
  have main:=range_ind (E:=ePParse) (f:=10) (id:=3) (A:=HPolicy × Int) r12 (fun a i=>stPP r12 rx1 rx2 rx3 ix0 ix0_1 a.1 i) (fun a i=>a.2=(i:Int)∧PInv a.1 i)
   (fun a rows K=>cond ((N.pLines a.1 a.2 (rows.map rStr.dec)).2.2 != 0) (K .ret (erPP (N.pLines a.1 a.2 (rows.map rStr.dec)).2.1 (N.pLines a.1 a.2 (rows.map rStr.dec)).2.2)) (K (.exit 0) (enPP rx1 rx2 rx3 ix0 ix0_1 (N.pLines a.1 a.2 (rows.map rStr.dec)).1)))
   (fun a i ha hi=>?_) (fun a ha=>?_) (pol0,0) 0 (Int.le_refl _) (by omega) ⟨rfl,PInv.zero 0⟩ K q (by assumption)
  ·exact main
  ·obtain ⟨p,j⟩:=a
   obtain ⟨rfl,hp⟩:j=(i:Int)∧PInv p i:=ha
   have hq:=fun K=>round_pParse r12 rx1 rx2 rx3 ix0 ix0_1 p i hi h3 hp (g6 _ (by rw [List.getD_eq_getElem?_getD,List.getElem?_eq_getElem hi]; exact List.getElem_mem hi)) K
   have hd:rStr.dec (List.getD r12 i [])=V.toStr (List.getD (List.getD r12 i []) 0 V.undef):=rfl
   have hr:∀ x,N.pLines p x ((List.getD r12 i []::r12.drop (i+1)).map rStr.dec)=cond (N.skipL (N.wordsOf (V.toStr (List.getD (List.getD r12 i []) 0 V.undef)))) (N.pLines p (x+1) ((r12.drop (i+1)).map rStr.dec)) (cond ((N.pLine p (N.wordsOf (V.toStr (List.getD (List.getD r12 i []) 0 V.undef)))).2 != 0) (pol0,x+1,(N.pLine p (N.wordsOf (V.toStr (List.getD (List.getD r12 i []) 0 V.undef)))).2) (N.pLines (N.pLine p (N.wordsOf (V.toStr (List.getD (List.getD r12 i []) 0 V.undef)))).1 (x+1) ((r12.drop (i+1)).map rStr.dec))):=fun x=>rfl
   have ht:=g6 _ (show List.getD r12 i []∈r12 by rw [List.getD_eq_getElem?_getD,List.getElem?_eq_getElem hi]; exact List.getElem_mem hi)
   generalize V.toStr (List.getD (List.getD r12 i []) 0 V.undef)=t at *
   cases hs:N.skipL (N.wordsOf t) with
   | true =>
    refine .inl ⟨(p,(i:Int)+1),⟨rfl,hp.up⟩,fun K=>?_,fun K=>?_⟩
    ·rw [hq,hs]; rfl
    ·simp only [hr,hs,cond_true]
   | false =>
    cases hl:(N.pLine p (N.wordsOf t)).2 != 0 with
    | true =>
     refine .inr ⟨.ret,erPP ((i:Int)+1) (N.pLine p (N.wordsOf t)).2,by simp,fun K=>?_,fun K=>?_⟩
     ·rw [hq,hs,hl]; rfl
     ·simp only [hr,hs,hl,cond_true,cond_false]
    | false =>
     refine .inl ⟨((N.pLine p (N.wordsOf t)).1,(i:Int)+1),⟨rfl,pLine_inv hp fun w hw=>?_⟩,fun K=>?_,fun K=>?_⟩
     ·exact Nat.le_trans (wordsOf_ok hw).2 ht
     ·rw [hq,hs,hl]; rfl
     ·simp only [hr,hs,hl,cond_false]
  ·obtain ⟨p,j⟩:=a
   refine ⟨.exit 0,enPP rx1 rx2 rx3 ix0 ix0_1 p,by simp,fun K=>?_,fun K=>rfl⟩
   refine (q_pParseR r12 r12.length r12.length rx1 rx2 rx3 ix0 ix0_1 _ _ _ _ _ K).trans ?_
   rw [ilt_f (Int.le_refl _)]; rfl
 ·cases h
theorem ok_pParse:FnOk Tryz.prog 10 dPParse:=by
 refine den_okF gok_pParse (E:=ePParse) Tryz.func10 [3] (by kernel_rfl) (one1 ok_pParse_3) fun a b hp=>?_
 obtain ⟨h1,h2⟩:=bcond (show cond (Nat.ble a.length 1000000) (Nat.ble (N.splitDotNL a).length 3000) false=true from hp)
 have hs:∀ t∈N.splitDotNL a,t.length≤1000000:=fun t ht=>Nat.le_trans ((splitNL_small a).2 t ht) (ble_of h1)
 have hall:((N.splitDotNL a).map rStr.enc).all (fun r=>Nat.ble (List.length (V.toStr (List.getD r 0 V.undef))) 1000000)=true:=by
  rw [List.all_map]
  exact List.all_eq_true.2 fun t ht=>Nat.ble_eq_true_of_le (hs t ht)
 have hinv:=pLines_inv (N.splitDotNL a) pol0 0 0 (PInv.zero 0) hs
 have hf:=hinv.few (by have:=ble_of h2; omega)
 obtain ⟨f1,f2⟩:=bcond hf
 obtain ⟨f3,f4⟩:=bcond f1
 obtain ⟨f4,f5⟩:=bcond f4
 have f2' : (List.all (N.pLines pol0 0 (N.splitDotNL a)).1.places fun x=>Nat.ble (List.length x.name) 1000000)=true:=f2
 have e0:({ work:=(0:Int),give:=(0:Int),places:=[],slots:=[],grants:=[]:HPolicy })=pol0:=rfl
 refine (q_pParse a).trans ?_
 simp only [e0,dec_encsY,List.length_map,fold_pol,beq_self_eq_true,hall,h1,h2,cond_true]
 show _=some (⟨.tup [.agg (cPolicy.enc (N.pParse a).1),.int .i64 (N.pParse a).2.1,.int .i64 (N.pParse a).2.2],[],[]⟩:DRes)
 unfold N.pParse
 have herr:=pLines_err (N.splitDotNL a) pol0 0
 generalize N.pLines pol0 0 (N.splitDotNL a)=r at *
 simp only [f3,f4,f5,f2',cond_true]
 cases hr:r.2.2 != 0 with
 | true =>
  simp only [cond_true,herr hr]
  try rfl
 | false =>
  simp only [cond_false]
  cases hc:N.checkP r.1 != 0 with
  | true=>rfl
  | false=>rfl
end Go.Ev

/- Policies: Check,by the document: what the evaluator makes of it: lemmas,no condition. -/
namespace Go.Ev
open Go Go.Proofs
set_option maxRecDepth 100000
-- FOLD
namespace N
def rPl (all:List HPlace):Int→List HPlace→Int
 | _,[]=>0
 | i,x::r=>cond (placeE x (all.take i.toNat) != 0) (placeE x (all.take i.toNat)) (rPl all (i+1) r)
def rSl (n:Int):List Int→Int
 | []=>0
 | k::r=>cond (cond (ilt k 0) true (ile n k)) 10 (rSl n r)
def rGr (p:HPolicy):Int→List HGrant→Int
 | _,[]=>0
 | i,x::r=>cond (grantE p x (p.grants.take i.toNat) != 0) (grantE p x (p.grants.take i.toNat)) (rGr p (i+1) r)
end N
def dCheckR:Den:=den (aOne (vAgg cPolicy)) bNil (oV (vInt .i64)) (fun p _=>cond (fewC p) (p.places.all okPl) false) fun p _=>(N.checkP p,())
def schRCheckP9:SSch:={ fr:=[(1,.ptr 10000 0 0),(3,.int .i64),(45,.slc [.str,.int .u8,.int .u32,.int .i64,.int .u64]),(46,.int .i64),(47,.int .i64)],tab:=[(10000,.row [] xsPolicy)] }
def gRCheckP9:List Leaf→(Ex→St→Option R)→Option R
 | [.i i3,.r r45,.i i46,.i i47,.c cx0],K=>cond (i46==r45.length) (cond (i47==0) (cond (Nat.ble r45.length 3000) (cond (i3==(cPolicy.dec cx0).places.length) (cond (Nat.ble r45.length (cPolicy.dec cx0).places.length) (cond (Nat.ble (cPolicy.dec cx0).places.length 3000) (cond (r45.all fun r=>Nat.ble (V.toStr (List.getD r 0 V.undef)).length 1000000) (cond (N.rPl (cPolicy.dec cx0).places (0:Int) (r45.map cPlace.dec) != 0) (K .ret { fr:=[(2,.int .i64 (N.rPl (cPolicy.dec cx0).places (0:Int) (r45.map cPlace.dec)))],tab:=[] }) (K (.exit 0) { fr:=[(1,.ptr 10000 0 0 0),(3,.int .i64 i3)],tab:=[(10000,.var (etaRow xsPolicy 0 cx0))] })) none) none) none) none) none) none) none
 | _,_=>none
def schRCheckP17:SSch:={ fr:=[(1,.ptr 10000 0 0),(3,.int .i64),(5,.ptr 10001 0 0),(45,.slc [.str,.int .u8,.int .u32,.int .i64,.int .u64]),(46,.int .i64),(47,.int .i64),(80,.slc [.str,.int .u8,.int .u32,.int .i64,.int .u64]),(81,.int .i64),(82,.int .i64)],tab:=[(10000,.row [] xsPolicy),(10001,.var [.str,.int .u8,.int .u32,.int .i64,.int .u64])] }
def gRCheckP17:List Leaf→(Ex→St→Option R)→Option R
 | [.i i3,.r r45,.i i46,.i i47,.r r80,.i i81,.i i82,.c cx0,.s sx1,.i ix1,.i ix1_1,.i ix1_2,.i ix1_3],K=>cond (i81==r80.length) (cond (i82==0) (cond (Nat.ble r80.length 3000) (cond ((r80.map cPlace.dec).any (N.twiceP ⟨sx1,⟨ix1,ix1_1⟩,ix1_2,ix1_3⟩)) (K .ret { fr:=[(2,.int .i64 9)],tab:=[] }) (K (.exit 2) { fr:=[(1,.ptr 10000 0 0 0),(3,.int .i64 i3),(45,.slc [.str,.int .u8,.int .u32,.int .i64,.int .u64] r45),(46,.int .i64 i46),(47,.int .i64 i47)],tab:=[(10000,.var (etaRow xsPolicy 0 cx0))] })) none) none) none
 | _,_=>none
def schRCheckP28:SSch:={ fr:=[(1,.ptr 10000 0 0),(3,.int .i64),(109,.slc [.int .i64]),(110,.int .i64),(111,.int .i64)],tab:=[(10000,.row [] xsPolicy)] }
def gRCheckP28:List Leaf→(Ex→St→Option R)→Option R
 | [.i i3,.r r109,.i i110,.i i111,.c cx0],K=>cond (i110==r109.length) (cond (i111==0) (cond (Nat.ble r109.length 3000) (cond (N.rSl i3 (r109.map (rInt .i64).dec) != 0) (K .ret { fr:=[(2,.int .i64 (N.rSl i3 (r109.map (rInt .i64).dec)))],tab:=[] }) (K (.exit 4) { fr:=[(1,.ptr 10000 0 0 0),(3,.int .i64 i3)],tab:=[(10000,.var (etaRow xsPolicy 0 cx0))] })) none) none) none
 | _,_=>none
def schRCheckP36:SSch:={ fr:=[(1,.ptr 10000 0 0),(3,.int .i64),(128,.slc [.int .i64,.int .i64,.int .i64]),(129,.int .i64),(130,.int .i64)],tab:=[(10000,.row [] xsPolicy)] }
def gRCheckP36:List Leaf→(Ex→St→Option R)→Option R
 | [.i i3,.r r128,.i i129,.i i130,.c cx0],K=>cond (i129==r128.length) (cond (i130==0) (cond (Nat.ble r128.length 3000) (cond (i3==(cPolicy.dec cx0).places.length) (cond (Nat.ble r128.length (cPolicy.dec cx0).grants.length) (cond (Nat.ble (cPolicy.dec cx0).places.length 3000) (cond (Nat.ble (cPolicy.dec cx0).grants.length 3000) (cond ((cPolicy.dec cx0).places.all okPl) (cond (N.rGr (cPolicy.dec cx0) (0:Int) (r128.map cGrant.dec) != 0) (K .ret { fr:=[(2,.int .i64 (N.rGr (cPolicy.dec cx0) (0:Int) (r128.map cGrant.dec)))],tab:=[] }) (K (.exit 6) { fr:=[(1,.ptr 10000 0 0 0),(3,.int .i64 i3)],tab:=[(10000,.var (etaRow xsPolicy 0 cx0))] })) none) none) none) none) none) none) none) none
 | _,_=>none
def schRCheckP45:SSch:={ fr:=[(1,.ptr 10000 0 0),(3,.int .i64),(12,.ptr 10001 0 0),(128,.slc [.int .i64,.int .i64,.int .i64]),(129,.int .i64),(130,.int .i64),(181,.slc [.int .i64,.int .i64,.int .i64]),(182,.int .i64),(183,.int .i64)],tab:=[(10000,.row [] xsPolicy),(10001,.var [.int .i64,.int .i64,.int .i64])] }
def gRCheckP45:List Leaf→(Ex→St→Option R)→Option R
 | [.i i3,.r r128,.i i129,.i i130,.r r181,.i i182,.i i183,.c cx0,.i ix1,.i ix1_1,.i _],K=>cond (i182==r181.length) (cond (i183==0) (cond (Nat.ble r181.length 3000) (cond ((r181.map cGrant.dec).any (N.isGr ix1 ix1_1)) (K .ret { fr:=[(2,.int .i64 9)],tab:=[] }) (K (.exit 8) { fr:=[(1,.ptr 10000 0 0 0),(3,.int .i64 i3),(128,.slc [.int .i64,.int .i64,.int .i64] r128),(129,.int .i64 i129),(130,.int .i64 i130)],tab:=[(10000,.var (etaRow xsPolicy 0 cx0))] })) none) none) none
 | _,_=>none
def schRCheckP52:SSch:={ fr:=[(1,.ptr 10000 0 0),(3,.int .i64),(15,.int .i64)],tab:=[(10000,.row [] xsPolicy)] }
def gRCheckP52:List Leaf→(Ex→St→Option R)→Option R
 | [.i i3,.i i15,.c cx0],K=>cond (i3==(cPolicy.dec cx0).places.length) (cond (i15==0) (cond (Nat.ble (cPolicy.dec cx0).places.length 3000) (cond (Nat.ble (cPolicy.dec cx0).slots.length 3000) (cond (N.lacks (cPolicy.dec cx0) (cPolicy.dec cx0).places.length 0==0) (K (.exit 10) { fr:=[],tab:=[] }) (K .ret { fr:=[(2,.int .i64 15)],tab:=[] })) none) none) none) none
 | _,_=>none
def schRCheckP56:SSch:={ fr:=[(1,.ptr 10000 0 0),(3,.int .i64),(15,.int .i64),(16,.bool),(207,.slc [.int .i64]),(208,.int .i64),(209,.int .i64)],tab:=[(10000,.row [] xsPolicy)] }
def gRCheckP56:List Leaf→(Ex→St→Option R)→Option R
 | [.i i3,.i i15,.b b16,.r r207,.i i208,.i i209,.c cx0],K=>cond (i208==r207.length) (cond (i209==0) (cond (Nat.ble r207.length 3000) (K (.exit 12) { fr:=[(1,.ptr 10000 0 0 0),(3,.int .i64 i3),(15,.int .i64 i15),(16,.bool (cond b16 true ((r207.map (rInt .i64).dec).any (·==i15))))],tab:=[(10000,.var (etaRow xsPolicy 0 cx0))] }) none) none) none
 | _,_=>none
noncomputable def eRCheckP:Env:=env Tryz.prog [(50,dName),(45,dRefUnder)] [(56,loopF schRCheckP56 gRCheckP56),(52,loopF schRCheckP52 gRCheckP52),(45,loopF schRCheckP45 gRCheckP45),(36,loopF schRCheckP36 gRCheckP36),(28,loopF schRCheckP28 gRCheckP28),(17,loopF schRCheckP17 gRCheckP17),(9,loopF schRCheckP9 gRCheckP9)] [(9,[(0,[1,3,45,46,47]),(1,[1,3]),(1000,[2])]),(17,[(0,[1,3,5,45,46,47,80,81,82]),(3,[1,3,45,46,47]),(1000,[2])]),(28,[(0,[1,3,109,110,111]),(5,[1,3]),(1000,[2])]),(36,[(0,[1,3,128,129,130]),(7,[1,3]),(1000,[2])]),(45,[(0,[1,3,12,128,129,130,181,182,183]),(9,[1,3,128,129,130]),(1000,[2])]),(52,[(0,[1,3,15]),(11,[]),(1000,[2])]),(56,[(0,[1,3,15,16,207,208,209]),(13,[1,3,15,16]),(1000,[2])])]
theorem q_rCheckP_ (p:HPolicy):evFn eRCheckP 29 ((aOne (vAgg cPolicy)).enc p) ([]) some =(
 let z0:=(List.map (RCod.enc cPlace) (HPolicy.places p));let z1:=(List.map (RCod.enc cGrant) (HPolicy.grants p));let z2:=(List.map (RCod.enc (rInt .i64)) (HPolicy.slots p));let z3:=(List.map (RCod.dec cPlace) z0);let z4:=(↑(List.length z0):Int);let z5:=(some {v:=V.int .i64 (7:Int),bx:=[]:DRes});let z6:=(some {v:=V.int .i64 (15:Int),bx:=[]:DRes});let z7:=(some {v:=V.int .i64 (6:Int),bx:=[]:DRes});let z8:=(List.map (RCod.dec cGrant) z1);let z9:=(↑(List.length z2):Int);let z10:=(List.map (RCod.dec (rInt .i64)) z2);let z11:=(z4==(↑(List.length z3):Int));let z12:=(Nat.ble (List.length z3) 3000);cond (ilt (HPolicy.work p) (1:Int)) z5 (cond (ilt (16:Int) (HPolicy.work p)) z5 (cond (ilt (HPolicy.give p) (1:Int)) z5 (cond (ilt (16:Int) (HPolicy.give p)) z5 (cond (z4==(0:Int)) z6 (cond (ilt (16:Int) z4) z7 (cond (z4==z4) (cond (Nat.ble (List.length z0) 3000) (cond z11 (cond (Nat.ble (List.length z0) (List.length z3)) (cond z12 (cond (List.all z0 fun r=>Nat.ble (List.length (V.toStr (List.getD r 0 .undef))) 1000000) (cond (N.rPl z3 (0:Int) z3 != (0:Int)) (some {v:=V.int .i64 (N.rPl z3 (0:Int) z3),bx:=[]:DRes}) (cond (z9==(0:Int)) z6 (cond (ilt (32:Int) z9) z7 (cond (z9==z9) (cond (Nat.ble (List.length z2) 3000) (cond (N.rSl z4 z10 != (0:Int)) (some {v:=V.int .i64 (N.rSl z4 z10),bx:=[]:DRes}) (cond (ilt (8:Int) (↑(List.length z1):Int)) z7 (cond ((↑(List.length z1):Int)==(↑(List.length z1):Int)) (cond (Nat.ble (List.length z1) 3000) (cond z11 (cond (Nat.ble (List.length z1) (List.length z8)) (cond z12 (cond (Nat.ble (List.length z8) 3000) (cond (List.all z3 fun x=>bif bif ile (0:Int) (Label.level (HPlace.label x)) then ile (Label.level (HPlace.label x)) (255:Int) else false then bif ile (0:Int) (Label.set (HPlace.label x)) then ilt (Label.set (HPlace.label x)) (4294967296:Int) else false else false) (cond (N.rGr {work:=HPolicy.work p,give:=HPolicy.give p,places:=List.map (RCod.dec cPlace) z0,slots:=List.map (RCod.dec (rInt .i64)) z2,grants:=List.map (RCod.dec cGrant) z1:HPolicy} (0:Int) z8 != (0:Int)) (some {v:=V.int .i64 (N.rGr {work:=HPolicy.work p,give:=HPolicy.give p,places:=List.map (RCod.dec cPlace) z0,slots:=List.map (RCod.dec (rInt .i64)) z2,grants:=List.map (RCod.dec cGrant) z1:HPolicy} (0:Int) z8),bx:=[]:DRes}) (cond z11 (cond z12 (cond (Nat.ble (List.length z10) 3000) (cond (N.lacks {work:=HPolicy.work p,give:=HPolicy.give p,places:=List.map (RCod.dec cPlace) z0,slots:=List.map (RCod.dec (rInt .i64)) z2,grants:=List.map (RCod.dec cGrant) z1:HPolicy} (List.length z3) 0==(0:Int)) (some {v:=V.int .i64 (0:Int),bx:=[]:DRes}) z6) (none)) (none)) (none))) (none)) (none)) (none)) (none)) (none)) (none)) (none)))) (none)) (none))))) (none)) (none)) (none)) (none)) (none)) (none)))))))):=by kernel_rfl
theorem q_rCheckP (p:HPolicy):type_of% (by have h:=q_rCheckP_ p; dsimp only at h; exact h):=by
 have h:=q_rCheckP_ p
 dsimp only at h
 exact h
theorem q_rCheckPR9_ (i3:Int) (r45:List (List V)) (i46:Int) (i47:Int) (cx0:List V) (K:Ex→St→Option R):evRound eRCheckP 29 9 { fr:=[(1,.ptr 10000 0 0 0),(3,.int .i64 i3),(45,.slc [.str,.int .u8,.int .u32,.int .i64,.int .u64] r45),(46,.int .i64 i46),(47,.int .i64 i47)],tab:=[(10000,.var (etaRow xsPolicy 0 cx0))] } K =(
 let z0:=(List.getD r45 (Int.toNat i47) []);let z3:=(V.toRows (List.getD cx0 2 .undef));let z1:=(List.drop 0 (List.take (Int.toNat i47) z3));let z2:=(K Ex.ret {fr:=[(2,V.int .i64 (7:Int))],tab:=[]:St});cond (ilt i47 i46) (cond (decide ((0:Int)≤i47∧i47<(↑(List.length r45):Int))) (cond (N.name (V.toStr (List.getD z0 0 V.undef)) != (0:Int)) (K Ex.ret {fr:=[(2,V.int .i64 (N.name (V.toStr (List.getD z0 0 V.undef))))],tab:=[]:St}) (cond (ilt (15:Int) (V.toInt (List.getD z0 1 V.undef))) z2 (cond (ilt (V.toInt (List.getD z0 3 V.undef)) (0:Int)) z2 (cond (ilt (65536:Int) (V.toInt (List.getD z0 3 V.undef))) z2 (cond (V.toInt (List.getD z0 4 V.undef)==(0:Int)) z2 (cond (decide ((0:Int)≤i47∧i47≤(↑(List.length z3):Int))) (cond ((↑(List.length z1):Int)==(↑(List.length z1):Int)) (cond (Nat.ble (List.length z1) 3000) (cond (List.any (List.map (RCod.dec cPlace) z1) (N.twiceP {name:=V.toStr (List.getD z0 0 V.undef),label:={level:=V.toInt (List.getD z0 1 V.undef),set:=V.toInt (List.getD z0 2 V.undef):Label},bytes:=V.toInt (List.getD z0 3 V.undef),base:=V.toInt (List.getD z0 4 V.undef):HPlace})) (K Ex.ret {fr:=[(2,V.int .i64 (9:Int))],tab:=[]:St}) (K Ex.normal {fr:=[(1,V.ptr 10000 0 0 0),(3,V.int .i64 i3),(45,V.slc [.str,.int .u8,.int .u32,.int .i64,.int .u64] r45),(46,V.int .i64 i46),(47,V.int .i64 (IntKind.wrap .i64 (i47+(1:Int))))],tab:=[(10000,Box.var [V.int .i64 (V.toInt (List.getD cx0 0 .undef)),V.int .i64 (V.toInt (List.getD cx0 1 .undef)),V.slc [.str,.int .u8,.int .u32,.int .i64,.int .u64] z3,V.slc [.int .i64] (V.toRows (List.getD cx0 3 .undef)),V.slc [.int .i64,.int .i64,.int .i64] (V.toRows (List.getD cx0 4 .undef))])]:St})) (none)) (none)) (none))))))) (none)) (K (Ex.exit 0) {fr:=[(1,V.ptr 10000 0 0 0),(3,V.int .i64 i3)],tab:=[(10000,Box.var [V.int .i64 (V.toInt (List.getD cx0 0 .undef)),V.int .i64 (V.toInt (List.getD cx0 1 .undef)),V.slc [.str,.int .u8,.int .u32,.int .i64,.int .u64] z3,V.slc [.int .i64] (V.toRows (List.getD cx0 3 .undef)),V.slc [.int .i64,.int .i64,.int .i64] (V.toRows (List.getD cx0 4 .undef))])]:St})):=by kernel_rfl
theorem q_rCheckPR9 (i3:Int) (r45:List (List V)) (i46:Int) (i47:Int) (cx0:List V) (K:Ex→St→Option R):type_of% (by have h:=q_rCheckPR9_ i3 r45 i46 i47 cx0 K; dsimp only at h; exact h):=by
 have h:=q_rCheckPR9_ i3 r45 i46 i47 cx0 K
 dsimp only at h
 exact h
theorem q_rCheckPR17 (i3:Int) (r45:List (List V)) (i46:Int) (i47:Int) (r80:List (List V)) (i81:Int) (i82:Int) (cx0:List V) (sx1:Bytes) (ix1:Int) (ix1_1:Int) (ix1_2:Int) (ix1_3:Int) (K:Ex→St→Option R):evRound eRCheckP 29 17 { fr:=[(1,.ptr 10000 0 0 0),(3,.int .i64 i3),(5,.ptr 10001 0 0 0),(45,.slc [.str,.int .u8,.int .u32,.int .i64,.int .u64] r45),(46,.int .i64 i46),(47,.int .i64 i47),(80,.slc [.str,.int .u8,.int .u32,.int .i64,.int .u64] r80),(81,.int .i64 i81),(82,.int .i64 i82)],tab:=[(10000,.var (etaRow xsPolicy 0 cx0)),(10001,.var [.str sx1,.int .u8 ix1,.int .u32 ix1_1,.int .i64 ix1_2,.int .u64 ix1_3])] } K =
 cond (ilt i82 i81) (cond (decide ((0:Int)≤i82∧i82<(↑(List.length r80):Int))) (cond (V.toStr (List.getD (List.getD r80 (Int.toNat i82) []) 0 V.undef)==sx1) (K Ex.ret {fr:=[(2,V.int .i64 (9:Int))],tab:=[]:St}) (cond (V.toInt (List.getD (List.getD r80 (Int.toNat i82) []) 1 V.undef)==ix1 && (V.toInt (List.getD (List.getD r80 (Int.toNat i82) []) 2 V.undef)==ix1_1 && true)) (K Ex.ret {fr:=[(2,V.int .i64 (9:Int))],tab:=[]:St}) (K Ex.normal {fr:=[(1,V.ptr 10000 0 0 0),(3,V.int .i64 i3),(5,V.ptr 10001 0 0 0),(45,V.slc [.str,.int .u8,.int .u32,.int .i64,.int .u64] r45),(46,V.int .i64 i46),(47,V.int .i64 i47),(80,V.slc [.str,.int .u8,.int .u32,.int .i64,.int .u64] r80),(81,V.int .i64 i81),(82,V.int .i64 (IntKind.wrap .i64 (i82+(1:Int))))],tab:=[(10000,Box.var [V.int .i64 (V.toInt (List.getD cx0 0 .undef)),V.int .i64 (V.toInt (List.getD cx0 1 .undef)),V.slc [.str,.int .u8,.int .u32,.int .i64,.int .u64] (V.toRows (List.getD cx0 2 .undef)),V.slc [.int .i64] (V.toRows (List.getD cx0 3 .undef)),V.slc [.int .i64,.int .i64,.int .i64] (V.toRows (List.getD cx0 4 .undef))]),(10001,Box.var [V.str sx1,V.int .u8 ix1,V.int .u32 ix1_1,V.int .i64 ix1_2,V.int .u64 ix1_3])]:St}))) (none)) (K (Ex.exit 2) {fr:=[(1,V.ptr 10000 0 0 0),(3,V.int .i64 i3),(45,V.slc [.str,.int .u8,.int .u32,.int .i64,.int .u64] r45),(46,V.int .i64 i46),(47,V.int .i64 i47)],tab:=[(10000,Box.var [V.int .i64 (V.toInt (List.getD cx0 0 .undef)),V.int .i64 (V.toInt (List.getD cx0 1 .undef)),V.slc [.str,.int .u8,.int .u32,.int .i64,.int .u64] (V.toRows (List.getD cx0 2 .undef)),V.slc [.int .i64] (V.toRows (List.getD cx0 3 .undef)),V.slc [.int .i64,.int .i64,.int .i64] (V.toRows (List.getD cx0 4 .undef))])]:St}):=by kernel_rfl
theorem q_rCheckPR28 (i3:Int) (r109:List (List V)) (i110:Int) (i111:Int) (cx0:List V) (K:Ex→St→Option R):evRound eRCheckP 29 28 { fr:=[(1,.ptr 10000 0 0 0),(3,.int .i64 i3),(109,.slc [.int .i64] r109),(110,.int .i64 i110),(111,.int .i64 i111)],tab:=[(10000,.var (etaRow xsPolicy 0 cx0))] } K =
 cond (ilt i111 i110) (cond (decide ((0:Int)≤i111∧i111<(↑(List.length r109):Int))) (cond (ilt (V.toInt (List.getD (List.getD r109 (Int.toNat i111) []) 0 V.undef)) (0:Int)) (K Ex.ret {fr:=[(2,V.int .i64 (10:Int))],tab:=[]:St}) (cond (ile i3 (V.toInt (List.getD (List.getD r109 (Int.toNat i111) []) 0 V.undef))) (K Ex.ret {fr:=[(2,V.int .i64 (10:Int))],tab:=[]:St}) (K Ex.normal {fr:=[(1,V.ptr 10000 0 0 0),(3,V.int .i64 i3),(109,V.slc [.int .i64] r109),(110,V.int .i64 i110),(111,V.int .i64 (IntKind.wrap .i64 (i111+(1:Int))))],tab:=[(10000,Box.var [V.int .i64 (V.toInt (List.getD cx0 0 .undef)),V.int .i64 (V.toInt (List.getD cx0 1 .undef)),V.slc [.str,.int .u8,.int .u32,.int .i64,.int .u64] (V.toRows (List.getD cx0 2 .undef)),V.slc [.int .i64] (V.toRows (List.getD cx0 3 .undef)),V.slc [.int .i64,.int .i64,.int .i64] (V.toRows (List.getD cx0 4 .undef))])]:St}))) (none)) (K (Ex.exit 4) {fr:=[(1,V.ptr 10000 0 0 0),(3,V.int .i64 i3)],tab:=[(10000,Box.var [V.int .i64 (V.toInt (List.getD cx0 0 .undef)),V.int .i64 (V.toInt (List.getD cx0 1 .undef)),V.slc [.str,.int .u8,.int .u32,.int .i64,.int .u64] (V.toRows (List.getD cx0 2 .undef)),V.slc [.int .i64] (V.toRows (List.getD cx0 3 .undef)),V.slc [.int .i64,.int .i64,.int .i64] (V.toRows (List.getD cx0 4 .undef))])]:St}):=by kernel_rfl
theorem q_rCheckPR36_ (i3:Int) (r128:List (List V)) (i129:Int) (i130:Int) (cx0:List V) (K:Ex→St→Option R):evRound eRCheckP 29 36 { fr:=[(1,.ptr 10000 0 0 0),(3,.int .i64 i3),(128,.slc [.int .i64,.int .i64,.int .i64] r128),(129,.int .i64 i129),(130,.int .i64 i130)],tab:=[(10000,.var (etaRow xsPolicy 0 cx0))] } K =(
 let z0:=(List.getD r128 (Int.toNat i130) []);let z6:=(V.toRows (List.getD cx0 4 .undef));let z1:=(List.drop 0 (List.take (Int.toNat i130) z6));let z2:=(V.toRows (List.getD cx0 2 .undef));let z3:=(K Ex.ret {fr:=[(2,V.int .i64 (10:Int))],tab:=[]:St});let z4:=(List.getD z0 0 V.undef);let z5:=(List.getD z0 1 V.undef);let z7:=(K Ex.ret {fr:=[(2,V.int .i64 (7:Int))],tab:=[]:St});cond (ilt i130 i129) (cond (decide ((0:Int)≤i130∧i130<(↑(List.length r128):Int))) (cond (ilt (V.toInt z4) (0:Int)) z3 (cond (ile i3 (V.toInt z4)) z3 (cond (ilt (V.toInt z5) (0:Int)) z3 (cond (ile i3 (V.toInt z5)) z3 (cond (decide ((0:Int)≤V.toInt z4∧V.toInt z4<(↑(List.length z2):Int))) (cond (decide ((0:Int)≤V.toInt z5∧V.toInt z5<(↑(List.length z2):Int))) (cond (N.refUnder {level:=V.toInt (List.getD (List.getD z2 (Int.toNat (V.toInt z4)) []) 1 V.undef),set:=V.toInt (List.getD (List.getD z2 (Int.toNat (V.toInt z4)) []) 2 V.undef):Label} {level:=V.toInt (List.getD (List.getD z2 (Int.toNat (V.toInt z5)) []) 1 V.undef),set:=V.toInt (List.getD (List.getD z2 (Int.toNat (V.toInt z5)) []) 2 V.undef):Label}) (K Ex.ret {fr:=[(2,V.int .i64 (11:Int))],tab:=[]:St}) (cond (ilt (V.toInt (List.getD z0 2 V.undef)) (0:Int)) z7 (cond (ilt (16:Int) (V.toInt (List.getD z0 2 V.undef))) z7 (cond (decide ((0:Int)≤i130∧i130≤(↑(List.length z6):Int))) (cond ((↑(List.length z1):Int)==(↑(List.length z1):Int)) (cond (Nat.ble (List.length z1) 3000) (cond (List.any (List.map (RCod.dec cGrant) z1) (N.isGr (V.toInt z4) (V.toInt z5))) (K Ex.ret {fr:=[(2,V.int .i64 (9:Int))],tab:=[]:St}) (K Ex.normal {fr:=[(1,V.ptr 10000 0 0 0),(3,V.int .i64 i3),(128,V.slc [.int .i64,.int .i64,.int .i64] r128),(129,V.int .i64 i129),(130,V.int .i64 (IntKind.wrap .i64 (i130+(1:Int))))],tab:=[(10000,Box.var [V.int .i64 (V.toInt (List.getD cx0 0 .undef)),V.int .i64 (V.toInt (List.getD cx0 1 .undef)),V.slc [.str,.int .u8,.int .u32,.int .i64,.int .u64] z2,V.slc [.int .i64] (V.toRows (List.getD cx0 3 .undef)),V.slc [.int .i64,.int .i64,.int .i64] z6])]:St})) (none)) (none)) (none))))) (none)) (none)))))) (none)) (K (Ex.exit 6) {fr:=[(1,V.ptr 10000 0 0 0),(3,V.int .i64 i3)],tab:=[(10000,Box.var [V.int .i64 (V.toInt (List.getD cx0 0 .undef)),V.int .i64 (V.toInt (List.getD cx0 1 .undef)),V.slc [.str,.int .u8,.int .u32,.int .i64,.int .u64] z2,V.slc [.int .i64] (V.toRows (List.getD cx0 3 .undef)),V.slc [.int .i64,.int .i64,.int .i64] z6])]:St})):=by kernel_rfl
theorem q_rCheckPR36 (i3:Int) (r128:List (List V)) (i129:Int) (i130:Int) (cx0:List V) (K:Ex→St→Option R):type_of% (by have h:=q_rCheckPR36_ i3 r128 i129 i130 cx0 K; dsimp only at h; exact h):=by
 have h:=q_rCheckPR36_ i3 r128 i129 i130 cx0 K
 dsimp only at h
 exact h
theorem q_rCheckPR45_ (i3:Int) (r128:List (List V)) (i129:Int) (i130:Int) (r181:List (List V)) (i182:Int) (i183:Int) (cx0:List V) (ix1:Int) (ix1_1:Int) (ix1_2:Int) (K:Ex→St→Option R):evRound eRCheckP 29 45 { fr:=[(1,.ptr 10000 0 0 0),(3,.int .i64 i3),(12,.ptr 10001 0 0 0),(128,.slc [.int .i64,.int .i64,.int .i64] r128),(129,.int .i64 i129),(130,.int .i64 i130),(181,.slc [.int .i64,.int .i64,.int .i64] r181),(182,.int .i64 i182),(183,.int .i64 i183)],tab:=[(10000,.var (etaRow xsPolicy 0 cx0)),(10001,.var [.int .i64 ix1,.int .i64 ix1_1,.int .i64 ix1_2])] } K =(
 let z0:=(K Ex.normal {fr:=[(1,V.ptr 10000 0 0 0),(3,V.int .i64 i3),(12,V.ptr 10001 0 0 0),(128,V.slc [.int .i64,.int .i64,.int .i64] r128),(129,V.int .i64 i129),(130,V.int .i64 i130),(181,V.slc [.int .i64,.int .i64,.int .i64] r181),(182,V.int .i64 i182),(183,V.int .i64 (IntKind.wrap .i64 (i183+(1:Int))))],tab:=[(10000,Box.var [V.int .i64 (V.toInt (List.getD cx0 0 .undef)),V.int .i64 (V.toInt (List.getD cx0 1 .undef)),V.slc [.str,.int .u8,.int .u32,.int .i64,.int .u64] (V.toRows (List.getD cx0 2 .undef)),V.slc [.int .i64] (V.toRows (List.getD cx0 3 .undef)),V.slc [.int .i64,.int .i64,.int .i64] (V.toRows (List.getD cx0 4 .undef))]),(10001,Box.var [V.int .i64 ix1,V.int .i64 ix1_1,V.int .i64 ix1_2])]:St});cond (ilt i183 i182) (cond (decide ((0:Int)≤i183∧i183<(↑(List.length r181):Int))) (cond (V.toInt (List.getD (List.getD r181 (Int.toNat i183) []) 0 V.undef)==ix1) (cond (V.toInt (List.getD (List.getD r181 (Int.toNat i183) []) 1 V.undef)==ix1_1) (K Ex.ret {fr:=[(2,V.int .i64 (9:Int))],tab:=[]:St}) z0) z0) (none)) (K (Ex.exit 8) {fr:=[(1,V.ptr 10000 0 0 0),(3,V.int .i64 i3),(128,V.slc [.int .i64,.int .i64,.int .i64] r128),(129,V.int .i64 i129),(130,V.int .i64 i130)],tab:=[(10000,Box.var [V.int .i64 (V.toInt (List.getD cx0 0 .undef)),V.int .i64 (V.toInt (List.getD cx0 1 .undef)),V.slc [.str,.int .u8,.int .u32,.int .i64,.int .u64] (V.toRows (List.getD cx0 2 .undef)),V.slc [.int .i64] (V.toRows (List.getD cx0 3 .undef)),V.slc [.int .i64,.int .i64,.int .i64] (V.toRows (List.getD cx0 4 .undef))])]:St})):=by kernel_rfl
theorem q_rCheckPR45 (i3:Int) (r128:List (List V)) (i129:Int) (i130:Int) (r181:List (List V)) (i182:Int) (i183:Int) (cx0:List V) (ix1:Int) (ix1_1:Int) (ix1_2:Int) (K:Ex→St→Option R):type_of% (by have h:=q_rCheckPR45_ i3 r128 i129 i130 r181 i182 i183 cx0 ix1 ix1_1 ix1_2 K; dsimp only at h; exact h):=by
 have h:=q_rCheckPR45_ i3 r128 i129 i130 r181 i182 i183 cx0 ix1 ix1_1 ix1_2 K
 dsimp only at h
 exact h
theorem q_rCheckPR52 (i3:Int) (i15:Int) (cx0:List V) (K:Ex→St→Option R):evRound eRCheckP 29 52 { fr:=[(1,.ptr 10000 0 0 0),(3,.int .i64 i3),(15,.int .i64 i15)],tab:=[(10000,.var (etaRow xsPolicy 0 cx0))] } K =
 cond (ilt i15 i3) (cond ((↑(List.length (V.toRows (List.getD cx0 3 .undef))):Int)==(↑(List.length (V.toRows (List.getD cx0 3 .undef))):Int)) (cond (Nat.ble (List.length (V.toRows (List.getD cx0 3 .undef))) 3000) (cond (!List.any (List.map (RCod.dec (rInt .i64)) (V.toRows (List.getD cx0 3 .undef))) fun x=>x==i15) (K Ex.ret {fr:=[(2,V.int .i64 (15:Int))],tab:=[]:St}) (K Ex.normal {fr:=[(1,V.ptr 10000 0 0 0),(3,V.int .i64 i3),(15,V.int .i64 (IntKind.wrap .i64 (i15+(1:Int))))],tab:=[(10000,Box.var [V.int .i64 (V.toInt (List.getD cx0 0 .undef)),V.int .i64 (V.toInt (List.getD cx0 1 .undef)),V.slc [.str,.int .u8,.int .u32,.int .i64,.int .u64] (V.toRows (List.getD cx0 2 .undef)),V.slc [.int .i64] (V.toRows (List.getD cx0 3 .undef)),V.slc [.int .i64,.int .i64,.int .i64] (V.toRows (List.getD cx0 4 .undef))])]:St})) (none)) (none)) (K (Ex.exit 10) {fr:=[],tab:=[]:St}):=by kernel_rfl
theorem q_rCheckPR56 (i3:Int) (i15:Int) (b16:Bool) (r207:List (List V)) (i208:Int) (i209:Int) (cx0:List V) (K:Ex→St→Option R):evRound eRCheckP 29 56 { fr:=[(1,.ptr 10000 0 0 0),(3,.int .i64 i3),(15,.int .i64 i15),(16,.bool b16),(207,.slc [.int .i64] r207),(208,.int .i64 i208),(209,.int .i64 i209)],tab:=[(10000,.var (etaRow xsPolicy 0 cx0))] } K =
 cond (ilt i209 i208) (cond (decide ((0:Int)≤i209∧i209<(↑(List.length r207):Int))) (cond (b16) (K Ex.normal {fr:=[(1,V.ptr 10000 0 0 0),(3,V.int .i64 i3),(15,V.int .i64 i15),(16,V.bool true),(207,V.slc [.int .i64] r207),(208,V.int .i64 i208),(209,V.int .i64 (IntKind.wrap .i64 (i209+(1:Int))))],tab:=[(10000,Box.var [V.int .i64 (V.toInt (List.getD cx0 0 .undef)),V.int .i64 (V.toInt (List.getD cx0 1 .undef)),V.slc [.str,.int .u8,.int .u32,.int .i64,.int .u64] (V.toRows (List.getD cx0 2 .undef)),V.slc [.int .i64] (V.toRows (List.getD cx0 3 .undef)),V.slc [.int .i64,.int .i64,.int .i64] (V.toRows (List.getD cx0 4 .undef))])]:St}) (K Ex.normal {fr:=[(1,V.ptr 10000 0 0 0),(3,V.int .i64 i3),(15,V.int .i64 i15),(16,V.bool (V.toInt (List.getD (List.getD r207 (Int.toNat i209) []) 0 V.undef)==i15)),(207,V.slc [.int .i64] r207),(208,V.int .i64 i208),(209,V.int .i64 (IntKind.wrap .i64 (i209+(1:Int))))],tab:=[(10000,Box.var [V.int .i64 (V.toInt (List.getD cx0 0 .undef)),V.int .i64 (V.toInt (List.getD cx0 1 .undef)),V.slc [.str,.int .u8,.int .u32,.int .i64,.int .u64] (V.toRows (List.getD cx0 2 .undef)),V.slc [.int .i64] (V.toRows (List.getD cx0 3 .undef)),V.slc [.int .i64,.int .i64,.int .i64] (V.toRows (List.getD cx0 4 .undef))])]:St})) (none)) (K (Ex.exit 12) {fr:=[(1,V.ptr 10000 0 0 0),(3,V.int .i64 i3),(15,V.int .i64 i15),(16,V.bool b16)],tab:=[(10000,Box.var [V.int .i64 (V.toInt (List.getD cx0 0 .undef)),V.int .i64 (V.toInt (List.getD cx0 1 .undef)),V.slc [.str,.int .u8,.int .u32,.int .i64,.int .u64] (V.toRows (List.getD cx0 2 .undef)),V.slc [.int .i64] (V.toRows (List.getD cx0 3 .undef)),V.slc [.int .i64,.int .i64,.int .i64] (V.toRows (List.getD cx0 4 .undef))])]:St}):=by kernel_rfl
end Go.Ev

/- Policies that may be: where things flow: definitions and lemmas,no condition. -/
namespace Go.Ev
open Go Go.Proofs
set_option maxRecDepth 100000
end Go.Ev

/- The program's forms of words answer what the plain ones do: lemmas,no condition. -/
namespace Go.Ev
open Go Go.Proofs
set_option maxRecDepth 100000
def schRefName:SSch:={ fr:=[(0,.str),(3,.int .i64)],tab:=[] }
def gRefName:List Leaf→(Ex→St→Option R)→Option R
 | [.s s0,.i i3],K=>cond (ile 0 i3) (cond (Nat.ble s0.length LIM) (cond (N.plain (s0.drop i3.toNat)) (K (.exit 0) { fr:=[],tab:=[] }) (K .ret { fr:=[(2,.int .i64 4)],tab:=[] })) none) none
 | _,_=>none
noncomputable def eRefName:Env:=env Tryz.prog [(81,dLetter)] [(6,loopF schRefName gRefName)] [(6,[(0,[0,3]),(1,[]),(1000,[2])])]
theorem q_refName (s:Bytes):evFn eRefName 50 ((aOne vStr).enc s) ([]) some =
 cond ((↑(List.length s):Int)==(0:Int)) (some {v:=V.int .i64 (15:Int),bx:=[]}) (cond (ilt (16:Int) (↑(List.length s):Int)) (some {v:=V.int .i64 (5:Int),bx:=[]}) (cond (Nat.ble (List.length s) 1000000) (cond (N.plain (List.drop 0 s)) (some {v:=V.int .i64 (0:Int),bx:=[]}) (some {v:=V.int .i64 (4:Int),bx:=[]})) (none))):=by kernel_rfl
theorem q_refNameR (s0:Bytes) (i3:Int) (K:Ex→St→Option R):evRound eRefName 50 6 { fr:=[(0,.str s0),(3,.int .i64 i3)],tab:=[] } K =
 cond (ilt i3 (↑(List.length s0):Int)) (cond (decide ((0:Int)≤i3∧i3<(↑(List.length s0):Int))) (cond (!N.letterI (↑(UInt8.toNat (List.getD s0 (Int.toNat i3) (0:UInt8))):Int)) (K Ex.ret {fr:=[(2,V.int .i64 (4:Int))],tab:=[]}) (K Ex.normal {fr:=[(0,V.str s0),(3,V.int .i64 (IntKind.wrap .i64 (i3+(1:Int))))],tab:=[]})) (none)) (K (Ex.exit 0) {fr:=[],tab:=[]}):=by kernel_rfl
theorem ok_refName:FnOk Tryz.prog 50 dName:=by
 refine den_okF (env_ok ((TOk.nil _).cons ok_letter)) (E:=eRefName) Tryz.func50 [6] (by kernel_rfl) (one1 (rounds_of rfl fun l K q h=>?_)) fun s _ h=>?_
 ·unfold gRefName at h
  split at h
  ·rename_i s i
   have h1:=(cond_none h).1; replace h:=(cond_none h).2; have h2:=(cond_none h).1; replace h:=(cond_none h).2
   have h2:s.length≤1000000:=ble_of h2
   refine loop_ind (E:=eRefName) (f:=50) (id:=6) (fun i:Int=>{ fr:=[(0,.str s),(3,.int .i64 i)],tab:=[] }) (fun i=>0≤i) (fun i=>s.length-i.toNat)
    (fun i K=>cond (N.plain (s.drop i.toNat)) (K (.exit 0) { fr:=[],tab:=[] }) (K .ret { fr:=[(2,.int .i64 4)],tab:=[] })) (fun i hi=>?_) i (ile_of h1) K q h
   by_cases hl:i<s.length
   ·rw [drop_byte (show i.toNat<s.length by omega),plain_cons]
    cases hc:N.letterI (s.getD i.toNat 0).toNat with
    | true =>
     refine .inl ⟨i+1,by omega,by omega,fun K=>?_,fun K=>?_⟩
     ·rw [q_refNameR]
      simp (disch:=omega) only [evs,hc,Bool.not_true]
     ·rw [cond_true,show (i+1).toNat=i.toNat+1 by omega]
    | false =>
     refine .inr ⟨.ret,{ fr:=[(2,.int .i64 4)],tab:=[] },by simp,fun K=>?_,fun K=>rfl⟩
     rw [q_refNameR]
     simp (disch:=omega) only [evs,hc,Bool.not_false]
   ·refine .inr ⟨.exit 0,{ fr:=[],tab:=[] },by simp,fun K=>?_,fun K=>?_⟩
    ·rw [q_refNameR]
     simp (disch:=omega) only [evs]
    ·rw [List.drop_eq_nil_of_le (by omega)]; rfl
  ·cases h
 ·refine (q_refName s).trans ?_
  show _=some (⟨.int .i64 (N.name s),[],[]⟩:DRes)
  unfold N.name
  cases s with
  | nil=>rfl
  | cons c r =>
   generalize hs:c::r=s at *
   have h0:(s==[])=false:=by rw [← hs]; rfl
   have h1:0<s.length:=by rw [← hs]; simp
   rw [h0]
   cases h:ilt 16 s.length with
   | true=>simp (disch:=omega) only [evs]
   | false =>
    have h:=ilt_nof h
    simp (disch:=omega) only [evs,List.drop_zero]
    cases N.plain s<;>rfl
end Go.Ev

/- Policies: Check,by the document: lemmas,no condition. -/
namespace Go.Ev
open Go Go.Proofs
set_option maxRecDepth 100000
theorem consN {p:Nat→Prop} {a:Nat} {l:List Nat} (h:p a) (k:∀ id∈l,p id):∀ id∈a::l,p id:=fun id hi=>by
 rcases List.mem_cons.1 hi with rfl | hi
 ·exact h
 ·exact k id hi
theorem ilt_not (a b:Int):ilt a b = !(ile b a):=by
 rw [ilt_eq,ile_eq]
 by_cases h:a<b
 ·rw [decide_eq_true h,decide_eq_false (by omega)]; rfl
 ·rw [decide_eq_false h,decide_eq_true (by omega)]; rfl
theorem place_key {α:Type} (x:HPlace) (l:List HPlace) (K1:Int→α) (K2:α) :
  cond (N.name x.name != 0) (K1 (N.name x.name)) (cond (ilt 15 x.label.level) (K1 7) (cond (ilt x.bytes 0) (K1 7) (cond (ilt 65536 x.bytes) (K1 7) (cond (x.base==0) (K1 7) (cond (l.any (N.twiceP x)) (K1 9) K2)))))=cond (N.placeE x l != 0) (K1 (N.placeE x l)) K2:=by
 have e:N.placeE x l=cond (N.name x.name != 0) (N.name x.name) (cond (cond (ile x.label.level 15) (cond (cond (ile 0 x.bytes) (ile x.bytes 65536) false) (!(x.base==0)) false) false) (cond (l.any (N.twiceP x)) 9 0) 7):=rfl
 rw [e]
 simp only [ilt_not]
 cases h1:N.name x.name != 0 with
 | true=>simp only [cond_true,h1]
 | false=>cases ile x.label.level 15<;>cases ile 0 x.bytes<;>cases ile x.bytes 65536<;>cases x.base==0<;>cases l.any (N.twiceP x)<;>rfl
theorem slot_key {α:Type} (n k:Int) (a b:α):cond (ilt k 0) a (cond (ile n k) a b)=cond (cond (cond (ilt k 0) true (ile n k)) (10:Int) 0 != 0) a b:=by
 cases ilt k 0<;>cases ile n k<;>rfl
theorem there_c (p:HPolicy) (k:Int):N.there p k=cond (ilt k 0) false (!(ile (p.places.length:Int) k)):=by
 have e:N.there p k=cond (ile 0 k) (ile k ((p.places.length:Int)-1)) false:=rfl
 have e2:ile k ((p.places.length:Int)-1) = !(ile (p.places.length:Int) k):=by
  rw [← ilt_not,ilt_eq,ile_eq]
  by_cases h:k<p.places.length
  ·rw [decide_eq_true h,decide_eq_true (by omega)]
  ·rw [decide_eq_false h,decide_eq_false (by omega)]
 rw [e,e2,ilt_not]
 cases ile 0 k<;>rfl
theorem grant_key {α:Type} (p:HPolicy) (x:HGrant) (l:List HGrant) (u:Bool) {n:Int} (hn:n=p.places.length) (hu:N.there p x.src=true→N.there p x.dst=true→u=N.under (N.plAt p x.src).label (N.plAt p x.dst).label) (K1:Int→Option α) (K2:Option α) :
  cond (ilt x.src 0) (K1 10) (cond (ile n x.src) (K1 10) (cond (ilt x.dst 0) (K1 10) (cond (ile n x.dst) (K1 10) (cond (decide ((0:Int)≤x.src∧x.src<p.places.length)) (cond (decide ((0:Int)≤x.dst∧x.dst<p.places.length)) (cond u (K1 11) (cond (ilt x.budget 0) (K1 7) (cond (ilt 16 x.budget) (K1 7) (cond (l.any (N.isGr x.src x.dst)) (K1 9) K2)))) none) none))))=cond (N.grantE p x l != 0) (K1 (N.grantE p x l)) K2:=by
 subst hn
 have e:N.grantE p x l=cond (cond (N.there p x.src) (N.there p x.dst) false) (cond (N.under (N.plAt p x.src).label (N.plAt p x.dst).label) 11 (cond (cond (ile 0 x.budget) (ile x.budget 16) false) (cond (l.any (N.isGr x.src x.dst)) 9 0) 7)) 10:=rfl
 rw [e]
 cases h1:N.there p x.src with
 | false =>
  have h1:=h1
  rw [there_c] at h1
  cases a1:ilt x.src 0 with
  | true=>rfl
  | false =>
   rw [a1] at h1
   cases a2:ile p.places.length x.src with
   | true=>rfl
   | false=>rw [a2] at h1; cases h1
 | true =>
  have g1:=there_of h1
  have h1':=h1
  rw [there_c] at h1'
  cases a1:ilt x.src 0 with
  | true=>rw [a1] at h1'; cases h1'
  | false =>
   rw [a1] at h1'
   cases a2:ile p.places.length x.src with
   | true=>rw [a2] at h1'; cases h1'
   | false =>
    cases h2:N.there p x.dst with
    | false =>
     have h2:=h2
     rw [there_c] at h2
     cases b1:ilt x.dst 0 with
     | true=>rfl
     | false =>
      rw [b1] at h2
      cases b2:ile p.places.length x.dst with
      | true=>rfl
      | false=>rw [b2] at h2; cases h2
    | true =>
     have g2:=there_of h2
     have h2':=h2
     rw [there_c] at h2'
     cases b1:ilt x.dst 0 with
     | true=>rw [b1] at h2'; cases h2'
     | false =>
      rw [b1] at h2'
      cases b2:ile p.places.length x.dst with
      | true=>rw [b2] at h2'; cases h2'
      | false =>
       rw [decide_eq_true g1,decide_eq_true g2,hu h1 h2]
       simp only [ilt_not]
       cases N.under (N.plAt p x.src).label (N.plAt p x.dst).label<;>cases ile 0 x.budget<;>cases ile x.budget 16<;>cases l.any (N.isGr x.src x.dst)<;>rfl
theorem and_true3 (a b:Bool):(a && (b && true))=cond a b false:=by cases a<;>cases b<;>rfl
theorem fold_plc (x:HPlace):(⟨x.name,⟨x.label.level,x.label.set⟩,x.bytes,x.base⟩:HPlace)=x:=rfl
theorem errFrom_ne (f:Nat→Int) {e:Int} (h:(e==0)=false):∀ k i,N.errFrom f k i e=e
 | 0,_=>rfl
 | k+1,i=>by
  show cond (e==0) _ e=e
  rw [h]; rfl
theorem err_rows {α:Type} (d:α) (all:List α) (f:Nat→Int) (R:Int→List α→Int) (h0:∀ i,R i []=0) (h1:∀ (i:Nat),i<all.length→∀ r,R i (all.getD i d::r)=cond (f i != 0) (f i) (R ((i:Int)+1) r)) :
  ∀ k i,i+k=all.length→N.errFrom f k i 0=R i (all.drop i)
 | 0,i,h=>by
  rw [List.drop_eq_nil_of_le (by omega),h0]; rfl
 | k+1,i,h=>by
  have hi:i<all.length:=by omega
  have e:all.drop i=all.getD i d::all.drop (i+1):=by
   rw [List.drop_eq_getElem_cons hi,List.getD_eq_getElem?_getD,List.getElem?_eq_getElem hi]; rfl
  rw [e,h1 i hi]
  show N.errFrom f k (i+1) (f i)=_
  cases hf:f i != 0 with
  | true=>exact errFrom_ne f (by simpa using hf) k (i+1)
  | false =>
   have:f i=0:=by simpa using hf
   rw [this]
   exact err_rows d all f R h0 h1 k (i+1) (by omega)
theorem count_key (f:Nat→Int) (k:Nat) (n a b:Int):N.errFrom f k 0 (N.count n a b)=cond (ilt n a) 15 (cond (ilt b n) 6 (N.errFrom f k 0 0)):=by
 have e:N.count n a b=cond (ilt n a) 15 (cond (ilt b n) 6 0):=rfl
 rw [e]
 cases ilt n a with
 | true=>exact errFrom_ne f rfl k 0
 | false =>
  cases ilt b n with
  | true=>exact errFrom_ne f rfl k 0
  | false=>rfl
theorem placesE_r (p:HPolicy):N.placesE p=cond (ilt p.places.length 1) 15 (cond (ilt 16 p.places.length) 6 (N.rPl p.places 0 p.places)):=by
 have e:=err_rows place0 p.places (N.plF p) (N.rPl p.places) (fun _=>rfl) (fun i hi r=>rfl) p.places.length 0 (by omega)
 rw [List.drop_zero] at e
 exact (count_key (N.plF p) p.places.length p.places.length 1 16).trans (by rw [e]; rfl)
theorem slotsE_r (p:HPolicy):N.slotsE p=cond (ilt p.slots.length 1) 15 (cond (ilt 32 p.slots.length) 6 (N.rSl p.places.length p.slots)):=by
 have e:=err_rows (0:Int) p.slots (N.slF p) (fun _ l=>N.rSl p.places.length l) (fun _=>rfl) (fun i hi r=>by
  show cond (cond (ilt (p.slots.getD i 0) 0) true (ile p.places.length (p.slots.getD i 0))) 10 (N.rSl p.places.length r)=cond (cond (N.there p (p.slots.getD i 0)) (0:Int) 10 != 0) (cond (N.there p (p.slots.getD i 0)) 0 10) (N.rSl p.places.length r)
  rw [there_c]
  cases ilt (p.slots.getD i 0) 0<;>cases ile p.places.length (p.slots.getD i 0)<;>rfl) p.slots.length 0 (by omega)
 rw [List.drop_zero] at e
 exact (count_key (N.slF p) p.slots.length p.slots.length 1 32).trans (by rw [e])
theorem grantsE_r (p:HPolicy):N.grantsE p=cond (ilt p.grants.length 0) 15 (cond (ilt 8 p.grants.length) 6 (N.rGr p 0 p.grants)):=by
 have e:=err_rows grant0 p.grants (N.grF p) (N.rGr p) (fun _=>rfl) (fun i hi r=>rfl) p.grants.length 0 (by omega)
 rw [List.drop_zero] at e
 exact (count_key (N.grF p) p.grants.length p.grants.length 0 8).trans (by rw [e]; rfl)
theorem check_key (p:HPolicy) {w1 w2 v1 v2 n0 n1 s0 s1 g1:Bool} (a1:w1=ilt p.work 1) (a2:w2=ilt 16 p.work) (b1:v1=ilt p.give 1) (b2:v2=ilt 16 p.give) (c0:n0=((p.places.length:Int)==0)) (c1:n1=ilt 16 p.places.length) (d0:s0=((p.slots.length:Int)==0)) (d1:s1=ilt 32 p.slots.length) (f1:g1=ilt 8 p.grants.length) {α:Type} (K:Int→α) :
  cond w1 (K 7) (cond w2 (K 7) (cond v1 (K 7) (cond v2 (K 7) (cond n0 (K 15) (cond n1 (K 6) (cond (N.rPl p.places 0 p.places != 0) (K (N.rPl p.places 0 p.places)) (cond s0 (K 15) (cond s1 (K 6) (cond (N.rSl p.places.length p.slots != 0) (K (N.rSl p.places.length p.slots)) (cond g1 (K 6) (cond (N.rGr p 0 p.grants != 0) (K (N.rGr p 0 p.grants)) (cond (N.lacks p p.places.length 0==0) (K 0) (K 15)))))))))))))=K (N.checkP p):=by
 have z:∀ n:Nat,ilt (n:Int) 1=((n:Int)==0):=fun n=>by
  rw [ilt_eq]
  by_cases h:(n:Int)=0
  ·rw [h]; rfl
  ·rw [decide_eq_false (by omega),beq_eq_false_iff_ne.2 h]
 have e:N.checkP p=cond (cond (cond (ile 1 p.work) (ile p.work 16) false) (cond (ile 1 p.give) (ile p.give 16) false) false) (cond (N.or3 [N.placesE p,N.slotsE p,N.grantsE p] != 0) (N.or3 [N.placesE p,N.slotsE p,N.grantsE p]) (N.lacks p p.places.length 0)) 7:=rfl
 have o:N.or3 [N.placesE p,N.slotsE p,N.grantsE p]=cond (N.placesE p != 0) (N.placesE p) (cond (N.slotsE p != 0) (N.slotsE p) (cond (N.grantsE p != 0) (N.grantsE p) 0)):=rfl
 have g0:ilt (p.grants.length:Int) 0=false:=ilt_f (by omega)
 have lk:=lacks_or p p.places.length 0
 rw [e,o,placesE_r,slotsE_r,grantsE_r,a1,a2,b1,b2,c0,c1,d0,d1,f1,z,z,g0]
 simp only [ilt_not _ 1,ilt_not 16 p.work,ilt_not 16 p.give]
 generalize ((p.places.length:Int)==0)=n0
 generalize ilt 16 p.places.length=n1
 generalize ((p.slots.length:Int)==0)=s0
 generalize ilt 32 p.slots.length=s1
 generalize ilt 8 p.grants.length=g1
 generalize N.rPl p.places 0 p.places=rp
 generalize N.rSl p.places.length p.slots=rs
 generalize N.rGr p 0 p.grants=rg
 generalize N.lacks p p.places.length 0=lk at *
 generalize ile 1 p.work=w1
 generalize ile p.work 16=w2
 generalize ile 1 p.give=v1
 generalize ile p.give 16=v2
 cases w1 with
 | false=>rfl
 | true =>
 cases w2 with
 | false=>rfl
 | true =>
 cases v1 with
 | false=>rfl
 | true =>
 cases v2 with
 | false=>rfl
 | true =>
 cases n0 with
 | true=>rfl
 | false =>
 cases n1 with
 | true=>rfl
 | false =>
 cases hp:rp != 0 with
 | true=>simp only [cond_true,cond_false,Bool.not_true,hp]
 | false =>
 cases s0 with
 | true=>simp only [cond_true,cond_false,Bool.not_true,hp]; rfl
 | false =>
 cases s1 with
 | true=>simp only [cond_true,cond_false,Bool.not_true,hp]; rfl
 | false =>
 cases hs:rs != 0 with
 | true=>simp only [cond_true,cond_false,Bool.not_true,hp,hs]
 | false =>
 cases g1 with
 | true=>simp only [cond_true,cond_false,Bool.not_true,hp,hs]; rfl
 | false =>
 cases hg:rg != 0 with
 | true=>simp only [cond_true,cond_false,Bool.not_true,hp,hs,hg]
 | false =>
  simp only [cond_true,cond_false,Bool.not_true,hp,hs,hg]
  rcases lk with rfl | rfl<;>rfl
theorem ok_rCheckP_9:RoundsOk eRCheckP 29 9:=by
 refine rounds_of rfl fun l K q h=>?_
 unfold gRCheckP9 at h
 split at h
 ·rename_i i3 r45 i46 i47 cx0
  have h1:=(cond_none h).1; replace h:=(cond_none h).2; have h2:=(cond_none h).1; replace h:=(cond_none h).2; have h3:=(cond_none h).1; replace h:=(cond_none h).2; have g1:=(cond_none h).1; replace h:=(cond_none h).2; have g2:=(cond_none h).1; replace h:=(cond_none h).2; have g3:=(cond_none h).1; replace h:=(cond_none h).2; have g4:=(cond_none h).1; replace h:=(cond_none h).2
  have e1:=ieq_of h1
  have e2:=ieq_of h2
  subst e1 e2
  have h3:r45.length≤3000:=ble_of h3
  have g1:=ieq_of g1
  have g2:=ble_of g2
  have g3:=ble_of g3
  have g4:∀ r∈r45,Nat.ble (V.toStr (List.getD r 0 V.undef)).length 1000000=true:=fun r hr=>List.all_eq_true.1 g4 r hr
  have main:=range_ind (E:=eRCheckP) (f:=29) (id:=9) (A:=Int) (r45) (fun a i=>{ fr:=[(1,.ptr 10000 0 0 0),(3,.int .i64 i3),(45,.slc [.str,.int .u8,.int .u32,.int .i64,.int .u64] r45),(46,.int .i64 r45.length),(47,.int .i64 i)],tab:=[(10000,.var (etaRow xsPolicy 0 cx0))] }) (fun a i=>a=(i:Int))
   (fun a rows K=>cond (N.rPl (cPolicy.dec cx0).places a (rows.map cPlace.dec) != 0) (K .ret { fr:=[(2,.int .i64 (N.rPl (cPolicy.dec cx0).places a (rows.map cPlace.dec)))],tab:=[] }) (K (.exit 0) { fr:=[(1,.ptr 10000 0 0 0),(3,.int .i64 i3)],tab:=[(10000,.var (etaRow xsPolicy 0 cx0))] })) (fun a i ha hi=>?_) (fun a ha=>?_) ((0:Int)) 0 (Int.le_refl _) (by omega) rfl K q (by assumption)
  ·exact main
  ·have hq:=fun K=>q_rCheckPR9 (i3) (r45) (r45.length) ((i:Int)) (cx0) K
   have t1:ilt (i:Int) r45.length=true:=ilt_t (by omega)
   have t2:decide ((0:Int)≤i∧(i:Int)<r45.length)=true:=decide_eq_true (by omega)
   have t3:IntKind.wrap .i64 ((i:Int)+1)=(i:Int)+1:=wr_i64 (by omega) (by omega)
   simp only [Int.toNat_natCast] at hq
   simp only [t1,t2,t3,cond_true] at hq
   subst ha
   have a0:V.toStr (List.getD (List.getD r45 i []) 0 V.undef)=(cPlace.dec (List.getD r45 i [])).name:=rfl
   have a1:V.toInt (List.getD (List.getD r45 i []) 1 V.undef)=(cPlace.dec (List.getD r45 i [])).label.level:=rfl
   have a2:V.toInt (List.getD (List.getD r45 i []) 2 V.undef)=(cPlace.dec (List.getD r45 i [])).label.set:=rfl
   have a3:V.toInt (List.getD (List.getD r45 i []) 3 V.undef)=(cPlace.dec (List.getD r45 i [])).bytes:=rfl
   have a4:V.toInt (List.getD (List.getD r45 i []) 4 V.undef)=(cPlace.dec (List.getD r45 i [])).base:=rfl
   simp only [a0,a1,a2,a3,a4] at hq
   simp only [List.map_cons]
   generalize cPlace.dec (List.getD r45 i [])=x at *
   have t4:decide ((0:Int)≤i∧(i:Int)≤((cPolicy.dec cx0).places.length:Int))=true:=decide_eq_true (by omega)
   have t5:Nat.ble (min i (cPolicy.dec cx0).places.length) 3000=true:=Nat.ble_eq_true_of_le (by omega)
   simp only [rows_len2,List.drop_zero,List.length_take,t4,t5,beq_self_eq_true,cond_true,List.map_take,pol_rows,fold_plc] at hq
   have key:=fun K=>(hq K).trans (place_key x (List.take i (cPolicy.dec cx0).places) (fun e=>K .ret { fr:=[(2,.int .i64 e)],tab:=[] }) _)
   have er:∀ l:List HPlace,N.rPl (cPolicy.dec cx0).places (i:Int) (x::l)=cond (N.placeE x (List.take i (cPolicy.dec cx0).places) != 0) (N.placeE x (List.take i (cPolicy.dec cx0).places)) (N.rPl (cPolicy.dec cx0).places ((i:Int)+1) l):=fun _=>rfl
   cases hc:N.placeE x (List.take i (cPolicy.dec cx0).places) != 0 with
   | true =>
    refine .inr ⟨.ret,{ fr:=[(2,.int .i64 (N.placeE x (List.take i (cPolicy.dec cx0).places)))],tab:=[] },by simp,fun K=>?_,fun K=>?_⟩
    ·rw [key,hc]; rfl
    ·simp only [er,hc,cond_true]
   | false =>
    refine .inl ⟨(i:Int)+1,by omega,fun K=>?_,fun K=>?_⟩
    ·rw [key,hc]; rfl
    ·simp only [er,hc,cond_false]
  ·refine ⟨.exit 0,_,by simp,fun K=>?_,fun K=>rfl⟩
   rw [q_rCheckPR9]
   simp (disch:=omega) only [evs]
   try rfl
 ·cases h
theorem ok_rCheckP_17:RoundsOk eRCheckP 29 17:=by
 refine rounds_of rfl fun l K q h=>?_
 unfold gRCheckP17 at h
 split at h
 ·rename_i i3 r45 i46 i47 r80 i81 i82 cx0 sx1 ix1 ix1_1 ix1_2 ix1_3
  have h1:=(cond_none h).1; replace h:=(cond_none h).2; have h2:=(cond_none h).1; replace h:=(cond_none h).2; have h3:=(cond_none h).1; replace h:=(cond_none h).2
  have e1:=ieq_of h1
  have e2:=ieq_of h2
  subst e1 e2
  have h3:r80.length≤3000:=ble_of h3
  have main:=range_ind (E:=eRCheckP) (f:=29) (id:=17) (A:=Unit) (r80) (fun a i=>{ fr:=[(1,.ptr 10000 0 0 0),(3,.int .i64 i3),(5,.ptr 10001 0 0 0),(45,.slc [.str,.int .u8,.int .u32,.int .i64,.int .u64] r45),(46,.int .i64 i46),(47,.int .i64 i47),(80,.slc [.str,.int .u8,.int .u32,.int .i64,.int .u64] r80),(81,.int .i64 r80.length),(82,.int .i64 i)],tab:=[(10000,.var (etaRow xsPolicy 0 cx0)),(10001,.var [.str sx1,.int .u8 ix1,.int .u32 ix1_1,.int .i64 ix1_2,.int .u64 ix1_3])] }) (fun a i=>True)
   (fun a rows K=>cond ((rows.map cPlace.dec).any (N.twiceP ⟨sx1,⟨ix1,ix1_1⟩,ix1_2,ix1_3⟩)) (K .ret { fr:=[(2,.int .i64 9)],tab:=[] }) (K (.exit 2) { fr:=[(1,.ptr 10000 0 0 0),(3,.int .i64 i3),(45,.slc [.str,.int .u8,.int .u32,.int .i64,.int .u64] r45),(46,.int .i64 i46),(47,.int .i64 i47)],tab:=[(10000,.var (etaRow xsPolicy 0 cx0))] })) (fun a i ha hi=>?_) (fun a ha=>?_) (()) 0 (Int.le_refl _) (by omega) trivial K q (by assumption)
  ·exact main
  ·have hq:=fun K=>q_rCheckPR17 (i3) (r45) (i46) (i47) (r80) (r80.length) ((i:Int)) (cx0) (sx1) (ix1) (ix1_1) (ix1_2) (ix1_3) K
   have t1:ilt (i:Int) r80.length=true:=ilt_t (by omega)
   have t2:decide ((0:Int)≤i∧(i:Int)<r80.length)=true:=decide_eq_true (by omega)
   have t3:IntKind.wrap .i64 ((i:Int)+1)=(i:Int)+1:=wr_i64 (by omega) (by omega)
   simp only [Int.toNat_natCast] at hq
   simp only [t1,t2,t3,cond_true] at hq
   have a0:V.toStr (List.getD (List.getD r80 i []) 0 V.undef)=(cPlace.dec (List.getD r80 i [])).name:=rfl
   have a1:V.toInt (List.getD (List.getD r80 i []) 1 V.undef)=(cPlace.dec (List.getD r80 i [])).label.level:=rfl
   have a2:V.toInt (List.getD (List.getD r80 i []) 2 V.undef)=(cPlace.dec (List.getD r80 i [])).label.set:=rfl
   have a3:V.toInt (List.getD (List.getD r80 i []) 3 V.undef)=(cPlace.dec (List.getD r80 i [])).bytes:=rfl
   have a4:V.toInt (List.getD (List.getD r80 i []) 4 V.undef)=(cPlace.dec (List.getD r80 i [])).base:=rfl
   simp only [a0,a1,a2] at hq
   simp only [List.map_cons]
   generalize cPlace.dec (List.getD r80 i [])=x at *
   simp only [and_true3] at hq
   have er:∀ l:List HPlace,List.any (x::l) (N.twiceP ⟨sx1,⟨ix1,ix1_1⟩,ix1_2,ix1_3⟩)=(cond (x.name==sx1) true (cond (x.label.level==ix1) (x.label.set==ix1_1) false) || List.any l (N.twiceP ⟨sx1,⟨ix1,ix1_1⟩,ix1_2,ix1_3⟩)):=fun _=>rfl
   cases h1:x.name==sx1 with
   | true =>
    refine .inr ⟨.ret,{ fr:=[(2,.int .i64 9)],tab:=[] },by simp,fun K=>?_,fun K=>?_⟩
    ·rw [hq,h1]; rfl
    ·simp only [er,h1,cond_true,Bool.true_or]
   | false =>
    cases h2:cond (x.label.level==ix1) (x.label.set==ix1_1) false with
    | true =>
     refine .inr ⟨.ret,{ fr:=[(2,.int .i64 9)],tab:=[] },by simp,fun K=>?_,fun K=>?_⟩
     ·rw [hq,h1,h2]; rfl
     ·simp only [er,h1,h2,cond_true,cond_false,Bool.true_or]
    | false =>
     refine .inl ⟨(),trivial,fun K=>?_,fun K=>?_⟩
     ·rw [hq,h1,h2]; rfl
     ·simp only [er,h1,h2,cond_false,Bool.false_or]
  ·refine ⟨.exit 2,_,by simp,fun K=>?_,fun K=>rfl⟩
   rw [q_rCheckPR17]
   simp (disch:=omega) only [evs]
   try rfl
 ·cases h
theorem ok_rCheckP_28:RoundsOk eRCheckP 29 28:=by
 refine rounds_of rfl fun l K q h=>?_
 unfold gRCheckP28 at h
 split at h
 ·rename_i i3 r109 i110 i111 cx0
  have h1:=(cond_none h).1; replace h:=(cond_none h).2; have h2:=(cond_none h).1; replace h:=(cond_none h).2; have h3:=(cond_none h).1; replace h:=(cond_none h).2
  have e1:=ieq_of h1
  have e2:=ieq_of h2
  subst e1 e2
  have h3:r109.length≤3000:=ble_of h3
  have main:=range_ind (E:=eRCheckP) (f:=29) (id:=28) (A:=Unit) (r109) (fun a i=>{ fr:=[(1,.ptr 10000 0 0 0),(3,.int .i64 i3),(109,.slc [.int .i64] r109),(110,.int .i64 r109.length),(111,.int .i64 i)],tab:=[(10000,.var (etaRow xsPolicy 0 cx0))] }) (fun a i=>True)
   (fun a rows K=>cond (N.rSl i3 (rows.map (rInt .i64).dec) != 0) (K .ret { fr:=[(2,.int .i64 (N.rSl i3 (rows.map (rInt .i64).dec)))],tab:=[] }) (K (.exit 4) { fr:=[(1,.ptr 10000 0 0 0),(3,.int .i64 i3)],tab:=[(10000,.var (etaRow xsPolicy 0 cx0))] })) (fun a i ha hi=>?_) (fun a ha=>?_) (()) 0 (Int.le_refl _) (by omega) trivial K q (by assumption)
  ·exact main
  ·have hq:=fun K=>q_rCheckPR28 (i3) (r109) (r109.length) ((i:Int)) (cx0) K
   have t1:ilt (i:Int) r109.length=true:=ilt_t (by omega)
   have t2:decide ((0:Int)≤i∧(i:Int)<r109.length)=true:=decide_eq_true (by omega)
   have t3:IntKind.wrap .i64 ((i:Int)+1)=(i:Int)+1:=wr_i64 (by omega) (by omega)
   simp only [Int.toNat_natCast] at hq
   simp only [t1,t2,t3,cond_true] at hq
   have a0:V.toInt (List.getD (List.getD r109 i []) 0 V.undef)=(rInt .i64).dec (List.getD r109 i []):=rfl
   simp only [a0] at hq
   simp only [List.map_cons]
   generalize (rInt .i64).dec (List.getD r109 i [])=x at *
   have er:∀ l:List Int,N.rSl i3 (x::l)=cond (cond (ilt x 0) true (ile i3 x)) 10 (N.rSl i3 l):=fun _=>rfl
   simp only [slot_key] at hq
   cases h1:cond (ilt x 0) true (ile i3 x) with
   | true =>
    refine .inr ⟨.ret,{ fr:=[(2,.int .i64 10)],tab:=[] },by simp,fun K=>?_,fun K=>?_⟩
    ·rw [hq,h1]; rfl
    ·simp only [er,h1,cond_true]; rfl
   | false =>
    refine .inl ⟨(),trivial,fun K=>?_,fun K=>?_⟩
    ·rw [hq,h1]; rfl
    ·simp only [er,h1,cond_false]
  ·refine ⟨.exit 4,_,by simp,fun K=>?_,fun K=>rfl⟩
   rw [q_rCheckPR28]
   simp (disch:=omega) only [evs]
   try rfl
 ·cases h
theorem ok_rCheckP_36:RoundsOk eRCheckP 29 36:=by
 refine rounds_of rfl fun l K q h=>?_
 unfold gRCheckP36 at h
 split at h
 ·rename_i i3 r128 i129 i130 cx0
  have h1:=(cond_none h).1; replace h:=(cond_none h).2; have h2:=(cond_none h).1; replace h:=(cond_none h).2; have h3:=(cond_none h).1; replace h:=(cond_none h).2; have g1:=(cond_none h).1; replace h:=(cond_none h).2; have g2:=(cond_none h).1; replace h:=(cond_none h).2; have g3:=(cond_none h).1; replace h:=(cond_none h).2; have g4:=(cond_none h).1; replace h:=(cond_none h).2; have g5:=(cond_none h).1; replace h:=(cond_none h).2
  have e1:=ieq_of h1
  have e2:=ieq_of h2
  subst e1 e2
  have h3:r128.length≤3000:=ble_of h3
  have g1:=ieq_of g1
  have g2:=ble_of g2
  have g3:=ble_of g3
  have g4:=ble_of g4
  have main:=range_ind (E:=eRCheckP) (f:=29) (id:=36) (A:=Int) (r128) (fun a i=>{ fr:=[(1,.ptr 10000 0 0 0),(3,.int .i64 i3),(128,.slc [.int .i64,.int .i64,.int .i64] r128),(129,.int .i64 r128.length),(130,.int .i64 i)],tab:=[(10000,.var (etaRow xsPolicy 0 cx0))] }) (fun a i=>a=(i:Int))
   (fun a rows K=>cond (N.rGr (cPolicy.dec cx0) a (rows.map cGrant.dec) != 0) (K .ret { fr:=[(2,.int .i64 (N.rGr (cPolicy.dec cx0) a (rows.map cGrant.dec)))],tab:=[] }) (K (.exit 6) { fr:=[(1,.ptr 10000 0 0 0),(3,.int .i64 i3)],tab:=[(10000,.var (etaRow xsPolicy 0 cx0))] })) (fun a i ha hi=>?_) (fun a ha=>?_) ((0:Int)) 0 (Int.le_refl _) (by omega) rfl K q (by assumption)
  ·exact main
  ·have hq:=fun K=>q_rCheckPR36 (i3) (r128) (r128.length) ((i:Int)) (cx0) K
   have t1:ilt (i:Int) r128.length=true:=ilt_t (by omega)
   have t2:decide ((0:Int)≤i∧(i:Int)<r128.length)=true:=decide_eq_true (by omega)
   have t3:IntKind.wrap .i64 ((i:Int)+1)=(i:Int)+1:=wr_i64 (by omega) (by omega)
   simp only [Int.toNat_natCast] at hq
   simp only [t1,t2,t3,cond_true] at hq
   subst ha
   have a0:V.toInt (List.getD (List.getD r128 i []) 0 V.undef)=(cGrant.dec (List.getD r128 i [])).src:=rfl
   have a1:V.toInt (List.getD (List.getD r128 i []) 1 V.undef)=(cGrant.dec (List.getD r128 i [])).dst:=rfl
   have a2:V.toInt (List.getD (List.getD r128 i []) 2 V.undef)=(cGrant.dec (List.getD r128 i [])).budget:=rfl
   simp only [a0,a1,a2] at hq
   simp only [List.map_cons]
   generalize cGrant.dec (List.getD r128 i [])=x at *
   have t4:decide ((0:Int)≤i∧(i:Int)≤((cPolicy.dec cx0).grants.length:Int))=true:=decide_eq_true (by omega)
   have t5:Nat.ble (min i (cPolicy.dec cx0).grants.length) 3000=true:=Nat.ble_eq_true_of_le (by omega)
   simp only [rows_len2,rows_len4,List.drop_zero,List.length_take,t4,t5,beq_self_eq_true,cond_true,List.map_take,pol_grants] at hq
   have hu:N.there (cPolicy.dec cx0) x.src=true→N.there (cPolicy.dec cx0) x.dst=true→N.refUnder ⟨V.toInt (List.getD (List.getD (V.toRows (List.getD cx0 2 V.undef)) x.src.toNat []) 1 V.undef),V.toInt (List.getD (List.getD (V.toRows (List.getD cx0 2 V.undef)) x.src.toNat []) 2 V.undef)⟩ ⟨V.toInt (List.getD (List.getD (V.toRows (List.getD cx0 2 V.undef)) x.dst.toNat []) 1 V.undef),V.toInt (List.getD (List.getD (V.toRows (List.getD cx0 2 V.undef)) x.dst.toNat []) 2 V.undef)⟩=N.under (N.plAt (cPolicy.dec cx0) x.src).label (N.plAt (cPolicy.dec cx0) x.dst).label:=fun h1 h2=>by
    have h1:=there_of h1
    have h2:=there_of h2
    have lab:∀ k:Nat,k<(cPolicy.dec cx0).places.length→(⟨V.toInt (List.getD (List.getD (V.toRows (List.getD cx0 2 V.undef)) k []) 1 V.undef),V.toInt (List.getD (List.getD (V.toRows (List.getD cx0 2 V.undef)) k []) 2 V.undef)⟩:Label)=((cPolicy.dec cx0).places.getD k place0).label:=fun k hk=>by
     rw [← pol_rows,← dec_at cPlace place0 (by rw [rows_len2]; exact hk)]; rfl
    rw [lab _ (by omega),lab _ (by omega)]
    exact refUnder_eq (okPl_at g5 (by omega)) (okPl_at g5 (by omega))
   have key:=fun K=>(hq K).trans (grant_key (cPolicy.dec cx0) x (List.take i (cPolicy.dec cx0).grants) _ g1 hu (fun e=>K .ret { fr:=[(2,.int .i64 e)],tab:=[] }) _)
   have er:∀ l:List HGrant,N.rGr (cPolicy.dec cx0) (i:Int) (x::l)=cond (N.grantE (cPolicy.dec cx0) x (List.take i (cPolicy.dec cx0).grants) != 0) (N.grantE (cPolicy.dec cx0) x (List.take i (cPolicy.dec cx0).grants)) (N.rGr (cPolicy.dec cx0) ((i:Int)+1) l):=fun _=>rfl
   cases hc:N.grantE (cPolicy.dec cx0) x (List.take i (cPolicy.dec cx0).grants) != 0 with
   | true =>
    refine .inr ⟨.ret,{ fr:=[(2,.int .i64 (N.grantE (cPolicy.dec cx0) x (List.take i (cPolicy.dec cx0).grants)))],tab:=[] },by simp,fun K=>?_,fun K=>?_⟩
    ·rw [key,hc]; rfl
    ·simp only [er,hc,cond_true]
   | false =>
    refine .inl ⟨(i:Int)+1,by omega,fun K=>?_,fun K=>?_⟩
    ·rw [key,hc]; rfl
    ·simp only [er,hc,cond_false]
  ·refine ⟨.exit 6,_,by simp,fun K=>?_,fun K=>rfl⟩
   rw [q_rCheckPR36]
   simp (disch:=omega) only [evs]
   try rfl
 ·cases h
theorem ok_rCheckP_45:RoundsOk eRCheckP 29 45:=by
 refine rounds_of rfl fun l K q h=>?_
 unfold gRCheckP45 at h
 split at h
 ·rename_i i3 r128 i129 i130 r181 i182 i183 cx0 ix1 ix1_1 ix1_2
  have h1:=(cond_none h).1; replace h:=(cond_none h).2; have h2:=(cond_none h).1; replace h:=(cond_none h).2; have h3:=(cond_none h).1; replace h:=(cond_none h).2
  have e1:=ieq_of h1
  have e2:=ieq_of h2
  subst e1 e2
  have h3:r181.length≤3000:=ble_of h3
  have main:=range_ind (E:=eRCheckP) (f:=29) (id:=45) (A:=Unit) (r181) (fun a i=>{ fr:=[(1,.ptr 10000 0 0 0),(3,.int .i64 i3),(12,.ptr 10001 0 0 0),(128,.slc [.int .i64,.int .i64,.int .i64] r128),(129,.int .i64 i129),(130,.int .i64 i130),(181,.slc [.int .i64,.int .i64,.int .i64] r181),(182,.int .i64 r181.length),(183,.int .i64 i)],tab:=[(10000,.var (etaRow xsPolicy 0 cx0)),(10001,.var [.int .i64 ix1,.int .i64 ix1_1,.int .i64 ix1_2])] }) (fun a i=>True)
   (fun a rows K=>cond ((rows.map cGrant.dec).any (N.isGr ix1 ix1_1)) (K .ret { fr:=[(2,.int .i64 9)],tab:=[] }) (K (.exit 8) { fr:=[(1,.ptr 10000 0 0 0),(3,.int .i64 i3),(128,.slc [.int .i64,.int .i64,.int .i64] r128),(129,.int .i64 i129),(130,.int .i64 i130)],tab:=[(10000,.var (etaRow xsPolicy 0 cx0))] })) (fun a i ha hi=>?_) (fun a ha=>?_) (()) 0 (Int.le_refl _) (by omega) trivial K q (by assumption)
  ·exact main
  ·have hq:=fun K=>q_rCheckPR45 (i3) (r128) (i129) (i130) (r181) (r181.length) ((i:Int)) (cx0) (ix1) (ix1_1) (ix1_2) K
   have t1:ilt (i:Int) r181.length=true:=ilt_t (by omega)
   have t2:decide ((0:Int)≤i∧(i:Int)<r181.length)=true:=decide_eq_true (by omega)
   have t3:IntKind.wrap .i64 ((i:Int)+1)=(i:Int)+1:=wr_i64 (by omega) (by omega)
   simp only [Int.toNat_natCast] at hq
   simp only [t1,t2,t3,cond_true] at hq
   have a0:V.toInt (List.getD (List.getD r181 i []) 0 V.undef)=(cGrant.dec (List.getD r181 i [])).src:=rfl
   have a1:V.toInt (List.getD (List.getD r181 i []) 1 V.undef)=(cGrant.dec (List.getD r181 i [])).dst:=rfl
   have a2:V.toInt (List.getD (List.getD r181 i []) 2 V.undef)=(cGrant.dec (List.getD r181 i [])).budget:=rfl
   simp only [a0,a1] at hq
   simp only [List.map_cons]
   generalize cGrant.dec (List.getD r181 i [])=x at *
   have er:∀ l:List HGrant,List.any (x::l) (N.isGr ix1 ix1_1)=(cond (x.src==ix1) (x.dst==ix1_1) false || List.any l (N.isGr ix1 ix1_1)):=fun _=>rfl
   cases h1:x.src==ix1 with
   | false =>
    refine .inl ⟨(),trivial,fun K=>?_,fun K=>?_⟩
    ·rw [hq,h1]; rfl
    ·simp only [er,h1,cond_false,Bool.false_or]
   | true =>
    cases h2:x.dst==ix1_1 with
    | true =>
     refine .inr ⟨.ret,{ fr:=[(2,.int .i64 9)],tab:=[] },by simp,fun K=>?_,fun K=>?_⟩
     ·rw [hq,h1,h2]; rfl
     ·simp only [er,h1,h2,cond_true,Bool.true_or]
    | false =>
     refine .inl ⟨(),trivial,fun K=>?_,fun K=>?_⟩
     ·rw [hq,h1,h2]; rfl
     ·simp only [er,h1,h2,cond_true,Bool.false_or]
  ·refine ⟨.exit 8,_,by simp,fun K=>?_,fun K=>rfl⟩
   rw [q_rCheckPR45]
   simp (disch:=omega) only [evs]
   try rfl
 ·cases h
theorem ok_rCheckP_52:RoundsOk eRCheckP 29 52:=by
 refine rounds_of rfl fun l K q h=>?_
 unfold gRCheckP52 at h
 split at h
 ·rename_i i3 i15 cx0
  have g1:=(cond_none h).1; replace h:=(cond_none h).2; have g2:=(cond_none h).1; replace h:=(cond_none h).2; have g3:=(cond_none h).1; replace h:=(cond_none h).2; have g4:=(cond_none h).1; replace h:=(cond_none h).2
  have e1:=ieq_of g1
  have e2:=ieq_of g2
  subst e1 e2
  have h3:=ble_of g3
  have main:=loop_ind (E:=eRCheckP) (f:=29) (id:=52) (σ:=Nat) (fun i=>{ fr:=[(1,.ptr 10000 0 0 0),(3,.int .i64 (cPolicy.dec cx0).places.length),(15,.int .i64 (i:Int))],tab:=[(10000,.var (etaRow xsPolicy 0 cx0))] }) (fun i=>i≤(cPolicy.dec cx0).places.length) (fun i=>(cPolicy.dec cx0).places.length-i)
   (fun i K=>cond (N.lacks (cPolicy.dec cx0) ((cPolicy.dec cx0).places.length-i) i==0) (K (.exit 10) { fr:=[],tab:=[] }) (K .ret { fr:=[(2,.int .i64 15)],tab:=[] })) (fun i hi=>?_) 0 (Nat.zero_le _) K q (by assumption)
  ·exact main
  ·have hn:=fun K=>q_rCheckPR52 (cPolicy.dec cx0).places.length (i:Int) cx0 K
   simp only [rows_len3,pol_slots,g4,beq_self_eq_true,cond_true] at hn
   by_cases hk:i<(cPolicy.dec cx0).places.length
   ·obtain ⟨j,hj⟩:∃ j,(cPolicy.dec cx0).places.length-i=j+1:=⟨(cPolicy.dec cx0).places.length-i-1,by omega⟩
    have hj' : (cPolicy.dec cx0).places.length-(i+1)=j:=by omega
    have er:N.lacks (cPolicy.dec cx0) (j+1) i=cond ((cPolicy.dec cx0).slots.any (·==(i:Int))) (N.lacks (cPolicy.dec cx0) j (i+1)) 15:=rfl
    have t1:ilt (i:Int) ((cPolicy.dec cx0).places.length:Int)=true:=ilt_t (by omega)
    have t2:IntKind.wrap .i64 ((i:Int)+1)=(i:Int)+1:=wr_i64 (by omega) (by omega)
    simp only [t1,t2,cond_true] at hn
    cases hc:(cPolicy.dec cx0).slots.any (·==(i:Int)) with
    | true =>
     refine .inl ⟨i+1,hk,by omega,fun K=>?_,fun K=>?_⟩
     ·rw [hn,hc]; rfl
     ·simp only [hj,hj',er,hc,cond_true]
    | false =>
     refine .inr ⟨.ret,{ fr:=[(2,.int .i64 15)],tab:=[] },by simp,fun K=>?_,fun K=>?_⟩
     ·rw [hn,hc]; rfl
     ·simp only [hj,er,hc,cond_false]; rfl
   ·obtain rfl:i=(cPolicy.dec cx0).places.length:=by omega
    refine .inr ⟨.exit 10,{ fr:=[],tab:=[] },by simp,fun K=>?_,fun K=>?_⟩
    ·rw [hn,ilt_f (Int.le_refl _)]; rfl
    ·rw [Nat.sub_self]; rfl
 ·cases h
theorem ok_rCheckP_56:RoundsOk eRCheckP 29 56:=by
 refine rounds_of rfl fun l K q h=>?_
 unfold gRCheckP56 at h
 split at h
 ·rename_i i3 i15 b16 r207 i208 i209 cx0
  have h1:=(cond_none h).1; replace h:=(cond_none h).2; have h2:=(cond_none h).1; replace h:=(cond_none h).2; have h3:=(cond_none h).1; replace h:=(cond_none h).2
  have e1:=ieq_of h1
  have e2:=ieq_of h2
  subst e1 e2
  have h3:r207.length≤3000:=ble_of h3
  have main:=range_ind (E:=eRCheckP) (f:=29) (id:=56) (A:=Bool) (r207) (fun a i=>{ fr:=[(1,.ptr 10000 0 0 0),(3,.int .i64 i3),(15,.int .i64 i15),(16,.bool a),(207,.slc [.int .i64] r207),(208,.int .i64 r207.length),(209,.int .i64 i)],tab:=[(10000,.var (etaRow xsPolicy 0 cx0))] }) (fun a i=>True)
   (fun a rows K=>K (.exit 12) { fr:=[(1,.ptr 10000 0 0 0),(3,.int .i64 i3),(15,.int .i64 i15),(16,.bool (cond a true ((rows.map (rInt .i64).dec).any (·==i15))))],tab:=[(10000,.var (etaRow xsPolicy 0 cx0))] }) (fun a i ha hi=>?_) (fun a ha=>?_) (b16) 0 (Int.le_refl _) (by omega) trivial K q (by assumption)
  ·exact main
  ·have hq:=fun K=>q_rCheckPR56 (i3) (i15) (a) (r207) (r207.length) ((i:Int)) (cx0) K
   have t1:ilt (i:Int) r207.length=true:=ilt_t (by omega)
   have t2:decide ((0:Int)≤i∧(i:Int)<r207.length)=true:=decide_eq_true (by omega)
   have t3:IntKind.wrap .i64 ((i:Int)+1)=(i:Int)+1:=wr_i64 (by omega) (by omega)
   simp only [Int.toNat_natCast] at hq
   simp only [t1,t2,t3,cond_true] at hq
   have a0:V.toInt (List.getD (List.getD r207 i []) 0 V.undef)=(rInt .i64).dec (List.getD r207 i []):=rfl
   simp only [a0] at hq
   simp only [List.map_cons]
   generalize (rInt .i64).dec (List.getD r207 i [])=x at *
   have er:∀ l:List Int,(List.any (x::l) fun x=>x==i15)=((x==i15) || List.any l fun x=>x==i15):=fun _=>rfl
   refine .inl ⟨cond a true (x==i15),trivial,fun K=>?_,fun K=>?_⟩
   ·rw [hq]; cases a<;>rfl
   ·simp only [er]
    cases a<;>cases x==i15<;>rfl
  ·refine ⟨.exit 12,_,by simp,fun K=>?_,fun K=>rfl⟩
   rw [q_rCheckPR56]
   simp (disch:=omega) only [evs]
   cases a<;>rfl
 ·cases h
theorem ok_rCheckP:FnOk Tryz.prog 29 dCheckR:=by
 refine den_okF (env_ok (((TOk.nil _).cons ok_refUnder).cons ok_refName)) (E:=eRCheckP) Tryz.func29 [9,17,28,36,45,52,56] (by kernel_rfl) (consN ok_rCheckP_9 (consN ok_rCheckP_17 (consN ok_rCheckP_28 (consN ok_rCheckP_36 (consN ok_rCheckP_45 (consN ok_rCheckP_52 (one1 ok_rCheckP_56))))))) fun a b hp=>?_
 obtain ⟨hc,hok⟩:=bcond (show cond (fewC a) (a.places.all okPl) false=true from hp)
 obtain ⟨hf,hnm⟩:=bcond hc
 obtain ⟨f1,f2⟩:=bcond hf
 obtain ⟨f2,f3⟩:=bcond f2
 have hnm' : ((a.places.map cPlace.enc).all fun r=>Nat.ble (List.length (V.toStr (List.getD r 0 V.undef))) 1000000)=true:=by
  rw [List.all_map]; exact hnm
 have r1:Nat.ble a.places.length a.places.length=true:=Nat.ble_eq_true_of_le (Nat.le_refl _)
 have r2:Nat.ble a.grants.length a.grants.length=true:=Nat.ble_eq_true_of_le (Nat.le_refl _)
 have hok' : (List.all a.places fun x=>bif bif ile (0:Int) (Label.level (HPlace.label x)) then ile (Label.level (HPlace.label x)) (255:Int) else false then bif ile (0:Int) (Label.set (HPlace.label x)) then ilt (Label.set (HPlace.label x)) (4294967296:Int) else false else false)=true:=hok
 refine (q_rCheckP a).trans ?_
 simp only [dec_encsY,List.length_map,fold_pol,f1,f2,f3,hnm',hok',r1,r2,beq_self_eq_true,cond_true]
 exact check_key a rfl rfl rfl rfl rfl rfl rfl rfl rfl fun e=>some (⟨.int .i64 e,[],[]⟩:DRes)
end Go.Ev

/- Policies that are gone through: lemmas,no condition. -/
namespace Go.Ev
open Go Go.Proofs
set_option maxRecDepth 100000
-- FOLD
namespace N
end N
end Go.Ev

/- A policy as the document's: lemmas,no condition. -/
namespace Go.Ev
open Go Go.Proofs
set_option maxRecDepth 100000
-- FOLD
def dLawTo:Den:=den (aOne (vAgg cPolicy)) bNil (oV (vAgg cPolicy)) (fun p _=>fewP p) fun p _=>(p,())
def schLawTo3:SSch:={ fr:=[(1,.ptr 10000 0 0),(2,.ptr 10001 0 0),(3,.ptr 10005 0 0),(14,.slc [.str,.int .u8,.int .u32,.int .i64,.int .u64]),(15,.int .i64),(16,.int .i64)],tab:=[(10000,.row [] xsPolicy),(10002,.sl [.str,.int .u8,.int .u32,.int .i64,.int .u64]),(10003,.sl [.int .i64]),(10004,.sl [.int .i64,.int .i64,.int .i64]),(10001,.var [.int .i64,.int .i64,.own 10002,.own 10003,.own 10004]),(10006,.sl [.str,.int .u8,.int .u32,.int .i64,.int .u64]),(10007,.sl [.int .i64]),(10008,.sl [.int .i64,.int .i64,.int .i64]),(10005,.var [.int .i64,.int .i64,.own 10006,.own 10007,.own 10008])] }
def gLawTo3:List Leaf→(Ex→St→Option R)→Option R
 | [.r r14,.i i15,.i i16,.c cx0,.r rx2,.r rx3,.r rx4,.i ix1,.i ix1_1,.r rx6,.r rx7,.r rx8,.i ix5,.i ix5_1],K=>cond (i15==r14.length) (cond (i16==0) (cond (Nat.ble r14.length 3000) (cond (Nat.beq rx6.length 0) (K (.exit 0) { fr:=[(1,.ptr 10000 0 0 0),(2,.ptr 10001 0 0 0),(3,.ptr 10005 0 0 0)],tab:=[(10000,.var (etaRow xsPolicy 0 cx0)),(10002,.sl [.str,.int .u8,.int .u32,.int .i64,.int .u64] rx2 0),(10003,.sl [.int .i64] rx3 0),(10004,.sl [.int .i64,.int .i64,.int .i64] rx4 0),(10001,.var [.int .i64 ix1,.int .i64 ix1_1,.own 10002 0,.own 10003 0,.own 10004 0]),(10006,.sl [.str,.int .u8,.int .u32,.int .i64,.int .u64] ((([]:List HPlace)++((r14).map cPlace.dec)).map cPlace.enc) 0),(10007,.sl [.int .i64] rx7 0),(10008,.sl [.int .i64,.int .i64,.int .i64] rx8 0),(10005,.var [.int .i64 ix5,.int .i64 ix5_1,.own 10006 0,.own 10007 0,.own 10008 0])] }) none) none) none) none
 | _,_=>none
def schLawTo9:SSch:={ fr:=[(2,.ptr 10000 0 0),(3,.ptr 10004 0 0),(34,.slc [.int .i64,.int .i64,.int .i64]),(35,.int .i64),(36,.int .i64)],tab:=[(10001,.sl [.str,.int .u8,.int .u32,.int .i64,.int .u64]),(10002,.sl [.int .i64]),(10003,.sl [.int .i64,.int .i64,.int .i64]),(10000,.var [.int .i64,.int .i64,.own 10001,.own 10002,.own 10003]),(10005,.sl [.str,.int .u8,.int .u32,.int .i64,.int .u64]),(10006,.sl [.int .i64]),(10007,.sl [.int .i64,.int .i64,.int .i64]),(10004,.var [.int .i64,.int .i64,.own 10005,.own 10006,.own 10007])] }
def gLawTo9:List Leaf→(Ex→St→Option R)→Option R
 | [.r r34,.i i35,.i i36,.r rx1,.r rx2,.r rx3,.i ix0,.i ix0_1,.r rx5,.r rx6,.r rx7,.i ix4,.i ix4_1],K=>cond (i35==r34.length) (cond (i36==0) (cond (Nat.ble r34.length 3000) (cond (Nat.beq rx7.length 0) (K (.exit 2) { fr:=[(2,.ptr 10000 0 0 0),(3,.ptr 10004 0 0 0)],tab:=[(10001,.sl [.str,.int .u8,.int .u32,.int .i64,.int .u64] rx1 0),(10002,.sl [.int .i64] rx2 0),(10003,.sl [.int .i64,.int .i64,.int .i64] rx3 0),(10000,.var [.int .i64 ix0,.int .i64 ix0_1,.own 10001 0,.own 10002 0,.own 10003 0]),(10005,.sl [.str,.int .u8,.int .u32,.int .i64,.int .u64] rx5 0),(10006,.sl [.int .i64] rx6 0),(10007,.sl [.int .i64,.int .i64,.int .i64] ((([]:List HGrant)++((r34).map cGrant.dec)).map cGrant.enc) 0),(10004,.var [.int .i64 ix4,.int .i64 ix4_1,.own 10005 0,.own 10006 0,.own 10007 0])] }) none) none) none) none
 | _,_=>none
noncomputable def eLawTo:Env:=env Tryz.prog [] [(9,loopF schLawTo9 gLawTo9),(3,loopF schLawTo3 gLawTo3)] [(3,[(0,[1,2,3,14,15,16]),(1,[1,2,3]),(1000,[2])]),(9,[(0,[2,3,34,35,36]),(3,[2,3]),(1000,[2])])]
theorem q_lawTo (p:HPolicy):evFn eLawTo 13 ((aOne (vAgg cPolicy)).enc p) ([]) some =
 cond ((↑(List.length (List.map (RCod.enc cPlace) (HPolicy.places p))):Int)==(↑(List.length (List.map (RCod.enc cPlace) (HPolicy.places p))):Int)) (cond (Nat.ble (List.length (List.map (RCod.enc cPlace) (HPolicy.places p))) 3000) (cond (decide ((0+List.length (List.map (RCod.enc (rInt .i64)) (HPolicy.slots p)))*8≤140737488355328)) (cond ((↑(List.length (List.map (RCod.enc cGrant) (HPolicy.grants p))):Int)==(↑(List.length (List.map (RCod.enc cGrant) (HPolicy.grants p))):Int)) (cond (Nat.ble (List.length (List.map (RCod.enc cGrant) (HPolicy.grants p))) 3000) (some {v:=V.agg [V.int .i64 (HPolicy.work p),V.int .i64 (HPolicy.give p),V.slc [.str,.int .u8,.int .u32,.int .i64,.int .u64] (List.map (RCod.enc cPlace) ([]++List.map (RCod.dec cPlace) (List.map (RCod.enc cPlace) (HPolicy.places p)))),V.slc [.int .i64] ([]++List.map (RCod.enc (rInt .i64)) (HPolicy.slots p)),V.slc [.int .i64,.int .i64,.int .i64] (List.map (RCod.enc cGrant) ([]++List.map (RCod.dec cGrant) (List.map (RCod.enc cGrant) (HPolicy.grants p))))],bx:=[]:DRes}) (none)) (none)) (none)) (none)) (none):=by kernel_rfl
theorem q_lawToR3 (r14:List (List V)) (i15:Int) (i16:Int) (cx0:List V) (rx2:List (List V)) (rx3:List (List V)) (rx4:List (List V)) (ix1:Int) (ix1_1:Int) (rx6:List (List V)) (rx7:List (List V)) (rx8:List (List V)) (ix5:Int) (ix5_1:Int) (K:Ex→St→Option R):evRound eLawTo 13 3 { fr:=[(1,.ptr 10000 0 0 0),(2,.ptr 10001 0 0 0),(3,.ptr 10005 0 0 0),(14,.slc [.str,.int .u8,.int .u32,.int .i64,.int .u64] r14),(15,.int .i64 i15),(16,.int .i64 i16)],tab:=[(10000,.var (etaRow xsPolicy 0 cx0)),(10002,.sl [.str,.int .u8,.int .u32,.int .i64,.int .u64] rx2 0),(10003,.sl [.int .i64] rx3 0),(10004,.sl [.int .i64,.int .i64,.int .i64] rx4 0),(10001,.var [.int .i64 ix1,.int .i64 ix1_1,.own 10002 0,.own 10003 0,.own 10004 0]),(10006,.sl [.str,.int .u8,.int .u32,.int .i64,.int .u64] rx6 0),(10007,.sl [.int .i64] rx7 0),(10008,.sl [.int .i64,.int .i64,.int .i64] rx8 0),(10005,.var [.int .i64 ix5,.int .i64 ix5_1,.own 10006 0,.own 10007 0,.own 10008 0])] } K =
 cond (ilt i16 i15) (cond (decide ((0:Int)≤i16∧i16<(↑(List.length r14):Int))) (cond (decide ((List.length rx6+1)*40≤140737488355328)) (K Ex.normal {fr:=[(1,V.ptr 10000 0 0 0),(2,V.ptr 10001 0 0 0),(3,V.ptr 10005 0 0 0),(14,V.slc [.str,.int .u8,.int .u32,.int .i64,.int .u64] r14),(15,V.int .i64 i15),(16,V.int .i64 (IntKind.wrap .i64 (i16+(1:Int))))],tab:=[(10000,Box.var [V.int .i64 (V.toInt (List.getD cx0 0 .undef)),V.int .i64 (V.toInt (List.getD cx0 1 .undef)),V.slc [.str,.int .u8,.int .u32,.int .i64,.int .u64] (V.toRows (List.getD cx0 2 .undef)),V.slc [.int .i64] (V.toRows (List.getD cx0 3 .undef)),V.slc [.int .i64,.int .i64,.int .i64] (V.toRows (List.getD cx0 4 .undef))]),(10002,Box.sl [.str,.int .u8,.int .u32,.int .i64,.int .u64] rx2 0),(10003,Box.sl [.int .i64] rx3 0),(10004,Box.sl [.int .i64,.int .i64,.int .i64] rx4 0),(10001,Box.var [V.int .i64 ix1,V.int .i64 ix1_1,V.own 10002 0,V.own 10003 0,V.own 10004 0]),(10006,Box.sl [.str,.int .u8,.int .u32,.int .i64,.int .u64] (rx6++[[V.str (V.toStr (List.getD (List.getD r14 (Int.toNat i16) []) 0 V.undef)),V.int .u8 (V.toInt (List.getD (List.getD r14 (Int.toNat i16) []) 1 V.undef)),V.int .u32 (V.toInt (List.getD (List.getD r14 (Int.toNat i16) []) 2 V.undef)),V.int .i64 (V.toInt (List.getD (List.getD r14 (Int.toNat i16) []) 3 V.undef)),V.int .u64 (V.toInt (List.getD (List.getD r14 (Int.toNat i16) []) 4 V.undef))]]) 0),(10007,Box.sl [.int .i64] rx7 0),(10008,Box.sl [.int .i64,.int .i64,.int .i64] rx8 0),(10005,Box.var [V.int .i64 ix5,V.int .i64 ix5_1,V.own 10006 0,V.own 10007 0,V.own 10008 0])]:St}) (none)) (none)) (K (Ex.exit 0) {fr:=[(1,V.ptr 10000 0 0 0),(2,V.ptr 10001 0 0 0),(3,V.ptr 10005 0 0 0)],tab:=[(10000,Box.var [V.int .i64 (V.toInt (List.getD cx0 0 .undef)),V.int .i64 (V.toInt (List.getD cx0 1 .undef)),V.slc [.str,.int .u8,.int .u32,.int .i64,.int .u64] (V.toRows (List.getD cx0 2 .undef)),V.slc [.int .i64] (V.toRows (List.getD cx0 3 .undef)),V.slc [.int .i64,.int .i64,.int .i64] (V.toRows (List.getD cx0 4 .undef))]),(10002,Box.sl [.str,.int .u8,.int .u32,.int .i64,.int .u64] rx2 0),(10003,Box.sl [.int .i64] rx3 0),(10004,Box.sl [.int .i64,.int .i64,.int .i64] rx4 0),(10001,Box.var [V.int .i64 ix1,V.int .i64 ix1_1,V.own 10002 0,V.own 10003 0,V.own 10004 0]),(10006,Box.sl [.str,.int .u8,.int .u32,.int .i64,.int .u64] rx6 0),(10007,Box.sl [.int .i64] rx7 0),(10008,Box.sl [.int .i64,.int .i64,.int .i64] rx8 0),(10005,Box.var [V.int .i64 ix5,V.int .i64 ix5_1,V.own 10006 0,V.own 10007 0,V.own 10008 0])]:St}):=by kernel_rfl
theorem q_lawToR9 (r34:List (List V)) (i35:Int) (i36:Int) (rx1:List (List V)) (rx2:List (List V)) (rx3:List (List V)) (ix0:Int) (ix0_1:Int) (rx5:List (List V)) (rx6:List (List V)) (rx7:List (List V)) (ix4:Int) (ix4_1:Int) (K:Ex→St→Option R):evRound eLawTo 13 9 { fr:=[(2,.ptr 10000 0 0 0),(3,.ptr 10004 0 0 0),(34,.slc [.int .i64,.int .i64,.int .i64] r34),(35,.int .i64 i35),(36,.int .i64 i36)],tab:=[(10001,.sl [.str,.int .u8,.int .u32,.int .i64,.int .u64] rx1 0),(10002,.sl [.int .i64] rx2 0),(10003,.sl [.int .i64,.int .i64,.int .i64] rx3 0),(10000,.var [.int .i64 ix0,.int .i64 ix0_1,.own 10001 0,.own 10002 0,.own 10003 0]),(10005,.sl [.str,.int .u8,.int .u32,.int .i64,.int .u64] rx5 0),(10006,.sl [.int .i64] rx6 0),(10007,.sl [.int .i64,.int .i64,.int .i64] rx7 0),(10004,.var [.int .i64 ix4,.int .i64 ix4_1,.own 10005 0,.own 10006 0,.own 10007 0])] } K =
 cond (ilt i36 i35) (cond (decide ((0:Int)≤i36∧i36<(↑(List.length r34):Int))) (cond (decide ((List.length rx7+1)*24≤140737488355328)) (K Ex.normal {fr:=[(2,V.ptr 10000 0 0 0),(3,V.ptr 10004 0 0 0),(34,V.slc [.int .i64,.int .i64,.int .i64] r34),(35,V.int .i64 i35),(36,V.int .i64 (IntKind.wrap .i64 (i36+(1:Int))))],tab:=[(10001,Box.sl [.str,.int .u8,.int .u32,.int .i64,.int .u64] rx1 0),(10002,Box.sl [.int .i64] rx2 0),(10003,Box.sl [.int .i64,.int .i64,.int .i64] rx3 0),(10000,Box.var [V.int .i64 ix0,V.int .i64 ix0_1,V.own 10001 0,V.own 10002 0,V.own 10003 0]),(10005,Box.sl [.str,.int .u8,.int .u32,.int .i64,.int .u64] rx5 0),(10006,Box.sl [.int .i64] rx6 0),(10007,Box.sl [.int .i64,.int .i64,.int .i64] (rx7++[[V.int .i64 (V.toInt (List.getD (List.getD r34 (Int.toNat i36) []) 0 V.undef)),V.int .i64 (V.toInt (List.getD (List.getD r34 (Int.toNat i36) []) 1 V.undef)),V.int .i64 (V.toInt (List.getD (List.getD r34 (Int.toNat i36) []) 2 V.undef))]]) 0),(10004,Box.var [V.int .i64 ix4,V.int .i64 ix4_1,V.own 10005 0,V.own 10006 0,V.own 10007 0])]:St}) (none)) (none)) (K (Ex.exit 2) {fr:=[(2,V.ptr 10000 0 0 0),(3,V.ptr 10004 0 0 0)],tab:=[(10001,Box.sl [.str,.int .u8,.int .u32,.int .i64,.int .u64] rx1 0),(10002,Box.sl [.int .i64] rx2 0),(10003,Box.sl [.int .i64,.int .i64,.int .i64] rx3 0),(10000,Box.var [V.int .i64 ix0,V.int .i64 ix0_1,V.own 10001 0,V.own 10002 0,V.own 10003 0]),(10005,Box.sl [.str,.int .u8,.int .u32,.int .i64,.int .u64] rx5 0),(10006,Box.sl [.int .i64] rx6 0),(10007,Box.sl [.int .i64,.int .i64,.int .i64] rx7 0),(10004,Box.var [V.int .i64 ix4,V.int .i64 ix4_1,V.own 10005 0,V.own 10006 0,V.own 10007 0])]:St}):=by kernel_rfl
theorem ok_lawTo_3:RoundsOk eLawTo 13 3:=by
 refine rounds_of rfl fun l K q h=>?_
 unfold gLawTo3 at h
 split at h
 ·rename_i r14 i15 i16 cx0 rx2 rx3 rx4 ix1 ix1_1 rx6 rx7 rx8 ix5 ix5_1
  have h1:=(cond_none h).1; replace h:=(cond_none h).2; have h2:=(cond_none h).1; replace h:=(cond_none h).2; have h3:=(cond_none h).1; replace h:=(cond_none h).2; have h4:=(cond_none h).1; replace h:=(cond_none h).2
  have e1:=ieq_of h1
  have e2:=ieq_of h2
  subst e1 e2
  have h3:r14.length≤3000:=ble_of h3
  have e4:=List.eq_nil_of_length_eq_zero (Nat.eq_of_beq_eq_true h4)
  subst e4
  have main:=range_ind (E:=eLawTo) (f:=13) (id:=3) (A:=List HPlace) (r14) (fun a i=>{ fr:=[(1,.ptr 10000 0 0 0),(2,.ptr 10001 0 0 0),(3,.ptr 10005 0 0 0),(14,.slc [.str,.int .u8,.int .u32,.int .i64,.int .u64] r14),(15,.int .i64 r14.length),(16,.int .i64 i)],tab:=[(10000,.var (etaRow xsPolicy 0 cx0)),(10002,.sl [.str,.int .u8,.int .u32,.int .i64,.int .u64] rx2 0),(10003,.sl [.int .i64] rx3 0),(10004,.sl [.int .i64,.int .i64,.int .i64] rx4 0),(10001,.var [.int .i64 ix1,.int .i64 ix1_1,.own 10002 0,.own 10003 0,.own 10004 0]),(10006,.sl [.str,.int .u8,.int .u32,.int .i64,.int .u64] (a.map cPlace.enc) 0),(10007,.sl [.int .i64] rx7 0),(10008,.sl [.int .i64,.int .i64,.int .i64] rx8 0),(10005,.var [.int .i64 ix5,.int .i64 ix5_1,.own 10006 0,.own 10007 0,.own 10008 0])] }) (fun a i=>a.length≤i)
   (fun a rows K=>K (.exit 0) { fr:=[(1,.ptr 10000 0 0 0),(2,.ptr 10001 0 0 0),(3,.ptr 10005 0 0 0)],tab:=[(10000,.var (etaRow xsPolicy 0 cx0)),(10002,.sl [.str,.int .u8,.int .u32,.int .i64,.int .u64] rx2 0),(10003,.sl [.int .i64] rx3 0),(10004,.sl [.int .i64,.int .i64,.int .i64] rx4 0),(10001,.var [.int .i64 ix1,.int .i64 ix1_1,.own 10002 0,.own 10003 0,.own 10004 0]),(10006,.sl [.str,.int .u8,.int .u32,.int .i64,.int .u64] ((a++((rows).map cPlace.dec)).map cPlace.enc) 0),(10007,.sl [.int .i64] rx7 0),(10008,.sl [.int .i64,.int .i64,.int .i64] rx8 0),(10005,.var [.int .i64 ix5,.int .i64 ix5_1,.own 10006 0,.own 10007 0,.own 10008 0])] }) (fun a i ha hi=>?_) (fun a ha=>?_) (([]:List HPlace)) 0 (Int.le_refl _) (by omega) (Nat.zero_le _) K q (by assumption)
  ·exact main
  ·have hq:=fun K=>q_lawToR3 (r14) (r14.length) ((i:Int)) (cx0) (rx2) (rx3) (rx4) (ix1) (ix1_1) ((a.map cPlace.enc)) (rx7) (rx8) (ix5) (ix5_1) K
   have t1:ilt (i:Int) r14.length=true:=ilt_t (by omega)
   have t2:decide ((0:Int)≤i∧(i:Int)<r14.length)=true:=decide_eq_true (by omega)
   have t3:IntKind.wrap .i64 ((i:Int)+1)=(i:Int)+1:=wr_i64 (by omega) (by omega)
   have t5:decide (((a.map cPlace.enc).length+1)*40≤140737488355328)=true:=decide_eq_true (by rw [List.length_map]; omega)
   simp only [Int.toNat_natCast] at hq
   simp only [t1,t2,t3,cond_true,t5] at hq
   refine .inl ⟨a++[cPlace.dec (r14.getD i [])],by rw [List.length_append,List.length_singleton]; omega,fun K=>?_,fun K=>?_⟩
   ·rw [hq]
    simp only [List.map_append]
    try rfl
   ·simp only [List.map_cons,List.append_assoc,List.singleton_append]
  ·refine ⟨.exit 0,_,by simp,fun K=>?_,fun K=>rfl⟩
   rw [q_lawToR3,ilt_f (Int.le_refl _)]
   simp only [List.map_nil,List.append_nil]
   try rfl
 ·cases h
theorem ok_lawTo_9:RoundsOk eLawTo 13 9:=by
 refine rounds_of rfl fun l K q h=>?_
 unfold gLawTo9 at h
 split at h
 ·rename_i r34 i35 i36 rx1 rx2 rx3 ix0 ix0_1 rx5 rx6 rx7 ix4 ix4_1
  have h1:=(cond_none h).1; replace h:=(cond_none h).2; have h2:=(cond_none h).1; replace h:=(cond_none h).2; have h3:=(cond_none h).1; replace h:=(cond_none h).2; have h4:=(cond_none h).1; replace h:=(cond_none h).2
  have e1:=ieq_of h1
  have e2:=ieq_of h2
  subst e1 e2
  have h3:r34.length≤3000:=ble_of h3
  have e4:=List.eq_nil_of_length_eq_zero (Nat.eq_of_beq_eq_true h4)
  subst e4
  have main:=range_ind (E:=eLawTo) (f:=13) (id:=9) (A:=List HGrant) (r34) (fun a i=>{ fr:=[(2,.ptr 10000 0 0 0),(3,.ptr 10004 0 0 0),(34,.slc [.int .i64,.int .i64,.int .i64] r34),(35,.int .i64 r34.length),(36,.int .i64 i)],tab:=[(10001,.sl [.str,.int .u8,.int .u32,.int .i64,.int .u64] rx1 0),(10002,.sl [.int .i64] rx2 0),(10003,.sl [.int .i64,.int .i64,.int .i64] rx3 0),(10000,.var [.int .i64 ix0,.int .i64 ix0_1,.own 10001 0,.own 10002 0,.own 10003 0]),(10005,.sl [.str,.int .u8,.int .u32,.int .i64,.int .u64] rx5 0),(10006,.sl [.int .i64] rx6 0),(10007,.sl [.int .i64,.int .i64,.int .i64] (a.map cGrant.enc) 0),(10004,.var [.int .i64 ix4,.int .i64 ix4_1,.own 10005 0,.own 10006 0,.own 10007 0])] }) (fun a i=>a.length≤i)
   (fun a rows K=>K (.exit 2) { fr:=[(2,.ptr 10000 0 0 0),(3,.ptr 10004 0 0 0)],tab:=[(10001,.sl [.str,.int .u8,.int .u32,.int .i64,.int .u64] rx1 0),(10002,.sl [.int .i64] rx2 0),(10003,.sl [.int .i64,.int .i64,.int .i64] rx3 0),(10000,.var [.int .i64 ix0,.int .i64 ix0_1,.own 10001 0,.own 10002 0,.own 10003 0]),(10005,.sl [.str,.int .u8,.int .u32,.int .i64,.int .u64] rx5 0),(10006,.sl [.int .i64] rx6 0),(10007,.sl [.int .i64,.int .i64,.int .i64] ((a++((rows).map cGrant.dec)).map cGrant.enc) 0),(10004,.var [.int .i64 ix4,.int .i64 ix4_1,.own 10005 0,.own 10006 0,.own 10007 0])] }) (fun a i ha hi=>?_) (fun a ha=>?_) (([]:List HGrant)) 0 (Int.le_refl _) (by omega) (Nat.zero_le _) K q (by assumption)
  ·exact main
  ·have hq:=fun K=>q_lawToR9 (r34) (r34.length) ((i:Int)) (rx1) (rx2) (rx3) (ix0) (ix0_1) (rx5) (rx6) ((a.map cGrant.enc)) (ix4) (ix4_1) K
   have t1:ilt (i:Int) r34.length=true:=ilt_t (by omega)
   have t2:decide ((0:Int)≤i∧(i:Int)<r34.length)=true:=decide_eq_true (by omega)
   have t3:IntKind.wrap .i64 ((i:Int)+1)=(i:Int)+1:=wr_i64 (by omega) (by omega)
   have t5:decide (((a.map cGrant.enc).length+1)*24≤140737488355328)=true:=decide_eq_true (by rw [List.length_map]; omega)
   simp only [Int.toNat_natCast] at hq
   simp only [t1,t2,t3,cond_true,t5] at hq
   refine .inl ⟨a++[cGrant.dec (r34.getD i [])],by rw [List.length_append,List.length_singleton]; omega,fun K=>?_,fun K=>?_⟩
   ·rw [hq]
    simp only [List.map_append]
    try rfl
   ·simp only [List.map_cons,List.append_assoc,List.singleton_append]
  ·refine ⟨.exit 2,_,by simp,fun K=>?_,fun K=>rfl⟩
   rw [q_lawToR9,ilt_f (Int.le_refl _)]
   simp only [List.map_nil,List.append_nil]
   try rfl
 ·cases h
theorem ok_lawTo:FnOk Tryz.prog 13 dLawTo:=by
 refine den_okF (env_ok (TOk.nil _)) (E:=eLawTo) Tryz.func13 [3,9] (by kernel_rfl) (two2 ok_lawTo_3 ok_lawTo_9) fun a b hp=>?_
 have hf:fewP a=true:=hp
 obtain ⟨f1,f2⟩:=bcond hf
 obtain ⟨f2,f3⟩:=bcond f2
 refine (q_lawTo a).trans ?_
 have f2':=ble_of f2
 have t5:decide ((0+a.slots.length)*8≤140737488355328)=true:=decide_eq_true (by omega)
 simp only [List.length_map,dec_encsY,f1,f3,t5,beq_self_eq_true,cond_true,List.nil_append]
 try rfl
end Go.Ev

/- Policies: the chapter's example,which may be,and the statement on flows: lemmas; the function that writes numbers is a premise. -/
namespace Go.Ev
open Go Go.Proofs
set_option maxRecDepth 100000
-- FOLD
noncomputable def eAw4p:Env:=env Tryz.prog [(69,dTrueW)] [] []
theorem q_aw4p:evFn eAw4p 36 [] [] some=some ⟨.bool true,[],[]⟩:=by kernel_rfl
theorem ok_aw4p:FnOk Tryz.prog 36 dTrue:=den_okF (env_ok ((TOk.nil _).cons ok_awW)) (E:=eAw4p) Tryz.func36 [] (by kernel_rfl) none0 fun _ _ _=>q_aw4p
noncomputable def eAw3p:Env:=env Tryz.prog [(68,dTrue)] [] []
theorem q_aw3p:evFn eAw3p 35 [] [] some=some ⟨.bool true,[],[]⟩:=by kernel_rfl
theorem ok_aw3p (hN:FnOk Tryz.prog 127 dOutNum):FnOk Tryz.prog 35 dTrue:=den_okF (env_ok ((TOk.nil _).cons (ok_aw3 hN))) (E:=eAw3p) Tryz.func35 [] (by kernel_rfl) none0 fun _ _ _=>q_aw3p
noncomputable def eAw5:Env:=env Tryz.prog [(10,dPParse),(35,dTrue),(36,dTrue)] [] []
theorem q_aw5:evFn eAw5 9 [] [] some=some ⟨.bool true,[],[]⟩:=by kernel_rfl
theorem ok_aw5 (hN:FnOk Tryz.prog 127 dOutNum):FnOk Tryz.prog 9 dTrue:=den_okF (env_ok ((((TOk.nil _).cons ok_aw4p).cons (ok_aw3p hN)).cons ok_pParse)) (E:=eAw5) Tryz.func9 [] (by kernel_rfl) none0 fun _ _ _=>q_aw5
namespace N
end N
end Go.Ev

/- A line of a policy by the document,gone through in place: lemmas,no condition. -/
namespace Go.Ev
open Go Go.Proofs
set_option maxRecDepth 100000
noncomputable def eRLine:Env:=env Tryz.prog [(77,dSmallP),(78,dRParse3),(79,dPNumber),(33,dFindR)] [] []
theorem x_rline:FnOkX Tryz.prog 42 (evFnX eRLine 42) :=
 x_okF (E:=eRLine) (env_ok (((((TOk.nil _).cons ok_rFindP).cons ok_rNumberP).cons ok_rParse3).cons ok_rSmallP)) (fun _=>rfl) Tryz.func42 (by kernel_rfl)
end Go.Ev

/- Whether two policies are the same,by the document: lemmas,no condition. -/
namespace Go.Ev
open Go Go.Proofs
set_option maxRecDepth 100000
-- FOLD
namespace N
def allFrom (f:Nat→Bool):Nat→Nat→Bool
 | 0,_=>true
 | k+1,i=>cond (f i) (allFrom f k (i+1)) false
def eqPl (x y:HPlace):Bool:=x.name==y.name && ((x.label.level==y.label.level && (x.label.set==y.label.set && true)) && (x.bytes==y.bytes && (x.base==y.base && true)))
def eqGr (x y:HGrant):Bool:=x.src==y.src && (x.dst==y.dst && (x.budget==y.budget && true))
def samePl (p q:HPolicy):Bool:=allFrom (fun i=>eqPl (p.places.getD i place0) (q.places.getD i place0)) p.places.length 0
def sameSl (p q:HPolicy):Bool:=allFrom (fun i=>p.slots.getD i 0==q.slots.getD i 0) p.slots.length 0
def sameGr (p q:HPolicy):Bool:=allFrom (fun i=>eqGr (p.grants.getD i grant0) (q.grants.getD i grant0)) p.grants.length 0
def sameP (p q:HPolicy):Bool:=cond (cond (p.work==q.work) (cond (p.give==q.give) (cond (p.places.length==q.places.length) (cond (p.slots.length==q.slots.length) (p.grants.length==q.grants.length) false) false) false) false)
 (cond (samePl p q) (cond (sameSl p q) (sameGr p q) false) false) false
end N
theorem allFrom_t {f:Nat→Bool} (h:∀ i,f i=true):∀ (k i:Nat),N.allFrom f k i=true
 | 0,_=>rfl
 | k+1,i=>by
  show cond (f i) (N.allFrom f k (i+1)) false=true
  rw [h i]
  exact allFrom_t h k (i+1)
theorem sameP_refl (p:HPolicy):N.sameP p p=true:=by
 unfold N.sameP N.samePl N.sameSl N.sameGr
 rw [allFrom_t (fun i=>by unfold N.eqPl; simp),allFrom_t (fun i=>by simp),allFrom_t (fun i=>by unfold N.eqGr; simp)]
 simp
def dSamePol:Den:=den (aCons (vAgg cPolicy) (aOne (vAgg cPolicy))) bNil (oV vBool) (fun a _=>cond (fewP a.1) (fewP a.2) false) fun a _=>(N.sameP a.1 a.2,())
def schRSameP4:SSch:={ fr:=[(2,.ptr 10000 0 0),(3,.ptr 10001 0 0),(49,.int .i64),(50,.int .i64)],tab:=[(10000,.row [] xsPolicy),(10001,.row [] xsPolicy)] }
def gRSameP4:List Leaf→(Ex→St→Option R)→Option R
 | [.i i49,.i i50,.c cx0,.c cx1],K=>cond (i49==(cPolicy.dec cx0).places.length) (cond (i50==0) (cond ((cPolicy.dec cx0).places.length==(cPolicy.dec cx1).places.length) (cond (Nat.ble (cPolicy.dec cx0).places.length 3000) (cond (N.samePl (cPolicy.dec cx0) (cPolicy.dec cx1)) (K (.exit 0) { fr:=[(2,.ptr 10000 0 0 0),(3,.ptr 10001 0 0 0)],tab:=[(10000,.var (etaRow xsPolicy 0 cx0)),(10001,.var (etaRow xsPolicy 0 cx1))] }) (K .ret { fr:=[(4,.bool false)],tab:=[] })) none) none) none) none
 | _,_=>none
def schRSameP10:SSch:={ fr:=[(2,.ptr 10000 0 0),(3,.ptr 10001 0 0),(67,.int .i64),(68,.int .i64)],tab:=[(10000,.row [] xsPolicy),(10001,.row [] xsPolicy)] }
def gRSameP10:List Leaf→(Ex→St→Option R)→Option R
 | [.i i67,.i i68,.c cx0,.c cx1],K=>cond (i67==(cPolicy.dec cx0).slots.length) (cond (i68==0) (cond ((cPolicy.dec cx0).slots.length==(cPolicy.dec cx1).slots.length) (cond (Nat.ble (cPolicy.dec cx0).slots.length 3000) (cond (N.sameSl (cPolicy.dec cx0) (cPolicy.dec cx1)) (K (.exit 2) { fr:=[(2,.ptr 10000 0 0 0),(3,.ptr 10001 0 0 0)],tab:=[(10000,.var (etaRow xsPolicy 0 cx0)),(10001,.var (etaRow xsPolicy 0 cx1))] }) (K .ret { fr:=[(4,.bool false)],tab:=[] })) none) none) none) none
 | _,_=>none
def schRSameP16:SSch:={ fr:=[(2,.ptr 10000 0 0),(3,.ptr 10001 0 0),(85,.int .i64),(86,.int .i64)],tab:=[(10000,.row [] xsPolicy),(10001,.row [] xsPolicy)] }
def gRSameP16:List Leaf→(Ex→St→Option R)→Option R
 | [.i i85,.i i86,.c cx0,.c cx1],K=>cond (i85==(cPolicy.dec cx0).grants.length) (cond (i86==0) (cond ((cPolicy.dec cx0).grants.length==(cPolicy.dec cx1).grants.length) (cond (Nat.ble (cPolicy.dec cx0).grants.length 3000) (cond (N.sameGr (cPolicy.dec cx0) (cPolicy.dec cx1)) (K (.exit 4) { fr:=[],tab:=[] }) (K .ret { fr:=[(4,.bool false)],tab:=[] })) none) none) none) none
 | _,_=>none
noncomputable def eRSameP:Env:=env Tryz.prog [] [(16,loopF schRSameP16 gRSameP16),(10,loopF schRSameP10 gRSameP10),(4,loopF schRSameP4 gRSameP4)] [(4,[(0,[2,3,49,50]),(1,[2,3]),(1000,[4])]),(10,[(0,[2,3,67,68]),(3,[2,3]),(1000,[4])]),(16,[(0,[2,3,85,86]),(5,[]),(1000,[4])])]
theorem q_rSameP_ (p q:HPolicy):evFn eRSameP 12 ((aCons (vAgg cPolicy) (aOne (vAgg cPolicy))).enc (p,q)) ([]) some =(
 let z0:=(List.map (RCod.enc (rInt .i64)) (HPolicy.slots p));let z1:=(List.map (RCod.enc cPlace) (HPolicy.places p));let z2:=(List.map (RCod.enc cGrant) (HPolicy.grants p));let z3:=(some {v:=V.bool false,bx:=[]:DRes});let z4:=(List.map (RCod.enc (rInt .i64)) (HPolicy.slots q));let z5:=(List.map (RCod.enc cPlace) (HPolicy.places q));let z6:=(List.map (RCod.enc cGrant) (HPolicy.grants q));let z7:=(List.map (RCod.dec (rInt .i64)) z0);let z8:=(List.map (RCod.dec cPlace) z1);let z9:=(List.map (RCod.dec cGrant) z2);cond (HPolicy.work p != HPolicy.work q) z3 (cond (HPolicy.give p != HPolicy.give q) z3 (cond ((↑(List.length z1):Int) != (↑(List.length z5):Int)) z3 (cond ((↑(List.length z0):Int) != (↑(List.length z4):Int)) z3 (cond ((↑(List.length z2):Int) != (↑(List.length z6):Int)) z3 (cond ((↑(List.length z1):Int)==(↑(List.length z8):Int)) (cond (List.length z8==List.length (List.map (RCod.dec cPlace) z5)) (cond (Nat.ble (List.length z8) 3000) (cond (N.samePl {work:=HPolicy.work p,give:=HPolicy.give p,places:=List.map (RCod.dec cPlace) z1,slots:=List.map (RCod.dec (rInt .i64)) z0,grants:=List.map (RCod.dec cGrant) z2:HPolicy} {work:=HPolicy.work q,give:=HPolicy.give q,places:=List.map (RCod.dec cPlace) z5,slots:=List.map (RCod.dec (rInt .i64)) z4,grants:=List.map (RCod.dec cGrant) z6:HPolicy}) (cond ((↑(List.length z0):Int)==(↑(List.length z7):Int)) (cond (List.length z7==List.length (List.map (RCod.dec (rInt .i64)) z4)) (cond (Nat.ble (List.length z7) 3000) (cond (N.sameSl {work:=HPolicy.work p,give:=HPolicy.give p,places:=List.map (RCod.dec cPlace) z1,slots:=List.map (RCod.dec (rInt .i64)) z0,grants:=List.map (RCod.dec cGrant) z2:HPolicy} {work:=HPolicy.work q,give:=HPolicy.give q,places:=List.map (RCod.dec cPlace) z5,slots:=List.map (RCod.dec (rInt .i64)) z4,grants:=List.map (RCod.dec cGrant) z6:HPolicy}) (cond ((↑(List.length z2):Int)==(↑(List.length z9):Int)) (cond (List.length z9==List.length (List.map (RCod.dec cGrant) z6)) (cond (Nat.ble (List.length z9) 3000) (cond (N.sameGr {work:=HPolicy.work p,give:=HPolicy.give p,places:=List.map (RCod.dec cPlace) z1,slots:=List.map (RCod.dec (rInt .i64)) z0,grants:=List.map (RCod.dec cGrant) z2:HPolicy} {work:=HPolicy.work q,give:=HPolicy.give q,places:=List.map (RCod.dec cPlace) z5,slots:=List.map (RCod.dec (rInt .i64)) z4,grants:=List.map (RCod.dec cGrant) z6:HPolicy}) (some {v:=V.bool true,bx:=[]:DRes}) z3) (none)) (none)) (none)) z3) (none)) (none)) (none)) z3) (none)) (none)) (none))))))):=by kernel_rfl
theorem q_rSameP (p q:HPolicy):type_of% (by have h:=q_rSameP_ p q; dsimp only at h; exact h):=by
 have h:=q_rSameP_ p q
 dsimp only at h
 exact h
theorem q_rSamePR4_ (i49:Int) (i50:Int) (cx0:List V) (cx1:List V) (K:Ex→St→Option R):evRound eRSameP 12 4 { fr:=[(2,.ptr 10000 0 0 0),(3,.ptr 10001 0 0 0),(49,.int .i64 i49),(50,.int .i64 i50)],tab:=[(10000,.var (etaRow xsPolicy 0 cx0)),(10001,.var (etaRow xsPolicy 0 cx1))] } K =(
 let z2:=(V.toRows (List.getD cx0 2 .undef));let z0:=(List.getD z2 (Int.toNat i50) []);let z3:=(V.toRows (List.getD cx1 2 .undef));let z1:=(List.getD z3 (Int.toNat i50) []);cond (ilt i50 i49) (cond (decide ((0:Int)≤i50∧i50<(↑(List.length z2):Int))) (cond (decide ((0:Int)≤i50∧i50<(↑(List.length z3):Int))) (cond (!(V.toStr (List.getD z0 0 V.undef)==V.toStr (List.getD z1 0 V.undef) && (V.toInt (List.getD z0 1 V.undef)==V.toInt (List.getD z1 1 V.undef) && (V.toInt (List.getD z0 2 V.undef)==V.toInt (List.getD z1 2 V.undef) && true) && (V.toInt (List.getD z0 3 V.undef)==V.toInt (List.getD z1 3 V.undef) && (V.toInt (List.getD z0 4 V.undef)==V.toInt (List.getD z1 4 V.undef) && true))))) (K Ex.ret {fr:=[(4,V.bool false)],tab:=[]:St}) (K Ex.normal {fr:=[(2,V.ptr 10000 0 0 0),(3,V.ptr 10001 0 0 0),(49,V.int .i64 i49),(50,V.int .i64 (IntKind.wrap .i64 (i50+(1:Int))))],tab:=[(10000,Box.var [V.int .i64 (V.toInt (List.getD cx0 0 .undef)),V.int .i64 (V.toInt (List.getD cx0 1 .undef)),V.slc [.str,.int .u8,.int .u32,.int .i64,.int .u64] z2,V.slc [.int .i64] (V.toRows (List.getD cx0 3 .undef)),V.slc [.int .i64,.int .i64,.int .i64] (V.toRows (List.getD cx0 4 .undef))]),(10001,Box.var [V.int .i64 (V.toInt (List.getD cx1 0 .undef)),V.int .i64 (V.toInt (List.getD cx1 1 .undef)),V.slc [.str,.int .u8,.int .u32,.int .i64,.int .u64] z3,V.slc [.int .i64] (V.toRows (List.getD cx1 3 .undef)),V.slc [.int .i64,.int .i64,.int .i64] (V.toRows (List.getD cx1 4 .undef))])]:St})) (none)) (none)) (K (Ex.exit 0) {fr:=[(2,V.ptr 10000 0 0 0),(3,V.ptr 10001 0 0 0)],tab:=[(10000,Box.var [V.int .i64 (V.toInt (List.getD cx0 0 .undef)),V.int .i64 (V.toInt (List.getD cx0 1 .undef)),V.slc [.str,.int .u8,.int .u32,.int .i64,.int .u64] z2,V.slc [.int .i64] (V.toRows (List.getD cx0 3 .undef)),V.slc [.int .i64,.int .i64,.int .i64] (V.toRows (List.getD cx0 4 .undef))]),(10001,Box.var [V.int .i64 (V.toInt (List.getD cx1 0 .undef)),V.int .i64 (V.toInt (List.getD cx1 1 .undef)),V.slc [.str,.int .u8,.int .u32,.int .i64,.int .u64] z3,V.slc [.int .i64] (V.toRows (List.getD cx1 3 .undef)),V.slc [.int .i64,.int .i64,.int .i64] (V.toRows (List.getD cx1 4 .undef))])]:St})):=by kernel_rfl
theorem q_rSamePR4 (i49:Int) (i50:Int) (cx0:List V) (cx1:List V) (K:Ex→St→Option R):type_of% (by have h:=q_rSamePR4_ i49 i50 cx0 cx1 K; dsimp only at h; exact h):=by
 have h:=q_rSamePR4_ i49 i50 cx0 cx1 K
 dsimp only at h
 exact h
theorem q_rSamePR10 (i67:Int) (i68:Int) (cx0:List V) (cx1:List V) (K:Ex→St→Option R):evRound eRSameP 12 10 { fr:=[(2,.ptr 10000 0 0 0),(3,.ptr 10001 0 0 0),(67,.int .i64 i67),(68,.int .i64 i68)],tab:=[(10000,.var (etaRow xsPolicy 0 cx0)),(10001,.var (etaRow xsPolicy 0 cx1))] } K =
 cond (ilt i68 i67) (cond (decide ((0:Int)≤i68∧i68<(↑(List.length (V.toRows (List.getD cx0 3 .undef))):Int))) (cond (decide ((0:Int)≤i68∧i68<(↑(List.length (V.toRows (List.getD cx1 3 .undef))):Int))) (cond (V.toInt (List.getD (List.getD (V.toRows (List.getD cx0 3 .undef)) (Int.toNat i68) []) 0 V.undef) != V.toInt (List.getD (List.getD (V.toRows (List.getD cx1 3 .undef)) (Int.toNat i68) []) 0 V.undef)) (K Ex.ret {fr:=[(4,V.bool false)],tab:=[]:St}) (K Ex.normal {fr:=[(2,V.ptr 10000 0 0 0),(3,V.ptr 10001 0 0 0),(67,V.int .i64 i67),(68,V.int .i64 (IntKind.wrap .i64 (i68+(1:Int))))],tab:=[(10000,Box.var [V.int .i64 (V.toInt (List.getD cx0 0 .undef)),V.int .i64 (V.toInt (List.getD cx0 1 .undef)),V.slc [.str,.int .u8,.int .u32,.int .i64,.int .u64] (V.toRows (List.getD cx0 2 .undef)),V.slc [.int .i64] (V.toRows (List.getD cx0 3 .undef)),V.slc [.int .i64,.int .i64,.int .i64] (V.toRows (List.getD cx0 4 .undef))]),(10001,Box.var [V.int .i64 (V.toInt (List.getD cx1 0 .undef)),V.int .i64 (V.toInt (List.getD cx1 1 .undef)),V.slc [.str,.int .u8,.int .u32,.int .i64,.int .u64] (V.toRows (List.getD cx1 2 .undef)),V.slc [.int .i64] (V.toRows (List.getD cx1 3 .undef)),V.slc [.int .i64,.int .i64,.int .i64] (V.toRows (List.getD cx1 4 .undef))])]:St})) (none)) (none)) (K (Ex.exit 2) {fr:=[(2,V.ptr 10000 0 0 0),(3,V.ptr 10001 0 0 0)],tab:=[(10000,Box.var [V.int .i64 (V.toInt (List.getD cx0 0 .undef)),V.int .i64 (V.toInt (List.getD cx0 1 .undef)),V.slc [.str,.int .u8,.int .u32,.int .i64,.int .u64] (V.toRows (List.getD cx0 2 .undef)),V.slc [.int .i64] (V.toRows (List.getD cx0 3 .undef)),V.slc [.int .i64,.int .i64,.int .i64] (V.toRows (List.getD cx0 4 .undef))]),(10001,Box.var [V.int .i64 (V.toInt (List.getD cx1 0 .undef)),V.int .i64 (V.toInt (List.getD cx1 1 .undef)),V.slc [.str,.int .u8,.int .u32,.int .i64,.int .u64] (V.toRows (List.getD cx1 2 .undef)),V.slc [.int .i64] (V.toRows (List.getD cx1 3 .undef)),V.slc [.int .i64,.int .i64,.int .i64] (V.toRows (List.getD cx1 4 .undef))])]:St}):=by kernel_rfl
theorem q_rSamePR16_ (i85:Int) (i86:Int) (cx0:List V) (cx1:List V) (K:Ex→St→Option R):evRound eRSameP 12 16 { fr:=[(2,.ptr 10000 0 0 0),(3,.ptr 10001 0 0 0),(85,.int .i64 i85),(86,.int .i64 i86)],tab:=[(10000,.var (etaRow xsPolicy 0 cx0)),(10001,.var (etaRow xsPolicy 0 cx1))] } K =(
 let z0:=(V.toRows (List.getD cx0 4 .undef));let z1:=(V.toRows (List.getD cx1 4 .undef));let z2:=(List.getD z0 (Int.toNat i86) []);let z3:=(List.getD z1 (Int.toNat i86) []);cond (ilt i86 i85) (cond (decide ((0:Int)≤i86∧i86<(↑(List.length z0):Int))) (cond (decide ((0:Int)≤i86∧i86<(↑(List.length z1):Int))) (cond (!(V.toInt (List.getD z2 0 V.undef)==V.toInt (List.getD z3 0 V.undef) && (V.toInt (List.getD z2 1 V.undef)==V.toInt (List.getD z3 1 V.undef) && (V.toInt (List.getD z2 2 V.undef)==V.toInt (List.getD z3 2 V.undef) && true)))) (K Ex.ret {fr:=[(4,V.bool false)],tab:=[]:St}) (K Ex.normal {fr:=[(2,V.ptr 10000 0 0 0),(3,V.ptr 10001 0 0 0),(85,V.int .i64 i85),(86,V.int .i64 (IntKind.wrap .i64 (i86+(1:Int))))],tab:=[(10000,Box.var [V.int .i64 (V.toInt (List.getD cx0 0 .undef)),V.int .i64 (V.toInt (List.getD cx0 1 .undef)),V.slc [.str,.int .u8,.int .u32,.int .i64,.int .u64] (V.toRows (List.getD cx0 2 .undef)),V.slc [.int .i64] (V.toRows (List.getD cx0 3 .undef)),V.slc [.int .i64,.int .i64,.int .i64] z0]),(10001,Box.var [V.int .i64 (V.toInt (List.getD cx1 0 .undef)),V.int .i64 (V.toInt (List.getD cx1 1 .undef)),V.slc [.str,.int .u8,.int .u32,.int .i64,.int .u64] (V.toRows (List.getD cx1 2 .undef)),V.slc [.int .i64] (V.toRows (List.getD cx1 3 .undef)),V.slc [.int .i64,.int .i64,.int .i64] z1])]:St})) (none)) (none)) (K (Ex.exit 4) {fr:=[],tab:=[]:St})):=by kernel_rfl
theorem q_rSamePR16 (i85:Int) (i86:Int) (cx0:List V) (cx1:List V) (K:Ex→St→Option R):type_of% (by have h:=q_rSamePR16_ i85 i86 cx0 cx1 K; dsimp only at h; exact h):=by
 have h:=q_rSamePR16_ i85 i86 cx0 cx1 K
 dsimp only at h
 exact h
theorem ok_rSameP_4:RoundsOk eRSameP 12 4:=by
 refine rounds_of rfl fun l K q h=>?_
 unfold gRSameP4 at h
 split at h
 ·rename_i i49 i50 cx0 cx1
  have h1:=(cond_none h).1; replace h:=(cond_none h).2; have h2:=(cond_none h).1; replace h:=(cond_none h).2; have h3:=(cond_none h).1; replace h:=(cond_none h).2; have h4:=(cond_none h).1; replace h:=(cond_none h).2
  have e1:=ieq_of h1
  have e2:=ieq_of h2
  subst e1 e2
  have h3' : (cPolicy.dec cx0).places.length=(cPolicy.dec cx1).places.length:=by simpa using h3
  have h4:=ble_of h4
  have main:=loop_ind (E:=eRSameP) (f:=12) (id:=4) (σ:=Nat) (fun k=>{ fr:=[(2,.ptr 10000 0 0 0),(3,.ptr 10001 0 0 0),(49,.int .i64 (cPolicy.dec cx0).places.length),(50,.int .i64 (k:Int))],tab:=[(10000,.var (etaRow xsPolicy 0 cx0)),(10001,.var (etaRow xsPolicy 0 cx1))] }) (fun k=>k≤(cPolicy.dec cx0).places.length) (fun k=>(cPolicy.dec cx0).places.length-k)
   (fun k K=>cond (N.allFrom (fun i=>N.eqPl ((cPolicy.dec cx0).places.getD i place0) ((cPolicy.dec cx1).places.getD i place0)) ((cPolicy.dec cx0).places.length-k) k) (K (.exit 0) { fr:=[(2,.ptr 10000 0 0 0),(3,.ptr 10001 0 0 0)],tab:=[(10000,.var (etaRow xsPolicy 0 cx0)),(10001,.var (etaRow xsPolicy 0 cx1))] }) (K .ret { fr:=[(4,.bool false)],tab:=[] })) (fun k hk=>?_) 0 (Nat.zero_le _) K q (by assumption)
  ·exact main
  ·have hn:=fun K=>q_rSamePR4 (cPolicy.dec cx0).places.length (k:Int) cx0 cx1 K
   simp only [rows_len2,Int.toNat_natCast] at hn
   by_cases hl:k<(cPolicy.dec cx0).places.length
   ·obtain ⟨j,hj⟩:∃ j,(cPolicy.dec cx0).places.length-k=j+1:=⟨(cPolicy.dec cx0).places.length-k-1,by omega⟩
    have hj' : (cPolicy.dec cx0).places.length-(k+1)=j:=by omega
    have er:N.allFrom (fun i=>N.eqPl ((cPolicy.dec cx0).places.getD i place0) ((cPolicy.dec cx1).places.getD i place0)) (j+1) k=cond ((fun i=>N.eqPl ((cPolicy.dec cx0).places.getD i place0) ((cPolicy.dec cx1).places.getD i place0)) k) (N.allFrom (fun i=>N.eqPl ((cPolicy.dec cx0).places.getD i place0) ((cPolicy.dec cx1).places.getD i place0)) j (k+1)) false:=rfl
    have t1:ilt (k:Int) ((cPolicy.dec cx0).places.length:Int)=true:=ilt_t (by omega)
    have t2:decide ((0:Int)≤(k:Int)∧(k:Int)<((cPolicy.dec cx0).places.length:Int))=true:=decide_eq_true (by omega)
    have t3:decide ((0:Int)≤(k:Int)∧(k:Int)<((cPolicy.dec cx1).places.length:Int))=true:=decide_eq_true (by omega)
    have t4:IntKind.wrap .i64 ((k:Int)+1)=(k:Int)+1:=wr_i64 (by omega) (by omega)
    simp only [t1,t2,t3,t4,cond_true] at hn
    have hX:cPlace.dec ((V.toRows (List.getD cx0 2 V.undef)).getD k [])=(cPolicy.dec cx0).places.getD k place0:=by
     rw [← pol_rows]; exact dec_at cPlace place0 (by rw [rows_len2]; exact hl)
    have hY:cPlace.dec ((V.toRows (List.getD cx1 2 V.undef)).getD k [])=(cPolicy.dec cx1).places.getD k place0:=by
     rw [← pol_rows]; exact dec_at cPlace place0 (by rw [rows_len2]; omega)
    have hq:∀ K,evRound eRSameP 12 4 { fr:=[(2,.ptr 10000 0 0 0),(3,.ptr 10001 0 0 0),(49,.int .i64 (cPolicy.dec cx0).places.length),(50,.int .i64 (k:Int))],tab:=[(10000,.var (etaRow xsPolicy 0 cx0)),(10001,.var (etaRow xsPolicy 0 cx1))] } K=cond (!((fun i=>N.eqPl ((cPolicy.dec cx0).places.getD i place0) ((cPolicy.dec cx1).places.getD i place0)) k)) (K .ret { fr:=[(4,.bool false)],tab:=[] }) (K .normal { fr:=[(2,.ptr 10000 0 0 0),(3,.ptr 10001 0 0 0),(49,.int .i64 (cPolicy.dec cx0).places.length),(50,.int .i64 ((k:Int)+1))],tab:=[(10000,.var (etaRow xsPolicy 0 cx0)),(10001,.var (etaRow xsPolicy 0 cx1))] }):=fun K=>by
     refine (hn K).trans ?_
     show _=cond (!(N.eqPl ((cPolicy.dec cx0).places.getD k place0) ((cPolicy.dec cx1).places.getD k place0))) _ _
     rw [← hX,← hY]; rfl
    cases hc:(fun i=>N.eqPl ((cPolicy.dec cx0).places.getD i place0) ((cPolicy.dec cx1).places.getD i place0)) k with
    | true =>
     refine .inl ⟨k+1,hl,by omega,fun K=>?_,fun K=>?_⟩
     ·rw [hq,hc]; rfl
     ·simp only [hj,hj',er,hc,cond_true]
    | false =>
     refine .inr ⟨.ret,{ fr:=[(4,.bool false)],tab:=[] },by simp,fun K=>?_,fun K=>?_⟩
     ·rw [hq,hc]; rfl
     ·simp only [hj,er,hc,cond_false]
   ·obtain rfl:k=(cPolicy.dec cx0).places.length:=by omega
    refine .inr ⟨.exit 0,{ fr:=[(2,.ptr 10000 0 0 0),(3,.ptr 10001 0 0 0)],tab:=[(10000,.var (etaRow xsPolicy 0 cx0)),(10001,.var (etaRow xsPolicy 0 cx1))] },by simp,fun K=>?_,fun K=>?_⟩
    ·rw [hn,ilt_f (Int.le_refl _)]; rfl
    ·rw [Nat.sub_self]; rfl
 ·cases h
theorem ok_rSameP_10:RoundsOk eRSameP 12 10:=by
 refine rounds_of rfl fun l K q h=>?_
 unfold gRSameP10 at h
 split at h
 ·rename_i i67 i68 cx0 cx1
  have h1:=(cond_none h).1; replace h:=(cond_none h).2; have h2:=(cond_none h).1; replace h:=(cond_none h).2; have h3:=(cond_none h).1; replace h:=(cond_none h).2; have h4:=(cond_none h).1; replace h:=(cond_none h).2
  have e1:=ieq_of h1
  have e2:=ieq_of h2
  subst e1 e2
  have h3' : (cPolicy.dec cx0).slots.length=(cPolicy.dec cx1).slots.length:=by simpa using h3
  have h4:=ble_of h4
  have main:=loop_ind (E:=eRSameP) (f:=12) (id:=10) (σ:=Nat) (fun k=>{ fr:=[(2,.ptr 10000 0 0 0),(3,.ptr 10001 0 0 0),(67,.int .i64 (cPolicy.dec cx0).slots.length),(68,.int .i64 (k:Int))],tab:=[(10000,.var (etaRow xsPolicy 0 cx0)),(10001,.var (etaRow xsPolicy 0 cx1))] }) (fun k=>k≤(cPolicy.dec cx0).slots.length) (fun k=>(cPolicy.dec cx0).slots.length-k)
   (fun k K=>cond (N.allFrom (fun i=>((cPolicy.dec cx0).slots.getD i 0)==((cPolicy.dec cx1).slots.getD i 0)) ((cPolicy.dec cx0).slots.length-k) k) (K (.exit 2) { fr:=[(2,.ptr 10000 0 0 0),(3,.ptr 10001 0 0 0)],tab:=[(10000,.var (etaRow xsPolicy 0 cx0)),(10001,.var (etaRow xsPolicy 0 cx1))] }) (K .ret { fr:=[(4,.bool false)],tab:=[] })) (fun k hk=>?_) 0 (Nat.zero_le _) K q (by assumption)
  ·exact main
  ·have hn:=fun K=>q_rSamePR10 (cPolicy.dec cx0).slots.length (k:Int) cx0 cx1 K
   simp only [rows_len3,Int.toNat_natCast] at hn
   by_cases hl:k<(cPolicy.dec cx0).slots.length
   ·obtain ⟨j,hj⟩:∃ j,(cPolicy.dec cx0).slots.length-k=j+1:=⟨(cPolicy.dec cx0).slots.length-k-1,by omega⟩
    have hj' : (cPolicy.dec cx0).slots.length-(k+1)=j:=by omega
    have er:N.allFrom (fun i=>((cPolicy.dec cx0).slots.getD i 0)==((cPolicy.dec cx1).slots.getD i 0)) (j+1) k=cond ((fun i=>((cPolicy.dec cx0).slots.getD i 0)==((cPolicy.dec cx1).slots.getD i 0)) k) (N.allFrom (fun i=>((cPolicy.dec cx0).slots.getD i 0)==((cPolicy.dec cx1).slots.getD i 0)) j (k+1)) false:=rfl
    have t1:ilt (k:Int) ((cPolicy.dec cx0).slots.length:Int)=true:=ilt_t (by omega)
    have t2:decide ((0:Int)≤(k:Int)∧(k:Int)<((cPolicy.dec cx0).slots.length:Int))=true:=decide_eq_true (by omega)
    have t3:decide ((0:Int)≤(k:Int)∧(k:Int)<((cPolicy.dec cx1).slots.length:Int))=true:=decide_eq_true (by omega)
    have t4:IntKind.wrap .i64 ((k:Int)+1)=(k:Int)+1:=wr_i64 (by omega) (by omega)
    simp only [t1,t2,t3,t4,cond_true] at hn
    have hX:(rInt .i64).dec ((V.toRows (List.getD cx0 3 V.undef)).getD k [])=(cPolicy.dec cx0).slots.getD k 0:=by
     rw [← pol_slots]; exact dec_at (rInt .i64) 0 (by rw [rows_len3]; exact hl)
    have hY:(rInt .i64).dec ((V.toRows (List.getD cx1 3 V.undef)).getD k [])=(cPolicy.dec cx1).slots.getD k 0:=by
     rw [← pol_slots]; exact dec_at (rInt .i64) 0 (by rw [rows_len3]; omega)
    have hq:∀ K,evRound eRSameP 12 10 { fr:=[(2,.ptr 10000 0 0 0),(3,.ptr 10001 0 0 0),(67,.int .i64 (cPolicy.dec cx0).slots.length),(68,.int .i64 (k:Int))],tab:=[(10000,.var (etaRow xsPolicy 0 cx0)),(10001,.var (etaRow xsPolicy 0 cx1))] } K=cond (!((fun i=>((cPolicy.dec cx0).slots.getD i 0)==((cPolicy.dec cx1).slots.getD i 0)) k)) (K .ret { fr:=[(4,.bool false)],tab:=[] }) (K .normal { fr:=[(2,.ptr 10000 0 0 0),(3,.ptr 10001 0 0 0),(67,.int .i64 (cPolicy.dec cx0).slots.length),(68,.int .i64 ((k:Int)+1))],tab:=[(10000,.var (etaRow xsPolicy 0 cx0)),(10001,.var (etaRow xsPolicy 0 cx1))] }):=fun K=>by
     refine (hn K).trans ?_
     show _=cond (!(((cPolicy.dec cx0).slots.getD k 0)==((cPolicy.dec cx1).slots.getD k 0))) _ _
     rw [← hX,← hY]; rfl
    cases hc:(fun i=>((cPolicy.dec cx0).slots.getD i 0)==((cPolicy.dec cx1).slots.getD i 0)) k with
    | true =>
     refine .inl ⟨k+1,hl,by omega,fun K=>?_,fun K=>?_⟩
     ·rw [hq,hc]; rfl
     ·simp only [hj,hj',er,hc,cond_true]
    | false =>
     refine .inr ⟨.ret,{ fr:=[(4,.bool false)],tab:=[] },by simp,fun K=>?_,fun K=>?_⟩
     ·rw [hq,hc]; rfl
     ·simp only [hj,er,hc,cond_false]
   ·obtain rfl:k=(cPolicy.dec cx0).slots.length:=by omega
    refine .inr ⟨.exit 2,{ fr:=[(2,.ptr 10000 0 0 0),(3,.ptr 10001 0 0 0)],tab:=[(10000,.var (etaRow xsPolicy 0 cx0)),(10001,.var (etaRow xsPolicy 0 cx1))] },by simp,fun K=>?_,fun K=>?_⟩
    ·rw [hn,ilt_f (Int.le_refl _)]; rfl
    ·rw [Nat.sub_self]; rfl
 ·cases h
theorem ok_rSameP_16:RoundsOk eRSameP 12 16:=by
 refine rounds_of rfl fun l K q h=>?_
 unfold gRSameP16 at h
 split at h
 ·rename_i i85 i86 cx0 cx1
  have h1:=(cond_none h).1; replace h:=(cond_none h).2; have h2:=(cond_none h).1; replace h:=(cond_none h).2; have h3:=(cond_none h).1; replace h:=(cond_none h).2; have h4:=(cond_none h).1; replace h:=(cond_none h).2
  have e1:=ieq_of h1
  have e2:=ieq_of h2
  subst e1 e2
  have h3' : (cPolicy.dec cx0).grants.length=(cPolicy.dec cx1).grants.length:=by simpa using h3
  have h4:=ble_of h4
  have main:=loop_ind (E:=eRSameP) (f:=12) (id:=16) (σ:=Nat) (fun k=>{ fr:=[(2,.ptr 10000 0 0 0),(3,.ptr 10001 0 0 0),(85,.int .i64 (cPolicy.dec cx0).grants.length),(86,.int .i64 (k:Int))],tab:=[(10000,.var (etaRow xsPolicy 0 cx0)),(10001,.var (etaRow xsPolicy 0 cx1))] }) (fun k=>k≤(cPolicy.dec cx0).grants.length) (fun k=>(cPolicy.dec cx0).grants.length-k)
   (fun k K=>cond (N.allFrom (fun i=>N.eqGr ((cPolicy.dec cx0).grants.getD i grant0) ((cPolicy.dec cx1).grants.getD i grant0)) ((cPolicy.dec cx0).grants.length-k) k) (K (.exit 4) { fr:=[],tab:=[] }) (K .ret { fr:=[(4,.bool false)],tab:=[] })) (fun k hk=>?_) 0 (Nat.zero_le _) K q (by assumption)
  ·exact main
  ·have hn:=fun K=>q_rSamePR16 (cPolicy.dec cx0).grants.length (k:Int) cx0 cx1 K
   simp only [rows_len4,Int.toNat_natCast] at hn
   by_cases hl:k<(cPolicy.dec cx0).grants.length
   ·obtain ⟨j,hj⟩:∃ j,(cPolicy.dec cx0).grants.length-k=j+1:=⟨(cPolicy.dec cx0).grants.length-k-1,by omega⟩
    have hj' : (cPolicy.dec cx0).grants.length-(k+1)=j:=by omega
    have er:N.allFrom (fun i=>N.eqGr ((cPolicy.dec cx0).grants.getD i grant0) ((cPolicy.dec cx1).grants.getD i grant0)) (j+1) k=cond ((fun i=>N.eqGr ((cPolicy.dec cx0).grants.getD i grant0) ((cPolicy.dec cx1).grants.getD i grant0)) k) (N.allFrom (fun i=>N.eqGr ((cPolicy.dec cx0).grants.getD i grant0) ((cPolicy.dec cx1).grants.getD i grant0)) j (k+1)) false:=rfl
    have t1:ilt (k:Int) ((cPolicy.dec cx0).grants.length:Int)=true:=ilt_t (by omega)
    have t2:decide ((0:Int)≤(k:Int)∧(k:Int)<((cPolicy.dec cx0).grants.length:Int))=true:=decide_eq_true (by omega)
    have t3:decide ((0:Int)≤(k:Int)∧(k:Int)<((cPolicy.dec cx1).grants.length:Int))=true:=decide_eq_true (by omega)
    have t4:IntKind.wrap .i64 ((k:Int)+1)=(k:Int)+1:=wr_i64 (by omega) (by omega)
    simp only [t1,t2,t3,t4,cond_true] at hn
    have hX:cGrant.dec ((V.toRows (List.getD cx0 4 V.undef)).getD k [])=(cPolicy.dec cx0).grants.getD k grant0:=by
     rw [← pol_grants]; exact dec_at cGrant grant0 (by rw [rows_len4]; exact hl)
    have hY:cGrant.dec ((V.toRows (List.getD cx1 4 V.undef)).getD k [])=(cPolicy.dec cx1).grants.getD k grant0:=by
     rw [← pol_grants]; exact dec_at cGrant grant0 (by rw [rows_len4]; omega)
    have hq:∀ K,evRound eRSameP 12 16 { fr:=[(2,.ptr 10000 0 0 0),(3,.ptr 10001 0 0 0),(85,.int .i64 (cPolicy.dec cx0).grants.length),(86,.int .i64 (k:Int))],tab:=[(10000,.var (etaRow xsPolicy 0 cx0)),(10001,.var (etaRow xsPolicy 0 cx1))] } K=cond (!((fun i=>N.eqGr ((cPolicy.dec cx0).grants.getD i grant0) ((cPolicy.dec cx1).grants.getD i grant0)) k)) (K .ret { fr:=[(4,.bool false)],tab:=[] }) (K .normal { fr:=[(2,.ptr 10000 0 0 0),(3,.ptr 10001 0 0 0),(85,.int .i64 (cPolicy.dec cx0).grants.length),(86,.int .i64 ((k:Int)+1))],tab:=[(10000,.var (etaRow xsPolicy 0 cx0)),(10001,.var (etaRow xsPolicy 0 cx1))] }):=fun K=>by
     refine (hn K).trans ?_
     show _=cond (!(N.eqGr ((cPolicy.dec cx0).grants.getD k grant0) ((cPolicy.dec cx1).grants.getD k grant0))) _ _
     rw [← hX,← hY]; rfl
    cases hc:(fun i=>N.eqGr ((cPolicy.dec cx0).grants.getD i grant0) ((cPolicy.dec cx1).grants.getD i grant0)) k with
    | true =>
     refine .inl ⟨k+1,hl,by omega,fun K=>?_,fun K=>?_⟩
     ·rw [hq,hc]; rfl
     ·simp only [hj,hj',er,hc,cond_true]
    | false =>
     refine .inr ⟨.ret,{ fr:=[(4,.bool false)],tab:=[] },by simp,fun K=>?_,fun K=>?_⟩
     ·rw [hq,hc]; rfl
     ·simp only [hj,er,hc,cond_false]
   ·obtain rfl:k=(cPolicy.dec cx0).grants.length:=by omega
    refine .inr ⟨.exit 4,{ fr:=[],tab:=[] },by simp,fun K=>?_,fun K=>?_⟩
    ·rw [hn,ilt_f (Int.le_refl _)]; rfl
    ·rw [Nat.sub_self]; rfl
 ·cases h
theorem ok_rSameP:FnOk Tryz.prog 12 dSamePol:=by
 refine den_okF (env_ok (TOk.nil _)) (E:=eRSameP) Tryz.func12 [4,10,16] (by kernel_rfl) (three3 ok_rSameP_4 ok_rSameP_10 ok_rSameP_16) fun a b hp=>?_
 obtain ⟨p,q⟩:=a
 obtain ⟨hp,hq⟩:=bcond (show cond (fewP p) (fewP q) false=true from hp)
 obtain ⟨f1,f2⟩:=bcond hp
 obtain ⟨f2,f3⟩:=bcond f2
 refine (q_rSameP p q).trans ?_
 have ei:∀ a b:Nat,((a:Int) != (b:Int)) = !(a==b):=fun a b=>by
  by_cases h:a=b
  ·subst h; simp
  ·rw [show (a==b)=false by simpa using h]; simp; omega
 have en:∀ x y:Int,(x != y) = !(x==y):=fun _ _=>rfl
 simp only [List.length_map,dec_encsY,fold_pol,f1,f2,f3,beq_self_eq_true,cond_true,ei]
 show _=some (⟨.bool (N.sameP p q),[],[]⟩:DRes)
 unfold N.sameP
 rw [en,en]
 cases p.work==q.work with
 | false=>rfl
 | true =>
 cases p.give==q.give with
 | false=>rfl
 | true =>
 cases p.places.length==q.places.length with
 | false=>rfl
 | true =>
 cases p.slots.length==q.slots.length with
 | false=>rfl
 | true =>
 cases p.grants.length==q.grants.length with
 | false=>rfl
 | true=>cases N.samePl p q<;>cases N.sameSl p q<;>cases N.sameGr p q<;>rfl
end Go.Ev

/- Policies: what the document's reader needs: no lemma of its own. -/
namespace Go.Ev
end Go.Ev

/- Policies of texts,by the document: what the evaluator makes of Parse: lemmas,no condition. -/
namespace Go.Ev
open Go Go.Proofs
set_option maxRecDepth 100000
-- FOLD
def schRParseP:SSch:={ fr:=[(2,.ptr 10000 0 0),(5,.ptr 10004 0 0),(13,.slc [.str]),(14,.int .i64),(15,.int .i64)],tab:=[(10001,.sl [.str,.int .u8,.int .u32,.int .i64,.int .u64]),(10002,.sl [.int .i64]),(10003,.sl [.int .i64,.int .i64,.int .i64]),(10000,.var [.int .i64,.int .i64,.own 10001,.own 10002,.own 10003]),(10005,.sl [.str,.int .u8,.int .u32,.int .i64,.int .u64]),(10006,.sl [.int .i64]),(10007,.sl [.int .i64,.int .i64,.int .i64]),(10004,.var [.int .i64,.int .i64,.own 10005,.own 10006,.own 10007])] }
def gRParseP:List Leaf→(Ex→St→Option R)→Option R
 | [.r r13,.i i14,.i i15,.r rx1,.r rx2,.r rx3,.i ix0,.i ix0_1,.r rx5,.r rx6,.r rx7,.i ix4,.i ix4_1],K=>cond (i14==r13.length) (cond (i15==0) (cond (Nat.ble r13.length 3000) (cond (ix4==0) (cond (ix4_1==0) (cond (Nat.beq rx5.length 0) (cond (Nat.beq rx6.length 0) (cond (Nat.beq rx7.length 0) (cond (r13.all fun r=>Nat.ble (V.toStr (List.getD r 0 V.undef)).length 1000000) (cond ((N.pLines (pol0,(0:Int)).1 (pol0,(0:Int)).2 (r13.map rStr.dec)).2.2 != 0) (K .ret { fr:=[(2,.ptr 10000 0 0 0),(3,.int .i64 (N.pLines (pol0,(0:Int)).1 (pol0,(0:Int)).2 (r13.map rStr.dec)).2.1),(4,.int .i64 (N.pLines (pol0,(0:Int)).1 (pol0,(0:Int)).2 (r13.map rStr.dec)).2.2)],tab:=[(10001,.sl [.str,.int .u8,.int .u32,.int .i64,.int .u64] [] 0),(10002,.sl [.int .i64] [] 0),(10003,.sl [.int .i64,.int .i64,.int .i64] [] 0),(10000,.var [.int .i64 0,.int .i64 0,.own 10001 0,.own 10002 0,.own 10003 0])] }) (K (.exit 0) { fr:=[(2,.ptr 10000 0 0 0),(5,.ptr 10004 0 0 0)],tab:=[(10001,.sl [.str,.int .u8,.int .u32,.int .i64,.int .u64] rx1 0),(10002,.sl [.int .i64] rx2 0),(10003,.sl [.int .i64,.int .i64,.int .i64] rx3 0),(10000,.var [.int .i64 ix0,.int .i64 ix0_1,.own 10001 0,.own 10002 0,.own 10003 0]),(10005,.sl [.str,.int .u8,.int .u32,.int .i64,.int .u64] ((N.pLines (pol0,(0:Int)).1 (pol0,(0:Int)).2 (r13.map rStr.dec)).1.places.map cPlace.enc) 0),(10006,.sl [.int .i64] ((N.pLines (pol0,(0:Int)).1 (pol0,(0:Int)).2 (r13.map rStr.dec)).1.slots.map (rInt .i64).enc) 0),(10007,.sl [.int .i64,.int .i64,.int .i64] ((N.pLines (pol0,(0:Int)).1 (pol0,(0:Int)).2 (r13.map rStr.dec)).1.grants.map cGrant.enc) 0),(10004,.var [.int .i64 (N.pLines (pol0,(0:Int)).1 (pol0,(0:Int)).2 (r13.map rStr.dec)).1.work,.int .i64 (N.pLines (pol0,(0:Int)).1 (pol0,(0:Int)).2 (r13.map rStr.dec)).1.give,.own 10005 0,.own 10006 0,.own 10007 0])] })) none) none) none) none) none) none) none) none) none
 | _,_=>none
noncomputable def eRParseP:Env:={ env Tryz.prog [(40,dLines),(41,dWordsP),(29,dCheckR)] [(3,loopF schRParseP gRParseP)] [(3,[(0,[2,5,13,14,15]),(1,[2,5]),(1000,[2,3,4])])] with X:=lk? [(42,evFnX eRLine 42)] }
theorem q_rParseP_ (s:Bytes):evFn eRParseP 11 ((aOne vStr).enc s) ([]) some =(
 let z4:=(List.map (RCod.enc rStr) (N.splitDotNL s));let z0:=(N.pLines {work:=(0:Int),give:=(0:Int),places:=[],slots:=[],grants:=[]:HPolicy} (0:Int) (List.map (RCod.dec rStr) z4));let z1:=(List.map (RCod.enc cPlace) (HPolicy.places (Prod.fst z0)));let z2:=(List.map (RCod.enc (rInt .i64)) (HPolicy.slots (Prod.fst z0)));let z3:=(List.map (RCod.enc cGrant) (HPolicy.grants (Prod.fst z0)));let z5:=(List.map (RCod.dec cPlace) z1);cond (Nat.ble (List.length s) 1000000) (cond ((↑(List.length z4):Int)==(↑(List.length z4):Int)) (cond (Nat.ble (List.length z4) 3000) (cond (List.all z4 fun r=>Nat.ble (List.length (V.toStr (List.getD r 0 .undef))) 1000000) (cond (Prod.snd (Prod.snd z0) != (0:Int)) (some {v:=V.tup [V.agg [V.int .i64 (0:Int),V.int .i64 (0:Int),V.slc [.str,.int .u8,.int .u32,.int .i64,.int .u64] [],V.slc [.int .i64] [],V.slc [.int .i64,.int .i64,.int .i64] []],V.int .i64 (Prod.fst (Prod.snd z0)),V.int .i64 (Prod.snd (Prod.snd z0))],bx:=[]:DRes}) (cond (bif bif bif Nat.ble (List.length z5) 3000 then bif Nat.ble (List.length (List.map (RCod.dec (rInt .i64)) z2)) 3000 then Nat.ble (List.length (List.map (RCod.dec cGrant) z3)) 3000 else false else false then List.all z5 fun x=>Nat.ble (List.length (HPlace.name x)) 1000000 else false then List.all z5 fun x=>bif bif ile (0:Int) (Label.level (HPlace.label x)) then ile (Label.level (HPlace.label x)) (255:Int) else false then bif ile (0:Int) (Label.set (HPlace.label x)) then ilt (Label.set (HPlace.label x)) (4294967296:Int) else false else false else false) (cond (N.checkP {work:=HPolicy.work (Prod.fst z0),give:=HPolicy.give (Prod.fst z0),places:=List.map (RCod.dec cPlace) z1,slots:=List.map (RCod.dec (rInt .i64)) z2,grants:=List.map (RCod.dec cGrant) z3:HPolicy} != (0:Int)) (some {v:=V.tup [V.agg [V.int .i64 (0:Int),V.int .i64 (0:Int),V.slc [.str,.int .u8,.int .u32,.int .i64,.int .u64] [],V.slc [.int .i64] [],V.slc [.int .i64,.int .i64,.int .i64] []],V.int .i64 (0:Int),V.int .i64 (N.checkP {work:=HPolicy.work (Prod.fst z0),give:=HPolicy.give (Prod.fst z0),places:=List.map (RCod.dec cPlace) z1,slots:=List.map (RCod.dec (rInt .i64)) z2,grants:=List.map (RCod.dec cGrant) z3:HPolicy})],bx:=[]:DRes}) (some {v:=V.tup [V.agg [V.int .i64 (HPolicy.work (Prod.fst z0)),V.int .i64 (HPolicy.give (Prod.fst z0)),V.slc [.str,.int .u8,.int .u32,.int .i64,.int .u64] z1,V.slc [.int .i64] z2,V.slc [.int .i64,.int .i64,.int .i64] z3],V.int .i64 (0:Int),V.int .i64 (0:Int)],bx:=[]:DRes})) (none))) (none)) (none)) (none)) (none)):=by kernel_rfl
theorem q_rParseP (s:Bytes):type_of% (by have h:=q_rParseP_ s; dsimp only at h; exact h):=by
 have h:=q_rParseP_ s
 dsimp only at h
 exact h
theorem q_rParsePR_ (r13:List (List V)) (i14:Int) (i15:Int) (rx1:List (List V)) (rx2:List (List V)) (rx3:List (List V)) (ix0:Int) (ix0_1:Int) (rx5:List (List V)) (rx6:List (List V)) (rx7:List (List V)) (ix4:Int) (ix4_1:Int) (K:Ex→St→Option R):evRound eRParseP 11 3 { fr:=[(2,.ptr 10000 0 0 0),(5,.ptr 10004 0 0 0),(13,.slc [.str] r13),(14,.int .i64 i14),(15,.int .i64 i15)],tab:=[(10001,.sl [.str,.int .u8,.int .u32,.int .i64,.int .u64] rx1 0),(10002,.sl [.int .i64] rx2 0),(10003,.sl [.int .i64,.int .i64,.int .i64] rx3 0),(10000,.var [.int .i64 ix0,.int .i64 ix0_1,.own 10001 0,.own 10002 0,.own 10003 0]),(10005,.sl [.str,.int .u8,.int .u32,.int .i64,.int .u64] rx5 0),(10006,.sl [.int .i64] rx6 0),(10007,.sl [.int .i64,.int .i64,.int .i64] rx7 0),(10004,.var [.int .i64 ix4,.int .i64 ix4_1,.own 10005 0,.own 10006 0,.own 10007 0])] } K =(
 let z26:=(V.toStr (List.getD (List.getD r13 (Int.toNat i15) []) 0 V.undef));let z2:=(List.map (RCod.enc rStr) (N.wordsOf z26));let z5:=(List.getD (List.getD z2 0 []) 0 V.undef);let z22:=(V.toStr z5==[(119:UInt8),(111:UInt8),(114:UInt8),(107:UInt8)]);let z6:=(↑(List.length z2):Int);let z20:=(decide ((0:Int)≤(1:Int)∧(1:Int)<z6));let z8:=(V.toStr (List.getD (List.getD z2 1 []) 0 V.undef));let z9:=(IntKind.wrap .i64 (i15+(1:Int)));let z11:=(K Ex.ret {fr:=[(2,V.ptr 10000 0 0 0),(3,V.int .i64 z9),(4,V.int .i64 (Prod.snd (N.pSmall z8)))],tab:=[(10001,Box.sl [.str,.int .u8,.int .u32,.int .i64,.int .u64] [] 0),(10002,Box.sl [.int .i64] [] 0),(10003,Box.sl [.int .i64,.int .i64,.int .i64] [] 0),(10000,Box.var [V.int .i64 (0:Int),V.int .i64 (0:Int),V.own 10001 0,V.own 10002 0,V.own 10003 0])]:St});let z23:=(V.toStr z5==[(103:UInt8),(105:UInt8),(118:UInt8),(101:UInt8)]);let z19:=(V.toStr z5==[(108:UInt8),(97:UInt8),(98:UInt8),(101:UInt8),(108:UInt8)]);let z14:=(V.toStr (List.getD (List.getD z2 2 []) 0 V.undef));let z4:=(K Ex.normal {fr:=[(2,V.ptr 10000 0 0 0),(5,V.ptr 10004 0 0 0),(13,V.slc [.str] r13),(14,V.int .i64 i14),(15,V.int .i64 z9)],tab:=[(10001,Box.sl [.str,.int .u8,.int .u32,.int .i64,.int .u64] rx1 0),(10002,Box.sl [.int .i64] rx2 0),(10003,Box.sl [.int .i64,.int .i64,.int .i64] rx3 0),(10000,Box.var [V.int .i64 ix0,V.int .i64 ix0_1,V.own 10001 0,V.own 10002 0,V.own 10003 0]),(10005,Box.sl [.str,.int .u8,.int .u32,.int .i64,.int .u64] rx5 0),(10006,Box.sl [.int .i64] rx6 0),(10007,Box.sl [.int .i64,.int .i64,.int .i64] rx7 0),(10004,Box.var [V.int .i64 ix4,V.int .i64 ix4_1,V.own 10005 0,V.own 10006 0,V.own 10007 0])]:St});let z15:=(V.toStr (List.getD (List.getD z2 3 []) 0 V.undef));let z25:=(Prod.snd (N.pSmall z15) != (0:Int));let z10:=(K Ex.ret {fr:=[(2,V.ptr 10000 0 0 0),(3,V.int .i64 z9),(4,V.int .i64 (Prod.snd (N.pSmall z15)))],tab:=[(10001,Box.sl [.str,.int .u8,.int .u32,.int .i64,.int .u64] [] 0),(10002,Box.sl [.int .i64] [] 0),(10003,Box.sl [.int .i64,.int .i64,.int .i64] [] 0),(10000,Box.var [V.int .i64 (0:Int),V.int .i64 (0:Int),V.own 10001 0,V.own 10002 0,V.own 10003 0])]:St});let z18:=(N.pNumber (V.toStr (List.getD (List.getD z2 4 []) 0 V.undef)) (18446744073709551615:Int));let z16:=(bif Nat.ble (List.length (List.map (RCod.dec cPlace) rx5)) 3000 then bif Nat.ble (List.length (List.map (RCod.dec (rInt .i64)) rx6)) 3000 then Nat.ble (List.length (List.map (RCod.dec cGrant) rx7)) 3000 else false else false);let z13:=(N.pFind {work:=ix4,give:=ix4_1,places:=List.map (RCod.dec cPlace) rx5,slots:=List.map (RCod.dec (rInt .i64)) rx6,grants:=List.map (RCod.dec cGrant) rx7:HPolicy} z8);let z12:=(K Ex.ret {fr:=[(2,V.ptr 10000 0 0 0),(3,V.int .i64 z9),(4,V.int .i64 (10:Int))],tab:=[(10001,Box.sl [.str,.int .u8,.int .u32,.int .i64,.int .u64] [] 0),(10002,Box.sl [.int .i64] [] 0),(10003,Box.sl [.int .i64,.int .i64,.int .i64] [] 0),(10000,Box.var [V.int .i64 (0:Int),V.int .i64 (0:Int),V.own 10001 0,V.own 10002 0,V.own 10003 0])]:St});let z24:=(V.toStr z5==[(115:UInt8),(108:UInt8),(111:UInt8),(116:UInt8)]);let z17:=(N.pFind {work:=ix4,give:=ix4_1,places:=List.map (RCod.dec cPlace) rx5,slots:=List.map (RCod.dec (rInt .i64)) rx6,grants:=List.map (RCod.dec cGrant) rx7:HPolicy} z14);let z0:=(cond z22 (cond z20 (cond (Nat.ble (List.length z8) 1000000) (cond (Prod.snd (N.pSmall z8) != (0:Int)) z11 (K Ex.normal {fr:=[(2,V.ptr 10000 0 0 0),(5,V.ptr 10004 0 0 0),(13,V.slc [.str] r13),(14,V.int .i64 i14),(15,V.int .i64 z9)],tab:=[(10001,Box.sl [.str,.int .u8,.int .u32,.int .i64,.int .u64] rx1 0),(10002,Box.sl [.int .i64] rx2 0),(10003,Box.sl [.int .i64,.int .i64,.int .i64] rx3 0),(10000,Box.var [V.int .i64 ix0,V.int .i64 ix0_1,V.own 10001 0,V.own 10002 0,V.own 10003 0]),(10005,Box.sl [.str,.int .u8,.int .u32,.int .i64,.int .u64] rx5 0),(10006,Box.sl [.int .i64] rx6 0),(10007,Box.sl [.int .i64,.int .i64,.int .i64] rx7 0),(10004,Box.var [V.int .i64 (Prod.fst (N.pSmall z8)),V.int .i64 ix4_1,V.own 10005 0,V.own 10006 0,V.own 10007 0])]:St})) (none)) (none)) (cond z23 (cond z20 (cond (Nat.ble (List.length z8) 1000000) (cond (Prod.snd (N.pSmall z8) != (0:Int)) z11 (K Ex.normal {fr:=[(2,V.ptr 10000 0 0 0),(5,V.ptr 10004 0 0 0),(13,V.slc [.str] r13),(14,V.int .i64 i14),(15,V.int .i64 z9)],tab:=[(10001,Box.sl [.str,.int .u8,.int .u32,.int .i64,.int .u64] rx1 0),(10002,Box.sl [.int .i64] rx2 0),(10003,Box.sl [.int .i64,.int .i64,.int .i64] rx3 0),(10000,Box.var [V.int .i64 ix0,V.int .i64 ix0_1,V.own 10001 0,V.own 10002 0,V.own 10003 0]),(10005,Box.sl [.str,.int .u8,.int .u32,.int .i64,.int .u64] rx5 0),(10006,Box.sl [.int .i64] rx6 0),(10007,Box.sl [.int .i64,.int .i64,.int .i64] rx7 0),(10004,Box.var [V.int .i64 ix4,V.int .i64 (Prod.fst (N.pSmall z8)),V.own 10005 0,V.own 10006 0,V.own 10007 0])]:St})) (none)) (none)) (cond z19 (cond (decide ((0:Int)≤(2:Int)∧(2:Int)<z6)) (cond (Nat.ble (List.length z14) 1000000) (cond (Prod.snd (N.rParse z14) != (0:Int)) (cond (Prod.snd (N.rParse z14) != (0:Int)) (K Ex.ret {fr:=[(2,V.ptr 10000 0 0 0),(3,V.int .i64 z9),(4,V.int .i64 (Prod.snd (N.rParse z14)))],tab:=[(10001,Box.sl [.str,.int .u8,.int .u32,.int .i64,.int .u64] [] 0),(10002,Box.sl [.int .i64] [] 0),(10003,Box.sl [.int .i64,.int .i64,.int .i64] [] 0),(10000,Box.var [V.int .i64 (0:Int),V.int .i64 (0:Int),V.own 10001 0,V.own 10002 0,V.own 10003 0])]:St}) z4) (cond (decide ((0:Int)≤(3:Int)∧(3:Int)<z6)) (cond (Nat.ble (List.length z15) 1000000) (cond z25 (cond z25 z10 z4) (cond (decide ((0:Int)≤(4:Int)∧(4:Int)<z6)) (cond (bif Nat.ble (List.length (V.toStr (List.getD (List.getD z2 4 []) 0 V.undef))) 1000000 then true else false) (cond z20 (cond (decide ((List.length rx5+1)*40≤140737488355328)) (cond (Prod.snd z18 != (0:Int)) (K Ex.ret {fr:=[(2,V.ptr 10000 0 0 0),(3,V.int .i64 z9),(4,V.int .i64 (Prod.snd z18))],tab:=[(10001,Box.sl [.str,.int .u8,.int .u32,.int .i64,.int .u64] [] 0),(10002,Box.sl [.int .i64] [] 0),(10003,Box.sl [.int .i64,.int .i64,.int .i64] [] 0),(10000,Box.var [V.int .i64 (0:Int),V.int .i64 (0:Int),V.own 10001 0,V.own 10002 0,V.own 10003 0])]:St}) (K Ex.normal {fr:=[(2,V.ptr 10000 0 0 0),(5,V.ptr 10004 0 0 0),(13,V.slc [.str] r13),(14,V.int .i64 i14),(15,V.int .i64 z9)],tab:=[(10001,Box.sl [.str,.int .u8,.int .u32,.int .i64,.int .u64] rx1 0),(10002,Box.sl [.int .i64] rx2 0),(10003,Box.sl [.int .i64,.int .i64,.int .i64] rx3 0),(10000,Box.var [V.int .i64 ix0,V.int .i64 ix0_1,V.own 10001 0,V.own 10002 0,V.own 10003 0]),(10005,Box.sl [.str,.int .u8,.int .u32,.int .i64,.int .u64] (rx5++[[V.str z8,V.int .u8 (Label.level (Prod.fst (N.rParse z14))),V.int .u32 (Label.set (Prod.fst (N.rParse z14))),V.int .i64 (Prod.fst (N.pSmall z15)),V.int .u64 (Prod.fst z18)]]) 0),(10006,Box.sl [.int .i64] rx6 0),(10007,Box.sl [.int .i64,.int .i64,.int .i64] rx7 0),(10004,Box.var [V.int .i64 ix4,V.int .i64 ix4_1,V.own 10005 0,V.own 10006 0,V.own 10007 0])]:St})) (none)) (none)) (none)) (none))) (none)) (none))) (none)) (none)) (cond z20 (cond z16 (cond (ilt z13 (0:Int)) z12 (cond z24 (cond (decide ((List.length rx6+1)*8≤140737488355328)) (K Ex.normal {fr:=[(2,V.ptr 10000 0 0 0),(5,V.ptr 10004 0 0 0),(13,V.slc [.str] r13),(14,V.int .i64 i14),(15,V.int .i64 z9)],tab:=[(10001,Box.sl [.str,.int .u8,.int .u32,.int .i64,.int .u64] rx1 0),(10002,Box.sl [.int .i64] rx2 0),(10003,Box.sl [.int .i64,.int .i64,.int .i64] rx3 0),(10000,Box.var [V.int .i64 ix0,V.int .i64 ix0_1,V.own 10001 0,V.own 10002 0,V.own 10003 0]),(10005,Box.sl [.str,.int .u8,.int .u32,.int .i64,.int .u64] rx5 0),(10006,Box.sl [.int .i64] (rx6++[[V.int .i64 z13]]) 0),(10007,Box.sl [.int .i64,.int .i64,.int .i64] rx7 0),(10004,Box.var [V.int .i64 ix4,V.int .i64 ix4_1,V.own 10005 0,V.own 10006 0,V.own 10007 0])]:St}) (none)) (cond (decide ((0:Int)≤(2:Int)∧(2:Int)<z6)) (cond z16 (cond (ilt z17 (0:Int)) z12 (cond (decide ((0:Int)≤(3:Int)∧(3:Int)<z6)) (cond (Nat.ble (List.length z15) 1000000) (cond (decide ((List.length rx7+1)*24≤140737488355328)) (cond z25 z10 (K Ex.normal {fr:=[(2,V.ptr 10000 0 0 0),(5,V.ptr 10004 0 0 0),(13,V.slc [.str] r13),(14,V.int .i64 i14),(15,V.int .i64 z9)],tab:=[(10001,Box.sl [.str,.int .u8,.int .u32,.int .i64,.int .u64] rx1 0),(10002,Box.sl [.int .i64] rx2 0),(10003,Box.sl [.int .i64,.int .i64,.int .i64] rx3 0),(10000,Box.var [V.int .i64 ix0,V.int .i64 ix0_1,V.own 10001 0,V.own 10002 0,V.own 10003 0]),(10005,Box.sl [.str,.int .u8,.int .u32,.int .i64,.int .u64] rx5 0),(10006,Box.sl [.int .i64] rx6 0),(10007,Box.sl [.int .i64,.int .i64,.int .i64] (rx7++[[V.int .i64 z13,V.int .i64 z17,V.int .i64 (Prod.fst (N.pSmall z15))]]) 0),(10004,Box.var [V.int .i64 ix4,V.int .i64 ix4_1,V.own 10005 0,V.own 10006 0,V.own 10007 0])]:St})) (none)) (none)) (none))) (none)) (none)))) (none)) (none)))));let z1:=(K Ex.ret {fr:=[(2,V.ptr 10000 0 0 0),(3,V.int .i64 z9),(4,V.int .i64 (4:Int))],tab:=[(10001,Box.sl [.str,.int .u8,.int .u32,.int .i64,.int .u64] [] 0),(10002,Box.sl [.int .i64] [] 0),(10003,Box.sl [.int .i64,.int .i64,.int .i64] [] 0),(10000,Box.var [V.int .i64 (0:Int),V.int .i64 (0:Int),V.own 10001 0,V.own 10002 0,V.own 10003 0])]:St});let z7:=(V.toStr z5==[(103:UInt8),(114:UInt8),(97:UInt8),(110:UInt8),(116:UInt8)]);let z21:=(cond (z6 != (4:Int)) z1 z0);let z3:=(cond z19 (cond z7 z21 (cond (z6 != (5:Int)) z1 z0)) (cond z7 z21 (cond (z6 != (2:Int)) z1 z0)));cond (ilt i15 i14) (cond (decide ((0:Int)≤i15∧i15<(↑(List.length r13):Int))) (cond (Nat.ble (List.length z26) 1000000) (cond (z6==(0:Int)) z4 (cond (decide ((0:Int)≤(0:Int)∧(0:Int)<z6)) (cond (decide ((0:Int)≤(0:Int)∧(0:Int)<(↑(List.length (V.toStr z5)):Int))) (cond ((↑(UInt8.toNat (List.getD (V.toStr z5) 0 (0:UInt8))):Int)==(35:Int)) z4 (cond (decide ((0:Int)≤(0:Int)∧(0:Int)<z6)) (cond z22 z3 (cond z23 z3 (cond z24 z3 (cond z19 (cond z7 z21 (cond (z6 != (5:Int)) z1 z0)) (cond z7 z21 z1))))) (none))) (none)) (none))) (none)) (none)) (K (Ex.exit 0) {fr:=[(2,V.ptr 10000 0 0 0),(5,V.ptr 10004 0 0 0)],tab:=[(10001,Box.sl [.str,.int .u8,.int .u32,.int .i64,.int .u64] rx1 0),(10002,Box.sl [.int .i64] rx2 0),(10003,Box.sl [.int .i64,.int .i64,.int .i64] rx3 0),(10000,Box.var [V.int .i64 ix0,V.int .i64 ix0_1,V.own 10001 0,V.own 10002 0,V.own 10003 0]),(10005,Box.sl [.str,.int .u8,.int .u32,.int .i64,.int .u64] rx5 0),(10006,Box.sl [.int .i64] rx6 0),(10007,Box.sl [.int .i64,.int .i64,.int .i64] rx7 0),(10004,Box.var [V.int .i64 ix4,V.int .i64 ix4_1,V.own 10005 0,V.own 10006 0,V.own 10007 0])]:St})):=by kernel_rfl
theorem q_rParsePR (r13:List (List V)) (i14:Int) (i15:Int) (rx1:List (List V)) (rx2:List (List V)) (rx3:List (List V)) (ix0:Int) (ix0_1:Int) (rx5:List (List V)) (rx6:List (List V)) (rx7:List (List V)) (ix4:Int) (ix4_1:Int) (K:Ex→St→Option R):type_of% (by have h:=q_rParsePR_ r13 i14 i15 rx1 rx2 rx3 ix0 ix0_1 rx5 rx6 rx7 ix4 ix4_1 K; dsimp only at h; exact h):=by
 have h:=q_rParsePR_ r13 i14 i15 rx1 rx2 rx3 ix0 ix0_1 rx5 rx6 rx7 ix4 ix4_1 K
 dsimp only at h
 exact h
theorem gok_rParseP:GOk eRParseP:=env_ok2 (T:=[(40,dLines),(41,dWordsP),(29,dCheckR)]) (MT:=[]) (XT:=[(42,evFnX eRLine 42)]) ((((TOk.nil _).cons ok_rCheckP).cons ok_rWordsP).cons ok_rLines) (MOk.nil _) ((XOk.nil _).cons x_rline) rfl (by funext f; rfl) rfl
end Go.Ev

/- Policies of texts,by the document: the round of Parse,the loop,Parse: lemmas,no condition. -/
namespace Go.Ev
open Go Go.Proofs
set_option maxRecDepth 100000
def stRP (r13 rx1 rx2 rx3:List (List V)) (ix0 ix0_1:Int) (p:HPolicy) (j:Int):St:={ fr:=[(2,.ptr 10000 0 0 0),(5,.ptr 10004 0 0 0),(13,.slc [.str] r13),(14,.int .i64 r13.length),(15,.int .i64 j)],tab:=[(10001,.sl [.str,.int .u8,.int .u32,.int .i64,.int .u64] rx1 0),(10002,.sl [.int .i64] rx2 0),(10003,.sl [.int .i64,.int .i64,.int .i64] rx3 0),(10000,.var [.int .i64 ix0,.int .i64 ix0_1,.own 10001 0,.own 10002 0,.own 10003 0]),(10005,.sl [.str,.int .u8,.int .u32,.int .i64,.int .u64] (p.places.map cPlace.enc) 0),(10006,.sl [.int .i64] (p.slots.map (rInt .i64).enc) 0),(10007,.sl [.int .i64,.int .i64,.int .i64] (p.grants.map cGrant.enc) 0),(10004,.var [.int .i64 p.work,.int .i64 p.give,.own 10005 0,.own 10006 0,.own 10007 0])] }
def enRP (rx1 rx2 rx3:List (List V)) (ix0 ix0_1:Int) (p:HPolicy):St:={ fr:=[(2,.ptr 10000 0 0 0),(5,.ptr 10004 0 0 0)],tab:=[(10001,.sl [.str,.int .u8,.int .u32,.int .i64,.int .u64] rx1 0),(10002,.sl [.int .i64] rx2 0),(10003,.sl [.int .i64,.int .i64,.int .i64] rx3 0),(10000,.var [.int .i64 ix0,.int .i64 ix0_1,.own 10001 0,.own 10002 0,.own 10003 0]),(10005,.sl [.str,.int .u8,.int .u32,.int .i64,.int .u64] (p.places.map cPlace.enc) 0),(10006,.sl [.int .i64] (p.slots.map (rInt .i64).enc) 0),(10007,.sl [.int .i64,.int .i64,.int .i64] (p.grants.map cGrant.enc) 0),(10004,.var [.int .i64 p.work,.int .i64 p.give,.own 10005 0,.own 10006 0,.own 10007 0])] }
def erRP (j e:Int):St:={ fr:=[(2,.ptr 10000 0 0 0),(3,.int .i64 j),(4,.int .i64 e)],tab:=[(10001,.sl [.str,.int .u8,.int .u32,.int .i64,.int .u64] [] 0),(10002,.sl [.int .i64] [] 0),(10003,.sl [.int .i64,.int .i64,.int .i64] [] 0),(10000,.var [.int .i64 0,.int .i64 0,.own 10001 0,.own 10002 0,.own 10003 0])] }
def PInvO (p:HPolicy) (i:Nat):Prop:=PInv p i∧p.places.all okPl=true
theorem PInvO.up {p:HPolicy} {i:Nat} (h:PInvO p i):PInvO p (i+1):=⟨h.1.up,h.2⟩
theorem PInvO.zero (i:Nat):PInvO pol0 i:=⟨PInv.zero i,rfl⟩
def OkP1 (q:HPolicy × Int):Prop:=q.1.places.all okPl=true
theorem OkP1.cond {c:Bool} {a b:HPolicy × Int} (ha:c=true→OkP1 a) (hb:c=false→OkP1 b):OkP1 (cond c a b):=by
 cases c with
 | true=>exact ha rfl
 | false=>exact hb rfl
theorem pLine_ok {p:HPolicy} {l:List Bytes} (h:p.places.all okPl=true):(N.pLine p l).1.places.all okPl=true:=by
 have h0:∀ e,OkP1 (p,e):=fun e=>h
 have L:OkP1 (N.pLabel p l):=by
  refine .cond (fun _=>h0 _) fun hp=>.cond (fun _=>h0 _) fun _=>?_
  obtain ⟨a,b,e,h1,h2,-⟩:=parse_says (s:=l.getD 2 []) (by simpa using hp)
  show List.all (p.places++[_]) okPl=true
  rw [List.all_append,h,e,List.all_cons,List.all_nil,Bool.and_true,Bool.true_and]
  have h2:b<4294967296:=h2
  show cond (cond (ile 0 (a:Int)) (ile (a:Int) 255) false) (cond (ile 0 (b:Int)) (ilt (b:Int) 4294967296) false) false=true
  rw [ile_t (by omega),ile_t (by omega),ile_t (by omega),ilt_t (by omega)]; rfl
 have G:OkP1 (N.pGranted p l):=.cond (fun _=>h0 _) fun _=>.cond (fun _=>h0 _) fun _=>h
 exact OkP1.cond (fun _=>.cond (fun _=>h0 _) fun _=>L) fun _=>.cond (fun _=>.cond (fun _=>h0 _) fun _=>G) fun _=>.cond (fun _=>.cond (fun _=>h0 _) fun _=>h) fun _ =>
  .cond (fun _=>.cond (fun _=>h0 _) fun _=>h) fun _=>.cond (fun _=>.cond (fun _=>h0 _) fun _=>h) fun _=>h0 _
theorem pLine_invO {p:HPolicy} {i:Nat} {l:List Bytes} (h:PInvO p i) (hl:∀ w∈l,w.length≤1000000):PInvO (N.pLine p l).1 (i+1):=⟨pLine_inv h.1 hl,pLine_ok h.2⟩
theorem pLines_ok:∀ (l:List Bytes) (p:HPolicy) (k:Int),p.places.all okPl=true→(N.pLines p k l).1.places.all okPl=true
 | [],_,_,h=>h
 | t::r,p,k,h=>by
  show (cond (N.skipL (N.wordsOf t)) (N.pLines p (k+1) r) (cond ((N.pLine p (N.wordsOf t)).2 != 0) (pol0,k+1,(N.pLine p (N.wordsOf t)).2) (N.pLines (N.pLine p (N.wordsOf t)).1 (k+1) r))).1.places.all okPl=true
  cases N.skipL (N.wordsOf t) with
  | true=>exact pLines_ok r p (k+1) h
  | false =>
   cases (N.pLine p (N.wordsOf t)).2 != 0 with
   | true=>rfl
   | false=>exact pLines_ok r _ (k+1) (pLine_ok h)
theorem round_rParseP (r13 rx1 rx2 rx3:List (List V)) (ix0 ix0_1:Int) (p:HPolicy) (i:Nat) (hi:i<r13.length) (h3:r13.length≤3000) (hp:PInv p i) (ht:(V.toStr (List.getD (List.getD r13 i []) 0 V.undef)).length≤1000000) (K:Ex→St→Option R) :
  evRound eRParseP 11 3 (stRP r13 rx1 rx2 rx3 ix0 ix0_1 p i) K=cond (N.skipL (N.wordsOf (V.toStr (List.getD (List.getD r13 i []) 0 V.undef)))) (K .normal (stRP r13 rx1 rx2 rx3 ix0 ix0_1 p ((i:Int)+1)))
   (cond ((N.pLine p (N.wordsOf (V.toStr (List.getD (List.getD r13 i []) 0 V.undef)))).2 != 0) (K .ret (erRP ((i:Int)+1) (N.pLine p (N.wordsOf (V.toStr (List.getD (List.getD r13 i []) 0 V.undef)))).2))
    (K .normal (stRP r13 rx1 rx2 rx3 ix0 ix0_1 (N.pLine p (N.wordsOf (V.toStr (List.getD (List.getD r13 i []) 0 V.undef)))).1 ((i:Int)+1)))):=by
 refine (q_rParsePR r13 r13.length (i:Int) rx1 rx2 rx3 ix0 ix0_1 _ _ _ _ _ K).trans ?_
 have t1:ilt (i:Int) r13.length=true:=ilt_t (by omega)
 have t2:decide ((0:Int)≤i∧(i:Int)<r13.length)=true:=decide_eq_true (by omega)
 have t3:IntKind.wrap .i64 ((i:Int)+1)=(i:Int)+1:=wr_i64 (by omega) (by omega)
 obtain ⟨a1,a2,a3,a4⟩:=hp
 have b1:Nat.ble p.places.length 3000=true:=Nat.ble_eq_true_of_le (by omega)
 have b2:Nat.ble p.slots.length 3000=true:=Nat.ble_eq_true_of_le (by omega)
 have b3:Nat.ble p.grants.length 3000=true:=Nat.ble_eq_true_of_le (by omega)
 have b4:=few_up (n:=p.places.length) (by omega) 40 (by omega)
 have b5:=few_up (n:=p.slots.length) (by omega) 8 (by omega)
 have b6:=few_up (n:=p.grants.length) (by omega) 24 (by omega)
 have hW:∀ w∈N.wordsOf (V.toStr (List.getD (List.getD r13 i []) 0 V.undef)),w ≠ []∧Nat.ble w.length 1000000=true:=fun w hw=>⟨(wordsOf_ok hw).1,Nat.ble_eq_true_of_le (Nat.le_trans (wordsOf_ok hw).2 ht)⟩
 have ht:Nat.ble (V.toStr (List.getD (List.getD r13 i []) 0 V.undef)).length 1000000=true:=Nat.ble_eq_true_of_le ht
 simp only [Int.toNat_natCast,t1,t2,t3,cond_true,str_at,rParse_eq,ilt_not,List.length_map,dec_encsY,fold_pol,b1,b2,b3,b4,b5,b6,ht]
 generalize N.wordsOf (V.toStr (List.getD (List.getD r13 i []) 0 V.undef))=W at *
 cases W with
 | nil=>rfl
 | cons w0 ws =>
  obtain ⟨hn,hs⟩:=hW w0 (List.mem_cons_self ..)
  have u0:(((w0::ws).length:Int)==0)=false:=by rw [beq_eq_false_iff_ne]; simp only [List.length_cons]; omega
  have u1:decide ((0:Int)≤0∧(0:Int)<((w0::ws).length:Int))=true:=decide_eq_true (by simp only [List.length_cons]; omega)
  have u2:decide ((0:Int)≤0∧(0:Int)<(w0.length:Int))=true:=decide_eq_true (by
   have:=List.length_pos_iff.2 hn
   omega)
  have sk:N.skipL (w0::ws)=(((w0.getD 0 0).toNat:Int)==35):=by unfold N.skipL; rw [u0]; rfl
  have hx:∀ x∈ws,Nat.ble x.length 1000000=true:=fun x hx=>(hW x (List.mem_cons_of_mem _ hx)).2
  simp only [List.getD_cons_zero,u0,u1,u2,cond_true,cond_false,sk]
  cases (((w0.getD 0 0).toNat:Int)==35) with
  | true=>rfl
  | false =>
   simp only [cond_false]
   by_cases k1:w0=[108,97,98,101,108]
   ·subst k1
    simp only [k_ll,k_lg,k_lw,k_lv,k_ls,cond_true,cond_false,pl_lab]
    by_cases hl:ws.length=4
    ·obtain ⟨a,b,c,d,rfl⟩:=five_of hl
     have n1:((([[108,97,98,101,108],a,b,c,d]:List Bytes).length:Int) != 5)=false:=rfl
     have ga:List.getD ([[108,97,98,101,108],a,b,c,d]:List Bytes) 1 []=a:=rfl
     have gb:List.getD ([[108,97,98,101,108],a,b,c,d]:List Bytes) 2 []=b:=rfl
     have gc:List.getD ([[108,97,98,101,108],a,b,c,d]:List Bytes) 3 []=c:=rfl
     have gd:List.getD ([[108,97,98,101,108],a,b,c,d]:List Bytes) 4 []=d:=rfl
     have hb:=hx b (by simp)
     have hc:=hx c (by simp)
     have hd:=hx d (by simp)
     simp only [n1,ga,gb,gc,gd,hb,hc,hd,cond_true,cond_false,N.pLabel]
     cases h1:(N.parse b).2 != 0 with
     | true=>simp only [cond_true,h1]; rfl
     | false =>
      cases h2:(N.pSmall c).2 != 0 with
      | true=>simp only [cond_true,cond_false,h2]; rfl
      | false =>
       cases h3:(N.pNumber d 18446744073709551615).2 != 0 with
       | true=>simp only [cond_true,cond_false,h3]; rfl
       | false=>simp only [cond_false,h3,stRP,List.map_append,List.map_cons,List.map_nil]; rfl
    ·have n1:=len_no (w:=[108,97,98,101,108]) hl
     have n1:((([108,97,98,101,108]::ws:List Bytes).length:Int) != 5)=true:=n1
     simp only [n1,cond_true]
     try rfl
   ·by_cases k2:w0=[103,114,97,110,116]
    ·subst k2
     simp only [k_gl,k_gg,k_gw,k_gv,k_gs,cond_true,cond_false,pl_gra]
     by_cases hl:ws.length=3
     ·obtain ⟨a,b,c,rfl⟩:=four_of hl
      have n1:((([[103,114,97,110,116],a,b,c]:List Bytes).length:Int) != 4)=false:=rfl
      have ga:List.getD ([[103,114,97,110,116],a,b,c]:List Bytes) 1 []=a:=rfl
      have gb:List.getD ([[103,114,97,110,116],a,b,c]:List Bytes) 2 []=b:=rfl
      have gc:List.getD ([[103,114,97,110,116],a,b,c]:List Bytes) 3 []=c:=rfl
      have hc:=hx c (by simp)
      simp only [n1,ga,gb,gc,hc,cond_true,cond_false,N.pGranted,N.pNamed]
      cases h1:ile 0 (N.pFind p a) with
      | false=>simp only [cond_true,cond_false,Bool.not_false]; rfl
      | true =>
       cases h2:ile 0 (N.pFind p b) with
       | false=>simp only [cond_true,cond_false,Bool.not_false,Bool.not_true]; rfl
       | true =>
        cases h3:(N.pSmall c).2 != 0 with
        | true=>simp only [cond_true,cond_false,Bool.not_true,bne_self_eq_false,h3]; rfl
        | false=>simp only [cond_true,cond_false,Bool.not_true,bne_self_eq_false,h3,stRP,List.map_append,List.map_cons,List.map_nil]; rfl
     ·have n1:=len_no (w:=[103,114,97,110,116]) hl
      have n1:((([103,114,97,110,116]::ws:List Bytes).length:Int) != 4)=true:=n1
      simp only [n1,cond_true]
      try rfl
    ·by_cases k3:w0=[119,111,114,107]
     ·subst k3
      simp only [k_wl,k_wg,k_ww,k_wv,k_ws,cond_true,cond_false,pl_wor]
      by_cases hl:ws.length=1
      ·obtain ⟨a,rfl⟩:=two_of hl
       have n1:((([[119,111,114,107],a]:List Bytes).length:Int) != 2)=false:=rfl
       have ga:List.getD ([[119,111,114,107],a]:List Bytes) 1 []=a:=rfl
       have ha:=hx a (by simp)
       simp only [n1,ga,ha,cond_true,cond_false]
       cases h1:(N.pSmall a).2 != 0 with
       | true=>simp only [cond_true]; rfl
       | false=>simp only [cond_false,stRP]; rfl
      ·have n1:=len_no (w:=[119,111,114,107]) hl
       have n1:((([119,111,114,107]::ws:List Bytes).length:Int) != 2)=true:=n1
       simp only [n1,cond_true]
       try rfl
     ·by_cases k4:w0=[103,105,118,101]
      ·subst k4
       simp only [k_vl,k_vg,k_vw,k_vv,k_vs,cond_true,cond_false,pl_giv]
       by_cases hl:ws.length=1
       ·obtain ⟨a,rfl⟩:=two_of hl
        have n1:((([[103,105,118,101],a]:List Bytes).length:Int) != 2)=false:=rfl
        have ga:List.getD ([[103,105,118,101],a]:List Bytes) 1 []=a:=rfl
        have ha:=hx a (by simp)
        simp only [n1,ga,ha,cond_true,cond_false]
        cases h1:(N.pSmall a).2 != 0 with
        | true=>simp only [cond_true]; rfl
        | false=>simp only [cond_false,stRP]; rfl
       ·have n1:=len_no (w:=[103,105,118,101]) hl
        have n1:((([103,105,118,101]::ws:List Bytes).length:Int) != 2)=true:=n1
        simp only [n1,cond_true]
        try rfl
      ·by_cases k5:w0=[115,108,111,116]
       ·subst k5
        simp only [k_sl,k_sg,k_sw,k_sv,k_ss,cond_true,cond_false,pl_slo]
        by_cases hl:ws.length=1
        ·obtain ⟨a,rfl⟩:=two_of hl
         have n1:((([[115,108,111,116],a]:List Bytes).length:Int) != 2)=false:=rfl
         have ga:List.getD ([[115,108,111,116],a]:List Bytes) 1 []=a:=rfl
         have ha:=hx a (by simp)
         simp only [n1,ga,cond_false]
         simp only [N.pNamed]
         cases h1:ile 0 (N.pFind p a) with
         | false=>simp only [cond_true,cond_false,Bool.not_false]; rfl
         | true=>simp only [cond_true,cond_false,Bool.not_true,bne_self_eq_false,stRP,List.map_append,List.map_cons,List.map_nil]; rfl
        ·have n1:=len_no (w:=[115,108,111,116]) hl
         have n1:((([115,108,111,116]::ws:List Bytes).length:Int) != 2)=true:=n1
         simp only [n1,cond_true]
         try rfl
       ·have e1:(w0==[108,97,98,101,108])=false:=beq_eq_false_iff_ne.2 k1
        have e2:(w0==[103,114,97,110,116])=false:=beq_eq_false_iff_ne.2 k2
        have e3:(w0==[119,111,114,107])=false:=beq_eq_false_iff_ne.2 k3
        have e4:(w0==[103,105,118,101])=false:=beq_eq_false_iff_ne.2 k4
        have e5:(w0==[115,108,111,116])=false:=beq_eq_false_iff_ne.2 k5
        simp only [e1,e2,e3,e4,e5,cond_false,pl_non p w0 ws e1 e2 e3 e4 e5]
        try rfl
theorem ok_rParseP_3:RoundsOk eRParseP 11 3:=by
 refine rounds_of rfl fun l K q h=>?_
 unfold gRParseP at h
 split at h
 ·rename_i r13 i14 i15 rx1 rx2 rx3 ix0 ix0_1 rx5 rx6 rx7 ix4 ix4_1
  have h1:=(cond_none h).1; replace h:=(cond_none h).2; have h2:=(cond_none h).1; replace h:=(cond_none h).2; have h3:=(cond_none h).1; replace h:=(cond_none h).2; have g1:=(cond_none h).1; replace h:=(cond_none h).2; have g2:=(cond_none h).1; replace h:=(cond_none h).2; have g3:=(cond_none h).1; replace h:=(cond_none h).2; have g4:=(cond_none h).1; replace h:=(cond_none h).2; have g5:=(cond_none h).1; replace h:=(cond_none h).2; have g6:=(cond_none h).1; replace h:=(cond_none h).2
  have e1:=ieq_of h1
  have e2:=ieq_of h2
  subst e1 e2
  have h3:r13.length≤3000:=ble_of h3
  have g6:∀ r∈r13,(V.toStr (List.getD r 0 V.undef)).length≤1000000:=fun r hr=>ble_of (List.all_eq_true.1 g6 r hr)
  have e3:=ieq_of g1
  have e4:=ieq_of g2
  have e5:=List.eq_nil_of_length_eq_zero (Nat.eq_of_beq_eq_true g3)
  have e6:=List.eq_nil_of_length_eq_zero (Nat.eq_of_beq_eq_true g4)
  have e7:=List.eq_nil_of_length_eq_zero (Nat.eq_of_beq_eq_true g5)
  subst e3 e4 e5 e6 e7
  have main:=range_ind (E:=eRParseP) (f:=11) (id:=3) (A:=HPolicy × Int) r13 (fun a i=>stRP r13 rx1 rx2 rx3 ix0 ix0_1 a.1 i) (fun a i=>a.2=(i:Int)∧PInvO a.1 i)
   (fun a rows K=>cond ((N.pLines a.1 a.2 (rows.map rStr.dec)).2.2 != 0) (K .ret (erRP (N.pLines a.1 a.2 (rows.map rStr.dec)).2.1 (N.pLines a.1 a.2 (rows.map rStr.dec)).2.2)) (K (.exit 0) (enRP rx1 rx2 rx3 ix0 ix0_1 (N.pLines a.1 a.2 (rows.map rStr.dec)).1)))
   (fun a i ha hi=>?_) (fun a ha=>?_) (pol0,0) 0 (Int.le_refl _) (by omega) ⟨rfl,PInvO.zero 0⟩ K q (by assumption)
  ·exact main
  ·obtain ⟨p,j⟩:=a
   obtain ⟨rfl,hp⟩:j=(i:Int)∧PInvO p i:=ha
   have hq:=fun K=>round_rParseP r13 rx1 rx2 rx3 ix0 ix0_1 p i hi h3 hp.1 (g6 _ (by rw [List.getD_eq_getElem?_getD,List.getElem?_eq_getElem hi]; exact List.getElem_mem hi)) K
   have hd:rStr.dec (List.getD r13 i [])=V.toStr (List.getD (List.getD r13 i []) 0 V.undef):=rfl
   have hr:∀ x,N.pLines p x ((List.getD r13 i []::r13.drop (i+1)).map rStr.dec)=cond (N.skipL (N.wordsOf (V.toStr (List.getD (List.getD r13 i []) 0 V.undef)))) (N.pLines p (x+1) ((r13.drop (i+1)).map rStr.dec)) (cond ((N.pLine p (N.wordsOf (V.toStr (List.getD (List.getD r13 i []) 0 V.undef)))).2 != 0) (pol0,x+1,(N.pLine p (N.wordsOf (V.toStr (List.getD (List.getD r13 i []) 0 V.undef)))).2) (N.pLines (N.pLine p (N.wordsOf (V.toStr (List.getD (List.getD r13 i []) 0 V.undef)))).1 (x+1) ((r13.drop (i+1)).map rStr.dec))):=fun x=>rfl
   have ht:=g6 _ (show List.getD r13 i []∈r13 by rw [List.getD_eq_getElem?_getD,List.getElem?_eq_getElem hi]; exact List.getElem_mem hi)
   generalize V.toStr (List.getD (List.getD r13 i []) 0 V.undef)=t at *
   cases hs:N.skipL (N.wordsOf t) with
   | true =>
    refine .inl ⟨(p,(i:Int)+1),⟨rfl,hp.up⟩,fun K=>?_,fun K=>?_⟩
    ·rw [hq,hs]; rfl
    ·simp only [hr,hs,cond_true]
   | false =>
    cases hl:(N.pLine p (N.wordsOf t)).2 != 0 with
    | true =>
     refine .inr ⟨.ret,erRP ((i:Int)+1) (N.pLine p (N.wordsOf t)).2,by simp,fun K=>?_,fun K=>?_⟩
     ·rw [hq,hs,hl]; rfl
     ·simp only [hr,hs,hl,cond_true,cond_false]
    | false =>
     refine .inl ⟨((N.pLine p (N.wordsOf t)).1,(i:Int)+1),⟨rfl,pLine_invO hp fun w hw=>?_⟩,fun K=>?_,fun K=>?_⟩
     ·exact Nat.le_trans (wordsOf_ok hw).2 ht
     ·rw [hq,hs,hl]; rfl
     ·simp only [hr,hs,hl,cond_false]
  ·obtain ⟨p,j⟩:=a
   refine ⟨.exit 0,enRP rx1 rx2 rx3 ix0 ix0_1 p,by simp,fun K=>?_,fun K=>rfl⟩
   refine (q_rParsePR r13 r13.length r13.length rx1 rx2 rx3 ix0 ix0_1 _ _ _ _ _ K).trans ?_
   rw [ilt_f (Int.le_refl _)]; rfl
 ·cases h
theorem ok_rParseP:FnOk Tryz.prog 11 dPParse:=by
 refine den_okF gok_rParseP (E:=eRParseP) Tryz.func11 [3] (by kernel_rfl) (one1 ok_rParseP_3) fun a b hp=>?_
 obtain ⟨h1,h2⟩:=bcond (show cond (Nat.ble a.length 1000000) (Nat.ble (N.splitDotNL a).length 3000) false=true from hp)
 have hs:∀ t∈N.splitDotNL a,t.length≤1000000:=fun t ht=>Nat.le_trans ((splitNL_small a).2 t ht) (ble_of h1)
 have hall:((N.splitDotNL a).map rStr.enc).all (fun r=>Nat.ble (List.length (V.toStr (List.getD r 0 V.undef))) 1000000)=true:=by
  rw [List.all_map]
  exact List.all_eq_true.2 fun t ht=>Nat.ble_eq_true_of_le (hs t ht)
 have hinv:=pLines_inv (N.splitDotNL a) pol0 0 0 (PInv.zero 0) hs
 have hf:=hinv.few (by have:=ble_of h2; omega)
 obtain ⟨f1,f2⟩:=bcond hf
 obtain ⟨f3,f4⟩:=bcond f1
 obtain ⟨f4,f5⟩:=bcond f4
 have f2' : (List.all (N.pLines pol0 0 (N.splitDotNL a)).1.places fun x=>Nat.ble (List.length x.name) 1000000)=true:=f2
 have hok' : (List.all (N.pLines pol0 0 (N.splitDotNL a)).1.places fun x=>bif bif ile (0:Int) (Label.level (HPlace.label x)) then ile (Label.level (HPlace.label x)) (255:Int) else false then bif ile (0:Int) (Label.set (HPlace.label x)) then ilt (Label.set (HPlace.label x)) (4294967296:Int) else false else false)=true:=pLines_ok (N.splitDotNL a) pol0 0 rfl
 have e0:({ work:=(0:Int),give:=(0:Int),places:=[],slots:=[],grants:=[]:HPolicy })=pol0:=rfl
 refine (q_rParseP a).trans ?_
 simp only [e0,dec_encsY,List.length_map,fold_pol,beq_self_eq_true,hall,h1,h2,cond_true]
 show _=some (⟨.tup [.agg (cPolicy.enc (N.pParse a).1),.int .i64 (N.pParse a).2.1,.int .i64 (N.pParse a).2.2],[],[]⟩:DRes)
 unfold N.pParse
 have herr:=pLines_err (N.splitDotNL a) pol0 0
 generalize N.pLines pol0 0 (N.splitDotNL a)=r at *
 simp only [f3,f4,f5,f2',hok',cond_true]
 cases hr:r.2.2 != 0 with
 | true =>
  simp only [cond_true,herr hr]
  try rfl
 | false =>
  simp only [cond_false]
  cases hc:N.checkP r.1 != 0 with
  | true=>rfl
  | false=>rfl
end Go.Ev

/- Policies: the statement on texts: lemmas; the function that writes numbers is a premise. -/
namespace Go.Ev
open Go Go.Proofs
set_option maxRecDepth 100000
-- FOLD
def dParsesL:Den:=den (aOne vStr) bNil (oV vBool) (fun _ _=>true) fun _ _=>(true,())
noncomputable def eParsesL:Env:=env Tryz.prog [(9,dTrue),(10,dPParse),(11,dPParse),(13,dLawTo),(12,dSamePol)] [] []
theorem q_parsesL_ (s:Bytes):evFn eParsesL 3 ((aOne vStr).enc s) ([]) some =(
 let z4:=(List.map (RCod.enc (rInt .i64)) (HPolicy.slots (Prod.fst (N.pParse s))));let z0:=(List.map (RCod.dec (rInt .i64)) z4);let z5:=(List.map (RCod.enc cPlace) (HPolicy.places (Prod.fst (N.pParse s))));let z1:=(List.map (RCod.dec cPlace) z5);let z6:=(List.map (RCod.enc cGrant) (HPolicy.grants (Prod.fst (N.pParse s))));let z2:=(List.map (RCod.dec cGrant) z6);let z3:=(bif Nat.ble (List.length s) 1000000 then Nat.ble (List.length (N.splitDotNL s)) 3000 else false);cond (ilt (2000:Int) (↑(List.length s):Int)) (some {v:=V.bool true,bx:=[]:DRes}) (cond z3 (cond z3 (cond (Prod.fst (Prod.snd (N.pParse s))==Prod.fst (Prod.snd (N.pParse s))) (cond (Prod.snd (Prod.snd (N.pParse s))==Prod.snd (Prod.snd (N.pParse s))) (cond (bif Nat.ble (List.length z1) 3000 then bif Nat.ble (List.length z0) 3000 then Nat.ble (List.length z2) 3000 else false else false) (cond (bif bif Nat.ble (List.length (List.map (RCod.dec cPlace) (List.map (RCod.enc cPlace) z1))) 3000 then bif Nat.ble (List.length (List.map (RCod.dec (rInt .i64)) (List.map (RCod.enc (rInt .i64)) z0))) 3000 then Nat.ble (List.length (List.map (RCod.dec cGrant) (List.map (RCod.enc cGrant) z2))) 3000 else false else false then bif Nat.ble (List.length z1) 3000 then bif Nat.ble (List.length z0) 3000 then Nat.ble (List.length z2) 3000 else false else false else false) (some {v:=V.bool (N.sameP {work:=HPolicy.work (Prod.fst (N.pParse s)),give:=HPolicy.give (Prod.fst (N.pParse s)),places:=List.map (RCod.dec cPlace) (List.map (RCod.enc cPlace) z1),slots:=List.map (RCod.dec (rInt .i64)) (List.map (RCod.enc (rInt .i64)) z0),grants:=List.map (RCod.dec cGrant) (List.map (RCod.enc cGrant) z2):HPolicy} {work:=HPolicy.work (Prod.fst (N.pParse s)),give:=HPolicy.give (Prod.fst (N.pParse s)),places:=List.map (RCod.dec cPlace) z5,slots:=List.map (RCod.dec (rInt .i64)) z4,grants:=List.map (RCod.dec cGrant) z6:HPolicy}),bx:=[]:DRes}) (none)) (none)) (some {v:=V.bool false,bx:=[]:DRes})) (some {v:=V.bool false,bx:=[]:DRes})) (none)) (none))):=by kernel_rfl
theorem q_parsesL (s:Bytes):type_of% (by have h:=q_parsesL_ s; dsimp only at h; exact h):=by
 have h:=q_parsesL_ s
 dsimp only at h
 exact h
theorem pParse_few {s:Bytes} (h:s.length≤2000):fewP (N.pParse s).1=true:=by
 have hs:∀ t∈N.splitDotNL s,t.length≤1000000:=fun t ht=>Nat.le_trans ((splitNL_small s).2 t ht) (by omega)
 have hi:=pLines_inv (N.splitDotNL s) pol0 0 0 (PInv.zero 0) hs
 have hl:=(splitNL_small s).1
 have hf:=hi.few (by omega)
 obtain ⟨f1,-⟩:=bcond hf
 unfold N.pParse
 cases (N.pLines pol0 0 (N.splitDotNL s)).2.2 != 0 with
 | true=>exact f1
 | false =>
  cases N.checkP (N.pLines pol0 0 (N.splitDotNL s)).1 != 0 with
  | true=>rfl
  | false=>exact f1
theorem ok_parsesL (hN:FnOk Tryz.prog 127 dOutNum):FnOk Tryz.prog 3 dParsesL:=by
 refine den_okF (env_ok ((((((TOk.nil _).cons ok_rSameP).cons ok_lawTo).cons ok_rParseP).cons ok_pParse).cons (ok_aw5 hN))) (E:=eParsesL) Tryz.func3 [] (by kernel_rfl) none0 fun s u hp=>?_
 refine (q_parsesL s).trans ?_
 show _=some (⟨.bool true,[],[]⟩:DRes)
 cases h:ilt 2000 (s.length:Int) with
 | true=>rfl
 | false =>
  have h:=ilt_nof h
  have hl:=(splitNL_small s).1
  have c1:Nat.ble s.length 1000000=true:=Nat.ble_eq_true_of_le (by omega)
  have c2:Nat.ble (N.splitDotNL s).length 3000=true:=Nat.ble_eq_true_of_le (by omega)
  obtain ⟨f1,f2⟩:=bcond (pParse_few (s:=s) (by omega))
  obtain ⟨f2,f3⟩:=bcond f2
  simp only [dec_encsY,fold_pol,c1,c2,f1,f2,f3,cond_true,cond_false,beq_self_eq_true,sameP_refl]
end Go.Ev

/- Listed variables of the library hold at the start: lemmas,no condition. -/
namespace Go.Ev
open Go Go.RowKit Go.ChangeShapes
def glTabs (P:Program) (ns:List String):Bool:=(List.range P.globals.size).all fun i=>match P.globals[i]? with | some g=>(tabNamed g.name).isEmpty || (ns.any fun n=>g.name==n && (P.globalNamed n==some i)) | none=>true
def VarOk (P:Program) (W:World) (n:String):Prop:=∃ cs:Array Value,W.var? P n=some cs∧cs.size=(tabNamed n).length∧∀ (o:Nat) (x:GQ),(tabNamed n)[o]? = some x→∃ y:Value,cs[o]? = some y∧GQ.ok x y
theorem held_vars {P:Program} {ns:List String} {W:World} (h1:glTabs P ns=true) (h2:∀ n∈ns,VarOk P W n):Held P (oldI W) W:=by
 intro b o x hx
 unfold GLv at hx
 split at hx
 ·rename_i g hg
  have hb:b<P.globals.size:=(Array.getElem?_eq_some_iff.1 hg).1
  have h:=List.all_eq_true.1 h1 b (List.mem_range.2 hb)
  simp only [hg,Bool.or_eq_true,List.any_eq_true,Bool.and_eq_true] at h
  rcases h with h | ⟨n,hn,h,h'⟩
  ·rw [List.isEmpty_iff.1 h] at hx
   simp at hx
  ·have e1:g.name=n:=by simpa using h
   have e2:P.globalNamed n=some b:=by simpa using h'
   obtain ⟨cs,v1,v2,v3⟩:=h2 n hn
   have en:GLn P b=cs.size:=by
    unfold GLn
    rw [hg]
    show (tabNamed g.name).length=_
    rw [e1,v2]
   rw [e1] at hx
   obtain ⟨y,hy,hxy⟩:=v3 o x hx
   unfold World.var? at v1
   rw [e2] at v1
   have v1:(match W.heap[b]? with | some (.cells cs _ _)=>some cs | _=>none)=some cs:=v1
   cases hh:W.heap[b]? with
   | none=>rw [hh] at v1; cases v1
   | some ob =>
    have hlt:b<W.heap.size:=(Array.getElem?_eq_some_iff.1 hh).1
    cases ob with
    | cells c e f =>
     rw [hh] at v1
     obtain rfl:c=cs:=Option.some.inj v1
     refine ⟨hlt,⟨y,hxy,?_⟩,?_⟩
     ·rw [cell_eq,hh]; exact hy
     ·rw [cell_eq,hh,en]
      show c[c.size]? = none
      simp
    | _=>rw [hh] at v1; cases v1
 ·cases hx
theorem varOk_tab {P:Program} {W:World} {n:String} {k:IntKind} {zs:List Int} (h:tabNamed n=zs.map fun z=>GQ.val (.int k z)) (hT:Lib.TabIs P W n k zs):VarOk P W n:=by
 refine ⟨_,hT,?_,fun o x hx=>?_⟩
 ·rw [h]; simp
 ·rw [h,List.getElem?_map] at hx
  obtain ⟨z,hz,rfl⟩:=Option.map_eq_some_iff.1 hx
  exact ⟨.int k z,by simp [hz],rfl⟩
def ifaceVar (P:Program) (n:String):Bool:=match P.globalNamed n with
 | some g=>match P.globals[g]? with
  | some gl=>match P.underlying gl.type with
   | some (.interface _)=>true
   | _=>false
  | none=>false
 | none=>false
theorem varOk_err {P:Program} {W:World} {n nm:String} {d:DataW Unit} {r:List (String × DataW Unit)} (h:laidMet P ((n,.iface nm d)::r) W) (hf:ifaceVar P n=true) (hT:tabNamed n=[.ifc]):VarOk P W n:=by
 obtain ⟨ps,⟨g0,t0,cs0,f0,p0,q0,hg0,ht0,hv0,hd0,_,e0⟩,_,hrows⟩:=h
 obtain ⟨l0⟩:=cs0
 unfold ifaceVar at hf
 split at hf
 ·rename_i g hg
  obtain rfl:=Option.some.inj (hg.symm.trans hg0)
  split at hf
  ·rename_i gl hgl
   split at hf
   ·rename_i ms hi
    rw [hgl] at ht0
    obtain rfl:gl.type=t0:=Option.some.inj ht0
    obtain ⟨f1,u,v,rfl,hn,h1⟩:=iface_of_trod hi hd0
    refine ⟨_,hv0,by rw [hT]; rfl,fun o x hx=>?_⟩
    rw [hT] at hx
    match o,hx with
    | 0,hx =>
     obtain rfl:=Option.some.inj hx
     exact ⟨_,rfl,.inr ⟨u,v,rfl⟩⟩
    | o+1,hx=>cases hx
   ·cases hf
  ·cases hf
 ·cases hf
def tabFits (P:Program) (n:String) (k:IntKind):Bool:=match P.globalNamed n with
 | some g=>match P.globals[g]? with
  | some gl=>match P.underlying gl.type with
   | some (.array m e)=>match P.underlying e with
    | some (.int k')=>decide (k' = k) && (P.cellsOf e==1 && P.cellsOf gl.type==m)
    | _=>false
   | _=>false
  | none=>false
 | none=>false
theorem tabIs_laid {P:Program} {n:String} {k:IntKind} {zs:List Int} {rest:List (String × DataW Unit)} {W:World} (h:tabFits P n k=true) (hL:laidMet P ((n,Lib.tabData k zs)::rest) W):Lib.TabIs P W n k zs:=by
 unfold tabFits at h
 split at h
 ·rename_i g hg
  split at h
  ·rename_i gl hgl
   split at h
   ·rename_i m e ht
    split at h
    ·rename_i k' he
     simp only [Bool.and_eq_true,decide_eq_true_eq,beq_iff_eq] at h
     obtain ⟨rfl,h1,h2⟩:=h
     exact Lib.tabIs_of_head hg (by rw [hgl]; rfl) ht he h1 h2 hL
    ·cases h
   ·cases h
  ·cases h
 ·cases h
end Go.Ev

/- Policies that come in: lemmas,no condition. -/
namespace Go.Ev
open Go Go.Proofs
set_option maxRecDepth 100000
end Go.Ev

/- What the policies' statements list holds at the start: lemmas,no condition. -/
namespace Go.Proofs.YtcfmdajabkjafaaGreatDoor
open Go.ChangeShapes Go.WideShapes Go.ChangeAt Go.RowKit Go.Ev
theorem laidTab5:(Rows.laid_internal_strconv_uint64pow10:DataW Unit)=Lib.tabData .u64 Lib.pow10Tab:=by kernel_rfl
theorem held5 {W:World} (hL:laidMetH Tryz.prog Rows.policyFlowsRow.laid W):Held Tryz.prog (oldI W) W:=by
 rw [MakeChecks.laidMetH_plain _ _ _ (by kernel_rfl)] at hL
 have h3:=laidMet.tail (laidMet.tail hL)
 have h5:=laidMet.tail (laidMet.tail h3)
 have h6:=laidMet.tail h5
 have h3 : laidMet Tryz.prog (("internal/strconv.uint64pow10", Rows.laid_internal_strconv_uint64pow10) :: _) W := h3
 rw [laidTab5] at h3
 refine held_vars (ns := ["internal/strconv.uint64pow10", "strconv.ErrRange", "strconv.ErrSyntax"]) (by kernel_rfl) fun n hn => ?_
 rcases List.mem_cons.1 hn with rfl | hn
 ·exact varOk_tab (zs:=Lib.pow10Tab) (by kernel_rfl) (tabIs_laid (by kernel_rfl) h3)
 rcases List.mem_cons.1 hn with rfl | hn
 ·exact varOk_err h5 (by kernel_rfl) (by kernel_rfl)
 rcases List.mem_cons.1 hn with rfl | hn
 ·exact varOk_err h6 (by kernel_rfl) (by kernel_rfl)
 ·cases hn
end Go.Proofs.YtcfmdajabkjafaaGreatDoor

/- The library's text builder in this program,and the function that writes a number's bytes with it: lemmas,no condition but the text's length. -/
namespace Go.Ev
open Go Go.Proofs Go.RowKit Go.Shelf
theorem bSize:(Tryz.prog.info? 91).map (·.size)=some 2:=by kernel_rfl
theorem bLies:liesAt Tryz.prog Tryz.prog.depth 91 (2 / Tryz.prog.cellsOf 91) 0 91 1=true:=by kernel_rfl
theorem bByte:(Tryz.prog.info? 5).map (fun i=>(i.zero,i.size,i.bytes))=some (some (.int .u8 0),1,1):=by kernel_rfl
set_option maxHeartbeats 1000000 in
set_option maxRecDepth 100000 in
theorem cc_used (b : Nat) (w : World) (h0 : w.cell? ⟨b, 0, none⟩ = some (.pointer (some ⟨b, 0, none⟩))) :
    Calls Tryz.prog 82 #[.pointer (some ⟨b, 0, none⟩)] w fun e w' => e = .returned (.tuple #[]) ∧ w' = w := by
  obtain ⟨j, hj, _⟩ := Option.map_eq_some_iff.1 bSize
  go_enter Tryz.func82, Tryz.ntmps82
  go_wp2
  rw [Lib.run_neq_ptr_same w _ Tryz.underlying88 hj]
  go_wp2
  go_end0
  exact ⟨rfl, rfl⟩
set_option maxHeartbeats 1000000 in
set_option maxRecDepth 100000 in
theorem cc_fresh (b : Nat) (w : World) (h0 : w.cell? ⟨b, 0, none⟩ = some (.pointer none)) (hsh : w.shape? b = some (91, 2)) (hfz : w.frozen? ⟨b, 0, none⟩ = false) :
    Calls Tryz.prog 82 #[.pointer (some ⟨b, 0, none⟩)] w fun e w' => e = .returned (.tuple #[]) ∧ w' = w.setCell ⟨b, 0, none⟩ (.pointer (some ⟨b, 0, none⟩)) := by
  obtain ⟨j, hj, hjs⟩ := Option.map_eq_some_iff.1 bSize
  go_enter Tryz.func82, Tryz.ntmps82
  go_wp2
  rw [Lib.run_to_unsafe w ⟨b, 0, none⟩ Tryz.underlying88 Tryz.underlying142 hj (by rw [hjs]; decide) hsh (Nat.zero_lt_succ 1)]
  simp only [Result.andThen]
  rw [Oper.upon_value]
  go_wp2
  rw [run_callFunc_extern Tryz.func100 (by kernel_rfl) (by kernel_rfl) (by kernel_rfl) (e := Extern.AbiNoEscape.same) (by kernel_rfl)]
  rw [Lib.run_noEscape]
  simp only [Result.andThen]
  rw [Oper.upon_value]
  go_wp2
  rw [Lib.run_from_unsafe w ⟨b, 0, none⟩ Tryz.underlying142 Tryz.underlying88 hj hsh bLies]
  simp only [Result.andThen]
  rw [Oper.upon_value]
  go_wp2
  go_end0
  exact ⟨rfl, rfl⟩
theorem cc (B b:Nat) (bs:List Value) (w:World) (h:Lib.IsBuilder 91 5 B b bs w) :
  Calls Tryz.prog 82 #[.pointer (some ⟨b,0,none⟩)] w fun e w'=>e = .returned (.tuple #[])∧(Lib.BuilderAt 91 5 B b (.pointer (some ⟨b,0,none⟩)) bs w'∧Below B w w'):=by
 rcases h with h | h
 ·refine (cc_fresh b w h.cell0 h.shape h.frozen0).mono ?_
  rintro e w' ⟨rfl,rfl⟩
  exact ⟨rfl,h.used _,(Below.refl B w).setCell (p:=⟨b,0,none⟩) h.1 _⟩
 ·refine (cc_used b w h.cell0).mono ?_
  rintro e w' ⟨rfl,rfl⟩
  exact ⟨rfl,h,Below.refl B _⟩
set_option maxHeartbeats 2000000 in
set_option maxRecDepth 100000 in
theorem writeByte (B b : Nat) (bs : List Value) (c : Int) (w : World) (h : Lib.IsBuilder 91 5 B b bs w) (hlen : bs.length + 1 ≤ 140737488355328) (hBw : B ≤ w.heap.size) :
    Calls Tryz.prog 141 #[.pointer (some ⟨b, 0, none⟩), .int .u8 c] w fun e w' => e = .returned .nilIface ∧ (Lib.BuilderAt 91 5 B b (.pointer (some ⟨b, 0, none⟩)) (bs ++ [.int .u8 c]) w' ∧ Below B w w') := by
  obtain ⟨i0, hi, hz0, hz1, hz2⟩ := info_parts bByte
  go_enter Tryz.func141, Tryz.ntmps141
  go_wp2_with (go_at_call 82; refine (cc B b bs _ h).mono ?_)
  rintro e w1 ⟨rfl, h1, hb1⟩
  obtain ⟨hB, v, hbk, hown, hne⟩ := h1
  have c0 : w1.cell? ⟨b, 0, none⟩ = some (.pointer (some ⟨b, 0, none⟩)) := by rw [Lib.cell_of_heap hbk]; rfl
  have c1 : w1.cell? ⟨b, 1, none⟩ = some v := by rw [Lib.cell_of_heap hbk]; rfl
  go_wp2_with (at_builtin; refine wpList_append_own _ rfl _ _ 89 rfl B 5 i0 (.int .u8 0) 1 1 Tryz.underlying89 hi hz0 hz1 hz2 rfl (by decide) _ _ _ rfl (hown.alloc _) ⟨w1.heap.size, 0, none⟩ 1 1 [.int .u8 c] rfl rfl ?c1 ?c2 ?c3 ?c4 ?c5 ?_)
  case c1 =>
    intro j u hj
    match j, hj with
    | 0, hj => simp at hj; subst hj; simp [Addr.add]
  case c2 => intro u hu; simp at hu; subst hu; rfl
  case c3 => unfold maxLen; omega
  case c4 => omega
  case c5 => have := hb1.size; simp; omega
  intro v' w2 hown' hgrow _
  have hlt : b < w1.heap.size := by
    rcases Nat.lt_or_ge b w1.heap.size with h' | h'
    · exact h'
    · simp [Array.getElem?_eq_none h'] at hbk
  have hb2 : w2.heap[b]? = some (.cells #[.pointer (some ⟨b, 0, none⟩), v] 91 (0, 0)) := by
    rw [hgrow.block b (by simp; omega) (fun e => hne e.symm), Lib.alloc_old w1 _ b hlt]
    exact hbk
  have d0 : w2.cell? ⟨b, 0, none⟩ = some (.pointer (some ⟨b, 0, none⟩)) := by rw [Lib.cell_of_heap hb2]; rfl
  have d1 : w2.cell? ⟨b, 1, none⟩ = some v := by rw [Lib.cell_of_heap hb2]; rfl
  have f1 : w2.frozen? ⟨b, 1, none⟩ = false := Lib.frozen_of_heap hb2 1
  obtain ⟨g, cap, rfl⟩ : ∃ g cap, v' = .slice (some ⟨g, 0, none⟩) (bs.length + 1) cap := by
    rcases hown'.2 with ⟨_, h0⟩ | ⟨g, cap, cur, hv, _⟩
    · omega
    · exact ⟨g, cap, hv⟩
  go_wp2
  go_ret
  refine ⟨rfl, ?_, ?_⟩
  · exact Lib.BuilderAt.put (T := 91) (e := 5) hB hb2 (bs' := bs ++ [.int .u8 c]) (by simpa using hown') (by decide)
  · exact ((hb1.alloc (by have := hb1.size; omega) _).grown hgrow (by have := hb1.size; simp; omega) (fun k hk => (hown.lt k hk).1)).setCell (p := ⟨b, 1, none⟩) hB _
def lays169_ren:Go.Shelf.Ren:=⟨fun | 169=>57 | n=>n,fun | 70=>88 | 9=>9 | 0=>0 | 72=>91 | 37=>89 | 127=>123 | 3=>3 | 5=>5 | n=>n,fun | n=>n⟩
theorem lays169:Go.Proofs.Lays.n169 Tryz.prog lays169_ren:={
 mixed:=by kernel_rfl
 f169:=Tryz.func57.trans (congrArg some (by kernel_rfl))
 t0:=Tryz.underlying0
 a0:=Tryz.isAgg0
 z0:=Tryz.sizeOf0
 v0:=Tryz.zeroValue0
 t3:=Tryz.underlying3
 a3:=Tryz.isAgg3
 z3:=Tryz.sizeOf3
 v3:=Tryz.zeroValue3
 t9:=Tryz.underlying9
 a9:=Tryz.isAgg9
 z9:=Tryz.sizeOf9
 v9:=Tryz.zeroValue9
 t37:=Tryz.underlying89
 a37:=Tryz.isAgg89
 z37:=Tryz.sizeOf89
 v37:=Tryz.zeroValue89
 t70:=Tryz.underlying88
 a70:=Tryz.isAgg88
 z70:=Tryz.sizeOf88
 v70:=Tryz.zeroValue88
 t72:=Tryz.underlying91
 a72:=Tryz.isAgg91
 z72:=Tryz.sizeOf91
 v72:=Tryz.zeroValue91
 t127:=Tryz.underlying123
 a127:=Tryz.isAgg123
 z127:=Tryz.sizeOf123
 v127:=Tryz.zeroValue123 }
theorem extra169:Builder.Extra Tryz.prog lays169_ren:={
 sizeBuilder:=by kernel_rfl
 liesBuilder:=by kernel_rfl
 t5:=Tryz.underlying5
 a5:=Tryz.isAgg5
 z5:=Tryz.sizeOf5
 v5:=Tryz.zeroValue5
 infoByte:=by kernel_rfl
 cellsByte:=by kernel_rfl
 sizeByte:=by kernel_rfl
 neB5:=by decide }
theorem bString (B b:Nat) (l:List UInt8) (w:World) (h:Lib.IsBuilder 91 5 B b (Lib.byteCells l) w) (hBw:B≤w.heap.size) :
  Calls Tryz.prog 57 #[.pointer (some ⟨b,0,none⟩)] w fun e w'=>e = .returned (.string ⟨l.toArray⟩)∧Below B w w':=Any.Builder_String_any lays169 extra169 B b l w h hBw
end Go.Ev

/- The function that writes a number's bytes: its walk. -/
namespace Go.Ev
open Go Go.Proofs Go.RowKit Go.Shelf
theorem clamp_eq {bytes:Int}:min (max bytes 0) 8=(N.clamp bytes:Int)∧N.clamp bytes≤8:=by
 unfold N.clamp
 rw [ilt_eq,ilt_eq]
 by_cases h1:0<bytes
 ·by_cases h2:8<bytes
  ·simp [h1,h2]; omega
  ·simp [h1,h2]; omega
 ·simp [h1]; omega
theorem two_blocks {w wr:World} {o1 o2:Obj} (h:Below (w.heap.size+1+1) ((w.alloc o1).alloc o2) wr):wr.heap[w.heap.size]? = some o1∧wr.heap[w.heap.size+1]? = some o2:=by
 have e:(w.alloc o1).heap.size=w.heap.size+1:=by simp
 refine ⟨?_,?_⟩
 ·rw [h.block _ (by omega),Below.heap_alloc _ _ _ (by omega)]; exact Go.heap_alloc_new w o1
 ·rw [h.block _ (by omega),← e]; exact Go.heap_alloc_new _ o2
set_option maxHeartbeats 4000000 in
set_option maxRecDepth 1000000 in
theorem outNum_walk (s : ByteArray) (er n bytes : Int) (w : World) (hs : (s.size : Int) ≤ 9223372036854775799) :
    Calls Tryz.prog 127 #[.agg #[.string s, .int .i64 er], .int .u64 n, .int .i64 bytes] w fun e w' =>
      e = .returned (.agg #[.string ⟨(s.data.toList ++ N.numB n (N.clamp bytes)).toArray⟩, .int .i64 er]) ∧ Below w.heap.size w w' := by
  go_enter Tryz.func127, Tryz.ntmps127
  go_wp2
  go_loopw [8] (fun i wr => ∃ (k : Int) (acc : List UInt8), i = .int .i64 k ∧ Lib.IsBuilder 91 5 (w.heap.size + 1 + 1) (w.heap.size + 1 + 1) (Lib.byteCells acc) wr ∧
      Below (w.heap.size + 1 + 1) ((w.alloc (Obj.cells #[Value.string s, Value.int IntKind.i64 er] 168)).alloc (Obj.cells #[Value.string { data := #[] }, Value.int IntKind.i64 0] 168)) wr ∧
      -1 ≤ k ∧ acc ++ N.numB n (k + 1).toNat = N.numB n (N.clamp bytes) ∧ acc.length + (k + 1).toNat ≤ 8) (fun i _ => (RowKit.intOf i + 1).toNat)
  case atStart =>
    obtain ⟨hcl, hc8⟩ := clamp_eq (bytes := bytes)
    have hf := Lib.fresh_isBuilder 91 5 ((w.alloc (Obj.cells #[Value.string s, Value.int IntKind.i64 er] 168)).alloc (Obj.cells #[Value.string { data := #[] }, Value.int IntKind.i64 0] 168))
    have e0 : ((w.alloc (Obj.cells #[Value.string s, Value.int IntKind.i64 er] 168)).alloc (Obj.cells #[Value.string { data := #[] }, Value.int IntKind.i64 0] 168)).heap.size = w.heap.size + 1 + 1 := by simp
    rw [e0] at hf
    refine ⟨(N.clamp bytes : Int) - 1, [], by rw [hcl], hf, (Below.refl _ _).alloc (by simp) _, by omega, ?_, ?_⟩
    · rw [show ((N.clamp bytes : Int) - 1 + 1).toNat = N.clamp bytes by omega]; rfl
    · simp only [List.length_nil]; omega
  case round =>
    obtain ⟨k, acc, rfl, hI, hB, hk, hacc, hal⟩ := hrel
    by_cases hk0 : 0 ≤ k
    · go_wp2_with (go_at_call 141; refine (writeByte (w.heap.size + 1 + 1) (w.heap.size + 1 + 1) _ _ _ hI (by rw [Lib.byteCells_length]; omega) (by have := hB.size; simp at this; omega)).mono ?_)
      rintro e w1 ⟨rfl, h1, b1⟩
      go_wp2
      go_roundw
      case rel =>
        have e1 : N.numB n (k + 1).toNat = UInt8.ofNat ((n / 2 ^ (8 * k.toNat)) % 256).toNat :: N.numB n k.toNat := by
          rw [show (k + 1).toNat = k.toNat + 1 by omega]; rfl
        have e2 : ((UInt8.ofNat ((n / 2 ^ (8 * k.toNat)) % 256).toNat).toNat : Int) = n / 2 ^ (8 * k).toNat % 256 := by
          rw [show (8 * k).toNat = 8 * k.toNat by omega]
          have h0 : 0 ≤ (n / 2 ^ (8 * k.toNat)) % 256 := Int.emod_nonneg _ (by decide)
          have h1 : (n / 2 ^ (8 * k.toNat)) % 256 < 256 := Int.emod_lt_of_pos _ (by decide)
          have h2 : (UInt8.ofNat ((n / 2 ^ (8 * k.toNat)) % 256).toNat).toNat = ((n / 2 ^ (8 * k.toNat)) % 256).toNat := UInt8.toNat_ofNat_of_lt' (by
            show ((n / 2 ^ (8 * k.toNat)) % 256).toNat < 256
            omega)
          rw [h2]; omega
        refine ⟨k - 1, acc ++ [UInt8.ofNat ((n / 2 ^ (8 * k.toNat)) % 256).toNat], rfl, ?_, hB.trans b1, by omega, ?_, ?_⟩
        · rw [Lib.byteCells_append]
          have e3 : Lib.byteCells [UInt8.ofNat ((n / 2 ^ (8 * k.toNat)) % 256).toNat] = [Value.int .u8 (n / 2 ^ (8 * k).toNat % 256)] := by
            rw [← e2]; rfl
          rw [e3]; exact Or.inr h1
        · rw [e1] at hacc
          rw [← hacc, show (k - 1 + 1).toNat = k.toNat by omega, List.append_assoc]; rfl
        · rw [List.length_append]; simp only [List.length_cons, List.length_nil]; omega
      case measure => simp [RowKit.intOf]; omega
    · have hk1 : k = -1 := by omega
      subst hk1
      have hfin : N.numB n (N.clamp bytes) = acc := by rw [← hacc]; show acc ++ [] = acc; simp
      have hal : acc.length ≤ 8 := by omega
      clear hacc
      rw [hfin]
      obtain ⟨hb0, hb1⟩ := two_blocks hB
      have c0 : wr.cell? ⟨w.heap.size, 0, none⟩ = some (.string s) := by rw [Lib.cell_of_heap hb0]; rfl
      have c1 : wr.cell? ⟨w.heap.size, 1, none⟩ = some (.int .i64 er) := by rw [Lib.cell_of_heap hb0]; rfl
      have c2 : wr.cell? ⟨w.heap.size + 1, 0, none⟩ = some (.string ⟨#[]⟩) := by rw [Lib.cell_of_heap hb1]; rfl
      have c3 : wr.cell? ⟨w.heap.size + 1, 1, none⟩ = some (.int .i64 0) := by rw [Lib.cell_of_heap hb1]; rfl
      have f0 : wr.frozen? ⟨w.heap.size, 0, none⟩ = false := Lib.frozen_of_heap hb0 0
      have f1 : wr.frozen? ⟨w.heap.size, 1, none⟩ = false := Lib.frozen_of_heap hb0 1
      have f2 : wr.frozen? ⟨w.heap.size + 1, 0, none⟩ = false := Lib.frozen_of_heap hb1 0
      have f3 : wr.frozen? ⟨w.heap.size + 1, 1, none⟩ = false := Lib.frozen_of_heap hb1 1
      have hBw : w.heap.size + 1 + 1 ≤ wr.heap.size := by have := hB.size; simp at this; omega
      have hadd : ¬ 9223372036854775807 < s.size + acc.length := by omega
      have hadd2 : ¬ 9223372036854775807 < s.size + (⟨acc.toArray⟩ : ByteArray).size := by
        show ¬ 9223372036854775807 < s.size + acc.toArray.size
        rw [List.size_toArray]; exact hadd
      have hadd3 : ¬ (s.size + (⟨acc.toArray⟩ : ByteArray).size > 9223372036854775807) := hadd2
      have hadd4 : s.size + (⟨acc.toArray⟩ : ByteArray).size ≤ 9223372036854775807 := Nat.not_lt.1 hadd2
      have hadd5 : s.size + acc.length ≤ 9223372036854775807 := Nat.not_lt.1 hadd
      go_wp2
      go_region_with (go_at_call 57; refine (bString (w.heap.size + 1 + 1) (w.heap.size + 1 + 1) acc _ (by exact hI) (by exact hBw)).mono ?_; rintro e w2 ⟨rfl, b2⟩
                      have d0 : w2.cell? ⟨w.heap.size, 0, none⟩ = some (.string s) := by rw [b2.cell (by show w.heap.size < w.heap.size + 1 + 1; omega)]; exact c0
                      have d1 : w2.cell? ⟨w.heap.size, 1, none⟩ = some (.int .i64 er) := by rw [b2.cell (by show w.heap.size < w.heap.size + 1 + 1; omega)]; exact c1
                      have d2 : w2.cell? ⟨w.heap.size + 1, 0, none⟩ = some (.string ⟨#[]⟩) := by rw [b2.cell (by show w.heap.size + 1 < w.heap.size + 1 + 1; omega)]; exact c2
                      have d3 : w2.cell? ⟨w.heap.size + 1, 1, none⟩ = some (.int .i64 0) := by rw [b2.cell (by show w.heap.size + 1 < w.heap.size + 1 + 1; omega)]; exact c3
                      have e0 : w2.frozen? ⟨w.heap.size, 0, none⟩ = false := by rw [b2.frozen (by show w.heap.size < w.heap.size + 1 + 1; omega)]; exact f0
                      have e1 : w2.frozen? ⟨w.heap.size, 1, none⟩ = false := by rw [b2.frozen (by show w.heap.size < w.heap.size + 1 + 1; omega)]; exact f1
                      have e2 : w2.frozen? ⟨w.heap.size + 1, 0, none⟩ = false := by rw [b2.frozen (by show w.heap.size + 1 < w.heap.size + 1 + 1; omega)]; exact f2
                      have e3 : w2.frozen? ⟨w.heap.size + 1, 1, none⟩ = false := by rw [b2.frozen (by show w.heap.size + 1 < w.heap.size + 1 + 1; omega)]; exact f3)
      all_goals go_wp2
      all_goals
        refine ⟨rfl, .agg #[.string (s ++ ⟨acc.toArray⟩), .int .i64 er], ?_, ?_, ?_⟩
        · simp [results, Tryz.results127, go_sem, d2, d3]
        · rw [hfin, ← bytes_append]
        · have b0 : Below w.heap.size w wr := (((Below.refl _ w).alloc (Nat.le_refl _) _).alloc (by simp) _).trans (hB.mono (by omega))
          exact (((b0.drew.trans (b2.mono (by omega))).setCell (p := ⟨w.heap.size, 0, none⟩) (Nat.le_refl _) _).setCell (p := ⟨w.heap.size + 1, 0, none⟩) (Nat.le_succ _) _).setCell (p := ⟨w.heap.size + 1, 1, none⟩) (Nat.le_succ _) _
theorem keeps_below {w w' : World} (X:Nat→Nat→Prop) (h:Below w.heap.size w w'):Keeps X w w' :=
 ⟨h.os,h.tape,h.output,h.size,fun b hb=>ObjOk.same (h.block b hb)⟩
theorem outNum_ok:FnOk Tryz.prog 127 dOutNum:=by
 refine den_of fun a b hp=>?_
 obtain ⟨o,n,bytes⟩:=a
 intro x y hxy w J locs xs hlen hJ hx _ _ _
 have hxy:x=(aCons (vAgg cOut) (aCons (vInt .u64) (aOne (vInt .i64)))).enc (o,n,bytes)∧y=bNil.enc b:=by simpa using hxy
 obtain ⟨rfl,rfl⟩:=hxy
 have hlen:locs=[]:=List.eq_nil_of_length_eq_zero hlen
 subst hlen
 obtain ⟨hp1,hp⟩:=bcond hp
 obtain ⟨hp2,hp3⟩:=bcond hp
 have hp3:o.s.length≤9223372036854775799:=Nat.le_of_ble_eq_true hp3
 obtain ⟨x0,xs1,rfl,hx0,hx⟩:=hx.uncons
 obtain ⟨x1,xs2,rfl,hx1,hx⟩:=hx.uncons
 obtain ⟨x2,rfl,hx2⟩:=hx.one
 obtain ⟨cs,rfl,hc1,hc2⟩:=Rv.agg_inv (show Rv w J _ (.agg [.str o.s,.int .i64 o.err]) x0 from hx0)
 have hx1:=Rv.int_inv (show Rv w J _ (.int .u64 n) x1 from hx1)
 have hx2:=Rv.int_inv (show Rv w J _ (.int .i64 bytes) x2 from hx2)
 subst hx1 hx2
 match cs,hc1,hc2 with
 | [c0,c1],_,hc2 =>
  have h0:=Rv.str_inv (show Rv w J _ (.str o.s) c0 from hc2 0 (by simp))
  have h1:=Rv.int_inv (show Rv w J _ (.int .i64 o.err) c1 from hc2 1 (by simp))
  subst h0 h1
  refine .inl ⟨?_,?_⟩
  ·have hnm : ¬ (Tryz.f127).name = "runtime.NumGoroutine" := by
    intro e
    have : ((Tryz.f127).name == "runtime.NumGoroutine") = false := by kernel_rfl
    rw [e] at this; cases this
   obtain ⟨c,hc⟩:=Option.isSome_iff_exists.1 (show (Tryz.f127).body.isSome=true by kernel_rfl)
   simp [callFunc,Tryz.func127,hnm,hc]
  ·refine (outNum_walk ⟨o.s.toArray⟩ o.err n bytes w (by rw [bytes_size]; omega)).mono fun e w' ⟨he,hb⟩=>⟨_,he,J,?_⟩
   refine ⟨keeps_below _ hb,fun _ _ h=>h,fun b o' h=>Nat.lt_of_lt_of_le (hJ b o' h) hb.size,fun _ _ h _=>h,rfl,(fun j cs cs' p hj=>by cases hj),.inl ⟨rfl,?_⟩⟩
   refine .agg [.str (N.outNum o n bytes).s,.int .i64 (N.outNum o n bytes).err] [.string ⟨(o.s++N.numB n (N.clamp bytes)).toArray⟩,.int .i64 o.err] rfl fun i hi=>?_
   match i,hi with
   | 0,_=>exact .dat (.str _)
   | 1,_=>exact .dat (.int _ _)
end Go.Ev
