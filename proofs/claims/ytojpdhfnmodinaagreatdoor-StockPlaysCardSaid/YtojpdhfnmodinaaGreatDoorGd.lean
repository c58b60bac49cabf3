/- What a claim needs: definitions and lemmas, no condition. -/
import Derived.Test.YtojpdhfnmodinaaGreatDoorGc
namespace Go.Ev
open Go Go.Proofs
set_option maxRecDepth 100000
noncomputable def Vh:Env:=env Tryz.prog [] [] []
theorem amr (l:List bG):bM Vh 194 ((aW (jY gG)).enc l) ([]) some =
 cond (!Nat.beq (List.length (List.map yE l)) 0) (cond (Nat.beq (List.length (List.map yE l)) 0) (some {v:=.slc yP [],bx:=[]:aH}) (cond (decide (List.length (List.map yE l)*48<=140737488355328)) (some {v:=.slc yP (List.map yE l),bx:=[]:aH}) none)) none:=by kernel_rfl
theorem aif  : bM Vh 194 [.jO yP] ([]) some =
 some {v:=.slc yP [],bx:=[]:aH}:=by kernel_rfl
theorem aii  : bM Vh 194 [.nn yP] ([]) some =
 some {v:=.slc yP [],bx:=[]:aH}:=by kernel_rfl
theorem aij:bH Tryz.prog 194 ahD:=by
 refine UZ fun l b h=>?_
 have h:l.length<=1000000:=aX h
 have fo:=fun a r=>aph (E:=Vh) (aT (fK.nil _)) Tryz.func194 [] (by kernel_rfl) none0 a [] r
 cases l with
 | nil=>exact bH.empty (fo _ _ aif) (fo _ _ aii)
 | cons p r =>
  refine fo _ _ ((amr (p::r)).trans ?_)
  show _=some (⟨.slc yP ((p::r).map fun p=>[V.str p.key,V.int .u8 p.kind,V.int .i64 p.num,V.str p.text]),[],[]⟩:aH)
  rw [show Nat.beq (List.length ((p::r).map fun p=>[V.str p.key,V.int .u8 p.kind,V.int .i64 p.num,V.str p.text])) 0=false from rfl]
  simp (disch:=omega) only [evs,Bool.not_false]
noncomputable def Sj:Env:=env Tryz.prog [(194,ahD)] [] []
theorem aaS (m:ay):bM Sj 171 ((aW (bg ak)).enc m) ([]) some =
 cond (Nat.ble (List.length (List.map yD (List.map yE m.head))) 1000000) (some {v:=.agg [V.int .u64 m.id,.str m.bT,.str m.key,.slc yP (List.map yE (List.map yD (List.map yE m.head))),.str m.body,.int .u64 m.due,.int .u8 m.hops],bx:=[]:aH}) none:=by kernel_rfl
theorem uN:bH Tryz.prog 171 vV:=by
 refine aK (aT ((fK.nil _).cons aij)) (E:=Sj) Tryz.func171 [] (by kernel_rfl) none0 fun m _ h=>?_
 have h:m.head.length<=1000000:=aX h
 refine (aaS m).trans ?_
 simp (disch:=omega) only [evs,fO]
 try rfl
noncomputable def Ou:Env:=env Tryz.prog [(112,GK),(119,aqV),(120,wC)] [] []
theorem XQ (m:ay):bM Ou 45 ((aW (bg ak)).enc m) ([]) some =
 cond (N.name m.bT != 0) (some {v:=.int .i64 (N.name m.bT),bx:=[]:aH}) (cond (N.key m.key [] != 0) (some {v:=.int .i64 (N.key m.key []),bx:=[]:aH}) (cond (N.dF (List.map yD (List.map yE m.head)) != 0) (some {v:=.int .i64 (N.dF (List.map yD (List.map yE m.head))),bx:=[]:aH}) (cond (aZ 256 (↑(List.length m.body):Int)) (some {v:=.int .i64 5,bx:=[]:aH}) (cond (aZ 4 m.hops) (some {v:=.int .i64 7,bx:=[]:aH}) (some {v:=.int .i64 0,bx:=[]:aH}))))):=by kernel_rfl
noncomputable def Ew:Env:=env Tryz.prog [(42,GK),(43,acP),(44,wC)] [] []
theorem Ov (m:ay):type_of% (by
  have h:bM Ew 12 ((aW (bg ak)).enc m) ([]) some =(
   let z0:=(List.map yD (List.map yE m.head));let z12:=(aZ 4 m.hops);let z7:=(some {v:=.int .i64 7,bx:=[]:aH});let z11:=(some {v:=.int .i64 (N.dF z0),bx:=[]:aH});let z1:=(cond (N.dF z0==0) (cond z12 z7 z11) z11);let z8:=(N.yB m.key false==0);let z9:=(some {v:=.int .i64 (N.yB m.key false),bx:=[]:aH});let z2:=(cond z8 (cond z12 z7 z9) z9);let z6:=(N.name m.bT==0);let z10:=(some {v:=.int .i64 (N.name m.bT),bx:=[]:aH});let z3:=(cond z6 (cond z12 z7 z10) z10);let z4:=(aZ 256 (↑(List.length m.body):Int));let z5:=(some {v:=.int .i64 5,bx:=[]:aH});cond z6 (cond z8 (cond (N.dF z0==0) (cond z4 z5 z1) z1) (cond z8 (cond z4 z5 z2) z2)) (cond z6 (cond (N.dF z0==0) (cond z4 z5 z1) z1) (cond z6 (cond z4 z5 z3) z3))):=by kernel_rfl
  dsimp only at h;exact h):=by kernel_rfl
theorem rP:bH Tryz.prog 45 lG:=by
 refine aK (aT ((((fK.nil _).cons GV).cons apy).cons LX)) (E:=Ou) Tryz.func45 [] (by kernel_rfl) none0 fun m _ _=>?_
 refine (XQ m).trans ?_
 show _=some (⟨.int .i64 (N.aV m),[],[]⟩:aH)
 unfold N.aV
 simp only [fO]
 cases h1:N.name m.bT != 0<;>cases h2:N.key m.key [] != 0<;>cases h3:N.dF m.head != 0<;>cases h4:aZ 256 (m.body.length:Int)<;>cases h5:aZ 4 m.hops<;>simp only [cond_true,cond_false]
theorem qH:bH Tryz.prog 12 lG:=by
 refine aK (aT ((((fK.nil _).cons XJ).cons aeM).cons E8)) (E:=Ew) Tryz.func12 [] (by kernel_rfl) none0 fun m _ _=>?_
 refine (Ov m).trans ?_
 show _=some (⟨.int .i64 (N.aV m),[],[]⟩:aH)
 unfold N.aV
 simp only [fO,key_eq,bne]
 cases h1:N.name m.bT==0 with
 | false=>simp only [Bool.not_false,cond_true,cond_false]
 | true =>
  cases h2:N.yB m.key false==0 with
  | false=>simp only [Bool.not_false,Bool.not_true,cond_true,cond_false]
  | true =>
   cases h3:N.dF m.head==0 with
   | false=>simp only [Bool.not_false,Bool.not_true,cond_true,cond_false]
   | true =>
    have e3:=aY h3
    rw [e3]
    cases h4:aZ 256 (m.body.length:Int)<;>cases h5:aZ 4 m.hops<;>first | rfl | simp only [Bool.not_false,Bool.not_true,cond_true,cond_false,h3,h4,h5]
noncomputable def Sl:Env:=env Tryz.prog [(184,Jm)] [] []
theorem aaT (a b:ay):type_of% (by
  have h:bM Sl 143 ((aO (bg ak) (aW (bg ak))).enc (a,b)) ([]) some =(
   let z0:=(List.map yD (List.map yE a.head));let z1:=(some {v:=.bool false,bx:=[]:aH});cond (ay.id a==ay.id b) (cond (ay.bT a==ay.bT b) (cond (ay.key a==ay.key b) (cond (Nat.ble (List.length z0) 1000000) (cond (N.jy z0 (List.map yD (List.map yE b.head))) (cond (ay.body a==ay.body b) (cond (ay.due a==ay.due b) (some {v:=.bool (ay.hops a==ay.hops b),bx:=[]:aH}) z1) z1) z1) none) z1) z1) z1):=by kernel_rfl
  dsimp only at h;exact h):=by kernel_rfl
noncomputable def G6:Env:=env Tryz.prog [(72,Jm)] [] []
theorem QH (a b:ay):type_of% (by
  have h:bM G6 25 ((aO (bg ak) (aW (bg ak))).enc (a,b)) ([]) some =(
   let z0:=(List.map yD (List.map yE a.head));let z1:=(some {v:=.bool false,bx:=[]:aH});cond (ay.id a==ay.id b) (cond (ay.bT a==ay.bT b) (cond (ay.key a==ay.key b) (cond (Nat.ble (List.length z0) 1000000) (cond (N.jy z0 (List.map yD (List.map yE b.head))) (cond (ay.body a==ay.body b) (cond (ay.due a==ay.due b) (some {v:=.bool (ay.hops a==ay.hops b),bx:=[]:aH}) z1) z1) z1) none) z1) z1) z1):=by kernel_rfl
  dsimp only at h;exact h):=by kernel_rfl
theorem Kq:bH Tryz.prog 143 qU:=by
 refine aK (aT ((fK.nil _).cons ah9)) (E:=Sl) Tryz.func143 [] (by kernel_rfl) none0 fun a _ h=>?_
 obtain ⟨a,b⟩:=a
 have h:a.head.length<=1000000:=aX h
 refine (aaT a b).trans ?_
 show _=some (⟨.bool (N.iP a b),[],[]⟩:aH)
 unfold N.iP
 cases a.id==b.id<;>cases a.bT==b.bT<;>cases a.key==b.key<;>first | rfl | skip
 simp (disch:=omega) only [evs,fO]
 cases N.jy a.head b.head<;>cases a.body==b.body<;>cases a.due==b.due<;>rfl
theorem rQ:bH Tryz.prog 25 qU:=by
 refine aK (aT ((fK.nil _).cons aaH)) (E:=G6) Tryz.func25 [] (by kernel_rfl) none0 fun a _ h=>?_
 obtain ⟨a,b⟩:=a
 have h:a.head.length<=1000000:=aX h
 refine (QH a b).trans ?_
 show _=some (⟨.bool (N.iP a b),[],[]⟩:aH)
 unfold N.iP
 cases a.id==b.id<;>cases a.bT==b.bT<;>cases a.key==b.key<;>first | rfl | skip
 simp (disch:=omega) only [evs,fO]
 cases N.jy a.head b.head<;>cases a.body==b.body<;>cases a.due==b.due<;>rfl
noncomputable def ac2:Env:=env Tryz.prog [(111,ahB)] [] []
theorem aik (m:ay):bM ac2 38 ((aW (bg ak)).enc m) ([]) some =
 cond (bU (↑(List.length m.bT):Int) 40) (cond (bU (↑(List.length m.key):Int) 100) (cond (N.light (List.map yD (List.map yE m.head))) (some {v:=.bool (bU (↑(List.length m.body):Int) 300),bx:=[]:aH}) (some {v:=.bool false,bx:=[]:aH})) (some {v:=.bool false,bx:=[]:aH})) (some {v:=.bool false,bx:=[]:aH}):=by kernel_rfl
theorem ae2:bH Tryz.prog 38 acT:=by
 refine aK (aT ((fK.nil _).cons ah1)) (E:=ac2) Tryz.func38 [] (by kernel_rfl) none0 fun m _ _=>?_
 refine (aik m).trans ?_
 show _=some (⟨.bool (N.Aa m),[],[]⟩:aH)
 unfold N.Aa
 simp only [fO]
 cases bU (m.bT.length:Int) 40<;>cases bU (m.key.length:Int) 100<;>cases N.light m.head<;>rfl
theorem Cb (h:List bG):(h.map (fun p=>[V.str p.key,V.int .u8 p.kind,V.int .i64 p.num,V.str p.text])).map (fun r=>({ key:=V.toStr (List.getD r 0 .undef),kind:=V.toInt (List.getD r 1 .undef),num:=V.toInt (List.getD r 2 .undef),text:=V.toStr (List.getD r 3 .undef) }:bG))=h:=DN h
noncomputable def Sm:Env:=env Tryz.prog [(74,U3),(147,LW),(185,RQ),(75,EW),(78,Gz),(45,lG)] [] []
theorem aaU (i:eH):type_of% (by
  have h:bM Sm 148 ((aW (nY 0)).enc ()) ((nC IW).enc i) some =(
   let z3:=(N.cO (Prod.snd (N.aN i 8)) 16);let z5:=(N.cO z3.2 64);let z1:=(N.cO (Prod.snd (N.kQ z5.2)) 256);let z6:=(N.aN z1.2 8);let z2:=(N.aN z6.2 1);let z4:=(List.map yE (Prod.fst (N.kQ z5.2)));let z0:=(N.bV z2.2 (N.aV {id:=Prod.fst (N.aN i 8),bT:=Prod.fst z3,key:=Prod.fst z5,head:=List.map yD z4,body:=Prod.fst z1,due:=Prod.fst z6,hops:=IntKind.wrap .u8 z2.1:ay}));cond (eH.err z2.2==0) (cond (eH.err z0 != 0) (some {v:=.agg [V.int .u64 0,.str [],.str [],.slc yP [],.str [],.int .u64 0,.int .u8 0],bx:=[[V.str z0.s,.int .i64 z0.err]]:aH}) (some {v:=.agg [V.int .u64 (Prod.fst (N.aN i 8)),.str z3.1,.str z5.1,.slc yP z4,.str z1.1,.int .u64 z6.1,.int .u8 (IntKind.wrap .u8 z2.1)],bx:=[[V.str z0.s,.int .i64 z0.err]]:aH})) (cond (eH.err z2.2 != 0) (some {v:=.agg [V.int .u64 0,.str [],.str [],.slc yP [],.str [],.int .u64 0,.int .u8 0],bx:=[[V.str (eH.s z2.2),.int .i64 (eH.err z2.2)]]:aH}) (some {v:=.agg [V.int .u64 (Prod.fst (N.aN i 8)),.str z3.1,.str z5.1,.slc yP z4,.str z1.1,.int .u64 z6.1,.int .u8 (IntKind.wrap .u8 z2.1)],bx:=[[V.str (eH.s z2.2),.int .i64 (eH.err z2.2)]]:aH}))):=by kernel_rfl
  dsimp only at h;exact h):=by kernel_rfl
theorem Kr:bH Tryz.prog 148 Jp:=by
 refine aK (aT (((((((fK.nil _).cons rP).cons xG).cons zi).cons XG).cons Js).cons BQ)) (E:=Sm) Tryz.func148 [] (by kernel_rfl) none0 fun _ i _=>?_
 refine (aaU i).trans ?_
 show _=some (⟨.agg (ak.enc (N.dL i).1),[IW.enc (N.dL i).2],[]⟩:aH)
 simp only [Cb]
 unfold N.dL
 dsimp only
 generalize N.aN i 8=a
 generalize N.cO a.2 16=b
 generalize N.cO b.2 64=c
 generalize N.kQ c.2=d
 generalize N.cO d.2 256=e
 generalize N.aN e.2 8=f
 generalize N.aN f.2 1=g
 unfold N.DR
 cases h1:g.2.err==0 with
 | true =>
  simp only [cond_true]
  generalize N.bV g.2 _=z
  cases z.err != 0<;>rfl
 | false =>
  simp only [cond_false]
  cases g.2.err != 0<;>rfl
theorem Ox (x s:Bytes):N.sZ ⟨x,0⟩ s=⟨x++s,0⟩:=rfl
noncomputable def Oy:Env:=env Tryz.prog [(45,lG),(163,EU),(95,fZ),(96,BL),(100,GH),(103,tq)] [] []
theorem XR (m:ay):type_of% (by
  have h:bM Oy 98 ((aW (bg ak)).enc m) ([]) some =(
   let z2:=(List.map yE m.head);let z0:=(List.map yD z2);let z3:=(N.kE (N.jl {s:=[],err:=0:iK} m.id 8) m.bT);let z6:=(Prod.fst (bif N.dF z0 != 0 then ([],N.dF z0) else (N.jr z0,0)));let z1:=(N.sZ (N.kE z3 m.key) z6);let z4:=(IntKind.wrap .u64 m.hops);let z5:=(N.jl (N.kE z1 m.body) m.due 8);cond (N.aV {id:=ay.id m,bT:=ay.bT m,key:=ay.key m,head:=List.map yD z2,body:=ay.body m,due:=ay.due m,hops:=ay.hops m:ay} != 0) (some {v:=.fE [V.str [],.int .i64 (N.aV {id:=ay.id m,bT:=ay.bT m,key:=ay.key m,head:=List.map yD z2,body:=ay.body m,due:=ay.due m,hops:=ay.hops m:ay})],bx:=[]:aH}) (cond (bif bU 0 m.id then bif aZ m.id 18446744073709551616 then true else false else false) (cond (Nat.ble (8+List.length m.bT) 9223372036854775790) (cond (Nat.ble (List.length (iK.s z3)+List.length m.key) 9223372036854775790) (cond (Nat.ble (List.length (iK.s (N.kE z3 m.key))+List.length z6) 9223372036854775807) (cond (Nat.ble (List.length (iK.s z1)+List.length m.body) 9223372036854775790) (cond (bif bU 0 m.due then bif aZ m.due 18446744073709551616 then Nat.ble (List.length (iK.s (N.kE z1 m.body))) 9223372036854775799 else false else false) (cond (bif bU 0 z4 then bif aZ z4 18446744073709551616 then Nat.ble (List.length (iK.s z5)) 9223372036854775799 else false else false) (some {v:=.fE [V.str (iK.s (N.jl z5 z4 1)),.int .i64 0],bx:=[]:aH}) none) none) none) none) none) none) none)):=by kernel_rfl
  dsimp only at h;exact h):=by kernel_rfl
theorem qC {m:ay} (h:N.aV m=0):m.bT.length<=16∧m.key.length<=64∧N.dF m.head=0∧m.body.length<=256∧m.hops<=4∧N.name m.bT=0∧N.key m.key []=0:=by
 unfold N.aV at h
 have key:∀ x y:Int,cond (x != 0) x y=0->x=0∧y=0:=fun x y h=>by
  cases e:x != 0 with
  | true=>rw [e,cond_true] at h; rw [h] at e; cases e
  | false=>rw [e,cond_false] at h; exact ⟨by simpa using e,h⟩
 obtain ⟨h1,h⟩:=key _ _ h
 obtain ⟨h2,h⟩:=key _ _ h
 obtain ⟨h3,h⟩:=key _ _ h
 cases h4:aZ 256 (m.body.length:Int) with
 | true=>rw [h4] at h; cases h
 | false =>
  rw [h4] at h
  cases h5:aZ 4 m.hops with
  | true=>rw [h5] at h; cases h
  | false =>
   have a4:=fD h4
   have a5:=fD h5
   have a1:m.bT.length<=16:=by
    unfold N.name at h1
    cases e1:m.bT==[] with
    | true=>rw [e1] at h1; cases h1
    | false =>
     rw [e1] at h1
     cases e2:aZ 16 m.bT.length with
     | true=>rw [e2] at h1; cases h1
     | false=>have:=fD e2; omega
   have a2:m.key.length<=64:=by
    rw [key_eq] at h2
    exact aaC (b:=false) (by rw [h2]; rfl)
   exact ⟨a1,a2,h3,by omega,a5,h1,h2⟩
theorem Oz:∀ {l:List bG},l.all N.ET=true->(N.mP l).length<=150*l.length
 | [],_=>Nat.le_refl _
 | p::r,h=>by
  rw [List.all_cons,Bool.and_eq_true] at h
  have ih:=Oz h.2
  obtain ⟨f1,f2⟩:=aP h.1
  have f1:=aX f1
  have f2:=aX f2
  have hlen:(N.wB p).length<=150:=by
   unfold N.wB
   simp only [List.length_append,kF,fB]
   cases p.kind==0<;>cases p.kind==1<;>cases p.kind==2<;>simp only [cond_true,cond_false,fB,kF,List.length_nil]<;>omega
  show (N.wB p++N.mP r).length<=_
  rw [List.length_append,List.length_cons]; omega
theorem Sr {h:List bG} (hz:N.dF h=0):(N.jr h).length<=1201:=by
 obtain ⟨c1,c2⟩:=Jr hz
 have:=Oz c2
 unfold N.jr
 rw [List.length_append,fB]; omega
theorem vP (hN:bH Tryz.prog 95 fZ):bH Tryz.prog 98 wE:=by
 refine aK (aT (((((((fK.nil _).cons rO).cons DV).cons (Ad hN)).cons hN).cons (GY hN)).cons rP)) (E:=Oy) Tryz.func98 [] (by kernel_rfl) none0 fun m _ h=>?_
 obtain ⟨id,bT,key,head,body,due,hops⟩:=m
 obtain ⟨b1,h⟩:=aP h
 obtain ⟨b2,h⟩:=aP h
 obtain ⟨i1,i2⟩:=aP b1
 obtain ⟨i3,i4⟩:=aP b2
 obtain ⟨i5,i6⟩:=aP h
 simp only at i1 i2 i3 i4 i5 i6
 refine (XR ⟨id,bT,key,head,body,due,hops⟩).trans ?_
 simp only [Cb]
 show _=some (⟨.fE [.str (cond (N.aV ⟨id,bT,key,head,body,due,hops⟩ != 0) (([]:Bytes),N.aV ⟨id,bT,key,head,body,due,hops⟩) (N.mQ ⟨id,bT,key,head,body,due,hops⟩,0)).1,
  .int .i64 (cond (N.aV ⟨id,bT,key,head,body,due,hops⟩ != 0) (([]:Bytes),N.aV ⟨id,bT,key,head,body,due,hops⟩) (N.mQ ⟨id,bT,key,head,body,due,hops⟩,0)).2],[],[]⟩:aH)
 cases hc:N.aV ⟨id,bT,key,head,body,due,hops⟩ != 0 with
 | true=>rfl
 | false =>
  have hz:N.aV ⟨id,bT,key,head,body,due,hops⟩=0:=by simpa using hc
  obtain ⟨c1,c2,c3,c4,c5,_⟩:=qC hz
  simp only at c1 c2 c3 c4 c5
  have hl:=Sr c3
  have wh:IntKind.wrap .u64 hops=hops:=wrap_u64 (by have:=bQ i5; omega) (by omega)
  have i5':=bQ i5
  have hb:cond (N.dF head != 0) (([]:Bytes),N.dF head) (N.jr head,0)=(N.jr head,0):=by rw [c3]; rfl
  have o1:∀ (x s:Bytes),s.length<=65535->N.kE ⟨x,0⟩ s=⟨x++N.dS s,0⟩:=fun x s hs=>Ai hs
  unfold N.mQ
  simp only
  simp (disch:=omega) only [evs,Ox,i1,i2,i3,i4,o1,BR,uM,fB,kF,wh,List.nil_append]
noncomputable def Sv:Env:=env Tryz.prog [(98,wE)] [] []
theorem aaV (m:ay):type_of% (by
  have h:bM Sv 48 ((aW (bg ak)).enc m) ([]) some =(
   let z0:=(List.map yE m.head);cond (N.vC {id:=ay.id m,bT:=ay.bT m,key:=ay.key m,head:=List.map yD z0,body:=ay.body m,due:=ay.due m,hops:=ay.hops m:ay}) (some {v:=.int .i64 (↑(List.length (Prod.fst (bif N.aV {id:=ay.id m,bT:=ay.bT m,key:=ay.key m,head:=List.map yD z0,body:=ay.body m,due:=ay.due m,hops:=ay.hops m:ay} != 0 then ([],N.aV {id:=ay.id m,bT:=ay.bT m,key:=ay.key m,head:=List.map yD z0,body:=ay.body m,due:=ay.due m,hops:=ay.hops m:ay}) else (N.mQ {id:=ay.id m,bT:=ay.bT m,key:=ay.key m,head:=List.map yD z0,body:=ay.body m,due:=ay.due m,hops:=ay.hops m:ay},0)))):Int),bx:=[]:aH}) none):=by kernel_rfl
  dsimp only at h;exact h):=by kernel_rfl
def N.QI (m:ay):Bool:=cond (N.vC m) (cond (Nat.ble m.bT.length 64) (cond (Nat.ble m.key.length 64) (cond (cond (Nat.ble m.head.length 8) (m.head.all N.ET) false) (Nat.ble m.body.length 256) false) false) false) false
def N.kR (m:ay):Bytes:=N.bW m.id 8++N.dS m.bT++N.dS m.key++N.ji m.head++N.dS m.body++N.bW m.due 8++N.bW (IntKind.wrap .u64 m.hops) 1
def D5:Den:=den (aW (bg ak)) dw (oV fV) (fun m _=>N.QI m) fun m _=>(N.kR m,())
noncomputable def Sz:Env:=env Tryz.prog [(104,qG 8),(105,G5),(164,RZ)] [] []
theorem aaW (m:ay):type_of% (by
  have h:bM Sz 106 ((aW (bg ak)).enc m) ([]) some =(
   let z0:=(List.map yD (List.map yE m.head));let z1:=(IntKind.wrap .u64 m.hops);cond (bif bU 0 m.id then bif aZ m.id 18446744073709551616 then N.iI 8 8 else false else false) (cond (Nat.ble (List.length m.bT) 65535) (cond (Nat.ble (8+List.length (N.dS m.bT)) 9223372036854775807) (cond (Nat.ble (List.length m.key) 65535) (cond (Nat.ble (List.length (N.bW m.id (N.clamp 8)++N.dS m.bT)+List.length (N.dS m.key)) 9223372036854775807) (cond (bif Nat.ble (List.length z0) 8 then List.all z0 N.ET else false) (cond (Nat.ble (List.length (N.bW m.id (N.clamp 8)++N.dS m.bT++N.dS m.key)+List.length (N.ji z0)) 9223372036854775807) (cond (Nat.ble (List.length m.body) 65535) (cond (Nat.ble (List.length (N.bW m.id (N.clamp 8)++N.dS m.bT++N.dS m.key++N.ji z0)+List.length (N.dS m.body)) 9223372036854775807) (cond (bif bU 0 m.due then bif aZ m.due 18446744073709551616 then N.iI 8 8 else false else false) (cond (Nat.ble (List.length (N.bW m.id (N.clamp 8)++N.dS m.bT++N.dS m.key++N.ji z0++N.dS m.body)+8) 9223372036854775807) (cond (bif bU 0 z1 then bif aZ z1 18446744073709551616 then N.iI 8 1 else false else false) (cond (Nat.ble (List.length (N.bW m.id (N.clamp 8)++N.dS m.bT++N.dS m.key++N.ji z0++N.dS m.body++N.bW m.due (N.clamp 8))+1) 9223372036854775807) (some {v:=.str (N.bW m.id (N.clamp 8)++N.dS m.bT++N.dS m.key++N.ji z0++N.dS m.body++N.bW m.due (N.clamp 8)++N.bW z1 (N.clamp 1)),bx:=[]:aH}) none) none) none) none) none) none) none) none) none) none) none) none) none):=by kernel_rfl
  dsimp only at h;exact h):=by kernel_rfl
theorem Cc (hN:bH Tryz.prog 95 fZ):bH Tryz.prog 48 DT:=by
 refine aK (aT ((fK.nil _).cons (vP hN))) (E:=Sv) Tryz.func48 [] (by kernel_rfl) none0 fun m _ h=>?_
 have h:N.vC m=true:=h
 obtain ⟨id,bT,key,head,body,due,hops⟩:=m
 refine (aaV ⟨id,bT,key,head,body,due,hops⟩).trans ?_
 simp only [Cb]
 show _=some (⟨.int .i64 (N.bJ ⟨id,bT,key,head,body,due,hops⟩),[],[]⟩:aH)
 unfold N.bJ
 simp (disch:=omega) only [evs,h]
 cases N.aV ⟨id,bT,key,head,body,due,hops⟩ != 0<;>rfl
theorem ail {m:ay} (h:N.vC m=true):(0<=m.id∧m.id<18446744073709551616)∧(0<=m.due∧m.due<18446744073709551616)∧(0<=m.hops∧m.hops<256):=by
 obtain ⟨b1,h⟩:=aP h
 obtain ⟨b2,h⟩:=aP h
 obtain ⟨i1,i2⟩:=aP b1
 obtain ⟨i3,i4⟩:=aP b2
 obtain ⟨i5,i6⟩:=aP h
 exact ⟨⟨bQ i1,jZ i2⟩,⟨bQ i3,jZ i4⟩,⟨bQ i5,jZ i6⟩⟩
theorem Ey:∀ {l:List bG},l.all N.ET=true->(N.mV l).length<=150*l.length
 | [],_=>Nat.le_refl _
 | p::r,h=>by
  rw [List.all_cons,Bool.and_eq_true] at h
  have ih:=Ey h.2
  obtain ⟨f1,f2⟩:=aP h.1
  have f1:=aX f1
  have f2:=aX f2
  have hlen:(N.nZ p).length<=150:=by
   unfold N.nZ
   cases p.kind==0<;>cases p.kind==1<;>simp only [cond_true,cond_false,List.length_append,fB,kF]<;>omega
  show (N.nZ p++N.mV r).length<=_
  rw [List.length_append,List.length_cons]; omega
theorem Ce:bH Tryz.prog 106 D5:=by
 refine aK (aT ((((fK.nil _).cons (XO (tu 8))).cons (Fg (tu 8))).cons (tu 8))) (E:=Sz) Tryz.func106 [] (by kernel_rfl) none0 fun m _ h=>?_
 obtain ⟨id,bT,key,head,body,due,hops⟩:=m
 obtain ⟨h0,h⟩:=aP h
 obtain ⟨h1,h⟩:=aP h
 obtain ⟨h2,h⟩:=aP h
 obtain ⟨h3,h4⟩:=aP h
 have ho:=ail h0
 simp only at ho
 obtain ⟨⟨a1,a2⟩,⟨a3,a4⟩,⟨a5,a6⟩⟩:=ho
 have h1:bT.length<=64:=aX h1
 have h2:key.length<=64:=aX h2
 have h4:body.length<=256:=aX h4
 obtain ⟨h5,h6⟩:=aP h3
 have h5:head.length<=8:=aX h5
 have h6:head.all N.ET=true:=h6
 have hl:=Ey h6
 refine (aaW ⟨id,bT,key,head,body,due,hops⟩).trans ?_
 simp only [Cb]
 show _=some (⟨.str (N.kR ⟨id,bT,key,head,body,due,hops⟩),[],[]⟩:aH)
 have wh:IntKind.wrap .u64 hops=hops:=wrap_u64 (by omega) (by omega)
 have hlen:(N.ji head).length<=1201:=by unfold N.ji; rw [List.length_append,fB]; omega
 unfold N.kR
 simp only
 simp (disch:=omega) only [evs,show N.iI 8 8=true from rfl,show N.iI 8 1=true from rfl,show N.clamp 8=8 from rfl,show N.clamp 1=1 from rfl,h6,wh,fB,kF]
noncomputable def G7:Env:=env Tryz.prog [(12,lG),(106,D5)] [] []
theorem QJ (m:ay):bM G7 189 ((aW (bg ak)).enc m) ([]) some =
 cond (N.aV {id:=ay.id m,bT:=ay.bT m,key:=ay.key m,head:=List.map yD (List.map yE m.head),body:=ay.body m,due:=ay.due m,hops:=ay.hops m:ay} != 0) (some {v:=.int .i64 0,bx:=[]:aH}) (cond (N.QI {id:=ay.id m,bT:=ay.bT m,key:=ay.key m,head:=List.map yD (List.map yE m.head),body:=ay.body m,due:=ay.due m,hops:=ay.hops m:ay}) (some {v:=.int .i64 (↑(List.length (N.kR {id:=ay.id m,bT:=ay.bT m,key:=ay.key m,head:=List.map yD (List.map yE m.head),body:=ay.body m,due:=ay.due m,hops:=ay.hops m:ay})):Int),bx:=[]:aH}) none):=by kernel_rfl
end Go.Ev

namespace Go.Ev
open Go Go.Proofs
set_option maxRecDepth 100000
-- FOLD
def ac3 {α:Type} (c:ah α):EP Unit where
 ok:=fun | .jO s=>Sh.rC c.sh s | _=>false
 enc _:=.jO c.sh
 dec _:=()
 ed _:=⟨c.rf,rfl⟩
 law w I ρ v x h hx:=by
  split at h
  .have:=Sh.pO _ _ h; subst this; exact hx
  .cases h
def SA {α:Type} (c:ah α):Den:=den (aO (ac3 c) (aW (cu .i64))) dw (ape c) (fun a _=>cond (bU 0 a.2) (bU a.2 1000000) false) fun _ _=>(([]:List α),())
def N.flat {α:Type}:List (List α)->List α
 | []=>[] | l::r=>l++N.flat r
def vg {α:Type}:List (List α)->Nat
 | []=>0 | l::r=>l.length+vg r
theorem G8 {α:Type}:∀ l:List (List α),(N.flat l).length=vg l
 | []=>rfl
 | l::r=>by show (l++N.flat r).length=_; rw [List.length_append,G8 r]; rfl
def xJ {α:Type} (c:ah α):Den:=den (aW (jY (uZ c))) dw (oV (jY c)) (fun l _=>cond (Nat.ble l.length 1000) (Nat.ble (vg l) 100000) false) fun l _=>(N.flat l,())
noncomputable def ain:Env:={ env Tryz.prog [] [] [] [195] with tr:=true }
theorem ams (n:Int):bM ain 195 ((aO (ac3 ak) (aW (cu .i64))).enc ((),n)) ([]) some =
 cond (aZ n 0) none (cond (aZ 0 (IntKind.wrap .i64 (n-IntKind.wrap .i64 ((0 : Int)-0)))) (cond (decide (0<=IntKind.wrap .i64 (n-IntKind.wrap .i64 ((0 : Int)-0))∧IntKind.wrap .i64 (n-IntKind.wrap .i64 ((0 : Int)-0))*(↑(96:Nat):Int)<=140737488355328∧IntKind.wrap .i64 (n-IntKind.wrap .i64 ((0 : Int)-0))<=140737488355328)) (some {v:=.own 1000 0,bx:=[],nb:=[Box.sl yM [] 0]:aH}) none) (some {v:=.own 1000 0,bx:=[],nb:=[Box.sl yM [] 0]:aH})):=by kernel_rfl
theorem aio:bH Tryz.prog 195 (SA ak):=by
 refine aK (E:=ain) (aT (fK.nil _)) Tryz.func195 [] (by kernel_rfl) none0 fun a _ h=>?_
 obtain ⟨⟨⟩,n⟩:=a
 obtain ⟨h1,h2⟩:=aP h
 have h1:0<=n:=bQ h1
 have h2:n<=1000000:=bQ h2
 refine (ams n).trans ?_
 have w0:IntKind.wrap .i64 ((0:Int)-0)=0:=rfl
 have w:IntKind.wrap .i64 (n-0)=n:=by rw [Int.sub_zero]; exact dY (by omega) (by omega)
 rw [w0,w]
 have d:decide (0<=n∧n*((96:Nat):Int)<=140737488355328∧n<=140737488355328)=true:=decide_eq_true (by omega)
 rw [d,iG h1]
 cases aZ 0 n<;>rfl
def gI:List (List V)->List (List V)
 | []=>[] | r::rs=>V.toRows (List.getD r 0 .undef)++gI rs
theorem tC {α:Type} (c:ah α):∀ l:List (List α),gI (l.map (uZ c).enc)=(N.flat l).map c.enc
 | []=>rfl
 | l::r=>by
  show l.map c.enc++gI (r.map (uZ c).enc)=(l++N.flat r).map c.enc
  rw [tC c r,List.map_append]
def XT:fP:={ fr:=[(0,.slc [.slc yM]),(3,.int .i64),(9,.slc [.slc yM]),(10,.int .i64),(11,.int .i64)],tab:=[] }
def SB:List Leaf->(Ex->St->Option R)->Option R
 | [.r r0,.i i3,.r r9,.i i10,.i i11],K=>cond (i10==r9.length) (cond (i11==0) (cond (i3==0) (cond (Nat.ble (gI r9).length wV) (cond (Nat.ble r9.length wV)
   (K (.exit 0) { fr:=[(0,.slc [.slc yM] r0),(3,.int .i64 (gI r9).length)],tab:=[] }) none) none) none) none) none
 | _,_=>none
def Vj:fP:={ fr:=[(6,.own 10000),(25,.slc [.slc yM]),(26,.int .i64),(27,.int .i64)],tab:=[(10000,.sl yM)] }
def OA:List Leaf->(Ex->St->Option R)->Option R
 | [.r r25,.i i26,.i i27,.r oW],K=>cond (i26==r25.length) (cond (i27==0) (cond (Nat.beq oW.length 0) (cond (Nat.ble (gI r25).length wV) (cond (Nat.ble r25.length wV)
   (K (.exit 2) { fr:=[(6,.own 10000 0)],tab:=[(10000,.sl yM (gI r25) 0)] }) none) none) none) none) none
 | _,_=>none
noncomputable def zk:Env:=env Tryz.prog [(195,SA ak)] [(11,dJ Vj OA),(3,dJ XT SB)] [(3,[(0,[0,3,9,10,11]),(1,[0,3]),(1000,[2])]),(11,[(0,[6,25,26,27]),(3,[6]),(1000,[2])])]
theorem ae3 (l:List (List ay)):bM zk 180 ((aW (jY (uZ ak))).enc l) ([]) some =
 cond ((↑(List.length (List.map (ah.enc (uZ ak)) l)):Int)==(↑(List.length (List.map (ah.enc (uZ ak)) l)):Int)) (cond (Nat.ble (List.length (gI (List.map (ah.enc (uZ ak)) l))) 1000000) (cond (Nat.ble (List.length (List.map (ah.enc (uZ ak)) l)) 1000000) (cond (bU (↑(List.length (gI (List.map (ah.enc (uZ ak)) l))):Int) 1000000) (cond ((↑(List.length (List.map (ah.enc (uZ ak)) l)):Int)==(↑(List.length (List.map (ah.enc (uZ ak)) l)):Int)) (cond (Nat.ble (List.length (gI (List.map (ah.enc (uZ ak)) l))) 1000000) (cond (Nat.ble (List.length (List.map (ah.enc (uZ ak)) l)) 1000000) (some {v:=.slc yM (gI (List.map (ah.enc (uZ ak)) l)),bx:=[]:aH}) none) none) none) none) none) none) none:=by kernel_rfl
theorem Kt (r0:List (List V)) (i3:Int) (r9:List (List V)) (i10:Int) (i11:Int) (K:Ex->St->Option R):bI zk 180 3 { fr:=[(0,.slc [.slc yM] r0),(3,.int .i64 i3),(9,.slc [.slc yM] r9),(10,.int .i64 i10),(11,.int .i64 i11)],tab:=[] } K =
 cond (aZ i11 i10) (cond (decide (0<=i11∧i11<(↑(List.length r9):Int))) (cond (aZ (IntKind.wrap .i64 (i3+(↑(List.length (V.toRows (List.getD (List.getD r9 (Int.toNat i11) []) 0 V.undef))):Int))) 0) none (K .normal {fr:=[(0,.slc [.slc yM] r0),(3,.int .i64 (IntKind.wrap .i64 (i3+(↑(List.length (V.toRows (List.getD (List.getD r9 (Int.toNat i11) []) 0 V.undef))):Int)))),(9,.slc [.slc yM] r9),(10,.int .i64 i10),(11,.int .i64 (IntKind.wrap .i64 (i11+1)))],tab:=[]:St})) none) (K (.exit 0) {fr:=[(0,.slc [.slc yM] r0),(3,.int .i64 i3)],tab:=[]:St}):=by kernel_rfl
theorem G9 (r25:List (List V)) (i26:Int) (i27:Int) (oW:List (List V)) (K:Ex->St->Option R):bI zk 180 11 { fr:=[(6,.own 10000 0),(25,.slc [.slc yM] r25),(26,.int .i64 i26),(27,.int .i64 i27)],tab:=[(10000,.sl yM oW 0)] } K =
 cond (aZ i27 i26) (cond (decide (0<=i27∧i27<(↑(List.length r25):Int))) (cond (decide ((List.length oW+List.length (V.toRows (List.getD (List.getD r25 (Int.toNat i27) []) 0 V.undef)))*96<=140737488355328)) (K .normal {fr:=[(6,.own 10000 0),(25,.slc [.slc yM] r25),(26,.int .i64 i26),(27,.int .i64 (IntKind.wrap .i64 (i27+1)))],tab:=[(10000,.sl yM (oW++V.toRows (List.getD (List.getD r25 (Int.toNat i27) []) 0 V.undef)) 0)]:St}) none) none) (K (.exit 2) {fr:=[(6,.own 10000 0)],tab:=[(10000,.sl yM oW 0)]:St}):=by kernel_rfl
theorem kK (x:List V) (l:List (List V)):gI (x::l)=V.toRows (List.getD x 0 .undef)++gI l:=rfl
theorem aaX:bH Tryz.prog 180 (xJ ak):=by
 refine aK (aT ((fK.nil _).cons aio)) (E:=zk) Tryz.func180 [3,11] (by kernel_rfl) (Lp (bf rfl fun l K q h=>?_) (bf rfl fun l K q h=>?_)) fun a _ h=>?_
 .unfold SB at h
  split at h
  .rename_i r0 i3 r i10 i11
   replace h:=Ed h;obtain ⟨h1,h2,h3,h4,h5,h⟩:=h
   have e1:=aY h1
   have e2:=aY h2
   have e3:=aY h3
   subst e1 e2 e3
   have h4:(gI r).length<=1000000:=aX h4
   have h5:r.length<=1000000:=aX h5
   refine dh (E:=zk) (f:=180) (id:=3) (A:=Int) r (fun n i=>{ fr:=[(0,.slc [.slc yM] r0),(3,.int .i64 n),(9,.slc [.slc yM] r),(10,.int .i64 r.length),(11,.int .i64 i)],tab:=[] })
    (fun n i=>0<=n∧n+((gI (r.drop i)).length:Int)<=1000000)
    (fun n l K=>K (.exit 0) { fr:=[(0,.slc [.slc yM] r0),(3,.int .i64 (n+((gI l).length:Int)))],tab:=[] }) (fun n i ⟨hn,hn2⟩ hi=>?_) (fun n _=>?_) 0 0 (Int.le_refl _) (by omega) ⟨Int.le_refl _,by simp; omega⟩ K q (by simpa using h)
   .rw [jP hi,kK,List.length_append] at hn2
    have w:=dY (n:=n+((V.toRows (List.getD (r.getD i []) 0 .undef)).length:Int)) (by omega) (by omega)
    have w2:=dY (n:=(i:Int)+1) (by omega) (by omega)
    refine .inl ⟨n+((V.toRows (List.getD (r.getD i []) 0 .undef)).length:Int),⟨by omega,by omega⟩,fun K=>?_,fun K=>?_⟩
    .rw [Kt,dK (by omega),decide_eq_true (by omega),Int.toNat_natCast,w,w2,iG (by omega)]
     try rfl
    .show K _ _=K _ _
     rw [kK,List.length_append,Int.natCast_add,Int.add_assoc]
   .refine ⟨.exit 0,{ fr:=[(0,.slc [.slc yM] r0),(3,.int .i64 n)],tab:=[] },by simp,fun K=>?_,fun K=>?_⟩
    .rw [Kt,iG (Int.le_refl _)]
     try rfl
    .show K _ _=K _ _
     rw [show ((gI []).length:Int)=0 from rfl,Int.add_zero]
  .cases h
 .unfold OA at h
  split at h
  .rename_i r i26 i27 acc
   replace h:=Ed h;obtain ⟨h1,h2,h3,h4,h5,h⟩:=h
   have e1:=aY h1
   have e2:=aY h2
   subst e1 e2
   have h3:acc.length=0:=Nat.eq_of_beq_eq_true h3
   obtain rfl:acc=[]:=List.length_eq_zero_iff.1 h3
   have h4:(gI r).length<=1000000:=aX h4
   have h5:r.length<=1000000:=aX h5
   refine dh (E:=zk) (f:=180) (id:=11) (A:=List (List V)) r (fun n i=>{ fr:=[(6,.own 10000 0),(25,.slc [.slc yM] r),(26,.int .i64 r.length),(27,.int .i64 i)],tab:=[(10000,.sl yM n 0)] })
    (fun n i=>n.length+(gI (r.drop i)).length<=1000000)
    (fun n l K=>K (.exit 2) { fr:=[(6,.own 10000 0)],tab:=[(10000,.sl yM (n++gI l) 0)] }) (fun n i hn hi=>?_) (fun n _=>?_) [] 0 (Int.le_refl _) (by omega) (by simp; omega) K q (by simpa using h)
   .rw [jP hi,kK,List.length_append] at hn
    have w2:=dY (n:=(i:Int)+1) (by omega) (by omega)
    refine .inl ⟨n++V.toRows (List.getD (r.getD i []) 0 .undef),by rw [List.length_append]; omega,fun K=>?_,fun K=>?_⟩
    .rw [G9,dK (by omega),decide_eq_true (by omega),Int.toNat_natCast,w2]
     rw [decide_eq_true (by omega)]
     try rfl
    .show K _ _=K _ _
     rw [kK,List.append_assoc]
   .refine ⟨.exit 2,{ fr:=[(6,.own 10000 0)],tab:=[(10000,.sl yM n 0)] },by simp,fun K=>?_,fun K=>?_⟩
    .rw [G9,iG (Int.le_refl _)]
     try rfl
    .show K _ _=K _ _
     rw [show gI []=[] from rfl,List.append_nil]
  .cases h
 .obtain ⟨h1,h2⟩:=aP h
  have h1:a.length<=1000:=aX h1
  have h2:vg a<=100000:=aX h2
  refine (ae3 a).trans ?_
  have e:(gI (a.map (uZ ak).enc)).length=vg a:=by rw [tC,List.length_map,G8]
  rw [e,List.length_map,dN (show vg a<=1000000 by omega),dN (show a.length<=1000000 by omega),dX (by omega),tC]
  rw [show (((a.length:Int))==(a.length:Int))=true from beq_self_eq_true _]
  try rfl
end Go.Ev

namespace Go.Ev
open Go Go.Proofs
set_option maxRecDepth 100000
-- FOLD
structure aC where
 total:Int
 kept:List ay
def jM (r:List V):aC:=⟨(r.getD 0 .undef).toInt,(r.getD 1 .undef).toRows.map ak.dec⟩
def bD:ah aC:=(((rM .u64).and (uZ ak)).iso (fun p=>(⟨p.1,p.2⟩:aC)) (fun o=>(o.total,o.kept)) (fun _=>rfl) fun _=>rfl).spelt
 [.int .u64,.slc yM]
 (fun x=>[.int .u64 x.total,.slc yM (x.kept.map ak.enc)]) jM rfl (fun _=>rfl) fun r=>by
  show (⟨((r.take 1).getD 0 .undef).toInt,((r.drop 1).getD 0 .undef).toRows.map ak.dec⟩:aC)=jM r
  simp only [ou,uh]; rfl
def iC:aC:=⟨0,[]⟩
theorem bn {α:Type} (c:ah α) (l:List α):(l.map c.enc).map c.dec=l:=by
 rw [List.map_map]
 exact (List.map_congr_left (fun a _=>c.de a)).trans (List.map_id _)
namespace N
def dH (x:aC) (m:ay):aC × Int :=
 cond (aV m != 0) (x,aV m) (cond (x.total==18446744073709551615) (x,18)
  (⟨x.total+1,(x.kept++[m]).drop (x.kept.length+1-16)⟩,0))
end N
def dQ (x:aC):Bool:=cond (cond (bU 0 x.total) (bU x.total 18446744073709551615) false) (cond (Nat.ble x.kept.length 16) (x.kept.all dA) false) false
def aaY:Den:=den (aW (bg bD)) dw (oV (cu .u64)) (fun _ _=>true) fun x _=>(x.total,())
def Ci:Den:=den (aO (bg bD) (aW (bg ak))) dw (nP (aO (bg bD) (aW (cu .i64)))) (fun a _=>cond (dQ a.1) (dA a.2) false) fun a _=>(N.dH a.1 a.2,())
noncomputable def aip:Env:=env Tryz.prog [] [] []
theorem amu (x:aC):bM aip 101 ((aW (bg bD)).enc x) ([]) some =
 some {v:=.int .u64 x.total,bx:=[]:aH}:=by kernel_rfl
theorem XU:bH Tryz.prog 101 aaY:=by
 refine aK (aT (fK.nil _)) (E:=aip) Tryz.func101 [] (by kernel_rfl) none0 fun x _ _=>?_
 exact amu x
noncomputable def XV:Env:=env Tryz.prog [(45,lG),(171,vV),(180,xJ ak)] [] []
theorem ae4 (x:aC) (m:ay):type_of% (by
  have h:bM XV 136 ((aO (bg bD) (aW (bg ak))).enc (x,m)) ([]) some =(
   let z4:=(List.map (ah.enc ak) x.kept);let z1:=(List.map yE m.head);let z5:=(List.map yD z1);let z0:=(List.map (ah.enc ak) (N.flat [List.map (ah.dec ak) z4,List.map (ah.dec ak) [[V.int .u64 m.id,.str m.bT,.str m.key,.slc yP (List.map yE z5),.str m.body,.int .u64 m.due,.int .u8 m.hops]]]));let z2:=((↑(List.length z0):Int)-16);let z3:=(bif aZ 0 (IntKind.wrap .i64 z2) then IntKind.wrap .i64 z2 else 0);cond (N.aV {id:=ay.id m,bT:=ay.bT m,key:=ay.key m,head:=List.map yD z1,body:=ay.body m,due:=ay.due m,hops:=ay.hops m:ay} != 0) (some {v:=.fE [V.agg [V.int .u64 x.total,.slc yM z4],.int .i64 (N.aV {id:=ay.id m,bT:=ay.bT m,key:=ay.key m,head:=List.map yD z1,body:=ay.body m,due:=ay.due m,hops:=ay.hops m:ay})],bx:=[]:aH}) (cond (aC.total x==18446744073709551615) (some {v:=.fE [V.agg [V.int .u64 x.total,.slc yM z4],.int .i64 18],bx:=[]:aH}) (cond (Nat.ble (List.length z5) 1000000) (cond (Nat.ble (List.length (List.map (ah.dec ak) z4)+1) 100000) (cond (decide ((0<=bif aZ 0 (IntKind.wrap .i64 z2) then IntKind.wrap .i64 z2 else 0)∧z3<=(↑(List.length z0):Int))) (some {v:=.fE [V.agg [V.int .u64 (IntKind.wrap .u64 (aC.total x+1)),.slc yM (List.drop (Int.toNat z3) (List.take (List.length z0) z0))],.int .i64 0],bx:=[]:aH}) none) none) none))):=by kernel_rfl
  dsimp only at h;exact h):=by kernel_rfl
theorem kC {n:Int} (h1:0<=n) (h2:n<=18446744073709551615):IntKind.wrap .u64 n=n:=by
 simp only [IntKind.wrap,IntKind.signed,IntKind.bits]
 simp
 omega
theorem aiq (m:ay):ak.dec [V.int .u64 m.id,.str m.bT,.str m.key,.slc yP (m.head.map fun p=>[V.str p.key,V.int .u8 p.kind,V.int .i64 p.num,V.str p.text]),.str m.body,.int .u64 m.due,.int .u8 m.hops]=m:=ak.de m
theorem Cj {α:Type} (a b:List α):N.flat [a,b]=a++b:=by
 show a++(b++[])=_
 rw [List.append_nil]
theorem OB:bH Tryz.prog 136 Ci:=by
 refine aK (aT ((((fK.nil _).cons aaX).cons uN).cons rP)) (E:=XV) Tryz.func136 [] (by kernel_rfl) none0 fun a _ h=>?_
 obtain ⟨x,m⟩:=a
 obtain ⟨h1,h2⟩:=aP h
 obtain ⟨h3,h4⟩:=aP h1
 obtain ⟨h3,h5⟩:=aP h3
 obtain ⟨h4,h6⟩:=aP h4
 have h2:m.head.length<=1000000:=aX h2
 have h3:0<=x.total:=bQ h3
 have h5:x.total<=18446744073709551615:=bQ h5
 have h4:x.kept.length<=16:=aX h4
 refine (ae4 x m).trans ?_
 show _=some (⟨.fE [.agg (bD.enc (N.dH x m).1),.int .i64 (N.dH x m).2],[],[]⟩:aH)
 simp only [fO,bn,List.map_cons,List.map_nil,aiq,Cj]
 unfold N.dH
 cases hc:N.aV m != 0 with
 | true=>rfl
 | false =>
  cases ht:x.total==18446744073709551615 with
  | true=>rfl
  | false =>
   have ht:x.total ≠ 18446744073709551615:=fun e=>by rw [e] at ht; cases ht
   have l1:(List.map (ah.enc ak) (x.kept++[m])).length=x.kept.length+1:=by simp
   have w:IntKind.wrap .i64 (((x.kept.length+1:Nat):Int)-16)=((x.kept.length+1:Nat):Int)-16:=dY (by omega) (by omega)
   have w2:IntKind.wrap .u64 (x.total+1)=x.total+1:=kC (by omega) (by omega)
   rw [l1,w,w2,List.take_of_length_le (Nat.le_of_eq l1),dN h2,dN (show x.kept.length+1<=100000 by omega)]
   cases hl:aZ 0 (((x.kept.length+1:Nat):Int)-16) with
   | true =>
    have hl:=jZ hl
    simp only [cond_true,cond_false]
    rw [decide_eq_true (by omega),<- List.map_drop,show ((((x.kept.length+1:Nat):Int)-16)).toNat=x.kept.length+1-16 by omega]
    try rfl
   | false =>
    have hl:=fD hl
    simp only [cond_true,cond_false]
    rw [decide_eq_true (by omega),show x.kept.length+1-16=0 by omega]
    try rfl
end Go.Ev

namespace Go.Ev
open Go Go.Proofs
set_option maxRecDepth 100000
-- FOLD
namespace N
def qV (x:aC) (n:Int):Int × ay × Bool :=
 cond (bU x.total n) (0,gJ,false) (cond (aZ (x.total-x.kept.length+1) (n+1)) (n+1,x.kept.getD (n+1-(x.total-x.kept.length+1)).toNat gJ,true) (x.total-x.kept.length+1,x.kept.getD 0 gJ,true))
end N
def Cm (x:aC):Bool:=cond (dQ x) (cond (bU x.kept.length x.total) (cond (Nat.beq x.kept.length 0) (x.total==0) true) false) false
def OC:Den:=den (aO (bg bD) (aW (cu .u64))) dw (nP (aO (cu .u64) (aO (bg ak) (aW iF)))) (fun a _=>cond (Cm a.1) (cond (bU 0 a.2) (bU a.2 18446744073709551615) false) false) fun a _=>(N.qV a.1 a.2,())
noncomputable def OD:Env:=env Tryz.prog [(171,vV)] [] []
theorem XW (x:aC) (n:Int):type_of% (by
  have h:bM OD 167 ((aO (bg bD) (aW (cu .u64))).enc (x,n)) ([]) some =(
   let z5:=(List.map (ah.enc ak) x.kept);let z3:=(IntKind.wrap .u64 (aC.total x-IntKind.wrap .u64 (↑(List.length z5):Int))+1);let z4:=(bif aZ (IntKind.wrap .u64 z3) (IntKind.wrap .u64 (n+1)) then IntKind.wrap .u64 (n+1) else IntKind.wrap .u64 z3);let z0:=(z4-IntKind.wrap .u64 z3);let z1:=(List.getD z5 (Int.toNat (IntKind.wrap .u64 z0)) []);let z2:=(List.map yD (V.toRows (z1.getD 3 .undef)));cond (bU x.total n) (some {v:=.fE [V.int .u64 0,.agg [V.int .u64 0,.str [],.str [],.slc yP [],.str [],.int .u64 0,.int .u8 0],.bool false],bx:=[]:aH}) (cond (decide (0<=IntKind.wrap .u64 z0∧IntKind.wrap .u64 z0<(↑(List.length z5):Int))) (cond (Nat.ble (List.length z2) 1000000) (some {v:=.fE [V.int .u64 z4,.agg [V.int .u64 (V.toInt (z1.getD 0 .undef)),.str (V.toStr (z1.getD 1 .undef)),.str (V.toStr (z1.getD 2 .undef)),.slc yP (List.map yE z2),.str (V.toStr (z1.getD 4 .undef)),.int .u64 (V.toInt (z1.getD 5 .undef)),.int .u8 (V.toInt (z1.getD 6 .undef))],.bool true],bx:=[]:aH}) none) none)):=by kernel_rfl
  dsimp only at h;exact h):=by kernel_rfl
theorem lX {α:Type} (c:ah α) (l:List α) (i:Nat) (d:α) (h:i<l.length):(l.map c.enc).getD i []=c.enc (l.getD i d):=by
 rw [List.getD_eq_getElem?_getD,List.getD_eq_getElem?_getD,List.getElem?_map,List.getElem?_eq_getElem h]
 try rfl
theorem OE {α:Type} {p:α->Bool} {l:List α} (h:l.all p=true) (i:Nat) (d:α) (hi:i<l.length):p (l.getD i d)=true:=by
 rw [List.getD_eq_getElem?_getD,List.getElem?_eq_getElem hi]
 exact List.all_eq_true.1 h _ (List.getElem_mem hi)
theorem XY (m:ay) (sm:m.head.length<=1000000) (n:Int) (b:Bool) :
  cond (Nat.ble (V.toRows (List.getD (ak.enc m) 3 .undef)).length 1000000)
   (some (⟨.fE [.int .u64 n,.agg [.int .u64 (V.toInt (List.getD (ak.enc m) 0 .undef)),.str (V.toStr (List.getD (ak.enc m) 1 .undef)),.str (V.toStr (List.getD (ak.enc m) 2 .undef)),
    .slc yP (((V.toRows (List.getD (ak.enc m) 3 .undef)).map fun r=>({ key:=V.toStr (List.getD r 0 .undef),kind:=V.toInt (List.getD r 1 .undef),num:=V.toInt (List.getD r 2 .undef),text:=V.toStr (List.getD r 3 .undef) }:bG)).map fun p=>[V.str p.key,V.int .u8 p.kind,V.int .i64 p.num,V.str p.text]),
    .str (V.toStr (List.getD (ak.enc m) 4 .undef)),.int .u64 (V.toInt (List.getD (ak.enc m) 5 .undef)),.int .u8 (V.toInt (List.getD (ak.enc m) 6 .undef))],.bool b],[],[]⟩:aH)) none =
  some (⟨.fE [.int .u64 n,.agg (ak.enc m),.bool b],[],[]⟩:aH):=by
 have e:((V.toRows (List.getD (ak.enc m) 3 .undef)).map fun r=>({ key:=V.toStr (List.getD r 0 .undef),kind:=V.toInt (List.getD r 1 .undef),num:=V.toInt (List.getD r 2 .undef),text:=V.toStr (List.getD r 3 .undef) }:bG))=m.head:=fO m.head
 have e2:(V.toRows (List.getD (ak.enc m) 3 .undef)).length=m.head.length:=List.length_map ..
 rw [e,e2,dN sm]
 try rfl
theorem Vk:bH Tryz.prog 167 OC:=by
 refine aK (aT ((fK.nil _).cons uN)) (E:=OD) Tryz.func167 [] (by kernel_rfl) none0 fun a _ h=>?_
 obtain ⟨x,n⟩:=a
 obtain ⟨h1,h2⟩:=aP h
 obtain ⟨h1,h7⟩:=aP h1
 obtain ⟨h7,h8⟩:=aP h7
 obtain ⟨h3,h4⟩:=aP h1
 obtain ⟨h3,h5⟩:=aP h3
 obtain ⟨h4,h6⟩:=aP h4
 obtain ⟨h2,h9⟩:=aP h2
 have h2:0<=n:=bQ h2
 have h3:0<=x.total:=bQ h3
 have h5:x.total<=18446744073709551615:=bQ h5
 have h4:x.kept.length<=16:=aX h4
 have h7:(x.kept.length:Int)<=x.total:=bQ h7
 refine (XW x n).trans ?_
 show _=some (⟨.fE [.int .u64 (N.qV x n).1,.agg (ak.enc (N.qV x n).2.1),.bool (N.qV x n).2.2],[],[]⟩:aH)
 unfold N.qV
 cases ht:bU x.total n with
 | true=>rfl
 | false =>
  have ht:=lW ht
  have h8:x.kept.length ≠ 0:=fun e=>by
   rw [e] at h8
   have h8:x.total=0:=aY h8
   omega
  have w1:=kC (n:=(x.kept.length:Int)) (by omega) (by omega)
  have w2:=kC (n:=x.total-x.kept.length) (by omega) (by omega)
  have w3:=kC (n:=x.total-x.kept.length+1) (by omega) (by omega)
  have w4:=kC (n:=n+1) (by omega) (by omega)
  simp only [List.length_map,w1,w2,w3,w4]
  cases hl:aZ (x.total-x.kept.length+1) (n+1) with
  | true =>
   have hl:=jZ hl
   have w5:=kC (n:=n+1-(x.total-x.kept.length+1)) (by omega) (by omega)
   have d:decide (0<=n+1-(x.total-x.kept.length+1)∧n+1-(x.total-x.kept.length+1)<x.kept.length)=true:=decide_eq_true (by omega)
   have hi:(n+1-(x.total-x.kept.length+1)).toNat<x.kept.length:=by omega
   simp only [cond_true,cond_false,w5,d,lX ak x.kept _ gJ hi,List.length_map]
   have sm:(x.kept.getD (n+1-(x.total-x.kept.length+1)).toNat gJ).head.length<=1000000:=aX (OE h6 _ gJ hi)
   generalize x.kept.getD (n+1-(x.total-x.kept.length+1)).toNat gJ=m at sm ⊢
   exact XY m sm _ _
  | false =>
   have hl:=fD hl
   have w5:=kC (n:=x.total-x.kept.length+1-(x.total-x.kept.length+1)) (by omega) (by omega)
   have e5:x.total-x.kept.length+1-(x.total-x.kept.length+1)=0:=by omega
   rw [e5] at w5
   have d:decide ((0:Int)<=0∧(0:Int)<x.kept.length)=true:=decide_eq_true (by omega)
   have hi:0<x.kept.length:=by omega
   simp only [cond_true,cond_false,e5,w5,d,Int.toNat_zero,lX ak x.kept 0 gJ hi,List.length_map]
   have sm:(x.kept.getD 0 gJ).head.length<=1000000:=aX (OE h6 _ gJ hi)
   generalize x.kept.getD 0 gJ=m at sm ⊢
   exact XY m sm _ _
end Go.Ev

namespace Go.Ev
open Go Go.Proofs
set_option maxRecDepth 100000
namespace N
def tell (x:aC):Nat->Int->List ay->Int × List ay
 | 0,last,got=>(last,got)
 | n+1,last,got=>cond (qV x last).2.2 (tell x n (qV x last).1 (got++[(qV x last).2.1])) (last,got)
def many (asks:List Int) (n k:Nat):Nat:=cond (Nat.blt k n) (cond (Nat.blt k asks.length) (Int.tmod (IntKind.wrap .i64 (asks.getD k 0)) 3).toNat 0) 16
def play (asks:List Int) (l:List ay):Nat->Nat->aC->Int->List ay->List ay->Option (aC × Int × List ay × List ay)
 | 0,_,x,last,good,got=>some (x,last,good,got)
 | f+1,k,x,last,good,got=>cond (aZ 16 (x.total-last)) none
   (cond (Nat.blt k l.length)
    (play asks l f (k+1) (dH x (l.getD k gJ)).1 (tell x (many asks l.length k) last got).1 (cond ((dH x (l.getD k gJ)).2==0) (good++[l.getD k gJ]) good) (tell x (many asks l.length k) last got).2)
    (play asks l f (k+1) x (tell x (many asks l.length k) last got).1 good (tell x (many asks l.length k) last got).2))
end N
structure RInv (x:aC) (g:List ay):Prop where
 total:x.total=g.length
 kept:x.kept=g.drop (g.length-16)
 small:g.all dA=true
 few:g.length<1000
theorem RInv.len {x:aC} {g:List ay} (h:RInv x g):x.kept.length=g.length-(g.length-16):=by rw [h.kept,List.length_drop]
theorem RInv.good {x:aC} {g:List ay} (h:RInv x g):dQ x=true:=by
 have:=h.few
 have hl:=h.len
 unfold dQ
 rw [h.total,dX (by omega),dX (by omega),dN (by omega),h.kept]
 show (List.all (g.drop _) dA)=true
 rw [List.all_eq_true]
 intro m hm
 exact List.all_eq_true.1 h.small m (List.mem_of_mem_drop hm)
theorem RInv.full {x:aC} {g:List ay} (h:RInv x g):Cm x=true:=by
 have hl:=h.len
 unfold Cm
 rw [h.good,h.total,dX (by omega)]
 simp only [cond_true]
 cases e:Nat.beq x.kept.length 0 with
 | false=>rfl
 | true =>
  have:=Nat.eq_of_beq_eq_true e
  show (((g.length:Nat):Int)==0)=true
  exact Gw (by omega)
end Go.Ev

namespace Go.Ev
open Go Go.Proofs
set_option maxRecDepth 100000
theorem Vl (i:eH):(N.kQ i).1.length<=255:=by
 obtain ⟨b1,b2⟩:=BX i
 have w:IntKind.wrap .i64 (N.aN i 1).1=(N.aN i 1).1:=wrap_i64 (by omega) (by omega)
 unfold N.kQ
 rw [w]
 have:=GR (N.aN i 1).1.toNat (cond (aZ 8 (N.aN i 1).1) (N.bV (N.aN i 1).2 6) (N.aN i 1).2) []
 rw [List.length_nil] at this
 omega
end Go.Ev

namespace Go.Ev
open Go Go.Proofs
set_option maxRecDepth 100000
def N.back (key:Bytes) (l:List bG):Nat->bG × Bool->bG × Bool
 | 0,w=>w
 | k+1,w=>back key l k (cond ((l.getD k ku).key==key) (l.getD k ku,true) w)
end Go.Ev

namespace Go.Ev
open Go Go.Proofs
set_option maxRecDepth 100000
def N.okP (p:bG):Bool:=cond (bU 0 p.kind) (cond (aZ p.kind 256) (cond (bU (-9223372036854775808) p.num) (bU p.num 9223372036854775807) false) false) false
theorem air {p:bG} (h:N.okP p=true):wG p:=by
 obtain ⟨h1,h⟩:=aP h
 obtain ⟨h2,h⟩:=aP h
 obtain ⟨h3,h4⟩:=aP h
 exact ⟨bQ h1,jZ h2,bQ h3,bQ h4⟩
theorem XZ {p:bG} {l:List bG} (ho:wG p) (h:N.lC p l=0):N.nZ p=N.wB p:=by
 obtain ⟨_,h2,_⟩:=Ot h
 have h1:=ho.1
 unfold N.nZ N.wB
 rcases (by omega:p.kind=0∨p.kind=1∨p.kind=2) with k | k | k<;>rw [k]<;>rfl
theorem Ku (h:List bG) (ho:∀ p∈h,wG p) (hc:∀ j,j<h.length->N.lC (h.getD j ku) (h.take j)=0):∀ (f i:Nat),i+f=h.length->N.mV (h.drop i)=N.mP (h.drop i)
 | 0,i,hi=>by rw [List.drop_eq_nil_of_le (by omega)]; rfl
 | f+1,i,hi=>by
  have hlt:i<h.length:=by omega
  have hm:h.getD i ku∈h:=by rw [List.getD_eq_getElem?_getD,List.getElem?_eq_getElem hlt]; exact List.getElem_mem _
  rw [getD_drop ku hlt]
  show N.nZ _++N.mV (h.drop (i+1))=N.wB _++N.mP (h.drop (i+1))
  rw [XZ (ho _ hm) (hc i hlt),Ku h ho hc f (i+1) (by omega)]
theorem aaZ (h:List bG) (ho:∀ p∈h,wG p) (hz:N.dF h=0):N.ji h=N.jr h:=by
 unfold N.dF at hz
 cases e:aZ 8 h.length with
 | true=>rw [e] at hz; cases hz
 | false =>
  have e':=fD e
  rw [e,cond_false] at hz
  have hc:∀ j,j<h.length->N.lC (h.getD j ku) (h.take j)=0:=fun j hj=>yC h h.length 0 (Int.le_refl _) hz j (by omega) (by omega)
  unfold N.ji N.jr
  have:=Ku h ho hc h.length 0 (by omega)
  rw [List.drop_zero] at this
  rw [this,wrap_u64 (n:=(h.length:Int)) (by omega) (by omega)]
end Go.Ev

namespace Go.Ev
open Go
theorem SC (z:Bytes) (h:List bG) (ho:∀ p∈h,wG p) (hc:∀ j,j<h.length->N.lC (h.getD j ku) (h.take j)=0):∀ (f i:Nat),i+f=h.length->N.kP f ⟨N.mP (h.drop i)++z,0⟩ (h.take i)=(h,⟨z,0⟩)
 | 0,i,hi=>by
  rw [List.drop_eq_nil_of_le (by omega),List.take_of_length_le (by omega)]; rfl
 | f+1,i,hi=>by
  have hlt:i<h.length:=by omega
  have hm:h.getD i ku∈h:=by rw [List.getD_eq_getElem?_getD,List.getElem?_eq_getElem hlt]; exact List.getElem_mem _
  rw [getD_drop ku hlt]
  have e:N.mP (h.getD i ku::h.drop (i+1))++z=N.wB (h.getD i ku)++(N.mP (h.drop (i+1))++z):=List.append_assoc ..
  rw [e]
  unfold N.kP
  rw [one_app (ho _ hm) (hc i hlt)]
  have b:N.bad (h.getD i ku) (h.take i) ⟨N.mP (h.drop (i+1))++z,0⟩=⟨N.mP (h.drop (i+1))++z,0⟩:=by
   unfold N.bad N.bV
   rw [hc i hlt]; rfl
  show cond ((N.bad (h.getD i ku) (h.take i) ⟨N.mP (h.drop (i+1))++z,0⟩).err != 0) _ (N.kP f (N.bad (h.getD i ku) (h.take i) ⟨N.mP (h.drop (i+1))++z,0⟩) (h.take i++[h.getD i ku]))=_
  rw [b]
  have ht:h.take i++[h.getD i ku]=h.take (i+1):=by
   rw [List.take_add_one,List.getD_eq_getElem?_getD,List.getElem?_eq_getElem hlt]; rfl
  rw [ht]
  exact SC z h ho hc f (i+1) (by omega)
theorem aa0 (z:Bytes) (h:List bG) (ho:∀ p∈h,wG p) (hz:N.dF h=0):N.kQ ⟨N.jr h++z,0⟩=(h,⟨z,0⟩):=by
 unfold N.dF at hz
 cases e:aZ 8 h.length with
 | true=>rw [e] at hz; cases hz
 | false =>
  have e':=fD e
  rw [e,cond_false] at hz
  have hc:∀ j,j<h.length->N.lC (h.getD j ku) (h.take j)=0:=fun j hj=>yC h h.length 0 (Int.le_refl _) hz j (by omega) (by omega)
  unfold N.kQ N.jr
  have en:N.aN ⟨N.bW h.length 1++(N.mP h++z),0⟩ 1=((h.length:Int),⟨N.mP h++z,0⟩):=lM 1 (by decide) _ (by omega) (by show (h.length:Int)<256; omega) _
  rw [List.append_assoc,en]
  show N.kP (IntKind.wrap .i64 h.length).toNat (cond (aZ 8 (IntKind.wrap .i64 h.length)) _ _) []=_
  rw [wrap_i64 (n:=(h.length:Int)) (by omega) (by omega),e,cond_false,Int.toNat_natCast]
  exact SC z h ho hc h.length 0 (by omega)
theorem SE (z:Bytes) (m:ay) (hk:N.vC m=true) (ho:∀ p∈m.head,wG p) (hz:N.aV m=0):N.dL ⟨N.mQ m++z,0⟩=(m,⟨z,0⟩):=by
 obtain ⟨⟨a1,a2⟩,⟨a3,a4⟩,⟨a5,a6⟩⟩:=ail hk
 obtain ⟨c1,c2,c3,c4,c5,_⟩:=qC hz
 have wh:IntKind.wrap .u64 m.hops=m.hops:=wrap_u64 (by omega) (by omega)
 have wh8:IntKind.wrap .u8 m.hops=m.hops:=wrap_u8' a5 a6
 have e:N.mQ m++z=N.bW m.id 8++(N.dS m.bT++(N.dS m.key++(N.jr m.head++(N.dS m.body++(N.bW m.due 8++(N.bW m.hops 1++z)))))):=by
  unfold N.mQ; rw [wh]; simp only [List.append_assoc]
 unfold N.dL
 dsimp only
 rw [e]
 have p8:(256:Int) ^ 8=18446744073709551616:=rfl
 have p1:(256:Int) ^ 1=256:=rfl
 have s1:=lM 8 (by decide) m.id a1 (by rw [p8]; exact a2) (N.dS m.bT++(N.dS m.key++(N.jr m.head++(N.dS m.body++(N.bW m.due 8++(N.bW m.hops 1++z))))))
 have s2:=wF m.bT 16 (by omega) (by omega) (N.dS m.key++(N.jr m.head++(N.dS m.body++(N.bW m.due 8++(N.bW m.hops 1++z)))))
 have s3:=wF m.key 64 (by omega) (by omega) (N.jr m.head++(N.dS m.body++(N.bW m.due 8++(N.bW m.hops 1++z))))
 have s4:=aa0 (N.dS m.body++(N.bW m.due 8++(N.bW m.hops 1++z))) m.head ho c3
 have s5:=wF m.body 256 (by omega) (by omega) (N.bW m.due 8++(N.bW m.hops 1++z))
 have s6:=lM 8 (by decide) m.due a3 (by rw [p8]; exact a4) (N.bW m.hops 1++z)
 have s7:=lM 1 (by decide) m.hops a5 (by rw [p1]; exact a6) z
 have k8:((8:Nat):Int)=8:=rfl
 have k1:((1:Nat):Int)=1:=rfl
 rw [k8] at s1 s6
 rw [k1] at s7
 rw [s1]
 dsimp only
 rw [s2]
 dsimp only
 rw [s3]
 dsimp only
 rw [s4]
 dsimp only
 rw [s5]
 dsimp only
 rw [s6]
 dsimp only
 rw [s7]
 dsimp only
 rw [wh8]
 unfold N.DR N.bV
 have ez:N.aV ⟨m.id,m.bT,m.key,m.head,m.body,m.due,m.hops⟩=0:=hz
 rw [ez]; rfl
theorem CB {m:ay} (ho:∀ p∈m.head,wG p) (hz:N.aV m=0):N.kR m=N.mQ m:=by
 unfold N.kR N.mQ
 rw [aaZ m.head ho (qC hz).2.2.1]
theorem ac4 {m:ay} (hk:N.vC m=true) (hz:N.aV m=0):N.QI m=true:=by
 obtain ⟨c1,c2,c3,c4,c5,_⟩:=qC hz
 obtain ⟨c6,c7⟩:=Jr c3
 unfold N.QI
 rw [hk,dN (by omega),dN (by omega),dN (by omega),c7,dN (by omega)]; rfl
theorem uj (m:ay):N.iP m m=true:=by
 unfold N.iP
 simp only [beq_self_eq_true,xH,cond_true]
theorem tH {m:ay} (hz:N.aV m=0):(N.mQ m).length<=1570:=by
 obtain ⟨c1,c2,c3,c4,c5,_⟩:=qC hz
 have:=Sr c3
 unfold N.mQ
 simp only [List.length_append,fB,kF]; omega
end Go.Ev

namespace Go.Ev
open Go
end Go.Ev

namespace Go.Ev
open Go Go.Proofs
set_option maxRecDepth 100000
end Go.Ev

namespace Go.Ev
open Go
namespace N
end N
end Go.Ev

namespace Go.Ev
open Go Go.Proofs
set_option maxRecDepth 100000
noncomputable def aoq : Env:=env Tryz.prog [(204,nI)] [] []
theorem apL  : bM aoq 200 [] [] some =
 some {v:=.bool true,bx:=[]:aH}:=by kernel_rfl
theorem amv (hN:bH Tryz.prog 95 fZ):bH Tryz.prog 200 nI:=aK (aT ((fK.nil _).cons (apJ hN))) (E:=aoq) Tryz.func200 [] (by kernel_rfl) none0 fun _ _ _=>apL
theorem Vm {k:IntKind} {n:Int} (h:Jg (.int k n)=true):k.min<=n∧n<=k.max:=by
 unfold Jg Lit.wf at h
 simp at h
 exact h
end Go.Ev

namespace Go.Ev
open Go Go.Proofs
set_option maxRecDepth 100000
theorem OG {k:IntKind} {n:Int} (h:Jg (.int k n)=true):k.min<=n∧n<=k.max:=by
 unfold Jg Lit.wf at h
 simp at h
 exact h
theorem amw {p:bG} (h:AY (gG.enc p)=true):N.okP p=true:=by
 have h:cond (Jg (.str p.key)) (cond (Jg (.int .u8 p.kind)) (cond (Jg (.int .i64 p.num)) (AY [V.str p.text]) false) false) false=true:=h
 obtain ⟨_,h⟩:=aP h
 obtain ⟨h1,h⟩:=aP h
 obtain ⟨h2,_⟩:=aP h
 obtain ⟨a1,a2⟩:=OG h1
 obtain ⟨b1,b2⟩:=OG h2
 have e1:IntKind.u8.min=0:=rfl
 have e2:IntKind.u8.max=255:=rfl
 have e3:IntKind.i64.min = -9223372036854775808:=rfl
 have e4:IntKind.i64.max=9223372036854775807:=rfl
 unfold N.okP
 rw [dX (by omega),dK (by omega),dX (by omega),dX (by omega)]; rfl
theorem SG:∀ l:List bG,zW (l.map gG.enc)=true->l.all N.okP=true
 | [],_=>rfl
 | p::r,h=>by
  have h:cond (AY (gG.enc p)) (zW (r.map gG.enc)) false=true:=h
  obtain ⟨h1,h2⟩:=aP h
  rw [List.all_cons,amw h1,SG r h2]; rfl
theorem ais {l:List bG} (h:AY ((uZ gG).enc l)=true):l.all N.okP=true:=by
 have h:cond (cond (Nat.ble (l.map gG.enc).length 9223372036854775807) (cond (dM gG.sh (l.map gG.enc)) (zW (l.map gG.enc)) false) false) true false=true:=h
 obtain ⟨h,_⟩:=aP h
 obtain ⟨_,h⟩:=aP h
 obtain ⟨_,h⟩:=aP h
 exact SG l h
end Go.Ev

namespace Go.Ev
open Go Go.Proofs
set_option maxRecDepth 100000
theorem CG:bH Tryz.prog 189 EX:=by
 refine aK (aT (((fK.nil _).cons Ce).cons qH)) (E:=G7) Tryz.func189 [] (by kernel_rfl) none0 fun m _ h=>?_
 obtain ⟨h,hp⟩:=aP h
 have hp:∀ p∈m.head,wG p:=fun p hm=>air (List.all_eq_true.1 hp p hm)
 obtain ⟨id,bT,key,head,body,due,hops⟩:=m
 refine (QJ ⟨id,bT,key,head,body,due,hops⟩).trans ?_
 simp only [Cb]
 show _=some (⟨.int .i64 (N.bJ ⟨id,bT,key,head,body,due,hops⟩),[],[]⟩:aH)
 unfold N.bJ
 cases hc:N.aV ⟨id,bT,key,head,body,due,hops⟩ != 0 with
 | true=>rfl
 | false =>
  have hz:N.aV ⟨id,bT,key,head,body,due,hops⟩=0:=by simpa using hc
  simp (disch:=omega) only [evs,ac4 h hz,CB hp hz]
noncomputable def aor:Env:=env Tryz.prog [(200,nI),(98,wE)] [] []
theorem apM:bM aor 192 [] [] some=some { v:=.bool true,bx:=[] }:=by kernel_rfl
theorem amx (hN:bH Tryz.prog 95 fZ):bH Tryz.prog 192 nI :=
 aK (aT (((fK.nil _).cons (vP hN)).cons (amv hN))) (E:=aor) Tryz.func192 [] (by kernel_rfl) none0 fun _ _ _=>apM
theorem QK (i:eH):(N.dL i).1.head.length<=255:=by
 unfold N.dL
 dsimp only
 have:=Vl (N.cO (N.cO (N.aN i 8).2 16).2 64).2
 generalize N.kQ (N.cO (N.cO (N.aN i 8).2 16).2 64).2=d at *
 unfold N.DR
 generalize (cond _ _ _:eH)=z
 cases z.err != 0 with
 | true=>show (0:Nat)<=255; omega
 | false=>exact this
theorem amy {m:ay} (h:AY (ak.enc m)=true):cond (N.vC m) (m.head.all N.okP) false=true:=by
 have h:cond (Jg (.int .u64 m.id)) (cond (Jg (.str m.bT)) (cond (Jg (.str m.key)) (cond (Jg (.slc yP (m.head.map gG.enc))) (cond (Jg (.str m.body)) (cond (Jg (.int .u64 m.due)) (cond (Jg (.int .u8 m.hops)) true false) false) false) false) false) false) false=true:=h
 obtain ⟨h1,h⟩:=aP h
 obtain ⟨_,h⟩:=aP h
 obtain ⟨_,h⟩:=aP h
 obtain ⟨h4,h⟩:=aP h
 obtain ⟨_,h⟩:=aP h
 obtain ⟨h6,h⟩:=aP h
 obtain ⟨h7,_⟩:=aP h
 have a:=Vm h1
 have b:=Vm h6
 have c:=Vm h7
 have e1:IntKind.u64.min=0:=rfl
 have e2:IntKind.u64.max=18446744073709551615:=rfl
 have e3:IntKind.u8.min=0:=rfl
 have e4:IntKind.u8.max=255:=rfl
 have hh:m.head.all N.okP=true:=ais (l:=m.head) (by show cond (Jg (.slc yP (m.head.map gG.enc))) true false=true; rw [h4]; rfl)
 unfold N.vC
 rw [dX (show 0<=m.id by omega),dK (show m.id<18446744073709551616 by omega),dX (show 0<=m.due by omega),dK (show m.due<18446744073709551616 by omega),dX (show 0<=m.hops by omega),dK (show m.hops<256 by omega),hh]; rfl
end Go.Ev

namespace Go.Ev
open Go Go.Proofs
set_option maxRecDepth 100000
-- FOLD
noncomputable def ait : Env:=env Tryz.prog [(192,nI)] [] []
theorem amA  : bM ait 166 [] [] some =
 some {v:=.bool true,bx:=[]:aH}:=by kernel_rfl
theorem X0 (hN:bH Tryz.prog 95 fZ):bH Tryz.prog 166 nI :=
 aK (aT ((fK.nil _).cons (amx hN))) (E:=ait) Tryz.func166 [] (by kernel_rfl) none0 fun _ _ _=>amA
def amB:fP:={ fr:=[(1,.ptr 10000 0 0),(8,.int .i64)],tab:=[(10001,.sl yM),(10000,.var [.int .u64,.own 10001])] }
def aiu (n:Int) (r:List (List V)):List (Nat × Box):=[(10000,.var [.int .u64 n,.slc yM r])]
def rowA:List V:=[.int .u64 0,.str [97],.str [],.slc yP [],.str [],.int .u64 0,.int .u8 0]
def aos:List Leaf->(Ex->St->Option R)->Option R
 | [.i i8,.r rx1,.i Ee],K=>cond (i8==0) (cond (Nat.beq rx1.length 0) (cond (Ee==0) (K (.exit 0) { fr:=[(1,.ptr 10000 0 0 0)],tab:=aiu 20 (List.replicate 16 rowA) }) none) none) none
 | _,_=>none
noncomputable def aiv:Env:=env Tryz.prog [(136,Ci),(167,OC),(166,nI)] [(3,dJ amB aos)] [(3,[(0,[1,8]),(1,[1]),(1000,[0])])]
theorem apN  : bM aiv 110 [] [] some =
 some {v:=.bool true,bx:=[]:aH}:=by kernel_rfl
theorem X3 (K:Ex->St->Option R):qB aiv 110 3 21 { fr:=[(1,.ptr 10000 0 0 0),(8,.int .i64 0)],tab:=[(10001,.sl yM [] 0),(10000,.var [.int .u64 0,.own 10001 0])] } K =
  K (.exit 0) { fr:=[(1,.ptr 10000 0 0 0)],tab:=aiu 20 (List.replicate 16 rowA) }:=by kernel_rfl
theorem jk {x y:Nat} (h:Nat.beq x y=true):x=y:=Nat.eq_of_beq_eq_true h
theorem amC (hN:bH Tryz.prog 95 fZ):bH Tryz.prog 110 nI:=by
 refine aK (aT ((((fK.nil _).cons (X0 hN)).cons Vk).cons OB)) (E:=aiv) Tryz.func110 [3] (by kernel_rfl) (one1 (bf rfl fun l K q h=>?_)) fun _ _ _=>apN
 unfold aos at h
 split at h
 .rename_i i r n
  replace h:=Lm h;obtain ⟨h1,h2,h3,h⟩:=h
  have e1:=aY h1
  have e2:=List.eq_nil_of_length_eq_zero (jk h2)
  have e3:=aY h3
  subst e1 e2 e3
  exact ⟨21,(X3 K).trans (by assumption)⟩
 .cases h
theorem kG (r:List V):({ id:=V.toInt (List.getD r 0 .undef),bT:=V.toStr (List.getD r 1 .undef),key:=V.toStr (List.getD r 2 .undef),head:=(V.toRows (List.getD r 3 .undef)).map fun r=>({ key:=V.toStr (List.getD r 0 .undef),kind:=V.toInt (List.getD r 1 .undef),num:=V.toInt (List.getD r 2 .undef),text:=V.toStr (List.getD r 3 .undef) }:bG),body:=V.toStr (List.getD r 4 .undef),due:=V.toInt (List.getD r 5 .undef),hops:=V.toInt (List.getD r 6 .undef) }:ay)=ak.dec r:=rfl
end Go.Ev

namespace Go.Ev
open Go Go.Proofs
set_option maxRecDepth 100000
-- FOLD
theorem He (m:ay):[V.int .u64 m.id,V.str m.bT,V.str m.key,V.slc yP (m.head.map fun p=>[V.str p.key,V.int .u8 p.kind,V.int .i64 p.num,V.str p.text]),V.str m.body,V.int .u64 m.due,V.int .u8 m.hops]=ak.enc m:=rfl
theorem ac5 (r:List V):[V.int .u64 (V.toInt (List.getD r 0 .undef)),V.str (V.toStr (List.getD r 1 .undef)),V.str (V.toStr (List.getD r 2 .undef)),V.slc yP (((V.toRows (List.getD r 3 .undef)).map fun r=>({ key:=V.toStr (List.getD r 0 .undef),kind:=V.toInt (List.getD r 1 .undef),num:=V.toInt (List.getD r 2 .undef),text:=V.toStr (List.getD r 3 .undef) }:bG)).map fun p=>[V.str p.key,V.int .u8 p.kind,V.int .i64 p.num,V.str p.text]),
  V.str (V.toStr (List.getD r 4 .undef)),V.int .u64 (V.toInt (List.getD r 5 .undef)),V.int .u8 (V.toInt (List.getD r 6 .undef))]=ak.enc (ak.dec r):=rfl
theorem um (m:ay):({ id:=m.id,bT:=m.bT,key:=m.key,head:=(m.head.map fun p=>[V.str p.key,V.int .u8 p.kind,V.int .i64 p.num,V.str p.text]).map fun r=>({ key:=V.toStr (List.getD r 0 .undef),kind:=V.toInt (List.getD r 1 .undef),num:=V.toInt (List.getD r 2 .undef),text:=V.toStr (List.getD r 3 .undef) }:bG),body:=m.body,due:=m.due,hops:=m.hops }:ay)=m:=ak.de m
theorem ae5 (x:aC):(⟨x.total,x.kept⟩:aC)=x:=rfl
def ars:Den:=den (aW (bg bD)) dw (oV (jY ak)) (fun x _=>dQ x) fun x _=>(x.kept,())
def apO:fP:={ fr:=[(3,.own 10000),(7,.slc yM),(8,.int .i64),(9,.int .i64)],tab:=[(10000,.sl yM)] }
def aru:List Leaf->(Ex->St->Option R)->Option R
 | [.r r7,.i i8,.i i9,.r oW],K=>cond (i8==r7.length) (cond (i9==0) (cond (Nat.beq oW.length 0) (cond (Nat.ble r7.length 16) (cond ((r7.map ak.dec).all dA)
   (K (.exit 0) { fr:=[(3,.own 10000 0)],tab:=[(10000,.sl yM ((r7.map ak.dec).map ak.enc) 0)] }) none) none) none) none) none
 | _,_=>none
noncomputable def amD:Env:=env Tryz.prog [(171,vV)] [(3,dJ apO aru)] [(3,[(0,[3,7,8,9]),(1,[3]),(1000,[2])])]
theorem arv (x:aC):bM amD 156 ((aW (bg bD)).enc x) ([]) some =
 cond ((↑(List.length (List.map (ah.enc ak) x.kept)):Int)==(↑(List.length (List.map (ah.enc ak) x.kept)):Int)) (cond (Nat.ble (List.length (List.map (ah.enc ak) x.kept)) 16) (cond (List.all (List.map (ah.dec ak) (List.map (ah.enc ak) x.kept)) dA) (some {v:=.slc yM (List.map (ah.enc ak) (List.map (ah.dec ak) (List.map (ah.enc ak) x.kept))),bx:=[]:aH}) none) none) none:=by kernel_rfl
theorem aiw (r7:List (List V)) (i8:Int) (i9:Int) (oW:List (List V)) (K:Ex->St->Option R):type_of% (by
  have h:bI amD 156 3 { fr:=[(3,.own 10000 0),(7,.slc yM r7),(8,.int .i64 i8),(9,.int .i64 i9)],tab:=[(10000,.sl yM oW 0)] } K =(
   let z0:=(List.getD r7 (Int.toNat i9) []);cond (aZ i9 i8) (cond (decide (0<=i9∧i9<(↑(List.length r7):Int))) (cond (dA (ak.dec z0)) (cond (decide ((List.length oW+1)*96<=140737488355328)) (K .normal {fr:=[(3,.own 10000 0),(7,.slc yM r7),(8,.int .i64 i8),(9,.int .i64 (IntKind.wrap .i64 (i9+1)))],tab:=[(10000,.sl yM (oW++[[V.int .u64 (V.toInt (z0.getD 0 .undef)),.str (V.toStr (z0.getD 1 .undef)),.str (V.toStr (z0.getD 2 .undef)),.slc yP (List.map yE (List.map yD (V.toRows (z0.getD 3 .undef)))),.str (V.toStr (z0.getD 4 .undef)),.int .u64 (V.toInt (z0.getD 5 .undef)),.int .u8 (V.toInt (z0.getD 6 .undef))]]) 0)]:St}) none) none) none) (K (.exit 0) {fr:=[(3,.own 10000 0)],tab:=[(10000,.sl yM oW 0)]:St})):=by kernel_rfl
  dsimp only at h;exact h):=by kernel_rfl
theorem ae6 {r:List (List V)} {i:Nat} (h:i<r.length):((r.take (i+1)).map ak.dec).map ak.enc=((r.take i).map ak.dec).map ak.enc++[ak.enc (ak.dec (r.getD i []))]:=by
 rw [List.take_add_one,List.getD_eq_getElem?_getD,List.getElem?_eq_getElem h]
 simp only [Option.toList_some,List.map_append,List.map_cons,List.map_nil,Option.getD_some]
theorem Jt {r:List (List V)} (h:(r.map ak.dec).all dA=true) {i:Nat} (hi:i<r.length):dA (ak.dec (r.getD i []))=true:=by
 refine List.all_eq_true.1 h _ (List.mem_map_of_mem ?_)
 rw [List.getD_eq_getElem?_getD,List.getElem?_eq_getElem hi]
 exact List.getElem_mem hi
theorem apP:bH Tryz.prog 156 ars:=by
 refine aK (aT ((fK.nil _).cons uN)) (E:=amD) Tryz.func156 [3] (by kernel_rfl) (one1 (bf rfl fun l K q h=>?_)) fun x _ hp=>?_
 .unfold aru at h
  split at h
  .rename_i r n i o
   replace h:=Ed h;obtain ⟨h1,h2,h3,h4,h5,h⟩:=h
   have e1:=aY h1
   have e2:=aY h2
   have e3:=List.eq_nil_of_length_eq_zero (jk h3)
   subst e1 e2 e3
   have h4:r.length<=16:=aX h4
   have main:=dh (E:=amD) (f:=156) (id:=3) (A:=Unit) r (fun _ i=>{ fr:=[(3,.own 10000 0),(7,.slc yM r),(8,.int .i64 r.length),(9,.int .i64 i)],tab:=[(10000,.sl yM (((r.take i.toNat).map ak.dec).map ak.enc) 0)] }) (fun _ _=>True)
    (fun _ _ K=>K (.exit 0) { fr:=[(3,.own 10000 0)],tab:=[(10000,.sl yM ((r.map ak.dec).map ak.enc) 0)] }) (fun _ i _ hi=>?_) (fun _ _=>?_) () 0 (Int.le_refl _) (by omega) trivial K q (by assumption)
   .exact main
   .refine .inl ⟨(),trivial,fun K=>?_,fun K=>rfl⟩
    rw [aiw]
    have hl:(((r.take i).map ak.dec).map ak.enc).length=i:=by simp; omega
    have ht:=ae6 hi
    have hs:=Jt h5 hi
    simp (disch:=omega) only [evs,Int.toNat_natCast,kG,ac5,hs,hl]
    rw [<- ht]
    try rfl
   .refine ⟨.exit 0,_,by simp,fun K=>?_,fun K=>rfl⟩
    rw [aiw]
    simp (disch:=omega) only [evs,Int.toNat_natCast,List.take_length]
  .cases h
 .refine (arv x).trans ?_
  have hp:dQ x=true:=hp
  show _=some (⟨.slc yM (x.kept.map ak.enc),[],[]⟩:aH)
  obtain ⟨_,hp⟩:=aP hp
  obtain ⟨h1,h2⟩:=aP hp
  simp only [List.length_map,bn,beq_self_eq_true,cond_true,h1,h2]
theorem apQ {α:Type} {c:ah α} {l:List α} (h:AY ((uZ c).enc l)=true):Nat.ble l.length 9223372036854775807=true:=by
 have h:cond (cond (Nat.ble (l.map c.enc).length 9223372036854775807) (cond (dM c.sh (l.map c.enc)) (zW (l.map c.enc)) false) false) true false=true:=h
 rw [List.length_map] at h
 exact (aP (aP h).1).1
def N.nR:List ay->List ay->Bool
 | [],[]=>true
 | a::x,b::y=>cond (N.iP a b) (N.nR x y) false
 | _,_=>false
theorem Hf {r:List (List V)} {i:Nat} (h:i<r.length):(r.drop i).map ak.dec=ak.dec (r.getD i [])::(r.drop (i+1)).map ak.dec:=by
 rw [jP h]; rfl
theorem Fh:∀ (a b:List ay),a.length ≠ b.length->N.nR a b=false
 | [],[],h=>absurd rfl h
 | [],_::_,_=>rfl
 | _::_,[],_=>rfl
 | a::x,b::y,h=>by
  unfold N.nR
  rw [Fh x y (fun e=>h (by simp [e]))]
  cases N.iP a b<;>rfl
theorem Kv (a b:ay) (x y:List ay):N.nR (a::x) (b::y)=cond (N.iP a b) (N.nR x y) false:=rfl
theorem Kw:∀ l:List ay,N.nR l l=true
 | []=>rfl
 | a::x=>by
  unfold N.nR
  rw [uj a,Kw x]; rfl
end Go.Ev

namespace Go.Ev
open Go Go.Proofs
set_option maxRecDepth 100000
-- FOLD
def Lr (f:FuncId):EP Unit where
 ok:=fun | .fn g [] []=>Nat.beq f g | _=>false
 enc _:=.fn f [] []
 dec _:=()
 ed _:=⟨Nat.beq_refl f,rfl⟩
 law w I ρ v x h hx:=by
  split at h
  .have:=Nat.eq_of_beq_eq_true h; subst this
   exact hx
  .cases h
namespace N
def iJ (m:ay):Bool:=cond (vC m) (m.head.all Ob) false
def bZ:List ay->Int
 | []=>0
 | m::r=>bJ m+bZ r
def xK (x y:aC):Bool:=cond (x.total==y.total) (nR x.kept y.kept) false
end N
def lY (x:aC):Bool:=cond (dQ x) (x.kept.all N.vC) false
def jI (x:aC):Bool:=cond (dQ x) (x.kept.all N.iJ) false
def Ju:Den:=den (aW (bg bD)) dw (oV (cu .i64)) (fun x _=>lY x) fun x _=>(N.bZ x.kept,())
def Hg:Den:=den (aW (bg bD)) dw (oV (cu .i64)) (fun x _=>jI x) fun x _=>(N.bZ x.kept,())
def Vo:Den:=den (aO (bg bD) (aW (bg bD))) dw (oV iF) (fun a _=>cond (dQ a.1) (dQ a.2) false) fun a _=>(N.xK a.1 a.2,())
def dOf:Den:=den (aW (bg bD)) dw (oV (bg bD)) (fun x _=>dQ x) fun x _=>(x,())
theorem lZ (m:ay):0<=N.bJ m∧N.bJ m<=1570:=by
 unfold N.bJ
 cases hc:N.aV m != 0 with
 | true=>exact ⟨Int.le_refl 0,(by decide:(0:Int)<=1570)⟩
 | false =>
  have hz:N.aV m=0:=by simpa using hc
  have:=tH hz
  show 0<=((N.mQ m).length:Int)∧((N.mQ m).length:Int)<=1570
  omega
theorem qW:∀ l:List ay,0<=N.bZ l∧N.bZ l<=1570*l.length
 | []=>⟨Int.le_refl 0,by show (0:Int)<=1570*((0:Nat):Int); omega⟩
 | m::r=>by
  have h1:=lZ m
  have h2:=qW r
  show 0<=N.bJ m+N.bZ r∧N.bJ m+N.bZ r<=1570*((r.length+1:Nat):Int)
  omega
theorem LY {p:ay->Bool} {r:List (List V)} (h:(r.map ak.dec).all p=true) {i:Nat} (hi:i<r.length):p (ak.dec (r.getD i []))=true:=by
 refine List.all_eq_true.1 h _ (List.mem_map_of_mem ?_)
 rw [List.getD_eq_getElem?_getD,List.getElem?_eq_getElem hi]
 exact List.getElem_mem hi
def aix:fP:={ fr:=[(3,.int .i64),(7,.slc yM),(8,.int .i64),(9,.int .i64)],tab:=[] }
def aiy:List Leaf->(Ex->St->Option R)->Option R
 | [.i i3,.r r7,.i i8,.i i9],K=>cond (i8==r7.length) (cond (i9==0) (cond (i3==0) (cond (Nat.ble r7.length 16) (cond ((r7.map ak.dec).all N.vC)
   (K (.exit 0) { fr:=[(3,.int .i64 (N.bZ (r7.map ak.dec)))],tab:=[] }) none) none) none) none) none
 | _,_=>none
noncomputable def Vp:Env:=env Tryz.prog [(48,DT)] [(3,dJ aix aiy)] [(3,[(0,[3,7,8,9]),(1,[3]),(1000,[2])])]
theorem amE (x:aC):bM Vp 66 ((aW (bg bD)).enc x) ([]) some =
 cond ((↑(List.length (List.map (ah.enc ak) x.kept)):Int)==(↑(List.length (List.map (ah.enc ak) x.kept)):Int)) (cond (Nat.ble (List.length (List.map (ah.enc ak) x.kept)) 16) (cond (List.all (List.map (ah.dec ak) (List.map (ah.enc ak) x.kept)) N.vC) (some {v:=.int .i64 (N.bZ (List.map (ah.dec ak) (List.map (ah.enc ak) x.kept))),bx:=[]:aH}) none) none) none:=by kernel_rfl
theorem X4 (i3:Int) (r7:List (List V)) (i8:Int) (i9:Int) (K:Ex->St->Option R):type_of% (by
  have h:bI Vp 66 3 { fr:=[(3,.int .i64 i3),(7,.slc yM r7),(8,.int .i64 i8),(9,.int .i64 i9)],tab:=[] } K =(
   let z0:=(List.getD r7 (Int.toNat i9) []);cond (aZ i9 i8) (cond (decide (0<=i9∧i9<(↑(List.length r7):Int))) (cond (N.vC (ak.dec z0)) (K .normal {fr:=[(3,.int .i64 (IntKind.wrap .i64 (i3+N.bJ (ak.dec z0)))),(7,.slc yM r7),(8,.int .i64 i8),(9,.int .i64 (IntKind.wrap .i64 (i9+1)))],tab:=[]:St}) none) none) (K (.exit 0) {fr:=[(3,.int .i64 i3)],tab:=[]:St})):=by kernel_rfl
  dsimp only at h;exact h):=by kernel_rfl
theorem Ky (hN:bH Tryz.prog 95 fZ):bH Tryz.prog 66 Ju:=by
 refine aK (aT ((fK.nil _).cons (Cc hN))) (E:=Vp) Tryz.func66 [3] (by kernel_rfl) (one1 (bf rfl fun l K q h=>?_)) fun x _ hp=>?_
 .unfold aiy at h
  split at h
  .rename_i o r n i
   replace h:=Ed h;obtain ⟨h1,h2,h3,h4,h5,h⟩:=h
   have e1:=aY h1
   have e2:=aY h2
   have e3:=aY h3
   subst e1 e2 e3
   have h4:r.length<=16:=aX h4
   have main:=dh (E:=Vp) (f:=66) (id:=3) (A:=Int) r (fun a i=>{ fr:=[(3,.int .i64 a),(7,.slc yM r),(8,.int .i64 r.length),(9,.int .i64 i)],tab:=[] }) (fun a i=>0<=a∧a<=1570*i)
    (fun a rows K=>K (.exit 0) { fr:=[(3,.int .i64 (a+N.bZ (rows.map ak.dec)))],tab:=[] }) (fun a i ha hi=>?_) (fun a _=>?_) 0 0 (Int.le_refl _) (by omega) ⟨Int.le_refl _,by decide⟩ K q (by rw [Int.zero_add]; exact h)
   .exact main
   .have hb:=lZ (ak.dec (r.getD i []))
    have hs:=LY h5 hi
    refine .inl ⟨a+N.bJ (ak.dec (r.getD i [])),⟨by omega,by omega⟩,fun K=>?_,fun K=>?_⟩
    .rw [X4]
     simp (disch:=omega) only [evs,Int.toNat_natCast,kG,hs]
    .show K _ { fr:=[(3,.int .i64 (a+(N.bJ (ak.dec (r.getD i []))+N.bZ ((r.drop (i+1)).map ak.dec))))],tab:=[] }=_
     rw [Int.add_assoc]
   .refine ⟨.exit 0,_,by simp,fun K=>?_,fun K=>rfl⟩
    rw [X4]
    simp (disch:=omega) only [evs,List.map_nil,Int.add_zero]
    show _=K _ { fr:=[(3,.int .i64 (a+0))],tab:=[] }
    rw [Int.add_zero]
  .cases h
 .refine (amE x).trans ?_
  obtain ⟨hp,h3⟩:=aP hp
  obtain ⟨_,hp⟩:=aP hp
  obtain ⟨h1,_⟩:=aP hp
  show _=some (⟨.int .i64 (N.bZ x.kept),[],[]⟩:aH)
  simp only [List.length_map,bn,beq_self_eq_true,cond_true,h1,h3]
def X5:fP:={ fr:=[(3,.int .i64),(7,.slc yM),(8,.int .i64),(9,.int .i64)],tab:=[] }
def SH:List Leaf->(Ex->St->Option R)->Option R
 | [.i i3,.r r7,.i i8,.i i9],K=>cond (i8==r7.length) (cond (i9==0) (cond (i3==0) (cond (Nat.ble r7.length 16) (cond ((r7.map ak.dec).all N.iJ)
   (K (.exit 0) { fr:=[(3,.int .i64 (N.bZ (r7.map ak.dec)))],tab:=[] }) none) none) none) none) none
 | _,_=>none
noncomputable def D6:Env:=env Tryz.prog [(189,EX)] [(3,dJ X5 SH)] [(3,[(0,[3,7,8,9]),(1,[3]),(1000,[2])])]
theorem aa1 (x:aC):bM D6 160 ((aW (bg bD)).enc x) ([]) some =
 cond ((↑(List.length (List.map (ah.enc ak) x.kept)):Int)==(↑(List.length (List.map (ah.enc ak) x.kept)):Int)) (cond (Nat.ble (List.length (List.map (ah.enc ak) x.kept)) 16) (cond (List.all (List.map (ah.dec ak) (List.map (ah.enc ak) x.kept)) N.iJ) (some {v:=.int .i64 (N.bZ (List.map (ah.dec ak) (List.map (ah.enc ak) x.kept))),bx:=[]:aH}) none) none) none:=by kernel_rfl
theorem Kz (i3:Int) (r7:List (List V)) (i8:Int) (i9:Int) (K:Ex->St->Option R):type_of% (by
  have h:bI D6 160 3 { fr:=[(3,.int .i64 i3),(7,.slc yM r7),(8,.int .i64 i8),(9,.int .i64 i9)],tab:=[] } K =(
   let z0:=(List.getD r7 (Int.toNat i9) []);let z1:=(V.toRows (z0.getD 3 .undef));cond (aZ i9 i8) (cond (decide (0<=i9∧i9<(↑(List.length r7):Int))) (cond (bif N.vC {id:=V.toInt (z0.getD 0 .undef),bT:=V.toStr (z0.getD 1 .undef),key:=V.toStr (z0.getD 2 .undef),head:=List.map yD z1,body:=V.toStr (z0.getD 4 .undef),due:=V.toInt (z0.getD 5 .undef),hops:=V.toInt (z0.getD 6 .undef):ay} then List.all (List.map yD z1) N.Ob else false) (K .normal {fr:=[(3,.int .i64 (IntKind.wrap .i64 (i3+N.bJ {id:=V.toInt (z0.getD 0 .undef),bT:=V.toStr (z0.getD 1 .undef),key:=V.toStr (z0.getD 2 .undef),head:=List.map yD z1,body:=V.toStr (z0.getD 4 .undef),due:=V.toInt (z0.getD 5 .undef),hops:=V.toInt (z0.getD 6 .undef):ay}))),(7,.slc yM r7),(8,.int .i64 i8),(9,.int .i64 (IntKind.wrap .i64 (i9+1)))],tab:=[]:St}) none) none) (K (.exit 0) {fr:=[(3,.int .i64 i3)],tab:=[]:St})):=by kernel_rfl
  dsimp only at h;exact h):=by kernel_rfl
theorem OH:bH Tryz.prog 160 Hg:=by
 refine aK (aT ((fK.nil _).cons CG)) (E:=D6) Tryz.func160 [3] (by kernel_rfl) (one1 (bf rfl fun l K q h=>?_)) fun x _ hp=>?_
 .unfold SH at h
  split at h
  .rename_i o r n i
   replace h:=Ed h;obtain ⟨h1,h2,h3,h4,h5,h⟩:=h
   have e1:=aY h1
   have e2:=aY h2
   have e3:=aY h3
   subst e1 e2 e3
   have h4:r.length<=16:=aX h4
   have main:=dh (E:=D6) (f:=160) (id:=3) (A:=Int) r (fun a i=>{ fr:=[(3,.int .i64 a),(7,.slc yM r),(8,.int .i64 r.length),(9,.int .i64 i)],tab:=[] }) (fun a i=>0<=a∧a<=1570*i)
    (fun a rows K=>K (.exit 0) { fr:=[(3,.int .i64 (a+N.bZ (rows.map ak.dec)))],tab:=[] }) (fun a i ha hi=>?_) (fun a _=>?_) 0 0 (Int.le_refl _) (by omega) ⟨Int.le_refl _,by decide⟩ K q (by rw [Int.zero_add]; exact h)
   .exact main
   .have hb:=lZ (ak.dec (r.getD i []))
    have hs:=LY h5 hi
    refine .inl ⟨a+N.bJ (ak.dec (r.getD i [])),⟨by omega,by omega⟩,fun K=>?_,fun K=>?_⟩
    .rw [Kz]
     simp (disch:=omega) only [evs,Int.toNat_natCast,kG,hs]
     show cond (N.iJ (ak.dec (r.getD i []))) _ _=_
     rw [hs]; rfl
    .show K _ { fr:=[(3,.int .i64 (a+(N.bJ (ak.dec (r.getD i []))+N.bZ ((r.drop (i+1)).map ak.dec))))],tab:=[] }=_
     rw [Int.add_assoc]
   .refine ⟨.exit 0,_,by simp,fun K=>?_,fun K=>rfl⟩
    rw [Kz]
    simp (disch:=omega) only [evs,List.map_nil,Int.add_zero]
    show _=K _ { fr:=[(3,.int .i64 (a+0))],tab:=[] }
    rw [Int.add_zero]
  .cases h
 .refine (aa1 x).trans ?_
  obtain ⟨hp,h3⟩:=aP hp
  obtain ⟨_,hp⟩:=aP hp
  obtain ⟨h1,_⟩:=aP hp
  show _=some (⟨.int .i64 (N.bZ x.kept),[],[]⟩:aH)
  simp only [List.length_map,bn,beq_self_eq_true,cond_true,h1,h3]
noncomputable def X6:Env:=env Tryz.prog [(12,lG)] [] []
theorem ae7 (x:aC) (m:ay):type_of% (by
  have h:bM X6 137 ((aO (bg bD) (aW (bg ak))).enc (x,m)) ([]) some =(
   let z2:=(List.map yE m.head);let z3:=(List.map (ah.enc ak) x.kept);let z1:=(List.map (ah.enc ak) x.kept++[[V.int .u64 m.id,.str m.bT,.str m.key,.slc yP z2,.str m.body,.int .u64 m.due,.int .u8 m.hops]]);let z0:=(cond (N.aV {id:=ay.id m,bT:=ay.bT m,key:=ay.key m,head:=List.map yD z2,body:=ay.body m,due:=ay.due m,hops:=ay.hops m:ay} != 0) (some {v:=.fE [V.agg [V.int .u64 x.total,.slc yM z3],.int .i64 (N.aV {id:=ay.id m,bT:=ay.bT m,key:=ay.key m,head:=List.map yD z2,body:=ay.body m,due:=ay.due m,hops:=ay.hops m:ay})],bx:=[]:aH}) (cond (decide (List.length z3*96<=140737488355328)) (cond (decide ((List.length z3+1)*96<=140737488355328)) (cond (aZ 16 (↑(List.length z1):Int)) (cond (decide ((0 : Int)<=(1 : Int)∧1<=(↑(List.length z1):Int))) (some {v:=.fE [V.agg [V.int .u64 (IntKind.wrap .u64 (aC.total x+1)),.slc yM (List.drop 1 (List.take (List.length z1) z1))],.int .i64 0],bx:=[]:aH}) none) (some {v:=.fE [V.agg [V.int .u64 (IntKind.wrap .u64 (aC.total x+1)),.slc yM z1],.int .i64 0],bx:=[]:aH})) none) none));cond (N.aV {id:=ay.id m,bT:=ay.bT m,key:=ay.key m,head:=List.map yD z2,body:=ay.body m,due:=ay.due m,hops:=ay.hops m:ay}==0) (cond (aC.total x==18446744073709551615) (some {v:=.fE [V.agg [V.int .u64 x.total,.slc yM z3],.int .i64 18],bx:=[]:aH}) z0) z0):=by kernel_rfl
  dsimp only at h;exact h):=by kernel_rfl
theorem QL:bH Tryz.prog 137 Ci:=by
 refine aK (aT ((fK.nil _).cons qH)) (E:=X6) Tryz.func137 [] (by kernel_rfl) none0 fun a _ h=>?_
 obtain ⟨x,m⟩:=a
 obtain ⟨h1,h2⟩:=aP h
 obtain ⟨h3,h4⟩:=aP h1
 obtain ⟨h3,h5⟩:=aP h3
 obtain ⟨h4,h6⟩:=aP h4
 have h3:0<=x.total:=bQ h3
 have h5:x.total<=18446744073709551615:=bQ h5
 have h4:x.kept.length<=16:=aX h4
 refine (ae7 x m).trans ?_
 show _=some (⟨.fE [.agg (bD.enc (N.dH x m).1),.int .i64 (N.dH x m).2],[],[]⟩:aH)
 simp only [um,He]
 unfold N.dH
 cases hc:N.aV m != 0 with
 | true =>
  have h0:(N.aV m==0)=false:=by rw [bne] at hc; simpa using hc
  rw [h0]
  try rfl
 | false =>
  have hz:N.aV m=0:=by simpa using hc
  rw [hz]
  cases ht:x.total==18446744073709551615 with
  | true=>rfl
  | false =>
   have ht:x.total ≠ 18446744073709551615:=fun e=>by rw [e] at ht; cases ht
   have l1:(List.map (ah.enc ak) x.kept++[ak.enc m]).length=x.kept.length+1:=by simp
   have w2:IntKind.wrap .u64 (x.total+1)=x.total+1:=kC (by omega) (by omega)
   have e1:List.map (ah.enc ak) x.kept++[ak.enc m]=List.map (ah.enc ak) (x.kept++[m]):=by simp
   have l2:(List.map (ah.enc ak) (x.kept++[m])).length=x.kept.length+1:=by simp
   have e2:List.take (x.kept.length+1) (List.map (ah.enc ak) (x.kept++[m]))=List.map (ah.enc ak) (x.kept++[m]):=List.take_of_length_le (Nat.le_of_eq l2)
   simp only [cond_true,cond_false,beq_self_eq_true,e1,l2,e2,w2,List.length_map,bne_self_eq_false]
   by_cases hl:x.kept.length=16
   .simp (disch:=omega) only [evs,hl]
    rw [<- List.map_drop]
    try rfl
   .simp (disch:=omega) only [evs]
    rw [show x.kept.length+1-16=0 by omega]
    try rfl
end Go.Ev

namespace Go.Ev
open Go Go.Proofs
set_option maxRecDepth 100000
-- FOLD
def X7:fP:={ fr:=[(2,.ptr 10000 0 0),(3,.ptr 10001 0 0),(22,.int .i64),(23,.int .i64)],tab:=[(10000,.var [.int .u64,.slc yM]),(10001,.var [.int .u64,.slc yM])] }
def SI:List Leaf->(Ex->St->Option R)->Option R
 | [.i n,.i i,.i t0,.r r,.i t1,.r r1],K=>cond (n==r.length) (cond (i==0) (cond (Nat.beq r.length r1.length) (cond (Nat.ble r.length wV) (cond ((r.map ak.dec).all dA)
   (cond (N.nR (r.map ak.dec) (r1.map ak.dec)) (K (.exit 0) { fr:=[],tab:=[] }) (K .ret { fr:=[(4,.bool false)],tab:=[] })) none) none) none) none) none
 | _,_=>none
noncomputable def zl:Env:=env Tryz.prog [(25,qU)] [(4,dJ X7 SI)] [(4,[(0,[2,3,22,23]),(1,[]),(1000,[4])])]
theorem CJ (t0 t1:Int) (n i:Int) (r r1:List (List V)) (K:Ex->St->Option R):bI zl 86 4 { fr:=[(2,.ptr 10000 0 0 0),(3,.ptr 10001 0 0 0),(22,.int .i64 n),(23,.int .i64 i)],tab:=[(10000,.var [.int .u64 t0,.slc yM r]),(10001,.var [.int .u64 t1,.slc yM r1])] } K =
 cond (aZ i n) (cond (decide (0<=i∧i<(↑(List.length r):Int))) (cond (decide (0<=i∧i<(↑(List.length r1):Int))) (cond (dA (ak.dec (List.getD r (Int.toNat i) []))) (cond (!N.iP (ak.dec (List.getD r (Int.toNat i) [])) (ak.dec (List.getD r1 (Int.toNat i) []))) (K .ret {fr:=[(4,.bool false)],tab:=[]:St}) (K .normal {fr:=[(2,.ptr 10000 0 0 0),(3,.ptr 10001 0 0 0),(22,.int .i64 n),(23,.int .i64 (IntKind.wrap .i64 (i+1)))],tab:=[(10000,.var [V.int .u64 t0,.slc yM r]),(10001,.var [V.int .u64 t1,.slc yM r1])]:St})) none) none) none) (K (.exit 0) {fr:=[],tab:=[]:St}):=by kernel_rfl
theorem Vq:dB zl 86 4:=by
 refine bf rfl fun l K q h=>?_
 unfold SI at h
 split at h
 .rename_i n i t0 r t1 r1
  replace h:=Ed h;obtain ⟨h1,h2,h3,h4,h5,h⟩:=h
  have e1:=aY h1
  have e2:=aY h2
  have e3:=jk h3
  subst e1 e2
  have h4:r.length<=1000000:=aX h4
  refine dD (E:=zl) (f:=86) (id:=4) (σ:=Nat) (fun i=>{ fr:=[(2,.ptr 10000 0 0 0),(3,.ptr 10001 0 0 0),(22,.int .i64 r.length),(23,.int .i64 i)],tab:=[(10000,.var [.int .u64 t0,.slc yM r]),(10001,.var [.int .u64 t1,.slc yM r1])] }) (fun i=>i<=r.length) (fun i=>r.length-i)
   (fun i K=>cond (N.nR ((r.drop i).map ak.dec) ((r1.drop i).map ak.dec)) (K (.exit 0) { fr:=[],tab:=[] }) (K .ret { fr:=[(4,.bool false)],tab:=[] })) (fun i hi=>?_) 0 (Nat.zero_le _) K q (by assumption)
  by_cases hl:i<r.length
  .rw [Hf hl,Hf (show i<r1.length by omega),Kv]
   have hs:=Jt h5 hl
   cases hc:N.iP (ak.dec (r.getD i [])) (ak.dec (r1.getD i [])) with
   | true =>
    refine .inl ⟨i+1,hl,by omega,fun K=>?_,fun K=>rfl⟩
    rw [CJ]
    simp (disch:=omega) only [evs,Int.toNat_natCast,kG,hs,hc,Bool.not_true]
    try rfl
   | false =>
    refine .inr ⟨.ret,{ fr:=[(4,.bool false)],tab:=[] },by simp,fun K=>?_,fun K=>rfl⟩
    rw [CJ]
    simp (disch:=omega) only [evs,Int.toNat_natCast,kG,hs,hc,Bool.not_false]
  .refine .inr ⟨.exit 0,{ fr:=[],tab:=[] },by simp,fun K=>?_,fun K=>?_⟩
   .rw [CJ]
    simp (disch:=omega) only [evs]
   .rw [List.drop_eq_nil_of_le (show r.length<=i by omega),List.drop_eq_nil_of_le (show r1.length<=i by omega)]; rfl
 .cases h
def apR:fP:={ fr:=[(1,.slc yM),(2,.fn 143 [] []),(15,.slc yM),(16,.int .i64),(17,.int .i64)],tab:=[] }
def arw:List Leaf->(Ex->St->Option R)->Option R
 | [.r r1,.r r,.i n,.i i],K=>cond (n==r.length) (cond (i==0) (cond (Nat.beq r.length r1.length) (cond (Nat.ble r.length wV) (cond ((r.map ak.dec).all dA)
   (cond (N.nR (r.map ak.dec) (r1.map ak.dec)) (K (.exit 0) { fr:=[],tab:=[] }) (K .ret { fr:=[(6,.bool false)],tab:=[] })) none) none) none) none) none
 | _,_=>none
noncomputable def aiz:Env:=env Tryz.prog [(143,qU)] [(4,dJ apR arw)] [(4,[(0,[1,2,15,16,17]),(1,[]),(1000,[6])])]
theorem aa2 (n i:Int) (r r1:List (List V)) (K:Ex->St->Option R):bI aiz 144 4 { fr:=[(1,.slc yM r1),(2,.fn 143 [] []),(15,.slc yM r),(16,.int .i64 n),(17,.int .i64 i)],tab:=[] } K =
 cond (aZ i n) (cond (decide (0<=i∧i<(↑(List.length r):Int))) (cond (decide (0<=i∧i<(↑(List.length r1):Int))) (cond (dA (ak.dec (List.getD r (Int.toNat i) []))) (cond (!N.iP (ak.dec (List.getD r (Int.toNat i) [])) (ak.dec (List.getD r1 (Int.toNat i) []))) (K .ret {fr:=[(6,.bool false)],tab:=[]:St}) (K .normal {fr:=[(1,.slc yM r1),(2,.fn 143 [] []),(15,.slc yM r),(16,.int .i64 n),(17,.int .i64 (IntKind.wrap .i64 (i+1)))],tab:=[]:St})) none) none) none) (K (.exit 0) {fr:=[],tab:=[]:St}):=by kernel_rfl
theorem amF:dB aiz 144 4:=by
 refine bf rfl fun l K q h=>?_
 unfold arw at h
 split at h
 .rename_i r1 r n i
  replace h:=Ed h;obtain ⟨h1,h2,h3,h4,h5,h⟩:=h
  have e1:=aY h1
  have e2:=aY h2
  have e3:=jk h3
  subst e1 e2
  have h4:r.length<=1000000:=aX h4
  refine dD (E:=aiz) (f:=144) (id:=4) (σ:=Nat) (fun i=>{ fr:=[(1,.slc yM r1),(2,.fn 143 [] []),(15,.slc yM r),(16,.int .i64 r.length),(17,.int .i64 i)],tab:=[] }) (fun i=>i<=r.length) (fun i=>r.length-i)
   (fun i K=>cond (N.nR ((r.drop i).map ak.dec) ((r1.drop i).map ak.dec)) (K (.exit 0) { fr:=[],tab:=[] }) (K .ret { fr:=[(6,.bool false)],tab:=[] })) (fun i hi=>?_) 0 (Nat.zero_le _) K q (by assumption)
  by_cases hl:i<r.length
  .rw [Hf hl,Hf (show i<r1.length by omega),Kv]
   have hs:=Jt h5 hl
   cases hc:N.iP (ak.dec (r.getD i [])) (ak.dec (r1.getD i [])) with
   | true =>
    refine .inl ⟨i+1,hl,by omega,fun K=>?_,fun K=>rfl⟩
    rw [aa2]
    simp (disch:=omega) only [evs,Int.toNat_natCast,kG,hs,hc,Bool.not_true]
    try rfl
   | false =>
    refine .inr ⟨.ret,{ fr:=[(6,.bool false)],tab:=[] },by simp,fun K=>?_,fun K=>rfl⟩
    rw [aa2]
    simp (disch:=omega) only [evs,Int.toNat_natCast,kG,hs,hc,Bool.not_false]
  .refine .inr ⟨.exit 0,{ fr:=[],tab:=[] },by simp,fun K=>?_,fun K=>?_⟩
   .rw [aa2]
    simp (disch:=omega) only [evs]
   .rw [List.drop_eq_nil_of_le (show r.length<=i by omega),List.drop_eq_nil_of_le (show r1.length<=i by omega)]; rfl
 .cases h
theorem aa3 (x y:aC):bM zl 86 ((aO (bg bD) (aW (bg bD))).enc (x,y)) ([]) some =
 cond (aC.total x != aC.total y) (some {v:=.bool false,bx:=[]:aH}) (cond ((↑(List.length (List.map (ah.enc ak) x.kept)):Int) != (↑(List.length (List.map (ah.enc ak) y.kept)):Int)) (some {v:=.bool false,bx:=[]:aH}) (cond ((↑(List.length (List.map (ah.enc ak) x.kept)):Int)==(↑(List.length (List.map (ah.enc ak) x.kept)):Int)) (cond (Nat.beq (List.length (List.map (ah.enc ak) x.kept)) (List.length (List.map (ah.enc ak) y.kept))) (cond (Nat.ble (List.length (List.map (ah.enc ak) x.kept)) 1000000) (cond (List.all (List.map (ah.dec ak) (List.map (ah.enc ak) x.kept)) dA) (cond (N.nR (List.map (ah.dec ak) (List.map (ah.enc ak) x.kept)) (List.map (ah.dec ak) (List.map (ah.enc ak) y.kept))) (some {v:=.bool true,bx:=[]:aH}) (some {v:=.bool false,bx:=[]:aH})) none) none) none) none)):=by kernel_rfl
theorem arx (a b:List ay):bM aiz 144 ((aO (jY ak) (aO (jY ak) (aW (Lr 143)))).enc (a,b,())) ([]) some =
 cond ((↑(List.length (List.map (ah.enc ak) a)):Int) != (↑(List.length (List.map (ah.enc ak) b)):Int)) (some {v:=.bool false,bx:=[]:aH}) (cond ((↑(List.length (List.map (ah.enc ak) a)):Int)==(↑(List.length (List.map (ah.enc ak) a)):Int)) (cond (Nat.beq (List.length (List.map (ah.enc ak) a)) (List.length (List.map (ah.enc ak) b))) (cond (Nat.ble (List.length (List.map (ah.enc ak) a)) 1000000) (cond (List.all (List.map (ah.dec ak) (List.map (ah.enc ak) a)) dA) (cond (N.nR (List.map (ah.dec ak) (List.map (ah.enc ak) a)) (List.map (ah.dec ak) (List.map (ah.enc ak) b))) (some {v:=.bool true,bx:=[]:aH}) (some {v:=.bool false,bx:=[]:aH})) none) none) none) none):=by kernel_rfl
def arz (f:FuncId):Den:=den (aO (jY ak) (aO (jY ak) (aW (Lr f)))) dw (oV iF) (fun a _=>cond (Nat.ble a.1.length wV) (a.1.all dA) false) fun a _=>(N.nR a.1 a.2.1,())
theorem X8:bH Tryz.prog 86 Vo:=by
 refine aK (aT ((fK.nil _).cons rQ)) (E:=zl) Tryz.func86 [4] (by kernel_rfl) (one1 Vq) fun a _ h=>?_
 obtain ⟨x,y⟩:=a
 obtain ⟨h1,_⟩:=aP h
 obtain ⟨_,h1⟩:=aP h1
 obtain ⟨h2,h3⟩:=aP h1
 have h2:x.kept.length<=16:=aX h2
 have h3:x.kept.all dA=true:=h3
 refine (aa3 x y).trans ?_
 show _=some (⟨.bool (N.xK x y),[],[]⟩:aH)
 unfold N.xK
 by_cases ht:x.total=y.total
 .by_cases hl:x.kept.length=y.kept.length
  .simp (disch:=omega) only [evs,bn,ht,hl,h3,Nat.beq_refl]
   cases N.nR x.kept y.kept<;>rfl
  .rw [Fh _ _ hl]
   simp (disch:=omega) only [evs,ht]
 .simp (disch:=omega) only [evs]
theorem apS:bH Tryz.prog 144 (arz 143):=by
 refine aK (aT ((fK.nil _).cons Kq)) (E:=aiz) Tryz.func144 [4] (by kernel_rfl) (one1 amF) fun a _ h=>?_
 obtain ⟨a,b,⟨⟩⟩:=a
 obtain ⟨h2,h3⟩:=aP h
 have h2:a.length<=1000000:=aX h2
 have h3:a.all dA=true:=h3
 refine (arx a b).trans ?_
 show _=some (⟨.bool (N.nR a b),[],[]⟩:aH)
 by_cases hl:a.length=b.length
 .simp (disch:=omega) only [evs,bn,hl,h3,Nat.beq_refl]
  cases N.nR a b<;>rfl
 .rw [Fh _ _ hl]
  simp (disch:=omega) only [evs]
noncomputable def aiA:Env:=env Tryz.prog [(144,arz 143)] [] []
theorem amG (x y:aC):bM aiA 70 ((aO (bg bD) (aW (bg bD))).enc (x,y)) ([]) some =
 cond (aC.total x==aC.total y) (cond (bif Nat.ble (List.length (List.map (ah.dec ak) (List.map (ah.enc ak) x.kept))) 1000000 then List.all (List.map (ah.dec ak) (List.map (ah.enc ak) x.kept)) dA else false) (some {v:=.bool (N.nR (List.map (ah.dec ak) (List.map (ah.enc ak) x.kept)) (List.map (ah.dec ak) (List.map (ah.enc ak) y.kept))),bx:=[]:aH}) none) (some {v:=.bool false,bx:=[]:aH}):=by kernel_rfl
theorem aiB:bH Tryz.prog 70 Vo:=by
 refine aK (aT ((fK.nil _).cons apS)) (E:=aiA) Tryz.func70 [] (by kernel_rfl) none0 fun a _ h=>?_
 obtain ⟨x,y⟩:=a
 obtain ⟨h1,_⟩:=aP h
 obtain ⟨_,h1⟩:=aP h1
 obtain ⟨h2,h3⟩:=aP h1
 have h2:x.kept.length<=16:=aX h2
 have h3:x.kept.all dA=true:=h3
 refine (amG x y).trans ?_
 show _=some (⟨.bool (N.xK x y),[],[]⟩:aH)
 unfold N.xK
 by_cases ht:x.total=y.total
 .simp (disch:=omega) only [evs,bn,ht,h3]
 .simp (disch:=omega) only [evs]
noncomputable def eOf:Env:=env Tryz.prog [(101,aaY),(156,ars)] [] []
theorem asz (x:aC):bM eOf 88 ((aW (bg bD)).enc x) ([]) some =
 cond (dQ {total:=aC.total x,kept:=List.map (ah.dec ak) (List.map (ah.enc ak) x.kept):aC}) (some {v:=.agg [V.int .u64 x.total,.slc yM (List.map (ah.enc ak) (List.map (ah.dec ak) (List.map (ah.enc ak) x.kept)))],bx:=[]:aH}) none:=by kernel_rfl
theorem arA:bH Tryz.prog 88 dOf:=by
 refine aK (aT (((fK.nil _).cons apP).cons XU)) (E:=eOf) Tryz.func88 [] (by kernel_rfl) none0 fun x _ h=>?_
 have h:dQ x=true:=h
 refine (asz x).trans ?_
 simp (disch:=omega) only [evs,bn,ae5,h]
 try rfl
namespace N
end N
def OI (x:aC):Bool:=cond (Cm x) (cond (x.kept.all N.iJ) (x.kept.all N.vC) false) false
end Go.Ev

namespace Go.Ev
open Go Go.Proofs
set_option maxRecDepth 100000
-- FOLD
namespace N
def fH (m:ay):Bool:=cond (iJ m) (aV m==0) false
def kW:List ay->Bytes
 | []=>[]
 | m::r=>mQ m++kW r
def mW (x:aC):Bytes:=bW x.total 8++bW x.kept.length 1++kW x.kept
def fC:Nat->eH->List ay->List ay × eH
 | 0,i,acc=>(acc,i)
 | k+1,i,acc=>cond (i.err==0) (fC k (dL i).2 (acc++[(dL i).1])) (acc,i)
end N
def fJ (x:aC):Bool:=cond (dQ x) (x.kept.all N.fH) false
def Vr:Den:=den (aW (bg bD)) dw (oV fV) (fun x _=>fJ x) fun x _=>(N.mW x,())
theorem pV {m:ay} (h:N.fH m=true):N.vC m=true∧N.aV m=0∧(∀ p∈m.head,wG p)∧N.QI m=true:=by
 obtain ⟨h1,h2⟩:=aP h
 obtain ⟨h1,h3⟩:=aP h1
 exact ⟨h1,aY h2,fun p hm=>air (List.all_eq_true.1 h3 p hm),ac4 h1 (aY h2)⟩
theorem OJ:∀ {l:List ay},l.all N.fH=true->(N.kW l).length<=1570*l.length
 | [],_=>Nat.le_refl _
 | m::r,h=>by
  rw [List.all_cons,Bool.and_eq_true] at h
  have h1:=tH (pV h.1).2.1
  have h2:=OJ h.2
  show (N.mQ m++N.kW r).length<=1570*(r.length+1)
  rw [List.length_append]; omega
def ae8:fP:={ fr:=[(3,.ptr 10000 0 0),(18,.slc yM),(19,.int .i64),(20,.int .i64)],tab:=[(10000,.var [.str,.int .i64])] }
def ac6:List Leaf->(Ex->St->Option R)->Option R
 | [.r r,.i n,.i i,.s s,.i e],K=>cond (n==r.length) (cond (i==0) (cond (e==0) (cond (Nat.ble s.length 1000) (cond (Nat.ble r.length 16) (cond ((r.map ak.dec).all N.fH)
   (K (.exit 0) { fr:=[(3,.ptr 10000 0 0 0)],tab:=[(10000,.var [.str (s++N.kW (r.map ak.dec)),.int .i64 0])] }) none) none) none) none) none) none
 | _,_=>none
noncomputable def LZ:Env:=env Tryz.prog [(98,wE),(95,fZ),(100,GH),(103,tq)] [(3,dJ ae8 ac6)] [(3,[(0,[3,18,19,20]),(1,[3]),(1000,[2])])]
theorem aiC (x:aC):bM LZ 102 ((aW (bg bD)).enc x) ([]) some =
 cond (bif bU 0 x.total then bif aZ x.total 18446744073709551616 then true else false else false) (cond (bif aZ (IntKind.wrap .u64 (↑(List.length (List.map (ah.enc ak) x.kept)):Int)) 18446744073709551616 then true else false) (cond ((↑(List.length (List.map (ah.enc ak) x.kept)):Int)==(↑(List.length (List.map (ah.enc ak) x.kept)):Int)) (cond (Nat.ble (List.length (List.map (ah.enc ak) x.kept)) 16) (cond (List.all (List.map (ah.dec ak) (List.map (ah.enc ak) x.kept)) N.fH) (some {v:=.str (iK.s (N.jl (N.jl {s:=[],err:=0:iK} x.total 8) (IntKind.wrap .u64 (↑(List.length (List.map (ah.enc ak) x.kept)):Int)) 1)++N.kW (List.map (ah.dec ak) (List.map (ah.enc ak) x.kept))),bx:=[]:aH}) none) none) none) none) none:=by kernel_rfl
theorem SK (r:List (List V)) (n i:Int) (s:Bytes) (e:Int) (K:Ex->St->Option R):type_of% (by
  have h:bI LZ 102 3 { fr:=[(3,.ptr 10000 0 0 0),(18,.slc yM r),(19,.int .i64 n),(20,.int .i64 i)],tab:=[(10000,.var [.str s,.int .i64 e])] } K =(
   let z0:=(Prod.fst (bif N.aV (ak.dec (List.getD r (Int.toNat i) [])) != 0 then ([],N.aV (ak.dec (List.getD r (Int.toNat i) []))) else (N.mQ (ak.dec (List.getD r (Int.toNat i) [])),0)));cond (aZ i n) (cond (decide (0<=i∧i<(↑(List.length r):Int))) (cond (N.vC (ak.dec (List.getD r (Int.toNat i) []))) (cond (Nat.ble (List.length s+List.length z0) 9223372036854775807) (K .normal {fr:=[(3,.ptr 10000 0 0 0),(18,.slc yM r),(19,.int .i64 n),(20,.int .i64 (IntKind.wrap .i64 (i+1)))],tab:=[(10000,.var [V.str (iK.s (N.sZ {s:=s,err:=e:iK} z0)),.int .i64 (iK.err (N.sZ {s:=s,err:=e:iK} z0))])]:St}) none) none) none) (K (.exit 0) {fr:=[(3,.ptr 10000 0 0 0)],tab:=[(10000,.var [V.str s,.int .i64 e])]:St})):=by kernel_rfl
  dsimp only at h;exact h):=by kernel_rfl
def Vs:fP:={ fr:=[(3,.str),(16,.slc yM),(17,.int .i64),(18,.int .i64)],tab:=[] }
def OL:List Leaf->(Ex->St->Option R)->Option R
 | [.s s,.r r,.i n,.i i],K=>cond (n==r.length) (cond (i==0) (cond (Nat.ble s.length 1000) (cond (Nat.ble r.length 16) (cond ((r.map ak.dec).all N.fH)
   (K (.exit 0) { fr:=[(3,.str (s++N.kW (r.map ak.dec)))],tab:=[] }) none) none) none) none) none
 | _,_=>none
noncomputable def Aj:Env:=env Tryz.prog [(106,D5),(104,qG 8)] [(3,dJ Vs OL)] [(3,[(0,[3,16,17,18]),(1,[3]),(1000,[2])])]
theorem X9 (x:aC):bM Aj 107 ((aW (bg bD)).enc x) ([]) some =
 cond (bif bU 0 x.total then bif aZ x.total 18446744073709551616 then N.iI 8 8 else false else false) (cond (bif aZ (IntKind.wrap .u64 (↑(List.length (List.map (ah.enc ak) x.kept)):Int)) 18446744073709551616 then N.iI 8 1 else false) (cond ((↑(List.length (List.map (ah.enc ak) x.kept)):Int)==(↑(List.length (List.map (ah.enc ak) x.kept)):Int)) (cond (Nat.ble (List.length (List.map (ah.enc ak) x.kept)) 16) (cond (List.all (List.map (ah.dec ak) (List.map (ah.enc ak) x.kept)) N.fH) (some {v:=.str (N.bW x.total (N.clamp 8)++N.bW (IntKind.wrap .u64 (↑(List.length (List.map (ah.enc ak) x.kept)):Int)) (N.clamp 1)++N.kW (List.map (ah.dec ak) (List.map (ah.enc ak) x.kept))),bx:=[]:aH}) none) none) none) none) none:=by kernel_rfl
theorem Hl (r:List (List V)) (n i:Int) (s:Bytes) (K:Ex->St->Option R):bI Aj 107 3 { fr:=[(3,.str s),(16,.slc yM r),(17,.int .i64 n),(18,.int .i64 i)],tab:=[] } K =
 cond (aZ i n) (cond (decide (0<=i∧i<(↑(List.length r):Int))) (cond (N.QI (ak.dec (List.getD r (Int.toNat i) []))) (cond (Nat.ble (List.length s+List.length (N.kR (ak.dec (List.getD r (Int.toNat i) [])))) 9223372036854775807) (K .normal {fr:=[(3,.str (s++N.kR (ak.dec (List.getD r (Int.toNat i) [])))),(16,.slc yM r),(17,.int .i64 n),(18,.int .i64 (IntKind.wrap .i64 (i+1)))],tab:=[]:St}) none) none) none) (K (.exit 0) {fr:=[(3,.str s)],tab:=[]:St}):=by kernel_rfl
theorem ae9 (hN:bH Tryz.prog 95 fZ):bH Tryz.prog 102 Vr:=by
 refine aK (aT (((((fK.nil _).cons rO).cons DV).cons hN).cons (vP hN))) (E:=LZ) Tryz.func102 [3] (by kernel_rfl) (one1 (bf rfl fun l K q h=>?_)) fun x _ hp=>?_
 .unfold ac6 at h
  split at h
  .rename_i r n i s e
   replace h:=cN6 h;obtain ⟨h1,h2,h3,h4,h5,h6,h⟩:=h
   have e1:=aY h1
   have e2:=aY h2
   have e3:=aY h3
   subst e1 e2 e3
   have h4:s.length<=1000:=aX h4
   have h5:r.length<=16:=aX h5
   have main:=dh (E:=LZ) (f:=102) (id:=3) (A:=Bytes) r (fun a i=>{ fr:=[(3,.ptr 10000 0 0 0),(18,.slc yM r),(19,.int .i64 r.length),(20,.int .i64 i)],tab:=[(10000,.var [.str a,.int .i64 0])] }) (fun a i=>a.length<=1000+1570*i)
    (fun a rows K=>K (.exit 0) { fr:=[(3,.ptr 10000 0 0 0)],tab:=[(10000,.var [.str (a++N.kW (rows.map ak.dec)),.int .i64 0])] }) (fun a i ha hi=>?_) (fun a _=>?_) s 0 (Int.le_refl _) (by omega) (by show s.length<=1000+1570*0; omega) K q (by assumption)
   .exact main
   .have hs:=pV (LY h6 hi)
    have hb:=tH hs.2.1
    refine .inl ⟨a++N.mQ (ak.dec (r.getD i [])),by rw [List.length_append]; omega,fun K=>?_,fun K=>?_⟩
    .rw [SK]
     simp (disch:=omega) only [evs,Int.toNat_natCast,kG,hs.1,hs.2.1,bne_self_eq_false,Ox]
    .show K _ { fr:=[(3,.ptr 10000 0 0 0)],tab:=[(10000,.var [.str (a++(N.mQ (ak.dec (r.getD i []))++N.kW ((r.drop (i+1)).map ak.dec))),.int .i64 0])] }=_
     rw [List.append_assoc]
   .refine ⟨.exit 0,{ fr:=[(3,.ptr 10000 0 0 0)],tab:=[(10000,.var [.str (a++[]),.int .i64 0])] },by simp,fun K=>?_,fun K=>rfl⟩
    rw [SK,List.append_nil]
    simp (disch:=omega) only [evs]
  .cases h
 .refine (aiC x).trans ?_
  obtain ⟨hp,h3⟩:=aP hp
  obtain ⟨h0,hp⟩:=aP hp
  obtain ⟨h1,_⟩:=aP hp
  obtain ⟨h4,h5⟩:=aP h0
  have h1:=aX h1
  have h4:=bQ h4
  have h5:=bQ h5
  have w:=kC (n:=(x.kept.length:Int)) (by omega) (by omega)
  show _=some (⟨.str (N.mW x),[],[]⟩:aH)
  unfold N.mW
  simp (disch:=omega) only [evs,bn,w,h3,BR,uM,List.length_nil,fB,List.nil_append]
theorem Vt:bH Tryz.prog 107 Vr:=by
 refine aK (aT (((fK.nil _).cons (tu 8)).cons Ce)) (E:=Aj) Tryz.func107 [3] (by kernel_rfl) (one1 (bf rfl fun l K q h=>?_)) fun x _ hp=>?_
 .unfold OL at h
  split at h
  .rename_i s r n i
   replace h:=Ed h;obtain ⟨h1,h2,h4,h5,h6,h⟩:=h
   have e1:=aY h1
   have e2:=aY h2
   subst e1 e2
   have h4:s.length<=1000:=aX h4
   have h5:r.length<=16:=aX h5
   have main:=dh (E:=Aj) (f:=107) (id:=3) (A:=Bytes) r (fun a i=>{ fr:=[(3,.str a),(16,.slc yM r),(17,.int .i64 r.length),(18,.int .i64 i)],tab:=[] }) (fun a i=>a.length<=1000+1570*i)
    (fun a rows K=>K (.exit 0) { fr:=[(3,.str (a++N.kW (rows.map ak.dec)))],tab:=[] }) (fun a i ha hi=>?_) (fun a _=>?_) s 0 (Int.le_refl _) (by omega) (by show s.length<=1000+1570*0; omega) K q (by assumption)
   .exact main
   .have hs:=pV (LY h6 hi)
    have hb:=tH hs.2.1
    have hr:=CB hs.2.2.1 hs.2.1
    refine .inl ⟨a++N.mQ (ak.dec (r.getD i [])),by rw [List.length_append]; omega,fun K=>?_,fun K=>?_⟩
    .rw [Hl]
     simp (disch:=omega) only [evs,Int.toNat_natCast,kG,hs.2.2.2,hr]
    .show K _ { fr:=[(3,.str (a++(N.mQ (ak.dec (r.getD i []))++N.kW ((r.drop (i+1)).map ak.dec))))],tab:=[] }=_
     rw [List.append_assoc]
   .refine ⟨.exit 0,{ fr:=[(3,.str (a++[]))],tab:=[] },by simp,fun K=>?_,fun K=>rfl⟩
    rw [Hl,List.append_nil]
    simp (disch:=omega) only [evs]
  .cases h
 .refine (X9 x).trans ?_
  obtain ⟨hp,h3⟩:=aP hp
  obtain ⟨h0,hp⟩:=aP hp
  obtain ⟨h1,_⟩:=aP hp
  obtain ⟨h4,h5⟩:=aP h0
  have h1:=aX h1
  have h4:=bQ h4
  have h5:=bQ h5
  have w:=kC (n:=(x.kept.length:Int)) (by omega) (by omega)
  show _=some (⟨.str (N.mW x),[],[]⟩:aH)
  unfold N.mW
  simp (disch:=omega) only [evs,bn,w,h3,show N.iI 8 8=true from rfl,show N.iI 8 1=true from rfl,show N.clamp 8=8 from rfl,show N.clamp 1=1 from rfl,fB]
end Go.Ev

namespace Go.Ev
open Go Go.Proofs
set_option maxRecDepth 100000
-- FOLD
def aiD:fP:={ fr:=[(0,.ptr 0 0 0),(2,.ptr 10000 0 0),(3,.ptr 10002 0 0),(4,.int .u64),(5,.int .u64)],tab:=[(0,.var [.str,.int .i64]),(10001,.sl yM),(10000,.var [.int .u64,.own 10001]),(10003,.sl yM),(10002,.var [.int .u64,.own 10003])] }
def aiE:List Leaf->(Ex->St->Option R)->Option R
 | [.i n,.i k,.s s,.i e,.r r1,.i t1,.r r3,.i t],K=>cond (k==0) (cond (bU n 255) (cond (Nat.beq r3.length 0)
   (K (.exit 1) { fr:=[(0,.ptr 0 0 0 0),(2,.ptr 10000 0 0 0),(3,.ptr 10002 0 0 0)],tab:=[(0,.var [.str (N.fC n.toNat ⟨s,e⟩ []).2.s,.int .i64 (N.fC n.toNat ⟨s,e⟩ []).2.err]),(10001,.sl yM r1 0),(10000,.var [.int .u64 t1,.own 10001 0]),(10003,.sl yM ((N.fC n.toNat ⟨s,e⟩ []).1.map ak.enc) 0),(10002,.var [.int .u64 t,.own 10003 0])] }) none) none) none
 | _,_=>none
noncomputable def OM:Env:=env Tryz.prog [(74,U3),(78,Gz),(75,EW),(148,Jp)] [(9,dJ aiD aiE)] [(9,[(0,[0,2,3,4,5]),(2,[0,2,3]),(1000,[2])])]
theorem amH (i:eH):type_of% (by
  have h:bM OM 77 ((aW (nY 0)).enc ()) ((nC IW).enc i) some =(
   let z0:=(N.aN (Prod.snd (N.aN i 8)) 1);let z6:=(bU z0.1 255);let z5:=(N.fC (Int.toNat z0.1) z0.2 []);let z4:=(Prod.fst (N.aN i 8));let z1:=(cond z6 (cond (eH.err z5.2 != 0) (some {v:=.agg [V.int .u64 0,.slc yM []],bx:=[[V.str (eH.s z5.2),.int .i64 (eH.err z5.2)]]:aH}) (some {v:=.agg [V.int .u64 z4,.slc yM (List.map (ah.enc ak) z5.1)],bx:=[[V.str (eH.s z5.2),.int .i64 (eH.err z5.2)]]:aH})) none);let z2:=(N.fC (Int.toNat z0.1) (N.bV z0.2 6) []);let z3:=(N.fC (Int.toNat z0.1) (N.bV z0.2 7) []);cond (eH.err z0.2 != 0) z1 (cond (aZ 16 z0.1) (cond z6 (cond (eH.err z2.2 != 0) (some {v:=.agg [V.int .u64 0,.slc yM []],bx:=[[V.str (eH.s z2.2),.int .i64 (eH.err z2.2)]]:aH}) (some {v:=.agg [V.int .u64 z4,.slc yM (List.map (ah.enc ak) z2.1)],bx:=[[V.str (eH.s z2.2),.int .i64 (eH.err z2.2)]]:aH})) none) (cond (Prod.fst z0 != bif aZ 16 z4 then 16 else Prod.fst (N.aN i 8)) (cond z6 (cond (eH.err z3.2 != 0) (some {v:=.agg [V.int .u64 0,.slc yM []],bx:=[[V.str (eH.s z3.2),.int .i64 (eH.err z3.2)]]:aH}) (some {v:=.agg [V.int .u64 z4,.slc yM (List.map (ah.enc ak) z3.1)],bx:=[[V.str (eH.s z3.2),.int .i64 (eH.err z3.2)]]:aH})) none) z1))):=by kernel_rfl
  dsimp only at h;exact h):=by kernel_rfl
theorem OO (n k:Int) (s:Bytes) (e:Int) (r1:List (List V)) (t1:Int) (r3:List (List V)) (t:Int) (K:Ex->St->Option R):type_of% (by
  have h:bI OM 77 9 { fr:=[(0,.ptr 0 0 0 0),(2,.ptr 10000 0 0 0),(3,.ptr 10002 0 0 0),(4,.int .u64 n),(5,.int .u64 k)],tab:=[(0,.var [.str s,.int .i64 e]),(10001,.sl yM r1 0),(10000,.var [.int .u64 t1,.own 10001 0]),(10003,.sl yM r3 0),(10002,.var [.int .u64 t,.own 10003 0])] } K =(
   let z0:=(K (.exit 1) {fr:=[(0,.ptr 0 0 0 0),(2,.ptr 10000 0 0 0),(3,.ptr 10002 0 0 0)],tab:=[(0,.var [V.str s,.int .i64 e]),(10001,.sl yM r1 0),(10000,.var [V.int .u64 t1,.own 10001 0]),(10003,.sl yM r3 0),(10002,.var [V.int .u64 t,.own 10003 0])]:St});let z1:=(N.dL {s:=s,err:=e:eH});cond (aZ k n) (cond (e==0) (cond (decide ((List.length r3+1)*96<=140737488355328)) (K .normal {fr:=[(0,.ptr 0 0 0 0),(2,.ptr 10000 0 0 0),(3,.ptr 10002 0 0 0),(4,.int .u64 n),(5,.int .u64 (IntKind.wrap .u64 (k+1)))],tab:=[(0,.var [V.str (eH.s z1.2),.int .i64 (eH.err z1.2)]),(10001,.sl yM r1 0),(10000,.var [V.int .u64 t1,.own 10001 0]),(10003,.sl yM (r3++[[V.int .u64 (ay.id z1.1),.str (ay.bT z1.1),.str (ay.key z1.1),.slc yP (List.map yE (ay.head z1.1)),.str (ay.body z1.1),.int .u64 (ay.due z1.1),.int .u8 (ay.hops z1.1)]]) 0),(10002,.var [V.int .u64 t,.own 10003 0])]:St}) none) z0) z0):=by kernel_rfl
  dsimp only at h;exact h):=by kernel_rfl
namespace N
def Ef (i:eH):Int × eH:=aN (aN i 8).2 1
def QM (i:eH):eH:=cond ((Ef i).2.err != 0) (Ef i).2 (cond (aZ 16 (Ef i).1) (bV (Ef i).2 6) (cond ((Ef i).1 != cond (aZ 16 (aN i 8).1) 16 (aN i 8).1) (bV (Ef i).2 7) (Ef i).2))
def rrE (t:Int) (w:List ay × eH):aC × eH:=cond (w.2.err != 0) (iC,w.2) (⟨t,w.1⟩,w.2)
def iw (i:eH):aC × eH:=rrE (aN i 8).1 (fC (Ef i).1.toNat (QM i) [])
end N
def SL:Den:=den (aW (nY 0)) (nC IW) (oV (bg bD)) (fun _ _=>true) fun _ i=>N.iw i
theorem afa:dB OM 77 9:=by
 refine bf rfl fun l K q h=>?_
 unfold aiE at h
 split at h
 .rename_i n k s e r1 t1 r3 t
  replace h:=Lm h;obtain ⟨h1,h2,h3,h⟩:=h
  have e1:=aY h1
  have e3:=List.eq_nil_of_length_eq_zero (jk h3)
  subst e1 e3
  have h2:=bQ h2
  have main:=dD (E:=OM) (f:=77) (id:=9) (σ:=Nat × eH × List ay) (fun x=>{ fr:=[(0,.ptr 0 0 0 0),(2,.ptr 10000 0 0 0),(3,.ptr 10002 0 0 0),(4,.int .u64 n),(5,.int .u64 (x.1:Int))],tab:=[(0,.var [.str x.2.1.s,.int .i64 x.2.1.err]),(10001,.sl yM r1 0),(10000,.var [.int .u64 t1,.own 10001 0]),(10003,.sl yM (x.2.2.map ak.enc) 0),(10002,.var [.int .u64 t,.own 10003 0])] })
   (fun x=>x.2.2.length<=256∧(x.1:Int)<=256∧x.2.2.length=x.1) (fun x=>(n-x.1).toNat)
   (fun x K=>K (.exit 1) { fr:=[(0,.ptr 0 0 0 0),(2,.ptr 10000 0 0 0),(3,.ptr 10002 0 0 0)],tab:=[(0,.var [.str (N.fC (n-x.1).toNat x.2.1 x.2.2).2.s,.int .i64 (N.fC (n-x.1).toNat x.2.1 x.2.2).2.err]),(10001,.sl yM r1 0),(10000,.var [.int .u64 t1,.own 10001 0]),(10003,.sl yM ((N.fC (n-x.1).toNat x.2.1 x.2.2).1.map ak.enc) 0),(10002,.var [.int .u64 t,.own 10003 0])] })
   (fun x hx=>?_) (0,⟨s,e⟩,[]) ⟨Nat.zero_le _,by show ((0:Nat):Int)<=256; omega,rfl⟩ K q (by simpa using h)
  .exact main
  .obtain ⟨k,i,acc⟩:=x
   obtain ⟨k1,k2,k3⟩:=hx
   simp only at k1 k2 k3 ⊢
   by_cases hl:(k:Int)<n
   .have ef:(n-(k:Int)).toNat=(n-((k+1:Nat):Int)).toNat+1:=by omega
    have w:IntKind.wrap .u64 ((k:Int)+1)=(k:Int)+1:=kC (by omega) (by omega)
    rw [ef]
    cases he:i.err==0 with
    | true =>
     refine .inl ⟨(k+1,(N.dL i).2,acc++[(N.dL i).1]),⟨by simp only [List.length_append,List.length_cons,List.length_nil]; omega,by simp only; omega,by simp only [List.length_append,List.length_cons,List.length_nil]; omega⟩,by simp only; omega,fun K=>?_,fun K=>?_⟩
     .rw [OO]
      have ei:({ s:=i.s,err:=i.err }:eH)=i:=rfl
      simp (disch:=omega) only [evs,he,w,ei,He]
      rw [List.map_append]
      try rfl
     .show K _ { fr:=_,tab:=[(0,.var [.str (cond (i.err==0) (N.fC (n-((k+1:Nat):Int)).toNat (N.dL i).2 (acc++[(N.dL i).1])) (acc,i)).2.s,.int .i64 (cond (i.err==0) (N.fC (n-((k+1:Nat):Int)).toNat (N.dL i).2 (acc++[(N.dL i).1])) (acc,i)).2.err]),_,_,(10003,.sl yM ((cond (i.err==0) (N.fC (n-((k+1:Nat):Int)).toNat (N.dL i).2 (acc++[(N.dL i).1])) (acc,i)).1.map ak.enc) 0),_] }=_
      rw [he]
      try rfl
    | false =>
     refine .inr ⟨.exit 1,{ fr:=[(0,.ptr 0 0 0 0),(2,.ptr 10000 0 0 0),(3,.ptr 10002 0 0 0)],tab:=[(0,.var [.str i.s,.int .i64 i.err]),(10001,.sl yM r1 0),(10000,.var [.int .u64 t1,.own 10001 0]),(10003,.sl yM (acc.map ak.enc) 0),(10002,.var [.int .u64 t,.own 10003 0])] },by simp,fun K=>?_,fun K=>?_⟩
     .rw [OO]
      simp (disch:=omega) only [evs,he]
     .have e0:N.fC ((n-((k+1:Nat):Int)).toNat+1) i acc=(acc,i):=by
       unfold N.fC
       rw [he]; rfl
      rw [e0]
   .have ef:(n-(k:Int)).toNat=0:=by omega
    rw [ef]
    refine .inr ⟨.exit 1,{ fr:=[(0,.ptr 0 0 0 0),(2,.ptr 10000 0 0 0),(3,.ptr 10002 0 0 0)],tab:=[(0,.var [.str i.s,.int .i64 i.err]),(10001,.sl yM r1 0),(10000,.var [.int .u64 t1,.own 10001 0]),(10003,.sl yM (acc.map ak.enc) 0),(10002,.var [.int .u64 t,.own 10003 0])] },by simp,fun K=>?_,fun K=>rfl⟩
    rw [OO]
    simp (disch:=omega) only [evs]
 .cases h
theorem Ya:bH Tryz.prog 77 SL:=by
 refine aK (aT (((((fK.nil _).cons Kr).cons zi).cons xG).cons BQ)) (E:=OM) Tryz.func77 [9] (by kernel_rfl) (one1 afa) fun _ i _=>?_
 refine (amH i).trans ?_
 have hn:=BX (N.aN i 8).2
 show _=some (⟨.agg (bD.enc (N.iw i).1),[IW.enc (N.iw i).2],[]⟩:aH)
 have er:N.iw i=N.rrE (N.aN i 8).1 (N.fC (N.Ef i).1.toNat (N.QM i) []):=rfl
 rw [er]
 have en:N.Ef i=N.aN (N.aN i 8).2 1:=rfl
 unfold N.QM
 rw [en]
 generalize N.aN (N.aN i 8).2 1=b at *
 generalize (N.aN i 8).1=t at *
 have hb:bU b.1 255=true:=dX (by omega)
 simp only [hb,cond_true]
 have fin:∀ z:eH,cond ((N.fC b.1.toNat z []).2.err != 0) (some (⟨.agg [.int .u64 0,.slc yM []],[[.str (N.fC b.1.toNat z []).2.s,.int .i64 (N.fC b.1.toNat z []).2.err]],[]⟩:aH))
   (some (⟨.agg [.int .u64 t,.slc yM ((N.fC b.1.toNat z []).1.map ak.enc)],[[.str (N.fC b.1.toNat z []).2.s,.int .i64 (N.fC b.1.toNat z []).2.err]],[]⟩:aH))=some (⟨.agg (bD.enc (N.rrE t (N.fC b.1.toNat z [])).1),[IW.enc (N.rrE t (N.fC b.1.toNat z [])).2],[]⟩:aH):=fun z=>by
  unfold N.rrE
  cases (N.fC b.1.toNat z []).2.err != 0<;>rfl
 cases b.2.err != 0 with
 | true=>exact fin b.2
 | false =>
  cases aZ 16 b.1 with
  | true=>exact fin (N.bV b.2 6)
  | false =>
   cases b.1 != cond (aZ 16 t) 16 t with
   | true=>exact fin (N.bV b.2 7)
   | false=>exact fin b.2
end Go.Ev

namespace Go.Ev
open Go Go.Proofs
set_option maxRecDepth 100000
-- FOLD
theorem aot:∀ (l:Bytes) (n:Int),0<=n->0<=N.be l n∧N.be l n<(n+1)*((256 ^ l.length:Nat):Int)
 | [],n,h=>by
  show 0<=n∧n<(n+1)*((1:Nat):Int)
  omega
 | c::r,n,h=>by
  have hc:=c.toNat_lt
  have ih:=aot r (n*256+c.toNat) (by omega)
  refine ⟨ih.1,?_⟩
  show N.be r (n*256+c.toNat)<(n+1)*((256 ^ (r.length+1):Nat):Int)
  refine Int.lt_of_lt_of_le ih.2 ?_
  have e:((256 ^ (r.length+1):Nat):Int)=256*((256 ^ r.length:Nat):Int):=by rw [Nat.pow_succ]; omega
  rw [e,<- Int.mul_assoc]
  exact Int.mul_le_mul_of_nonneg_right (by omega) (Int.natCast_nonneg _)
theorem Jv (i:eH):0<=(N.aN i 8).1∧(N.aN i 8).1<18446744073709551616:=by
 have h:=N.Jj i (bif aZ 8 8 then (8:Int) else 8) 8 (Int.le_refl 8)
 unfold N.aN
 have hb:=aot (N.lu i (bif aZ 8 8 then (8:Int) else 8)).1 0 (Int.le_refl 0)
 refine ⟨hb.1,Int.lt_of_lt_of_le hb.2 ?_⟩
 have:256 ^ (N.lu i (bif aZ 8 8 then (8:Int) else 8)).1.length<=256 ^ 8:=Nat.pow_le_pow_right (by decide) h
 have e:(256:Nat) ^ 8=18446744073709551616:=by decide
 omega
theorem OQ (n:Int):0<=IntKind.wrap .u8 n∧IntKind.wrap .u8 n<256:=by
 simp only [IntKind.wrap,IntKind.signed,IntKind.bits]
 simp
 omega
theorem KA (n:Int) : -9223372036854775808<=IntKind.wrap .i64 n∧IntKind.wrap .i64 n<=9223372036854775807:=by
 simp only [IntKind.wrap,IntKind.signed,IntKind.bits]
 simp
 omega
theorem L6 {p:bG} (h1:0<=p.kind∧p.kind<256) (h2 : -9223372036854775808<=p.num∧p.num<=9223372036854775807):N.Ob p=true:=by
 unfold N.Ob
 rw [dX h1.1,dK h1.2,dX h2.1,dX h2.2]; rfl
theorem amI (i:eH):N.Ob (N.one i).1=true:=by
 unfold N.one N.oneOf
 have hk:=OQ (N.aN (N.cO i 16).2 1).1
 generalize IntKind.wrap .u8 (N.aN (N.cO i 16).2 1).1=k at *
 cases k==0 with
 | true=>exact L6 hk (KA _)
 | false =>
  cases k==1 with
  | true=>exact L6 hk ⟨by show (-9223372036854775808:Int)<=0; omega,by show (0:Int)<=9223372036854775807; omega⟩
  | false =>
   cases k==2 with
   | true=>exact L6 hk (KA _)
   | false=>exact L6 hk ⟨by show (-9223372036854775808:Int)<=0; omega,by show (0:Int)<=9223372036854775807; omega⟩
theorem Yb:∀ (k:Nat) (i:eH) (acc:List bG),acc.all N.Ob = true->(N.kP k i acc).1.all N.Ob = true
 | 0,_,_,h=>h
 | k+1,i,acc,h=>by
  unfold N.kP
  cases (N.bad (N.one i).1 acc (N.one i).2).err != 0 with
  | true=>rfl
  | false=>exact Yb k _ _ (by rw [List.all_append,h,List.all_cons,amI]; rfl)
theorem QN (i:eH):N.iJ (N.dL i).1=true:=by
 unfold N.dL
 dsimp only
 have h1:=Jv i
 have h2:=Yb (IntKind.wrap .i64 (N.aN (N.cO (N.cO (N.aN i 8).2 16).2 64).2 1).1).toNat (cond (aZ 8 (IntKind.wrap .i64 (N.aN (N.cO (N.cO (N.aN i 8).2 16).2 64).2 1).1)) (N.bV (N.aN (N.cO (N.cO (N.aN i 8).2 16).2 64).2 1).2 6) (N.aN (N.cO (N.cO (N.aN i 8).2 16).2 64).2 1).2) [] rfl
 have h2:(N.kQ (N.cO (N.cO (N.aN i 8).2 16).2 64).2).1.all N.Ob = true:=h2
 generalize N.kQ (N.cO (N.cO (N.aN i 8).2 16).2 64).2=d at *
 have h3:=Jv (N.cO d.2 256).2
 have h4:=OQ (N.aN (N.aN (N.cO d.2 256).2 8).2 1).1
 unfold N.DR
 generalize (cond _ _ _:eH)=z
 cases z.err != 0 with
 | true=>rfl
 | false =>
  unfold N.iJ N.vC
  simp only [cond_false]
  rw [dX h1.1,dK h1.2,dX h3.1,dK h3.2,dX h4.1,dK h4.2,h2]; rfl
theorem CO (i:eH):dA (N.dL i).1=true:=dN (Nat.le_trans (QK i) (by decide))
theorem aiF {l:List ay} (h:l.all N.iJ=true):l.all N.vC=true:=by
 rw [List.all_eq_true] at h ⊢
 exact fun m hm=>(aP (h m hm)).1
theorem aa4 {x:aC} (h1:Cm x=true) (h2:x.kept.all N.iJ=true):OI x=true:=by
 unfold OI
 rw [h1,h2,aiF h2]; rfl
theorem aa5 (x:aC):N.xK x x=true:=by
 unfold N.xK
 rw [beq_self_eq_true,Kw]; rfl
theorem aa6:∀ (k:Nat) (i:eH) (acc:List ay),i.err ≠ 0->(N.fC k i acc).2.err ≠ 0
 | 0,_,_,h=>h
 | k+1,i,acc,h=>by
  unfold N.fC
  rw [AO h]; exact h
theorem aiG:∀ (k:Nat) (i:eH) (acc:List ay),(N.fC k i acc).2.err=0->(N.fC k i acc).1.length=acc.length+k
 | 0,_,_,_=>rfl
 | k+1,i,acc,h=>by
  by_cases he:i.err=0
  .have e:N.fC (k+1) i acc=N.fC k (N.dL i).2 (acc++[(N.dL i).1]):=by
    show cond (i.err==0) _ _=_
    rw [he]; rfl
   rw [e] at h ⊢
   rw [aiG k _ _ h]
   simp; omega
  .exact absurd h (aa6 (k+1) i acc he)
theorem aiH {p:ay->Bool} (hp:∀ i,p (N.dL i).1=true):∀ (k:Nat) (i:eH) (acc:List ay),acc.all p=true->(N.fC k i acc).1.all p=true
 | 0,_,_,h=>h
 | k+1,i,acc,h=>by
  unfold N.fC
  cases i.err==0 with
  | true=>exact aiH hp k _ _ (by rw [List.all_append,h,List.all_cons,hp]; rfl)
  | false=>exact h
theorem amJ {l:List ay} (h:l.all N.fH=true):l.all N.iJ=true:=by
 rw [List.all_eq_true] at h ⊢
 exact fun m hm=>(aP (h m hm)).1
theorem aiI {m:ay} (h:N.iJ m=true) (hz:N.aV m=0):N.fH m=true:=by
 unfold N.fH
 rw [h,hz]; rfl
def arB (x:aC) (i:Nat):Prop:=(∃ g,RInv x g∧g.length<=i)∧x.kept.all N.fH=true
theorem arB.fine {x:aC} {i:Nat} (h:arB x i):OI x=true:=by
 obtain ⟨⟨g,hg,_⟩,hc⟩:=h
 exact aa4 hg.full (amJ hc)
theorem apT {n:Int} (h:AY ((rM .u64).enc n)=true):cond (bU 0 n) (bU n 18446744073709551615) false=true:=by
 have h:cond (Jg (.int .u64 n)) true false=true:=h
 obtain ⟨a,b⟩:=OG (aP h).1
 have e1:IntKind.u64.min=0:=rfl
 have e2:IntKind.u64.max=18446744073709551615:=rfl
 rw [dX (by omega),dX (by omega)]; rfl
end Go.Ev

namespace Go.Ev
open Go
set_option maxRecDepth 100000
structure aG where
 aQ:ay
 eF:Bool
 again:Bool
theorem jo {r:List V} {n i:Nat} (h:i<n):(r.take n).getD i .undef=r.getD i .undef:=by
 rw [List.getD_eq_getElem?_getD,List.getD_eq_getElem?_getD,List.getElem?_take_of_lt h]
theorem lH {r:List V} (n i:Nat):(r.drop n).getD i .undef=r.getD (n+i) .undef:=by
 rw [List.getD_eq_getElem?_getD,List.getD_eq_getElem?_getD,List.getElem?_drop]
def apU (r:List V):aG:=⟨aav r,(r.getD 7 .undef).toBool,(r.getD 8 .undef).toBool⟩
def aj:ah aG:=((ak.and (ahs.and ahs)).iso (fun p=>(⟨p.1,p.2.1,p.2.2⟩:aG)) (fun o=>(o.aQ,o.eF,o.again)) (fun _=>rfl) fun _=>rfl).spelt
 yI
 (fun x=>[.int .u64 x.aQ.id,.str x.aQ.bT,.str x.aQ.key,.slc yP (x.aQ.head.map fun p=>[V.str p.key,V.int .u8 p.kind,V.int .i64 p.num,V.str p.text]),.str x.aQ.body,.int .u64 x.aQ.due,.int .u8 x.aQ.hops,.bool x.eF,.bool x.again])
 apU rfl (fun _=>rfl) fun r=>by
  show (⟨aav (r.take 7),(((r.drop 7).take 1).getD 0 .undef).toBool,(((r.drop 7).drop 1).getD 0 .undef).toBool⟩:aG)=apU r
  unfold apU aav
  rw [jo (by decide),jo (by decide),jo (by decide),jo (by decide),jo (by decide),jo (by decide),jo (by decide),jo (by decide),lH,lH,lH]
def fA:aG:=⟨gJ,false,false⟩
def gu:ah (List aG):=uZ aj
namespace N
def oZ (l:List aG) (m:ay):Int :=
 cond (aV m != 0) (aV m) (cond (cond (aZ 0 l.length) (bU m.id (l.getD (l.length-1) fA).aQ.id) false) 13 (cond (bU 64 l.length) 12 0))
def l7 (l:List aG) (x:aG):List aG × Int:=cond (oZ l x.aQ != 0) (l,oZ l x.aQ) (l++[x],0)
def yS:List aG->List aG->List aG × Int
 | acc,[]=>(acc,0)
 | acc,x::r=>cond ((l7 acc x).2 != 0) ([],(l7 acc x).2) (yS (l7 acc x).1 r)
def ix (p:aG->Bool):List aG->Int->Int
 | [],_=>-1
 | x::r,i=>cond (p x) i (ix p r (i+1))
def isReady (x:aG):Bool:=cond x.eF false true
def kX (tick:Int) (x:aG):Bool:=cond x.eF false (cond (x.aQ.due != 0) (bU x.aQ.due tick) false)
def isId (id:Int) (x:aG):Bool:=x.aQ.id==id
def vF (x:aG):aG:=⟨x.aQ,true,x.again⟩
def qX (x:aG):aG:=⟨x.aQ,false,true⟩
def setAt (f:aG->aG) (l:List aG) (k:Nat):List aG:=l.set k (f (l.getD k fA))
def o7 (l:List aG):List aG × aG × Bool:=cond (aZ (ix isReady l 0) 0) (l,fA,false) (setAt vF l (ix isReady l 0).toNat,vF (l.getD (ix isReady l 0).toNat fA),true)
def uO (l:List aG) (id:Int):List aG × Int:=cond (aZ (ix (isId id) l 0) 0) (l,10) (cond (l.getD (ix (isId id) l 0).toNat fA).eF (setAt qX l (ix (isId id) l 0).toNat,0) (l,13))
def cutAt (l:List aG) (k:Nat):List aG:=l.take k++l.drop (k+1)
def eP (l:List aG) (id:Int):List aG × aG × Int:=cond (aZ (ix (isId id) l 0) 0) (l,fA,10) (cutAt l (ix (isId id) l 0).toNat,l.getD (ix (isId id) l 0).toNat fA,0)
def KC (x:aG):aG:=cond x.eF (qX x) x
def mX (l:List aG):List aG:=l.map KC
def lS (l:List aG) (k:Int):ay × Bool:=cond (aZ k 0) (gJ,false) ((l.getD k.toNat fA).aQ,true)
def fF (l:List aG):ay × Bool:=lS l (ix isReady l 0)
def wH (l:List aG) (tick:Int):ay × Bool:=lS l (ix (kX tick) l 0)
def fM:List aG->Int
 | []=>0
 | x::r=>bJ x.aQ+fM r
def sG (a b:aG):Bool:=cond (iP a.aQ b.aQ) (cond (a.eF==b.eF) (a.again==b.again) false) false
def nJ:List aG->List aG->Bool
 | [],[]=>true
 | a::x,b::y=>cond (sG a b) (nJ x y) false
 | _,_=>false
end N
def dR (x:aG):Bool:=dA x.aQ
def ig (l:List aG):Bool:=cond (Nat.ble l.length 1000) (l.all dR) false
end Go.Ev

namespace Go.Ev
open Go Go.Proofs
set_option maxRecDepth 100000
-- FOLD
noncomputable def aiJ:Env:={ env Tryz.prog [] [] [] [175] with tr:=true }
theorem amK (n:Int):bM aiJ 175 ((aO (ac3 aj) (aW (cu .i64))).enc ((),n)) ([]) some =
 cond (aZ n 0) none (cond (aZ 0 (IntKind.wrap .i64 (n-IntKind.wrap .i64 ((0 : Int)-0)))) (cond (decide (0<=IntKind.wrap .i64 (n-IntKind.wrap .i64 ((0 : Int)-0))∧IntKind.wrap .i64 (n-IntKind.wrap .i64 ((0 : Int)-0))*(↑(104:Nat):Int)<=140737488355328∧IntKind.wrap .i64 (n-IntKind.wrap .i64 ((0 : Int)-0))<=140737488355328)) (some {v:=.own 1000 0,bx:=[],nb:=[Box.sl yI [] 0]:aH}) none) (some {v:=.own 1000 0,bx:=[],nb:=[Box.sl yI [] 0]:aH})):=by kernel_rfl
theorem aiK:bH Tryz.prog 175 (SA aj):=by
 refine aK (E:=aiJ) (aT (fK.nil _)) Tryz.func175 [] (by kernel_rfl) none0 fun a _ h=>?_
 obtain ⟨⟨⟩,n⟩:=a
 obtain ⟨h1,h2⟩:=aP h
 have h1:0<=n:=bQ h1
 have h2:n<=1000000:=bQ h2
 refine (amK n).trans ?_
 have w0:IntKind.wrap .i64 ((0:Int)-0)=0:=rfl
 have w:IntKind.wrap .i64 (n-0)=n:=by rw [Int.sub_zero]; exact dY (by omega) (by omega)
 rw [w0,w]
 have d:decide (0<=n∧n*((104:Nat):Int)<=140737488355328∧n<=140737488355328)=true:=decide_eq_true (by omega)
 rw [d,iG h1]
 cases aZ 0 n<;>rfl
def Yc:fP:={ fr:=[(0,.slc [.slc yI]),(3,.int .i64),(9,.slc [.slc yI]),(10,.int .i64),(11,.int .i64)],tab:=[] }
def SN:List Leaf->(Ex->St->Option R)->Option R
 | [.r r0,.i i3,.r r9,.i i10,.i i11],K=>cond (i10==r9.length) (cond (i11==0) (cond (i3==0) (cond (Nat.ble (gI r9).length wV) (cond (Nat.ble r9.length wV)
   (K (.exit 0) { fr:=[(0,.slc [.slc yI] r0),(3,.int .i64 (gI r9).length)],tab:=[] }) none) none) none) none) none
 | _,_=>none
def Vu:fP:={ fr:=[(6,.own 10000),(25,.slc [.slc yI]),(26,.int .i64),(27,.int .i64)],tab:=[(10000,.sl yI)] }
def OT:List Leaf->(Ex->St->Option R)->Option R
 | [.r r25,.i i26,.i i27,.r oW],K=>cond (i26==r25.length) (cond (i27==0) (cond (Nat.beq oW.length 0) (cond (Nat.ble (gI r25).length wV) (cond (Nat.ble r25.length wV)
   (K (.exit 2) { fr:=[(6,.own 10000 0)],tab:=[(10000,.sl yI (gI r25) 0)] }) none) none) none) none) none
 | _,_=>none
noncomputable def zn:Env:=env Tryz.prog [(175,SA aj)] [(11,dJ Vu OT),(3,dJ Yc SN)] [(3,[(0,[0,3,9,10,11]),(1,[0,3]),(1000,[2])]),(11,[(0,[6,25,26,27]),(3,[6]),(1000,[2])])]
theorem afb (l:List (List aG)):bM zn 126 ((aW (jY (uZ aj))).enc l) ([]) some =
 cond ((↑(List.length (List.map (ah.enc (uZ aj)) l)):Int)==(↑(List.length (List.map (ah.enc (uZ aj)) l)):Int)) (cond (Nat.ble (List.length (gI (List.map (ah.enc (uZ aj)) l))) 1000000) (cond (Nat.ble (List.length (List.map (ah.enc (uZ aj)) l)) 1000000) (cond (bU (↑(List.length (gI (List.map (ah.enc (uZ aj)) l))):Int) 1000000) (cond ((↑(List.length (List.map (ah.enc (uZ aj)) l)):Int)==(↑(List.length (List.map (ah.enc (uZ aj)) l)):Int)) (cond (Nat.ble (List.length (gI (List.map (ah.enc (uZ aj)) l))) 1000000) (cond (Nat.ble (List.length (List.map (ah.enc (uZ aj)) l)) 1000000) (some {v:=.slc yI (gI (List.map (ah.enc (uZ aj)) l)),bx:=[]:aH}) none) none) none) none) none) none) none:=by kernel_rfl
theorem KD (r0:List (List V)) (i3:Int) (r9:List (List V)) (i10:Int) (i11:Int) (K:Ex->St->Option R):bI zn 126 3 { fr:=[(0,.slc [.slc yI] r0),(3,.int .i64 i3),(9,.slc [.slc yI] r9),(10,.int .i64 i10),(11,.int .i64 i11)],tab:=[] } K =
 cond (aZ i11 i10) (cond (decide (0<=i11∧i11<(↑(List.length r9):Int))) (cond (aZ (IntKind.wrap .i64 (i3+(↑(List.length (V.toRows (List.getD (List.getD r9 (Int.toNat i11) []) 0 V.undef))):Int))) 0) none (K .normal {fr:=[(0,.slc [.slc yI] r0),(3,.int .i64 (IntKind.wrap .i64 (i3+(↑(List.length (V.toRows (List.getD (List.getD r9 (Int.toNat i11) []) 0 V.undef))):Int)))),(9,.slc [.slc yI] r9),(10,.int .i64 i10),(11,.int .i64 (IntKind.wrap .i64 (i11+1)))],tab:=[]:St})) none) (K (.exit 0) {fr:=[(0,.slc [.slc yI] r0),(3,.int .i64 i3)],tab:=[]:St}):=by kernel_rfl
theorem Ho (r25:List (List V)) (i26:Int) (i27:Int) (oW:List (List V)) (K:Ex->St->Option R):bI zn 126 11 { fr:=[(6,.own 10000 0),(25,.slc [.slc yI] r25),(26,.int .i64 i26),(27,.int .i64 i27)],tab:=[(10000,.sl yI oW 0)] } K =
 cond (aZ i27 i26) (cond (decide (0<=i27∧i27<(↑(List.length r25):Int))) (cond (decide ((List.length oW+List.length (V.toRows (List.getD (List.getD r25 (Int.toNat i27) []) 0 V.undef)))*104<=140737488355328)) (K .normal {fr:=[(6,.own 10000 0),(25,.slc [.slc yI] r25),(26,.int .i64 i26),(27,.int .i64 (IntKind.wrap .i64 (i27+1)))],tab:=[(10000,.sl yI (oW++V.toRows (List.getD (List.getD r25 (Int.toNat i27) []) 0 V.undef)) 0)]:St}) none) none) (K (.exit 2) {fr:=[(6,.own 10000 0)],tab:=[(10000,.sl yI oW 0)]:St}):=by kernel_rfl
theorem OU:bH Tryz.prog 126 (xJ aj):=by
 refine aK (aT ((fK.nil _).cons aiK)) (E:=zn) Tryz.func126 [3,11] (by kernel_rfl) (Lp (bf rfl fun l K q h=>?_) (bf rfl fun l K q h=>?_)) fun a _ h=>?_
 .unfold SN at h
  split at h
  .rename_i r0 i3 r i10 i11
   replace h:=Ed h;obtain ⟨h1,h2,h3,h4,h5,h⟩:=h
   have e1:=aY h1
   have e2:=aY h2
   have e3:=aY h3
   subst e1 e2 e3
   have h4:(gI r).length<=1000000:=aX h4
   have h5:r.length<=1000000:=aX h5
   refine dh (E:=zn) (f:=126) (id:=3) (A:=Int) r (fun n i=>{ fr:=[(0,.slc [.slc yI] r0),(3,.int .i64 n),(9,.slc [.slc yI] r),(10,.int .i64 r.length),(11,.int .i64 i)],tab:=[] })
    (fun n i=>0<=n∧n+((gI (r.drop i)).length:Int)<=1000000)
    (fun n l K=>K (.exit 0) { fr:=[(0,.slc [.slc yI] r0),(3,.int .i64 (n+((gI l).length:Int)))],tab:=[] }) (fun n i ⟨hn,hn2⟩ hi=>?_) (fun n _=>?_) 0 0 (Int.le_refl _) (by omega) ⟨Int.le_refl _,by simp; omega⟩ K q (by simpa using h)
   .rw [jP hi,kK,List.length_append] at hn2
    have w:=dY (n:=n+((V.toRows (List.getD (r.getD i []) 0 .undef)).length:Int)) (by omega) (by omega)
    have w2:=dY (n:=(i:Int)+1) (by omega) (by omega)
    refine .inl ⟨n+((V.toRows (List.getD (r.getD i []) 0 .undef)).length:Int),⟨by omega,by omega⟩,fun K=>?_,fun K=>?_⟩
    .rw [KD,dK (by omega),decide_eq_true (by omega),Int.toNat_natCast,w,w2,iG (by omega)]
     try rfl
    .show K _ _=K _ _
     rw [kK,List.length_append,Int.natCast_add,Int.add_assoc]
   .refine ⟨.exit 0,{ fr:=[(0,.slc [.slc yI] r0),(3,.int .i64 n)],tab:=[] },by simp,fun K=>?_,fun K=>?_⟩
    .rw [KD,iG (Int.le_refl _)]
     try rfl
    .show K _ _=K _ _
     rw [show ((gI []).length:Int)=0 from rfl,Int.add_zero]
  .cases h
 .unfold OT at h
  split at h
  .rename_i r i26 i27 acc
   replace h:=Ed h;obtain ⟨h1,h2,h3,h4,h5,h⟩:=h
   have e1:=aY h1
   have e2:=aY h2
   subst e1 e2
   have h3:acc.length=0:=Nat.eq_of_beq_eq_true h3
   obtain rfl:acc=[]:=List.length_eq_zero_iff.1 h3
   have h4:(gI r).length<=1000000:=aX h4
   have h5:r.length<=1000000:=aX h5
   refine dh (E:=zn) (f:=126) (id:=11) (A:=List (List V)) r (fun n i=>{ fr:=[(6,.own 10000 0),(25,.slc [.slc yI] r),(26,.int .i64 r.length),(27,.int .i64 i)],tab:=[(10000,.sl yI n 0)] })
    (fun n i=>n.length+(gI (r.drop i)).length<=1000000)
    (fun n l K=>K (.exit 2) { fr:=[(6,.own 10000 0)],tab:=[(10000,.sl yI (n++gI l) 0)] }) (fun n i hn hi=>?_) (fun n _=>?_) [] 0 (Int.le_refl _) (by omega) (by simp; omega) K q (by simpa using h)
   .rw [jP hi,kK,List.length_append] at hn
    have w2:=dY (n:=(i:Int)+1) (by omega) (by omega)
    refine .inl ⟨n++V.toRows (List.getD (r.getD i []) 0 .undef),by rw [List.length_append]; omega,fun K=>?_,fun K=>?_⟩
    .rw [Ho,dK (by omega),decide_eq_true (by omega),Int.toNat_natCast,w2]
     rw [decide_eq_true (by omega)]
     try rfl
    .show K _ _=K _ _
     rw [kK,List.append_assoc]
   .refine ⟨.exit 2,{ fr:=[(6,.own 10000 0)],tab:=[(10000,.sl yI n 0)] },by simp,fun K=>?_,fun K=>?_⟩
    .rw [Ho,iG (Int.le_refl _)]
     try rfl
    .show K _ _=K _ _
     rw [show gI []=[] from rfl,List.append_nil]
  .cases h
 .obtain ⟨h1,h2⟩:=aP h
  have h1:a.length<=1000:=aX h1
  have h2:vg a<=100000:=aX h2
  refine (afb a).trans ?_
  have e:(gI (a.map (uZ aj).enc)).length=vg a:=by rw [tC,List.length_map,G8]
  rw [e,List.length_map,dN (show vg a<=1000000 by omega),dN (show a.length<=1000000 by omega),dX (by omega),tC]
  rw [show (((a.length:Int))==(a.length:Int))=true from beq_self_eq_true _]
  try rfl
end Go.Ev

namespace Go.Ev
open Go
set_option maxRecDepth 100000
def Sorted (l:List aG):Prop:=l.Pairwise fun a b=>a.aQ.id<b.aQ.id
def N.rRc (l:List aG) (m:ay):Int :=
 cond (aV m != 0) (aV m) (cond (l.any fun y=>bU m.id y.aQ.id) 13 (cond (bU 64 l.length) 12 0))
def N.rU (l:List aG) (x:aG):List aG × Int:=cond (N.rRc l x.aQ != 0) (l,N.rRc l x.aQ) (l++[x],0)
theorem ac7 {l:List aG} (h:l ≠ []):l.getD (l.length-1) fA=l.getLast h:=by
 have hl:l.length ≠ 0:=fun e=>h (List.length_eq_zero_iff.1 e)
 rw [List.getD_eq_getElem?_getD,List.getElem?_eq_getElem (by omega),List.getLast_eq_getElem]; rfl
theorem aiL {l:List aG} (hs:Sorted l) (i:Int):(l.any fun y=>bU i y.aQ.id)=cond (aZ 0 l.length) (bU i (l.getD (l.length-1) fA).aQ.id) false:=by
 by_cases h:l=[]
 .subst h; rfl
 .have hl:0<l.length:=List.length_pos_iff.2 h
  rw [dK (by omega),cond_true,ac7 h]
  cases hc:bU i (l.getLast h).aQ.id with
  | true=>exact List.any_eq_true.2 ⟨_,List.getLast_mem h,hc⟩
  | false =>
   rw [Bool.eq_false_iff]
   intro ha
   obtain ⟨y,hy,hyi⟩:=List.any_eq_true.1 ha
   have h1:=lW hc
   have h2:=bQ hyi
   have:y.aQ.id<=(l.getLast h).aQ.id:=by
    have e:=List.dropLast_concat_getLast h
    rw [<- e] at hy
    have hs' : Sorted (l.dropLast++[l.getLast h]):=by rw [e]; exact hs
    rcases List.mem_append.1 hy with hy | hy
    .exact Int.le_of_lt ((List.pairwise_append.1 hs').2.2 y hy _ (List.mem_singleton.2 rfl))
    .rw [List.mem_singleton.1 hy]; exact Int.le_refl _
   omega
theorem apV {l:List aG} (hs:Sorted l) (m:ay):N.rRc l m=N.oZ l m:=by
 unfold N.rRc N.oZ
 rw [aiL hs]
theorem amL {l:List aG} (hs:Sorted l) (x:aG):N.rU l x=N.l7 l x:=by
 unfold N.rU N.l7
 rw [apV hs]
structure Eh (l:List aG):Prop where
 sorted:Sorted l
 few:l.length<=64
 small:l.all dR=true
theorem ac8:Eh []:=⟨List.Pairwise.nil,by decide,rfl⟩
theorem Yd {l:List aG} {m:ay} (h:N.oZ l m=0):N.aV m=0∧(∀ h:l ≠ [],(l.getLast h).aQ.id<m.id)∧l.length<64:=by
 unfold N.oZ at h
 cases hc:N.aV m != 0 with
 | true=>rw [hc] at h; have h:N.aV m=0:=h; rw [h] at hc; cases hc
 | false =>
  rw [hc] at h
  refine ⟨by simpa using hc,?_,?_⟩
  .intro hn
   have hl:0<l.length:=List.length_pos_iff.2 hn
   rw [dK (by omega),ac7 hn] at h
   cases hd:bU m.id (l.getLast hn).aQ.id with
   | true=>rw [hd] at h; cases h
   | false=>exact lW hd
  .cases hd:cond (aZ 0 l.length) (bU m.id (l.getD (l.length-1) fA).aQ.id) false with
   | true=>rw [hd] at h; cases h
   | false =>
    rw [hd] at h
    cases he:bU 64 l.length with
    | true=>rw [he] at h; cases h
    | false=>have:=lW he; omega
theorem Ye {l:List aG} (hs:Sorted l) {x:aG} (h:∀ h:l ≠ [],(l.getLast h).aQ.id<x.aQ.id):Sorted (l++[x]):=by
 refine List.pairwise_append.2 ⟨hs,List.pairwise_singleton _ _,fun a ha b hb=>?_⟩
 rw [List.mem_singleton.1 hb]
 have hn:l ≠ []:=fun e=>by rw [e] at ha; cases ha
 have h1:=h hn
 have e:=List.dropLast_concat_getLast hn
 rw [<- e] at ha
 have hs' : Sorted (l.dropLast++[l.getLast hn]):=by rw [e]; exact hs
 rcases List.mem_append.1 ha with ha | ha
 .exact Int.lt_trans ((List.pairwise_append.1 hs').2.2 a ha _ (List.mem_singleton.2 rfl)) h1
 .rw [List.mem_singleton.1 ha]; exact h1
theorem Yf {l:List aG} (h:Eh l) {x:aG} (hx:dR x=true):Eh (N.l7 l x).1:=by
 unfold N.l7
 cases hc:N.oZ l x.aQ != 0 with
 | true=>exact h
 | false =>
  have hz:N.oZ l x.aQ=0:=by simpa using hc
  obtain ⟨_,h2,h3⟩:=Yd hz
  refine ⟨Ye h.sorted h2,by simp; omega,?_⟩
  show (l++[x]).all dR=true
  rw [List.all_append,h.small,List.all_cons,hx]; rfl
theorem aiM:∀ (r acc:List aG),(N.yS acc r).2=0->(N.yS acc r).1=acc++r
 | [],acc,_=>(List.append_nil _).symm
 | x::r,acc,h=>by
  unfold N.yS at h ⊢
  cases hc:(N.l7 acc x).2 != 0 with
  | true=>rw [hc] at h; have h:(N.l7 acc x).2=0:=h; rw [h] at hc; cases hc
  | false =>
   rw [hc] at h
   have h0:(N.l7 acc x).2=0:=by simpa using hc
   have e:(N.l7 acc x).1=acc++[x]:=by
    unfold N.l7 at h0 ⊢
    cases hd:N.oZ acc x.aQ != 0 with
    | true=>rw [hd] at h0; have h0:N.oZ acc x.aQ=0:=h0; rw [h0] at hd; cases hd
    | false=>rfl
   have:=aiM r _ h
   rw [cond_false,this,e,List.append_assoc]; rfl
theorem ac9:∀ (r acc:List aG),(N.yS acc r).2 ≠ 0->(N.yS acc r).1=[]
 | [],_,h=>absurd rfl h
 | x::r,acc,h=>by
  unfold N.yS at h ⊢
  cases hc:(N.l7 acc x).2 != 0 with
  | true=>rfl
  | false=>rw [hc] at h; exact ac9 r _ h
theorem OV:∀ (r acc:List aG),Eh acc->r.all dR=true->Eh (N.yS acc r).1
 | [],_,h,_=>h
 | x::r,acc,h,hs=>by
  rw [List.all_cons,Bool.and_eq_true] at hs
  unfold N.yS
  cases (N.l7 acc x).2 != 0 with
  | true=>exact ac8
  | false=>exact OV r _ (Yf h hs.1) hs.2
theorem nS (p:aG->Bool):∀ (l:List aG) (i:Int),0<=i->(N.ix p l i = -1∧∀ x∈l,p x=false)∨∃ k:Nat,N.ix p l i=i+k∧k<l.length∧p (l.getD k fA)=true∧∀ j,j<k->p (l.getD j fA)=false
 | [],i,_=>.inl ⟨rfl,fun x hx=>by cases hx⟩
 | x::r,i,hi=>by
  unfold N.ix
  cases hc:p x with
  | true=>exact .inr ⟨0,by simp,by simp,hc,fun j hj=>by omega⟩
  | false =>
   rcases nS p r (i+1) (by omega) with ⟨h1,h2⟩ | ⟨k,h1,h2,h3,h4⟩
   .exact .inl ⟨h1,fun y hy=>by
     rcases List.mem_cons.1 hy with rfl | hy
     .exact hc
     .exact h2 y hy⟩
   .refine .inr ⟨k+1,by rw [cond_false,h1]; omega,by simp; omega,by simpa using h3,fun j hj=>?_⟩
    cases j with
    | zero=>exact hc
    | succ j=>simpa using h4 j (by omega)
theorem Jw (f:aG->aG) (l:List aG) (k:Nat):(N.setAt f l k).length=l.length:=List.length_set
theorem ada {f:aG->aG} (hf:∀ x,(f x).aQ=x.aQ) (l:List aG) (k:Nat) (hk:k<l.length):(N.setAt f l k).map aG.aQ=l.map aG.aQ:=by
 unfold N.setAt
 rw [List.map_set,hf]
 refine List.ext_getElem (by simp) fun i h1 h2=>?_
 rw [List.getElem_set]
 split
 .rename_i e
  subst e
  rw [List.getD_eq_getElem?_getD,List.getElem?_eq_getElem hk]
  simp
 .rfl
theorem Ls {l l' : List aG} (h:l'.map aG.aQ=l.map aG.aQ) (hs:Sorted l):Sorted l':=by
 have e:∀ l:List aG,Sorted l↔(l.map aG.aQ).Pairwise fun a b=>a.id<b.id:=fun l=>by
  unfold Sorted; rw [List.pairwise_map]
 rw [e,h,<- e]; exact hs
theorem OW {l l' : List aG} (h:l'.map aG.aQ=l.map aG.aQ) (hs:l.all dR=true):l'.all dR=true:=by
 have e:∀ l:List aG,l.all dR=(l.map aG.aQ).all dA:=fun l=>by rw [List.all_map]; rfl
 rw [e,h,<- e]; exact hs
theorem QO {l l' : List aG} (h:l'.map aG.aQ=l.map aG.aQ) (hs:Eh l):Eh l':=by
 have hl:l'.length=l.length:=by have:=congrArg List.length h; simpa using this
 exact ⟨Ls h hs.sorted,by have:=hs.few; omega,OW h hs.small⟩
theorem adb (l:List aG) (k:Nat):(N.cutAt l k).Sublist l:=by
 unfold N.cutAt
 have:(l.take k++l.drop (k+1)).Sublist (l.take k++l.drop k):=List.Sublist.append (List.Sublist.refl _) (by
  rw [<- List.drop_drop]
  exact List.drop_sublist 1 (l.drop k))
 rwa [List.take_append_drop] at this
theorem aiN {l l' : List aG} (h:l'.Sublist l) (hs:Eh l):Eh l' :=
 ⟨List.Pairwise.sublist h hs.sorted,Nat.le_trans h.length_le hs.few,by
  rw [List.all_eq_true]
  exact fun x hx=>List.all_eq_true.1 hs.small x (h.subset hx)⟩
theorem afc (x:aG):(N.KC x).aQ=x.aQ:=by
 unfold N.KC; cases x.eF<;>rfl
theorem Fj (x:aG):N.sG x x=true:=by
 unfold N.sG
 rw [uj,beq_self_eq_true,beq_self_eq_true]; rfl
theorem OX:∀ l:List aG,N.nJ l l=true
 | []=>rfl
 | x::r=>by
  unfold N.nJ
  rw [Fj,OX r]; rfl
theorem Jy:∀ (a b:List aG),a.length ≠ b.length->N.nJ a b=false
 | [],[],h=>absurd rfl h
 | [],_::_,_=>rfl
 | _::_,[],_=>rfl
 | a::x,b::y,h=>by
  unfold N.nJ
  rw [Jy x y (fun e=>h (by simp [e]))]
  cases N.sG a b<;>rfl
theorem OY (a b:aG) (x y:List aG):N.nJ (a::x) (b::y)=cond (N.sG a b) (N.nJ x y) false:=rfl
end Go.Ev

namespace Go.Ev
open Go Go.Proofs
set_option maxRecDepth 100000
-- FOLD
def amM (f:FuncId):UY Unit where
 ok:=fun | [[.fn g [] []]]=>Nat.beq f g | _=>false
 enc _:=[[.fn f [] []]]
 dec _:=()
 len bx h:=by
  split at h
  .rfl
  .cases h
 law bx h j cs cs' hj hj':=by
  split at h
  .rename_i g
   have:=Nat.eq_of_beq_eq_true h; subst this
   have e:cs' = cs:=by rw [hj] at hj'; exact (Option.some.inj hj').symm
   subst e
   exact ⟨rfl,fun w J ρ k y hk hy val hv hall=>hy⟩
  .cases h
theorem iU (r:List V):(⟨⟨(r.getD 0 .undef).toInt,(r.getD 1 .undef).toStr,(r.getD 2 .undef).toStr,(r.getD 3 .undef).toRows.map fun r=>({ key:=V.toStr (List.getD r 0 .undef),kind:=V.toInt (List.getD r 1 .undef),num:=V.toInt (List.getD r 2 .undef),text:=V.toStr (List.getD r 3 .undef) }:bG),(r.getD 4 .undef).toStr,(r.getD 5 .undef).toInt,(r.getD 6 .undef).toInt⟩,(r.getD 7 .undef).toBool,(r.getD 8 .undef).toBool⟩:aG)=aj.dec r:=rfl
theorem o8 (x:aG):[V.int .u64 x.aQ.id,.str x.aQ.bT,.str x.aQ.key,.slc yP (x.aQ.head.map fun p=>[V.str p.key,V.int .u8 p.kind,V.int .i64 p.num,V.str p.text]),.str x.aQ.body,.int .u64 x.aQ.due,.int .u8 x.aQ.hops,.bool x.eF,.bool x.again]=aj.enc x:=rfl
theorem OZ (x:aG):(⟨x.aQ,x.eF,x.again⟩:aG)=x:=rfl
theorem SQ (r:List V):ak.dec r=(aj.dec r).aQ:=rfl
def Hq:Den:=den (aW (bg aj)) dw (oV (bg aj)) (fun x _=>dR x) fun x _=>(x,())
def ade:Den:=den (aO (bg gu) (aW (bg ak))) dw (oV (cu .i64)) (fun a _=>Nat.ble a.1.length 1000) fun a _=>(N.oZ a.1 a.2,())
def aiO:Den:=den (aO (bg gu) (aW (bg aj))) dw (nP (aO (bg gu) (aW (cu .i64)))) (fun a _=>cond (Nat.ble a.1.length 1000) (dR a.2) false) fun a _=>(N.l7 a.1 a.2,())
def aiP:Den:=den (aO (bg gu) (aW (bg ak))) dw (nP (aO (bg gu) (aW (cu .i64)))) (fun a _=>cond (Nat.ble a.1.length 1000) (dA a.2) false) fun a _=>(N.l7 a.1 ⟨a.2,false,false⟩,())
def Jz (g:aG->aG):Den:=den (aW (nY 0)) (nC aj) (nP alX) (fun _ _=>true) fun _ x=>((),g x)
def aou:Den:=den (aW (bg ak)) dw (oV iF) (fun _ _=>true) fun _ _=>(true,())
def adf (f:FuncId):Den:=den (aO (bg aj) (aW (nY 0))) (amM f) (oV iF) (fun _ _=>true) fun a _=>(N.isReady a.1,())
def arC:Den:=den (aO (bg aj) (aW (nY 0))) (nC (rM .u64)) (oV iF) (fun _ _=>true) fun a id=>(N.isId id a.1,id)
def arD (f g:FuncId):Den:=den (aO (jY aj) (aW (vFn f 0))) (amM g) (oV (cu .i64)) (fun a _=>Nat.ble a.1.length 1000) fun a _=>(N.ix N.isReady a.1 0,())
def arE (f:FuncId):Den:=den (aO (jY aj) (aW (vFn f 0))) (nC (rM .u64)) (oV (cu .i64)) (fun a _=>Nat.ble a.1.length 1000) fun a id=>(N.ix (N.isId id) a.1 0,id)
def Vw (g:FuncId):Den:=den (aO (bg gu) (aW (Lr g))) dw (oV (cu .i64)) (fun a _=>Nat.ble a.1.length 1000) fun a _=>(N.ix N.isReady a.1 0,())
def apW:Den:=den (aO (bg gu) (aW (cu .u64))) dw (oV (cu .i64)) (fun a _=>Nat.ble a.1.length 1000) fun a _=>(N.ix (N.isId a.2) a.1 0,())
def o9 (l:List aG) (k:Int):Bool:=cond (bU 0 k) (cond (aZ k l.length) (Nat.ble l.length 1000) false) false
def Hr:Den:=den (aW (jY aj)) dw (ape aj) (fun l _=>cond (Nat.beq l.length 0) false (Nat.ble l.length 1000)) fun l _=>(l,())
def SS (f:FuncId) (g:aG->aG):Den:=den (aO (bg gu) (aO (cu .i64) (aW (Lr f)))) dw (oV (bg gu)) (fun a _=>o9 a.1 a.2.1) fun a _=>(N.setAt g a.1 a.2.1.toNat,())
noncomputable def adg:Env:=env Tryz.prog [(171,vV)] [] []
theorem aiQ (x:aG):bM adg 125 ((aW (bg aj)).enc x) ([]) some =
 cond (dA {id:=ay.id x.aQ,bT:=ay.bT x.aQ,key:=ay.key x.aQ,head:=List.map yD (List.map yE (ay.head x.aQ)),body:=ay.body x.aQ,due:=ay.due x.aQ,hops:=ay.hops x.aQ:ay}) (some {v:=.agg [V.int .u64 (ay.id x.aQ),.str (ay.bT x.aQ),.str (ay.key x.aQ),.slc yP (List.map yE (List.map yD (List.map yE (ay.head x.aQ)))),.str (ay.body x.aQ),.int .u64 (ay.due x.aQ),.int .u8 (ay.hops x.aQ),.bool x.eF,.bool x.again],bx:=[]:aH}) none:=by kernel_rfl
noncomputable def adh:Env:=env Tryz.prog [(45,lG)] [] []
theorem aiR (l:List aG) (m:ay):type_of% (by
  have h:bM adh 176 ((aO (bg gu) (aW (bg ak))).enc (l,m)) ([]) some =(
   let z0:=(↑(List.length (List.map (ah.enc aj) l)):Int);let z1:=(List.map yE m.head);let z2:=(cond (bU 64 z0) (some {v:=.int .i64 12,bx:=[]:aH}) (some {v:=.int .i64 0,bx:=[]:aH}));cond (N.aV {id:=ay.id m,bT:=ay.bT m,key:=ay.key m,head:=List.map yD z1,body:=ay.body m,due:=ay.due m,hops:=ay.hops m:ay} != 0) (some {v:=.int .i64 (N.aV {id:=ay.id m,bT:=ay.bT m,key:=ay.key m,head:=List.map yD z1,body:=ay.body m,due:=ay.due m,hops:=ay.hops m:ay}),bx:=[]:aH}) (cond (aZ 0 z0) (cond (decide (0<=IntKind.wrap .i64 (z0-1)∧IntKind.wrap .i64 (z0-1)<z0)) (cond (bU m.id (V.toInt (List.getD (List.getD (List.map (ah.enc aj) l) (Int.toNat (IntKind.wrap .i64 (z0-1))) []) 0 V.undef))) (some {v:=.int .i64 13,bx:=[]:aH}) z2) none) z2)):=by kernel_rfl
  dsimp only at h;exact h):=by kernel_rfl
noncomputable def aov:Env:=env Tryz.prog [(176,ade),(125,Hq),(126,xJ aj)] [] []
theorem apX (l:List aG) (x:aG):type_of% (by
  have h:bM aov 127 ((aO (bg gu) (aW (bg aj))).enc (l,x)) ([]) some =(
   let z0:=(List.map yE (ay.head x.aQ));let z1:=(List.map (ah.dec aj) (List.map (ah.enc aj) l));cond (Nat.ble (List.length z1) 1000) (cond (N.oZ z1 {id:=ay.id x.aQ,bT:=ay.bT x.aQ,key:=ay.key x.aQ,head:=List.map yD z0,body:=ay.body x.aQ,due:=ay.due x.aQ,hops:=ay.hops x.aQ:ay} != 0) (some {v:=.fE [V.agg [V.slc yI (List.map (ah.enc aj) l)],.int .i64 (N.oZ z1 {id:=ay.id x.aQ,bT:=ay.bT x.aQ,key:=ay.key x.aQ,head:=List.map yD z0,body:=ay.body x.aQ,due:=ay.due x.aQ,hops:=ay.hops x.aQ:ay})],bx:=[]:aH}) (cond (dR {aQ:={id:=ay.id x.aQ,bT:=ay.bT x.aQ,key:=ay.key x.aQ,head:=List.map yD z0,body:=ay.body x.aQ,due:=ay.due x.aQ,hops:=ay.hops x.aQ:ay},eF:=aG.eF x,again:=aG.again x:aG}) (cond (Nat.ble (List.length z1+1) 100000) (some {v:=.fE [V.agg [V.slc yI (List.map (ah.enc aj) (N.flat [List.map (ah.dec aj) (List.map (ah.enc aj) l),List.map (ah.dec aj) [[V.int .u64 (ay.id x.aQ),.str (ay.bT x.aQ),.str (ay.key x.aQ),.slc yP (List.map yE (List.map yD z0)),.str (ay.body x.aQ),.int .u64 (ay.due x.aQ),.int .u8 (ay.hops x.aQ),.bool x.eF,.bool x.again]]]))],.int .i64 0],bx:=[]:aH}) none) none)) none):=by kernel_rfl
  dsimp only at h;exact h):=by kernel_rfl
noncomputable def aow:Env:=env Tryz.prog [(127,aiO)] [] []
theorem apY (l:List aG) (m:ay):type_of% (by
  have h:bM aow 49 ((aO (bg gu) (aW (bg ak))).enc (l,m)) ([]) some =(
   let z2:=(List.map (ah.dec aj) (List.map (ah.enc aj) l));let z1:=(List.map yE m.head);let z0:=(N.l7 z2 {aQ:={id:=ay.id m,bT:=ay.bT m,key:=ay.key m,head:=List.map yD z1,body:=ay.body m,due:=ay.due m,hops:=ay.hops m:ay},eF:=false,again:=false:aG});cond (bif Nat.ble (List.length z2) 1000 then dR {aQ:={id:=ay.id m,bT:=ay.bT m,key:=ay.key m,head:=List.map yD z1,body:=ay.body m,due:=ay.due m,hops:=ay.hops m:ay},eF:=false,again:=false:aG} else false) (some {v:=.fE [V.agg [V.slc yI (List.map (ah.enc aj) z0.1)],.int .i64 z0.2],bx:=[]:aH}) none):=by kernel_rfl
  dsimp only at h;exact h):=by kernel_rfl
noncomputable def xM:Env:=env Tryz.prog [] [] []
theorem amN (x:aG):bM xM 130 ((aW (nY 0)).enc ()) ((nC aj).enc x) some =
 some {v:=.fE [],bx:=[[V.int .u64 (ay.id x.aQ),.str (ay.bT x.aQ),.str (ay.key x.aQ),.slc yP (List.map yE (ay.head x.aQ)),.str (ay.body x.aQ),.int .u64 (ay.due x.aQ),.int .u8 (ay.hops x.aQ),.bool true,.bool x.again]]:aH}:=by kernel_rfl
theorem amO (x:aG):bM xM 145 ((aW (nY 0)).enc ()) ((nC aj).enc x) some =
 some {v:=.fE [],bx:=[[V.int .u64 (ay.id x.aQ),.str (ay.bT x.aQ),.str (ay.key x.aQ),.slc yP (List.map yE (ay.head x.aQ)),.str (ay.body x.aQ),.int .u64 (ay.due x.aQ),.int .u8 (ay.hops x.aQ),.bool false,.bool true]]:aH}:=by kernel_rfl
theorem amP (x:aG):bM xM 181 ((aW (nY 0)).enc ()) ((nC aj).enc x) some =
 some {v:=.fE [],bx:=[[V.int .u64 (ay.id x.aQ),.str (ay.bT x.aQ),.str (ay.key x.aQ),.slc yP (List.map yE (ay.head x.aQ)),.str (ay.body x.aQ),.int .u64 (ay.due x.aQ),.int .u8 (ay.hops x.aQ),.bool false,.bool true]]:aH}:=by kernel_rfl
theorem apZ (m:ay):bM xM 123 ((aW (bg ak)).enc m) ([]) some =
 some {v:=.bool true,bx:=[]:aH}:=by kernel_rfl
noncomputable def adi:Env:=env Tryz.prog [(123,aou)] [] []
theorem aiS (x:aG):bM adi 173 ((aO (bg aj) (aW (nY 0))).enc (x,())) ((amM 123).enc ()) some =
 cond (!aG.eF x) (some {v:=.bool true,bx:=[[V.fn 123 [] []]]:aH}) (some {v:=.bool false,bx:=[[V.fn 123 [] []]]:aH}):=by kernel_rfl
theorem arF (x:aG) (id:Int):bM xM 174 ((aO (bg aj) (aW (nY 0))).enc (x,())) ((nC (rM .u64)).enc id) some =
 some {v:=.bool (ay.id x.aQ==id),bx:=[[V.int .u64 id]]:aH}:=by kernel_rfl
noncomputable def Yg:Env:=env Tryz.prog [] [] [] [177]
theorem afd (l:List aG):bM Yg 177 ((aW (jY aj)).enc l) ([]) some =
 cond (!Nat.beq (List.length (List.map (ah.enc aj) l)) 0) (cond (Nat.beq (List.length (List.map (ah.enc aj) l)) 0) (some {v:=.slc yI [],bx:=[]:aH}) (cond (decide (List.length (List.map (ah.enc aj) l)*104<=140737488355328)) (some {v:=.own 1000 0,bx:=[],nb:=[Box.sl yI (List.map (ah.enc aj) l) 0]:aH}) none)) none:=by kernel_rfl
theorem D7:bH Tryz.prog 125 Hq:=by
 refine aK (aT ((fK.nil _).cons uN)) (E:=adg) Tryz.func125 [] (by kernel_rfl) none0 fun x _ h=>?_
 refine (aiQ x).trans ?_
 have h:dA x.aQ=true:=h
 show _=some (⟨.agg (aj.enc x),[],[]⟩:aH)
 simp only [um,h,cond_true,fO]
 try rfl
theorem afe:bH Tryz.prog 176 ade:=by
 refine aK (aT ((fK.nil _).cons rP)) (E:=adh) Tryz.func176 [] (by kernel_rfl) none0 fun a _ h=>?_
 obtain ⟨l,m⟩:=a
 have h:l.length<=1000:=aX h
 refine (aiR l m).trans ?_
 show _=some (⟨.int .i64 (N.oZ l m),[],[]⟩:aH)
 simp only [um,List.length_map]
 unfold N.oZ
 cases N.aV m != 0 with
 | true=>rfl
 | false =>
  by_cases hl:0<l.length
  .have w:IntKind.wrap .i64 ((l.length:Int)-1)=(l.length:Int)-1:=dY (by omega) (by omega)
   have ei:((l.length:Int)-1).toNat=l.length-1:=by omega
   have eg:=lX aj l (l.length-1) fA (by omega)
   rw [w,ei,eg]
   simp (disch:=omega) only [evs]
   show cond (bU m.id (l.getD (l.length-1) fA).aQ.id) _ _=_
   cases bU m.id (l.getD (l.length-1) fA).aQ.id with
   | true=>rfl
   | false=>cases bU 64 (l.length:Int)<;>rfl
  .simp (disch:=omega) only [evs]
theorem aiT:bH Tryz.prog 130 (Jz N.vF):=aK (aT (fK.nil _)) (E:=xM) Tryz.func130 [] (by kernel_rfl) none0 fun _ x _=>amN x
theorem aiU:bH Tryz.prog 145 (Jz N.qX):=aK (aT (fK.nil _)) (E:=xM) Tryz.func145 [] (by kernel_rfl) none0 fun _ x _=>amO x
theorem aiV:bH Tryz.prog 181 (Jz N.qX):=aK (aT (fK.nil _)) (E:=xM) Tryz.func181 [] (by kernel_rfl) none0 fun _ x _=>amP x
theorem amQ:bH Tryz.prog 123 aou:=aK (aT (fK.nil _)) (E:=xM) Tryz.func123 [] (by kernel_rfl) none0 fun m _ _=>apZ m
theorem aff:bH Tryz.prog 173 (adf 123):=by
 refine aK (aT ((fK.nil _).cons amQ)) (E:=adi) Tryz.func173 [] (by kernel_rfl) none0 fun a _ _=>?_
 obtain ⟨x,⟨⟩⟩:=a
 refine (aiS x).trans ?_
 show _=some (⟨.bool (N.isReady x),[[V.fn 123 [] []]],[]⟩:aH)
 unfold N.isReady
 cases x.eF<;>rfl
theorem ap0:bH Tryz.prog 174 arC:=aK (aT (fK.nil _)) (E:=xM) Tryz.func174 [] (by kernel_rfl) none0 fun a id _=>arF a.1 id
theorem Fp:bH Tryz.prog 177 Hr:=by
 refine aK (aT (fK.nil _)) (E:=Yg) Tryz.func177 [] (by kernel_rfl) none0 fun l _ h=>?_
 have h:cond (Nat.beq l.length 0) false (Nat.ble l.length 1000)=true:=h
 cases e:Nat.beq l.length 0 with
 | true=>rw [e] at h; cases h
 | false =>
  rw [e] at h
  have h1:l.length<=1000:=aX h
  refine (afd l).trans ?_
  simp (disch:=omega) only [evs,e,Bool.not_false]
  try rfl
theorem adk:bH Tryz.prog 127 aiO:=by
 refine aK (aT ((((fK.nil _).cons OU).cons D7).cons afe)) (E:=aov) Tryz.func127 [] (by kernel_rfl) none0 fun a _ h=>?_
 obtain ⟨l,x⟩:=a
 obtain ⟨h1,h2⟩:=aP h
 have h1:l.length<=1000:=aX h1
 have h2:dR x=true:=h2
 refine (apX l x).trans ?_
 show _=some (⟨.fE [.agg (gu.enc (N.l7 l x).1),.int .i64 (N.l7 l x).2],[],[]⟩:aH)
 simp only [um,bn,OZ]
 unfold N.l7
 cases N.oZ l x.aQ != 0 with
 | true=>simp (disch:=omega) only [evs]; rfl
 | false =>
  have hf:N.flat [l,List.map aj.dec [aj.enc x]]=l++[x]:=by
   rw [List.map_cons,aj.de x,List.map_nil,Cj]
  simp (disch:=omega) only [evs,fO,OZ,o8,h2,hf]
  try rfl
end Go.Ev

namespace Go.Ev
open Go Go.Proofs
set_option maxRecDepth 100000
-- FOLD
theorem oz {r:List (List V)} {i:Nat} (h:i<r.length):(r.drop i).map aj.dec=aj.dec (r.getD i [])::(r.drop (i+1)).map aj.dec:=by
 rw [jP h]; rfl
theorem Ht (p:aG->Bool) (x:aG) (r:List aG) (i:Int):N.ix p (x::r) i=cond (p x) i (N.ix p r (i+1)):=rfl
theorem Vx {p:aG->Bool} {l:List aG} (h:bU 0 (N.ix p l 0)=false):N.ix p l 0 = -1:=by
 rcases nS p l 0 (Int.le_refl _) with ⟨h1,_⟩ | ⟨k,h1,_⟩
 .exact h1
 .rw [h1,dX (by omega)] at h; cases h
def ap1:fP:={ fr:=[(0,.slc yI),(1,.fn 173 [] [.ptr 0 0 0]),(7,.int .i64),(8,.int .i64)],tab:=[(0,.var [.fn 123 [] []])] }
def arG:List Leaf->(Ex->St->Option R)->Option R
 | [.r r,.i n,.i i],K=>cond (n==r.length) (cond (i==0) (cond (Nat.ble r.length 1000) (cond (bU 0 (N.ix N.isReady (r.map aj.dec) 0)) (K .ret { fr:=[(4,.int .i64 (N.ix N.isReady (r.map aj.dec) 0))],tab:=[(0,.var [.fn 123 [] []])] }) (K (.exit 0) { fr:=[],tab:=[(0,.var [.fn 123 [] []])] })) none) none) none
 | _,_=>none
noncomputable def amR:Env:=env Tryz.prog [(173,adf 123)] [(2,dJ ap1 arG)] [(2,[(0,[0,1,7,8]),(1,[]),(1000,[4])])]
theorem arH (l:List aG):bM amR 172 ((aO (jY aj) (aW (vFn 173 0))).enc (l,())) ((amM 123).enc ()) some =
 cond ((↑(List.length (List.map (ah.enc aj) l)):Int)==(↑(List.length (List.map (ah.enc aj) l)):Int)) (cond (Nat.ble (List.length (List.map (ah.enc aj) l)) 1000) (cond (bU 0 (N.ix N.isReady (List.map (ah.dec aj) (List.map (ah.enc aj) l)) 0)) (some {v:=.int .i64 (N.ix N.isReady (List.map (ah.dec aj) (List.map (ah.enc aj) l)) 0),bx:=[[V.fn 123 [] []]]:aH}) (some {v:=.int .i64 (-1:Int),bx:=[[V.fn 123 [] []]]:aH})) none) none:=by kernel_rfl
theorem aa7 (r:List (List V)) (n i:Int) (K:Ex->St->Option R):bI amR 172 2 { fr:=[(0,.slc yI r),(1,.fn 173 [] [.ptr 0 0 0 0]),(7,.int .i64 n),(8,.int .i64 i)],tab:=[(0,.var [.fn 123 [] []])] } K =
 cond (aZ i n) (cond (decide (0<=i∧i<(↑(List.length r):Int))) (cond (N.isReady (aj.dec (List.getD r (Int.toNat i) []))) (K .ret {fr:=[(4,.int .i64 i)],tab:=[(0,.var [V.fn 123 [] []])]:St}) (K .normal {fr:=[(0,.slc yI r),(1,.fn 173 [] [V.ptr 0 0 0 0]),(7,.int .i64 n),(8,.int .i64 (IntKind.wrap .i64 (i+1)))],tab:=[(0,.var [V.fn 123 [] []])]:St})) none) (K (.exit 0) {fr:=[],tab:=[(0,.var [V.fn 123 [] []])]:St}):=by kernel_rfl
theorem ap2:bH Tryz.prog 172 (arD 173 123):=by
 refine aK (aT ((fK.nil _).cons aff)) (E:=amR) Tryz.func172 [2] (by kernel_rfl) (one1 (bf rfl fun l K q h=>?_)) fun a id hp=>?_
 .unfold arG at h
  split at h
  .rename_i r n i
   replace h:=Lm h;obtain ⟨h1,h2,h3,h⟩:=h
   have e1:=aY h1
   have e2:=aY h2
   subst e1 e2
   have h3:r.length<=1000:=aX h3
   have main:=dD (E:=amR) (f:=172) (id:=2) (σ:=Nat) (fun i=>{ fr:=[(0,.slc yI r),(1,.fn 173 [] [.ptr 0 0 0 0]),(7,.int .i64 r.length),(8,.int .i64 (i:Int))],tab:=[(0,.var [.fn 123 [] []])] }) (fun i=>i<=r.length) (fun i=>r.length-i)
    (fun i K=>cond (bU 0 (N.ix N.isReady ((r.drop i).map aj.dec) i)) (K .ret { fr:=[(4,.int .i64 (N.ix N.isReady ((r.drop i).map aj.dec) i))],tab:=[(0,.var [.fn 123 [] []])] }) (K (.exit 0) { fr:=[],tab:=[(0,.var [.fn 123 [] []])] })) (fun i hi=>?_) 0 (Nat.zero_le _) K q (by assumption)
   .exact main
   .by_cases hl:i<r.length
    .rw [oz hl,Ht]
     cases hc:N.isReady (aj.dec (r.getD i [])) with
     | true =>
      refine .inr ⟨.ret,{ fr:=[(4,.int .i64 ((i:Int)))],tab:=[(0,.var [.fn 123 [] []])] },by simp,fun K=>?_,fun K=>?_⟩
      .rw [aa7]
       simp (disch:=omega) only [evs,Int.toNat_natCast,iU,hc]
      .simp only [cond_true]
       rw [dX (by omega)]; rfl
     | false =>
      refine .inl ⟨i+1,hl,by omega,fun K=>?_,fun K=>rfl⟩
      rw [aa7]
      simp (disch:=omega) only [evs,Int.toNat_natCast,iU,hc]
      try rfl
    .refine .inr ⟨.exit 0,{ fr:=[],tab:=[(0,.var [.fn 123 [] []])] },by simp,fun K=>?_,fun K=>?_⟩
     .rw [aa7]
      simp (disch:=omega) only [evs]
     .rw [List.drop_eq_nil_of_le (by omega)]; rfl
  .cases h
 .obtain ⟨l,⟨⟩⟩:=a
  have hp:Nat.ble l.length 1000=true:=hp
  refine (arH l ).trans ?_
  simp only [List.length_map,bn,hp,beq_self_eq_true,cond_true]
  show _=some (⟨.int .i64 (N.ix N.isReady l 0),[[.fn 123 [] []]],[]⟩:aH)
  cases hc:bU 0 (N.ix N.isReady l 0) with
  | true=>rfl
  | false=>rw [Vx hc]; rfl
def ap3:fP:={ fr:=[(0,.slc yI),(1,.fn 174 [] [.ptr 0 0 0]),(7,.int .i64),(8,.int .i64)],tab:=[(0,.var [.int .u64])] }
def arI:List Leaf->(Ex->St->Option R)->Option R
 | [.r r,.i n,.i i,.i id],K=>cond (n==r.length) (cond (i==0) (cond (Nat.ble r.length 1000) (cond (bU 0 (N.ix (N.isId id) (r.map aj.dec) 0)) (K .ret { fr:=[(4,.int .i64 (N.ix (N.isId id) (r.map aj.dec) 0))],tab:=[(0,.var [.int .u64 id])] }) (K (.exit 0) { fr:=[],tab:=[(0,.var [.int .u64 id])] })) none) none) none
 | _,_=>none
noncomputable def amS:Env:=env Tryz.prog [(174,arC)] [(2,dJ ap3 arI)] [(2,[(0,[0,1,7,8]),(1,[]),(1000,[4])])]
theorem arJ (l:List aG) (id:Int):bM amS 172 ((aO (jY aj) (aW (vFn 174 0))).enc (l,())) ((nC (rM .u64)).enc id) some =
 cond ((↑(List.length (List.map (ah.enc aj) l)):Int)==(↑(List.length (List.map (ah.enc aj) l)):Int)) (cond (Nat.ble (List.length (List.map (ah.enc aj) l)) 1000) (cond (bU 0 (N.ix (N.isId id) (List.map (ah.dec aj) (List.map (ah.enc aj) l)) 0)) (some {v:=.int .i64 (N.ix (N.isId id) (List.map (ah.dec aj) (List.map (ah.enc aj) l)) 0),bx:=[[V.int .u64 id]]:aH}) (some {v:=.int .i64 (-1:Int),bx:=[[V.int .u64 id]]:aH})) none) none:=by kernel_rfl
theorem aa8 (r:List (List V)) (n i:Int) (id:Int) (K:Ex->St->Option R):bI amS 172 2 { fr:=[(0,.slc yI r),(1,.fn 174 [] [.ptr 0 0 0 0]),(7,.int .i64 n),(8,.int .i64 i)],tab:=[(0,.var [.int .u64 id])] } K =
 cond (aZ i n) (cond (decide (0<=i∧i<(↑(List.length r):Int))) (cond (N.isId id (aj.dec (List.getD r (Int.toNat i) []))) (K .ret {fr:=[(4,.int .i64 i)],tab:=[(0,.var [V.int .u64 id])]:St}) (K .normal {fr:=[(0,.slc yI r),(1,.fn 174 [] [V.ptr 0 0 0 0]),(7,.int .i64 n),(8,.int .i64 (IntKind.wrap .i64 (i+1)))],tab:=[(0,.var [V.int .u64 id])]:St})) none) (K (.exit 0) {fr:=[],tab:=[(0,.var [V.int .u64 id])]:St}):=by kernel_rfl
theorem ap4:bH Tryz.prog 172 (arE 174):=by
 refine aK (aT ((fK.nil _).cons ap0)) (E:=amS) Tryz.func172 [2] (by kernel_rfl) (one1 (bf rfl fun l K q h=>?_)) fun a id hp=>?_
 .unfold arI at h
  split at h
  .rename_i r n i id
   replace h:=Lm h;obtain ⟨h1,h2,h3,h⟩:=h
   have e1:=aY h1
   have e2:=aY h2
   subst e1 e2
   have h3:r.length<=1000:=aX h3
   have main:=dD (E:=amS) (f:=172) (id:=2) (σ:=Nat) (fun i=>{ fr:=[(0,.slc yI r),(1,.fn 174 [] [.ptr 0 0 0 0]),(7,.int .i64 r.length),(8,.int .i64 (i:Int))],tab:=[(0,.var [.int .u64 id])] }) (fun i=>i<=r.length) (fun i=>r.length-i)
    (fun i K=>cond (bU 0 (N.ix (N.isId id) ((r.drop i).map aj.dec) i)) (K .ret { fr:=[(4,.int .i64 (N.ix (N.isId id) ((r.drop i).map aj.dec) i))],tab:=[(0,.var [.int .u64 id])] }) (K (.exit 0) { fr:=[],tab:=[(0,.var [.int .u64 id])] })) (fun i hi=>?_) 0 (Nat.zero_le _) K q (by assumption)
   .exact main
   .by_cases hl:i<r.length
    .rw [oz hl,Ht]
     cases hc:(N.isId id) (aj.dec (r.getD i [])) with
     | true =>
      refine .inr ⟨.ret,{ fr:=[(4,.int .i64 ((i:Int)))],tab:=[(0,.var [.int .u64 id])] },by simp,fun K=>?_,fun K=>?_⟩
      .rw [aa8]
       simp (disch:=omega) only [evs,Int.toNat_natCast,iU,hc]
      .simp only [cond_true]
       rw [dX (by omega)]; rfl
     | false =>
      refine .inl ⟨i+1,hl,by omega,fun K=>?_,fun K=>rfl⟩
      rw [aa8]
      simp (disch:=omega) only [evs,Int.toNat_natCast,iU,hc]
      try rfl
    .refine .inr ⟨.exit 0,{ fr:=[],tab:=[(0,.var [.int .u64 id])] },by simp,fun K=>?_,fun K=>?_⟩
     .rw [aa8]
      simp (disch:=omega) only [evs]
     .rw [List.drop_eq_nil_of_le (by omega)]; rfl
  .cases h
 .obtain ⟨l,⟨⟩⟩:=a
  have hp:Nat.ble l.length 1000=true:=hp
  refine (arJ l id).trans ?_
  simp only [List.length_map,bn,hp,beq_self_eq_true,cond_true]
  show _=some (⟨.int .i64 (N.ix (N.isId id) l 0),[[.int .u64 id]],[]⟩:aH)
  cases hc:bU 0 (N.ix (N.isId id) l 0) with
  | true=>rfl
  | false=>rw [Vx hc]; rfl
noncomputable def aiW:Env:=env Tryz.prog [(177,Hr),(130,Jz N.vF)] [] []
theorem amT (l:List aG) (k:Int):type_of% (by
  have h:bM aiW 129 ((aO (bg gu) (aO (cu .i64) (aW (Lr 130)))).enc (l,k,())) ([]) some =(
   let z1:=(List.map (ah.dec aj) (List.map (ah.enc aj) l));let z3:=(List.map (ah.enc aj) z1);let z2:=(List.getD z3 (Int.toNat k) []);let z0:=(N.vF (aj.dec z2));cond (bif Nat.beq (List.length z1) 0 then false else Nat.ble (List.length z1) 1000) (cond (decide (0<=k∧k<(↑(List.length z3):Int))) (some {v:=.agg [V.slc yI (List.set z3 (Int.toNat k) [V.int .u64 (ay.id z0.aQ),.str (ay.bT z0.aQ),.str (ay.key z0.aQ),.slc yP (List.map yE (ay.head z0.aQ)),.str (ay.body z0.aQ),.int .u64 (ay.due z0.aQ),.int .u8 (ay.hops z0.aQ),.bool z0.eF,.bool z0.again])],bx:=[]:aH}) none) none):=by kernel_rfl
  dsimp only at h;exact h):=by kernel_rfl
theorem aiX:bH Tryz.prog 129 (SS 130 N.vF):=by
 refine aK (aT (((fK.nil _).cons aiT).cons Fp)) (E:=aiW) Tryz.func129 [] (by kernel_rfl) none0 fun a _ h=>?_
 obtain ⟨l,k,⟨⟩⟩:=a
 obtain ⟨h1,h2⟩:=aP h
 obtain ⟨h2,h3⟩:=aP h2
 have h1:0<=k:=bQ h1
 have h2:k<l.length:=jZ h2
 have h3:Nat.ble l.length 1000=true:=h3
 have hn:Nat.beq l.length 0=false:=by
  rw [Bool.eq_false_iff]
  intro e
  have:=Nat.eq_of_beq_eq_true e
  omega
 refine (amT l k).trans ?_
 have hg:=lX aj l k.toNat fA (by omega)
 simp only [bn,List.length_map,hn,h3,hg,iU,aj.de,o8,<- List.map_set]
 simp (disch:=omega) only [evs]
 try rfl
noncomputable def aiY:Env:=env Tryz.prog [(177,Hr),(145,Jz N.qX)] [] []
theorem amU (l:List aG) (k:Int):type_of% (by
  have h:bM aiY 129 ((aO (bg gu) (aO (cu .i64) (aW (Lr 145)))).enc (l,k,())) ([]) some =(
   let z1:=(List.map (ah.dec aj) (List.map (ah.enc aj) l));let z3:=(List.map (ah.enc aj) z1);let z2:=(List.getD z3 (Int.toNat k) []);let z0:=(N.qX (aj.dec z2));cond (bif Nat.beq (List.length z1) 0 then false else Nat.ble (List.length z1) 1000) (cond (decide (0<=k∧k<(↑(List.length z3):Int))) (some {v:=.agg [V.slc yI (List.set z3 (Int.toNat k) [V.int .u64 (ay.id z0.aQ),.str (ay.bT z0.aQ),.str (ay.key z0.aQ),.slc yP (List.map yE (ay.head z0.aQ)),.str (ay.body z0.aQ),.int .u64 (ay.due z0.aQ),.int .u8 (ay.hops z0.aQ),.bool z0.eF,.bool z0.again])],bx:=[]:aH}) none) none):=by kernel_rfl
  dsimp only at h;exact h):=by kernel_rfl
theorem aiZ:bH Tryz.prog 129 (SS 145 N.qX):=by
 refine aK (aT (((fK.nil _).cons aiU).cons Fp)) (E:=aiY) Tryz.func129 [] (by kernel_rfl) none0 fun a _ h=>?_
 obtain ⟨l,k,⟨⟩⟩:=a
 obtain ⟨h1,h2⟩:=aP h
 obtain ⟨h2,h3⟩:=aP h2
 have h1:0<=k:=bQ h1
 have h2:k<l.length:=jZ h2
 have h3:Nat.ble l.length 1000=true:=h3
 have hn:Nat.beq l.length 0=false:=by
  rw [Bool.eq_false_iff]
  intro e
  have:=Nat.eq_of_beq_eq_true e
  omega
 refine (amU l k).trans ?_
 have hg:=lX aj l k.toNat fA (by omega)
 simp only [bn,List.length_map,hn,h3,hg,iU,aj.de,o8,<- List.map_set]
 simp (disch:=omega) only [evs]
 try rfl
noncomputable def ai0:Env:=env Tryz.prog [(177,Hr),(181,Jz N.qX)] [] []
theorem amV (l:List aG) (k:Int):type_of% (by
  have h:bM ai0 129 ((aO (bg gu) (aO (cu .i64) (aW (Lr 181)))).enc (l,k,())) ([]) some =(
   let z1:=(List.map (ah.dec aj) (List.map (ah.enc aj) l));let z3:=(List.map (ah.enc aj) z1);let z2:=(List.getD z3 (Int.toNat k) []);let z0:=(N.qX (aj.dec z2));cond (bif Nat.beq (List.length z1) 0 then false else Nat.ble (List.length z1) 1000) (cond (decide (0<=k∧k<(↑(List.length z3):Int))) (some {v:=.agg [V.slc yI (List.set z3 (Int.toNat k) [V.int .u64 (ay.id z0.aQ),.str (ay.bT z0.aQ),.str (ay.key z0.aQ),.slc yP (List.map yE (ay.head z0.aQ)),.str (ay.body z0.aQ),.int .u64 (ay.due z0.aQ),.int .u8 (ay.hops z0.aQ),.bool z0.eF,.bool z0.again])],bx:=[]:aH}) none) none):=by kernel_rfl
  dsimp only at h;exact h):=by kernel_rfl
theorem ai1:bH Tryz.prog 129 (SS 181 N.qX):=by
 refine aK (aT (((fK.nil _).cons aiV).cons Fp)) (E:=ai0) Tryz.func129 [] (by kernel_rfl) none0 fun a _ h=>?_
 obtain ⟨l,k,⟨⟩⟩:=a
 obtain ⟨h1,h2⟩:=aP h
 obtain ⟨h2,h3⟩:=aP h2
 have h1:0<=k:=bQ h1
 have h2:k<l.length:=jZ h2
 have h3:Nat.ble l.length 1000=true:=h3
 have hn:Nat.beq l.length 0=false:=by
  rw [Bool.eq_false_iff]
  intro e
  have:=Nat.eq_of_beq_eq_true e
  omega
 refine (amV l k).trans ?_
 have hg:=lX aj l k.toNat fA (by omega)
 simp only [bn,List.length_map,hn,h3,hg,iU,aj.de,o8,<- List.map_set]
 simp (disch:=omega) only [evs]
 try rfl
end Go.Ev

namespace Go.Ev
open Go Go.Proofs
set_option maxRecDepth 100000
-- FOLD
def aa9:Den:=den (aW (bg gu)) dw (nP (aO (bg gu) (aO (bg aj) (aW iF)))) (fun l _=>ig l) fun l _=>(N.o7 l,())
def abb:Den:=den (aO (bg gu) (aW (cu .u64))) dw (nP (aO (bg gu) (aW (cu .i64)))) (fun a _=>ig a.1) fun a _=>(N.uO a.1 a.2,())
def O1:Den:=den (aO (bg gu) (aW (cu .u64))) dw (nP (aO (bg gu) (aO (bg aj) (aW (cu .i64))))) (fun a _=>ig a.1) fun a _=>(N.eP a.1 a.2,())
def wI (l:List aG) (k:Int):Bool:=cond (ig l) (cond (aZ k 0) true (aZ k l.length)) false
def abd:Den:=den (aO (bg gu) (aW (cu .i64))) dw (nP (aO (bg ak) (aW iF))) (fun a _=>wI a.1 a.2) fun a _=>(N.lS a.1 a.2,())
def Vy:Den:=den (aW (bg gu)) dw (nP (aO (bg ak) (aW iF))) (fun l _=>ig l) fun l _=>(N.fF l,())
def adl:Den:=den (aW (bg gu)) dw (oV (cu .i64)) (fun _ _=>true) fun l _=>((l.length:Int),())
def ai2:Den:=den (aW (bg gu)) dw (oV (jY aj)) (fun l _=>ig l) fun l _=>(l,())
def ai3:Den:=den (aW (bg gu)) dw (oV (bg gu)) (fun l _=>Nat.ble l.length 1000) fun l _=>(N.mX l,())
def O4:Den:=den (aO (bg aj) (aW (bg aj))) dw (oV iF) (fun a _=>dR a.1) fun a _=>(N.sG a.1 a.2,())
def aox (f:FuncId):Den:=den (aO (jY aj) (aO (jY aj) (aW (Lr f)))) dw (oV iF) (fun a _=>ig a.1) fun a _=>(N.nJ a.1 a.2.1,())
def ai4:Den:=den (aO (bg gu) (aW (bg gu))) dw (oV iF) (fun a _=>ig a.1) fun a _=>(N.nJ a.1 a.2,())
noncomputable def adn:Env:=env Tryz.prog [(172,arD 173 123)] [] []
theorem ai5 (l:List aG):bM adn 122 ((aO (bg gu) (aW (Lr 123))).enc (l,())) ([]) some =
 cond (Nat.ble (List.length (List.map (ah.dec aj) (List.map (ah.enc aj) l))) 1000) (some {v:=.int .i64 (N.ix N.isReady (List.map (ah.dec aj) (List.map (ah.enc aj) l)) 0),bx:=[]:aH}) none:=by kernel_rfl
noncomputable def arK:Env:=env Tryz.prog [(172,arE 174)] [] []
theorem arL (l:List aG) (id:Int):bM arK 124 ((aO (bg gu) (aW (cu .u64))).enc (l,id)) ([]) some =
 cond (Nat.ble (List.length (List.map (ah.dec aj) (List.map (ah.enc aj) l))) 1000) (some {v:=.int .i64 (N.ix (N.isId id) (List.map (ah.dec aj) (List.map (ah.enc aj) l)) 0),bx:=[]:aH}) none:=by kernel_rfl
noncomputable def ai6:Env:=env Tryz.prog [(122,Vw 123),(129,SS 130 N.vF),(125,Hq)] [] []
theorem amW (l:List aG):type_of% (by
  have h:bM ai6 51 ((aW (bg gu)).enc l) ([]) some =(
   let z1:=(List.map (ah.dec aj) (List.map (ah.enc aj) l));let z3:=(N.ix N.isReady z1 0);let z2:=(List.map (ah.enc aj) (N.setAt N.vF z1 (Int.toNat z3)));let z0:=(List.getD z2 (Int.toNat z3) []);cond (Nat.ble (List.length z1) 1000) (cond (aZ z3 0) (some {v:=.fE [V.agg [V.slc yI (List.map (ah.enc aj) l)],.agg [V.int .u64 0,.str [],.str [],.slc yP [],.str [],.int .u64 0,.int .u8 0,.bool false,.bool false],.bool false],bx:=[]:aH}) (cond (o9 z1 z3) (cond (decide (0<=N.ix N.isReady z1 0∧N.ix N.isReady z1 0<(↑(List.length z2):Int))) (cond (dR (aj.dec z0)) (some {v:=.fE [V.agg [V.slc yI z2],.agg [V.int .u64 (V.toInt (z0.getD 0 .undef)),.str (V.toStr (z0.getD 1 .undef)),.str (V.toStr (z0.getD 2 .undef)),.slc yP (List.map yE (List.map yD (V.toRows (z0.getD 3 .undef)))),.str (V.toStr (z0.getD 4 .undef)),.int .u64 (V.toInt (z0.getD 5 .undef)),.int .u8 (V.toInt (z0.getD 6 .undef)),.bool (V.toBool (z0.getD 7 .undef)),.bool (V.toBool (z0.getD 8 .undef))],.bool true],bx:=[]:aH}) none) none) none)) none):=by kernel_rfl
  dsimp only at h;exact h):=by kernel_rfl
noncomputable def ai7:Env:=env Tryz.prog [(124,apW),(129,SS 145 N.qX)] [] []
theorem amX (l:List aG) (id:Int):type_of% (by
  have h:bM ai7 71 ((aO (bg gu) (aW (cu .u64))).enc (l,id)) ([]) some =(
   let z2:=(List.map (ah.enc aj) l);let z0:=(List.map (ah.dec aj) z2);let z1:=(N.ix (N.isId id) z0 0);cond (Nat.ble (List.length z0) 1000) (cond (aZ z1 0) (some {v:=.fE [V.agg [V.slc yI z2],.int .i64 10],bx:=[]:aH}) (cond (decide (0<=N.ix (N.isId id) z0 0∧N.ix (N.isId id) z0 0<(↑(List.length z2):Int))) (cond (!V.toBool (List.getD (List.getD z2 (Int.toNat z1) []) 7 V.undef)) (some {v:=.fE [V.agg [V.slc yI z2],.int .i64 13],bx:=[]:aH}) (cond (o9 z0 z1) (some {v:=.fE [V.agg [V.slc yI (List.map (ah.enc aj) (N.setAt N.qX z0 (Int.toNat z1)))],.int .i64 0],bx:=[]:aH}) none)) none)) none):=by kernel_rfl
  dsimp only at h;exact h):=by kernel_rfl
noncomputable def Yh:Env:=env Tryz.prog [(124,apW),(125,Hq),(126,xJ aj)] [] []
theorem afg (l:List aG) (id:Int):type_of% (by
  have h:bM Yh 47 ((aO (bg gu) (aW (cu .u64))).enc (l,id)) ([]) some =(
   let z2:=(List.map (ah.enc aj) l);let z1:=(List.map (ah.dec aj) z2);let z6:=(N.ix (N.isId id) z1 0);let z0:=(List.getD z2 (Int.toNat z6) []);let z3:=(N.ix (N.isId id) z1 (0 : Int)+1);let z4:=(List.drop (Int.toNat (IntKind.wrap .i64 z3)) (List.take (List.length z2) z2));let z5:=(List.drop 0 (List.take (Int.toNat z6) z2));cond (Nat.ble (List.length z1) 1000) (cond (aZ z6 0) (some {v:=.fE [V.agg [V.slc yI z2],.agg [V.int .u64 0,.str [],.str [],.slc yP [],.str [],.int .u64 0,.int .u8 0,.bool false,.bool false],.int .i64 10],bx:=[]:aH}) (cond (decide (0<=N.ix (N.isId id) z1 0∧N.ix (N.isId id) z1 0<(↑(List.length z2):Int))) (cond (dR (aj.dec z0)) (cond (decide (0<=N.ix (N.isId id) z1 0∧N.ix (N.isId id) z1 0<=(↑(List.length z2):Int))) (cond (decide (0<=IntKind.wrap .i64 z3∧IntKind.wrap .i64 z3<=(↑(List.length z2):Int))) (cond (Nat.ble (List.length (List.map (ah.dec aj) z5)+(List.length (List.map (ah.dec aj) z4)+0)) 100000) (some {v:=.fE [V.agg [V.slc yI (List.map (ah.enc aj) (N.flat [List.map (ah.dec aj) z5,List.map (ah.dec aj) z4]))],.agg [V.int .u64 (V.toInt (z0.getD 0 .undef)),.str (V.toStr (z0.getD 1 .undef)),.str (V.toStr (z0.getD 2 .undef)),.slc yP (List.map yE (List.map yD (V.toRows (z0.getD 3 .undef)))),.str (V.toStr (z0.getD 4 .undef)),.int .u64 (V.toInt (z0.getD 5 .undef)),.int .u8 (V.toInt (z0.getD 6 .undef)),.bool (V.toBool (z0.getD 7 .undef)),.bool (V.toBool (z0.getD 8 .undef))],.int .i64 0],bx:=[]:aH}) none) none) none) none) none)) none):=by kernel_rfl
  dsimp only at h;exact h):=by kernel_rfl
noncomputable def ai8:Env:=env Tryz.prog [(171,vV)] [] []
theorem amY (l:List aG) (k:Int):type_of% (by
  have h:bM ai8 121 ((aO (bg gu) (aW (cu .i64))).enc (l,k)) ([]) some =(
   let z0:=(List.getD (List.map (ah.enc aj) l) (Int.toNat k) []);cond (aZ k 0) (some {v:=.fE [V.agg [V.int .u64 0,.str [],.str [],.slc yP [],.str [],.int .u64 0,.int .u8 0],.bool false],bx:=[]:aH}) (cond (decide (0<=k∧k<(↑(List.length (List.map (ah.enc aj) l)):Int))) (cond (dA (ak.dec z0)) (some {v:=.fE [V.agg [V.int .u64 (V.toInt (z0.getD 0 .undef)),.str (V.toStr (z0.getD 1 .undef)),.str (V.toStr (z0.getD 2 .undef)),.slc yP (List.map yE (List.map yD (V.toRows (z0.getD 3 .undef)))),.str (V.toStr (z0.getD 4 .undef)),.int .u64 (V.toInt (z0.getD 5 .undef)),.int .u8 (V.toInt (z0.getD 6 .undef))],.bool true],bx:=[]:aH}) none) none)):=by kernel_rfl
  dsimp only at h;exact h):=by kernel_rfl
noncomputable def ado:Env:=env Tryz.prog [(122,Vw 123),(121,abd)] [] []
theorem ai9 (l:List aG):type_of% (by
  have h:bM ado 46 ((aW (bg gu)).enc l) ([]) some =(
   let z1:=(List.map (ah.dec aj) (List.map (ah.enc aj) l));let z0:=(N.lS z1 (N.ix N.isReady z1 0));cond (Nat.ble (List.length z1) 1000) (cond (wI z1 (N.ix N.isReady z1 0)) (some {v:=.fE [V.agg [V.int .u64 (ay.id z0.1),.str (ay.bT z0.1),.str (ay.key z0.1),.slc yP (List.map yE (ay.head z0.1)),.str (ay.body z0.1),.int .u64 (ay.due z0.1),.int .u8 (ay.hops z0.1)],.bool z0.2],bx:=[]:aH}) none) none):=by kernel_rfl
  dsimp only at h;exact h):=by kernel_rfl
theorem ap5 (l:List aG):bM xM 15 ((aW (bg gu)).enc l) ([]) some =
 some {v:=.int .i64 (↑(List.length (List.map (ah.enc aj) l)):Int),bx:=[]:aH}:=by kernel_rfl
noncomputable def aja:Env:=env Tryz.prog [(143,qU)] [] []
theorem amZ (a b:aG):bM aja 142 ((aO (bg aj) (aW (bg aj))).enc (a,b)) ([]) some =
 cond (dA {id:=ay.id a.aQ,bT:=ay.bT a.aQ,key:=ay.key a.aQ,head:=List.map yD (List.map yE (ay.head a.aQ)),body:=ay.body a.aQ,due:=ay.due a.aQ,hops:=ay.hops a.aQ:ay}) (cond (N.iP {id:=ay.id a.aQ,bT:=ay.bT a.aQ,key:=ay.key a.aQ,head:=List.map yD (List.map yE (ay.head a.aQ)),body:=ay.body a.aQ,due:=ay.due a.aQ,hops:=ay.hops a.aQ:ay} {id:=ay.id b.aQ,bT:=ay.bT b.aQ,key:=ay.key b.aQ,head:=List.map yD (List.map yE (ay.head b.aQ)),body:=ay.body b.aQ,due:=ay.due b.aQ,hops:=ay.hops b.aQ:ay}) (cond (aG.eF a==aG.eF b) (some {v:=.bool (aG.again a==aG.again b),bx:=[]:aH}) (some {v:=.bool false,bx:=[]:aH})) (some {v:=.bool false,bx:=[]:aH})) none:=by kernel_rfl
theorem Fq (r:List V):[V.int .u64 (V.toInt (List.getD r 0 .undef)),V.str (V.toStr (List.getD r 1 .undef)),V.str (V.toStr (List.getD r 2 .undef)),V.slc yP (((V.toRows (List.getD r 3 .undef)).map fun r=>({ key:=V.toStr (List.getD r 0 .undef),kind:=V.toInt (List.getD r 1 .undef),num:=V.toInt (List.getD r 2 .undef),text:=V.toStr (List.getD r 3 .undef) }:bG)).map fun p=>[V.str p.key,V.int .u8 p.kind,V.int .i64 p.num,V.str p.text]),
  V.str (V.toStr (List.getD r 4 .undef)),V.int .u64 (V.toInt (List.getD r 5 .undef)),V.int .u8 (V.toInt (List.getD r 6 .undef)),V.bool (V.toBool (List.getD r 7 .undef)),V.bool (V.toBool (List.getD r 8 .undef))]=aj.enc (aj.dec r):=rfl
theorem oC {l:List aG} (h:ig l=true):l.length<=1000∧Nat.ble l.length 1000=true∧l.all dR=true:=by
 obtain ⟨h1,h2⟩:=aP h
 exact ⟨aX h1,h1,h2⟩
theorem afh (f:aG->aG) {l:List aG} {k:Nat} (h:k<l.length):(N.setAt f l k).getD k fA=f (l.getD k fA):=by
 unfold N.setAt
 rw [List.getD_eq_getElem?_getD,List.getElem?_set_self h]; rfl
theorem O5 {l:List aG} (h:l.all dR=true) {k:Nat} (hk:k<l.length):dR (l.getD k fA)=true:=OE h k fA hk
theorem SV:bH Tryz.prog 122 (Vw 123):=by
 refine aK (aT ((fK.nil _).cons ap2)) (E:=adn) Tryz.func122 [] (by kernel_rfl) none0 fun a _ h=>?_
 obtain ⟨l,⟨⟩⟩:=a
 have h:Nat.ble l.length 1000=true:=h
 refine (ai5 l).trans ?_
 simp only [bn,h,cond_true]
 try rfl
theorem ajb:bH Tryz.prog 124 apW:=by
 refine aK (aT ((fK.nil _).cons ap4)) (E:=arK) Tryz.func124 [] (by kernel_rfl) none0 fun a _ h=>?_
 obtain ⟨l,id⟩:=a
 have h:Nat.ble l.length 1000=true:=h
 refine (arL l id).trans ?_
 simp only [bn,h,cond_true]
 try rfl
theorem Yi:bH Tryz.prog 51 aa9:=by
 refine aK (aT ((((fK.nil _).cons D7).cons aiX).cons SV)) (E:=ai6) Tryz.func51 [] (by kernel_rfl) none0 fun l _ h=>?_
 obtain ⟨h1,h2,h3⟩:=oC h
 refine (amW l).trans ?_
 show _=some (⟨.fE [.agg (gu.enc (N.o7 l).1),.agg (aj.enc (N.o7 l).2.1),.bool (N.o7 l).2.2],[],[]⟩:aH)
 unfold N.o7
 simp only [bn]
 rcases nS N.isReady l 0 (Int.le_refl _) with ⟨e,_⟩ | ⟨k,e,hk,_⟩
 .rw [e]
  simp (disch:=omega) only [evs,h2]
  try rfl
 .rw [Int.zero_add] at e
  have hg:=lX aj (N.setAt N.vF l k) k fA (by rw [Jw]; exact hk)
  rw [afh N.vF hk] at hg
  have hs:dR (N.vF (l.getD k fA))=true:=O5 h3 hk
  have ga:o9 l k=true:=by unfold o9; rw [dX (by omega),dK (by omega),h2]; rfl
  rw [e]
  simp (disch:=omega) only [evs,h2,ga,Int.toNat_natCast,Jw,hg,iU,aj.de,hs,o8,Fq]
  try rfl
theorem Yj:bH Tryz.prog 71 abb:=by
 refine aK (aT (((fK.nil _).cons aiZ).cons ajb)) (E:=ai7) Tryz.func71 [] (by kernel_rfl) none0 fun a _ h=>?_
 obtain ⟨l,id⟩:=a
 obtain ⟨h1,h2,h3⟩:=oC (l:=l) h
 refine (amX l id).trans ?_
 show _=some (⟨.fE [.agg (gu.enc (N.uO l id).1),.int .i64 (N.uO l id).2],[],[]⟩:aH)
 unfold N.uO
 simp only [bn]
 rcases nS (N.isId id) l 0 (Int.le_refl _) with ⟨e,_⟩ | ⟨k,e,hk,_⟩
 .rw [e]
  simp (disch:=omega) only [evs,h2]
  try rfl
 .rw [Int.zero_add] at e
  have hg:=lX aj l k fA hk
  have ga:o9 l k=true:=by unfold o9; rw [dX (by omega),dK (by omega),h2]; rfl
  rw [e]
  simp (disch:=omega) only [evs,h2,ga,Int.toNat_natCast,hg]
  show cond (!(l.getD k fA).eF) _ _=_
  cases (l.getD k fA).eF<;>rfl
theorem O6:bH Tryz.prog 47 O1:=by
 refine aK (aT ((((fK.nil _).cons OU).cons D7).cons ajb)) (E:=Yh) Tryz.func47 [] (by kernel_rfl) none0 fun a _ h=>?_
 obtain ⟨l,id⟩:=a
 obtain ⟨h1,h2,h3⟩:=oC (l:=l) h
 refine (afg l id).trans ?_
 show _=some (⟨.fE [.agg (gu.enc (N.eP l id).1),.agg (aj.enc (N.eP l id).2.1),.int .i64 (N.eP l id).2.2],[],[]⟩:aH)
 unfold N.eP
 simp only [bn]
 rcases nS (N.isId id) l 0 (Int.le_refl _) with ⟨e,_⟩ | ⟨k,e,hk,_⟩
 .rw [e]
  simp (disch:=omega) only [evs,h2]
  try rfl
 .rw [Int.zero_add] at e
  have hg:=lX aj l k fA hk
  have hs:dR (l.getD k fA)=true:=O5 h3 hk
  rw [e]
  have w:IntKind.wrap .i64 ((k:Int)+1)=(k:Int)+1:=dY (by omega) (by omega)
  have e1:((k:Int)+1).toNat=k+1:=by omega
  have t1:(l.map aj.enc).take l.length=l.map aj.enc:=List.take_of_length_le (by rw [List.length_map]; exact Nat.le_refl _)
  have hl:(l.take k).length+((l.drop (k+1)).length+0)<=100000:=by simp; omega
  have hb:Nat.ble ((l.take k).length+((l.drop (k+1)).length+0)) 100000=true:=dN hl
  simp (disch:=omega) only [evs,h2,Int.toNat_natCast,hg,iU,aj.de,hs,o8,Fq,w,e1,t1,List.drop_zero,<- List.map_take,<- List.map_drop,bn,Cj,hb]
  try rfl
theorem Yk:bH Tryz.prog 121 abd:=by
 refine aK (aT ((fK.nil _).cons uN)) (E:=ai8) Tryz.func121 [] (by kernel_rfl) none0 fun a _ h=>?_
 obtain ⟨l,k⟩:=a
 obtain ⟨h,h4⟩:=aP h
 obtain ⟨h1,h2,h3⟩:=oC (l:=l) h
 have h4:cond (aZ k 0) true (aZ k l.length)=true:=h4
 refine (amY l k).trans ?_
 show _=some (⟨.fE [.agg (ak.enc (N.lS l k).1),.bool (N.lS l k).2],[],[]⟩:aH)
 unfold N.lS
 cases hk:aZ k 0 with
 | true=>rfl
 | false =>
  rw [hk] at h4
  have h4:k<l.length:=jZ h4
  have hk:=fD hk
  have hg:=lX aj l k.toNat fA (by omega)
  have hs:dA (l.getD k.toNat fA).aQ=true:=O5 h3 (by omega)
  simp (disch:=omega) only [evs,hg,kG,ac5,SQ,aj.de,hs]
theorem SX:bH Tryz.prog 46 Vy:=by
 refine aK (aT (((fK.nil _).cons Yk).cons SV)) (E:=ado) Tryz.func46 [] (by kernel_rfl) none0 fun l _ h=>?_
 have h:ig l=true:=h
 obtain ⟨h1,h2,h3⟩:=oC h
 refine (ai9 l).trans ?_
 show _=some (⟨.fE [.agg (ak.enc (N.fF l).1),.bool (N.fF l).2],[],[]⟩:aH)
 have hg:wI l (N.ix N.isReady l 0)=true:=by
  unfold wI
  rw [h]
  rcases nS N.isReady l 0 (Int.le_refl _) with ⟨e,_⟩ | ⟨k,e,hk,_⟩
  .rw [e]; rfl
  .rw [e,iG (by omega),dK (by omega)]; rfl
 unfold N.fF
 simp (disch:=omega) only [evs,bn,h2,hg,um,fO,He]
theorem Vz:bH Tryz.prog 15 adl:=by
 refine aK (aT (fK.nil _)) (E:=xM) Tryz.func15 [] (by kernel_rfl) none0 fun l _ _=>?_
 refine (ap5 l).trans ?_
 rw [List.length_map]; rfl
theorem ajc:bH Tryz.prog 142 O4:=by
 refine aK (aT ((fK.nil _).cons Kq)) (E:=aja) Tryz.func142 [] (by kernel_rfl) none0 fun a _ h=>?_
 obtain ⟨a,b⟩:=a
 have h:dA a.aQ=true:=h
 refine (amZ a b).trans ?_
 show _=some (⟨.bool (N.sG a b),[],[]⟩:aH)
 unfold N.sG
 simp only [um,h,cond_true]
 cases N.iP a.aQ b.aQ<;>cases a.eF==b.eF<;>rfl
theorem adp:bH Tryz.prog 49 aiP:=by
 refine aK (aT ((fK.nil _).cons adk)) (E:=aow) Tryz.func49 [] (by kernel_rfl) none0 fun a _ h=>?_
 obtain ⟨l,m⟩:=a
 obtain ⟨h1,h2⟩:=aP h
 have h1:Nat.ble l.length 1000=true:=h1
 have h2:dR ⟨m,false,false⟩=true:=h2
 refine (apY l m).trans ?_
 simp only [bn,um,h1,h2,cond_true]
 try rfl
end Go.Ev

namespace Go.Ev
open Go Go.Proofs
set_option maxRecDepth 100000
-- FOLD
def aoy:EP Int where
 ok:=fun | .gB [.int k _]=>decide (k = .u64) | _=>false
 enc t:=.gB [.int .u64 t]
 dec:=fun | .gB [.int _ n]=>n | _=>0
 ed _:=⟨rfl,rfl⟩
 law w I ρ v x h hx:=by
  split at h
  .have:=of_decide_eq_true h; subst this
   exact hx
  .cases h
def arM (f:FuncId):EP Int where
 ok:=fun | .fn g [] [.gB [.int k _]]=>cond (Nat.beq f g) (decide (k = .u64)) false | _=>false
 enc t:=.fn f [] [.gB [.int .u64 t]]
 dec:=fun | .fn _ _ [.gB [.int _ n]]=>n | _=>0
 ed _:=⟨by show cond (Nat.beq f f) true false=true; rw [Nat.beq_refl]; rfl,rfl⟩
 law w I ρ v x h hx:=by
  split at h
  .obtain ⟨h1,h2⟩:=aP h
   have:=Nat.eq_of_beq_eq_true h1; subst this
   have:=of_decide_eq_true h2; subst this
   exact hx
  .cases h
def am0 (f:FuncId):UY Int where
 ok:=fun | [[.fn g [] [.gB [.int k _]]]]=>cond (Nat.beq f g) (decide (k = .u64)) false | _=>false
 enc t:=[[.fn f [] [.gB [.int .u64 t]]]]
 dec:=fun | [[.fn _ _ [.gB [.int _ n]]]]=>n | _=>0
 len bx h:=by
  split at h
  .rfl
  .cases h
 law bx h j cs cs' hj hj':=by
  split at h
  .rename_i g k t
   obtain ⟨h1,h2⟩:=aP h
   have:=Nat.eq_of_beq_eq_true h1; subst this
   have:=of_decide_eq_true h2; subst this
   have e:cs' = cs:=by rw [hj] at hj'; exact (Option.some.inj hj').symm
   subst e
   exact ⟨rfl,fun w J ρ k y hk hy val hv hall=>hy⟩
  .cases h
namespace N
def adq (t:Int) (m:ay):Bool:=cond (m.due != 0) (bU m.due t) false
end N
def ajd:Den:=den (aO (bg ak) (aW aoy)) dw (oV iF) (fun _ _=>true) fun a _=>(N.adq a.2 a.1,())
def adr (f:FuncId):Den:=den (aO (bg aj) (aW (nY 0))) (am0 f) (oV iF) (fun _ _=>true) fun a t=>(N.kX t a.1,t)
def arN (f g:FuncId):Den:=den (aO (jY aj) (aW (vFn f 0))) (am0 g) (oV (cu .i64)) (fun a _=>Nat.ble a.1.length 1000) fun a t=>(N.ix (N.kX t) a.1 0,t)
def Yl (g:FuncId):Den:=den (aO (bg gu) (aW (arM g))) dw (oV (cu .i64)) (fun a _=>Nat.ble a.1.length 1000) fun a _=>(N.ix (N.kX a.2) a.1 0,())
def aje:Den:=den (aO (bg gu) (aW (cu .u64))) dw (nP (aO (bg ak) (aW iF))) (fun a _=>ig a.1) fun a _=>(N.wH a.1 a.2,())
theorem am1 (m:ay) (t:Int):bM xM 188 ((aO (bg ak) (aW aoy)).enc (m,t)) ([]) some =
 cond (ay.due m != 0) (some {v:=.bool (bU m.due t),bx:=[]:aH}) (some {v:=.bool false,bx:=[]:aH}):=by kernel_rfl
noncomputable def ads:Env:=env Tryz.prog [(188,ajd)] [] []
theorem ajf (x:aG) (t:Int):bM ads 173 ((aO (bg aj) (aW (nY 0))).enc (x,())) ((am0 188).enc t) some =
 cond (!aG.eF x) (some {v:=.bool (N.adq t {id:=ay.id x.aQ,bT:=ay.bT x.aQ,key:=ay.key x.aQ,head:=List.map yD (List.map yE (ay.head x.aQ)),body:=ay.body x.aQ,due:=ay.due x.aQ,hops:=ay.hops x.aQ:ay}),bx:=[[V.fn 188 [] [V.gB [V.int .u64 t]]]]:aH}) (some {v:=.bool false,bx:=[[V.fn 188 [] [V.gB [V.int .u64 t]]]]:aH}):=by kernel_rfl
noncomputable def Ym:Env:=env Tryz.prog [(172,arN 173 188)] [] []
theorem afi (l:List aG) (t:Int):bM Ym 122 ((aO (bg gu) (aW (arM 188))).enc (l,t)) ([]) some =
 cond (Nat.ble (List.length (List.map (ah.dec aj) (List.map (ah.enc aj) l))) 1000) (some {v:=.int .i64 (N.ix (N.kX t) (List.map (ah.dec aj) (List.map (ah.enc aj) l)) 0),bx:=[]:aH}) none:=by kernel_rfl
noncomputable def ajg:Env:={ env Tryz.prog [(122,Yl 188),(121,abd)] [] [] with cb:=fun d=>Nat.beq d 3 }
theorem am2 (l:List aG) (t:Int):type_of% (by
  have h:bM ajg 157 ((aO (bg gu) (aW (cu .u64))).enc (l,t)) ([]) some =(
   let z1:=(List.map (ah.dec aj) (List.map (ah.enc aj) l));let z0:=(N.lS z1 (N.ix (N.kX t) z1 0));cond (Nat.ble (List.length z1) 1000) (cond (wI z1 (N.ix (N.kX t) z1 0)) (some {v:=.fE [V.agg [V.int .u64 (ay.id z0.1),.str (ay.bT z0.1),.str (ay.key z0.1),.slc yP (List.map yE (ay.head z0.1)),.str (ay.body z0.1),.int .u64 (ay.due z0.1),.int .u8 (ay.hops z0.1)],.bool z0.2],bx:=[]:aH}) none) none):=by kernel_rfl
  dsimp only at h;exact h):=by kernel_rfl
theorem ajh:bH Tryz.prog 188 ajd:=by
 refine aK (aT (fK.nil _)) (E:=xM) Tryz.func188 [] (by kernel_rfl) none0 fun a _ _=>?_
 obtain ⟨m,t⟩:=a
 refine (am1 m t).trans ?_
 show _=some (⟨.bool (N.adq t m),[],[]⟩:aH)
 unfold N.adq
 cases m.due != 0<;>rfl
theorem afj:bH Tryz.prog 173 (adr 188):=by
 refine aK (aT ((fK.nil _).cons ajh)) (E:=ads) Tryz.func173 [] (by kernel_rfl) none0 fun a t _=>?_
 obtain ⟨x,⟨⟩⟩:=a
 refine (ajf x t).trans ?_
 show _=some (⟨.bool (N.kX t x),[[V.fn 188 [] [.gB [.int .u64 t]]]],[]⟩:aH)
 unfold N.kX
 cases x.eF<;>rfl
def ap6:fP:={ fr:=[(0,.slc yI),(1,.fn 173 [] [.ptr 0 0 0]),(7,.int .i64),(8,.int .i64)],tab:=[(0,.var [.fn 188 [] [.gB [.int .u64]]])] }
def arO:List Leaf->(Ex->St->Option R)->Option R
 | [.r r,.i n,.i i,.i t],K=>cond (n==r.length) (cond (i==0) (cond (Nat.ble r.length 1000) (cond (bU 0 (N.ix (N.kX t) (r.map aj.dec) 0)) (K .ret { fr:=[(4,.int .i64 (N.ix (N.kX t) (r.map aj.dec) 0))],tab:=[(0,.var [.fn 188 [] [.gB [.int .u64 t]]])] }) (K (.exit 0) { fr:=[],tab:=[(0,.var [.fn 188 [] [.gB [.int .u64 t]]])] })) none) none) none
 | _,_=>none
noncomputable def am3:Env:=env Tryz.prog [(173,adr 188)] [(2,dJ ap6 arO)] [(2,[(0,[0,1,7,8]),(1,[]),(1000,[4])])]
theorem arP (l:List aG) (t:Int):bM am3 172 ((aO (jY aj) (aW (vFn 173 0))).enc (l,())) ((am0 188).enc t) some =
 cond ((↑(List.length (List.map (ah.enc aj) l)):Int)==(↑(List.length (List.map (ah.enc aj) l)):Int)) (cond (Nat.ble (List.length (List.map (ah.enc aj) l)) 1000) (cond (bU 0 (N.ix (N.kX t) (List.map (ah.dec aj) (List.map (ah.enc aj) l)) 0)) (some {v:=.int .i64 (N.ix (N.kX t) (List.map (ah.dec aj) (List.map (ah.enc aj) l)) 0),bx:=[[V.fn 188 [] [V.gB [V.int .u64 t]]]]:aH}) (some {v:=.int .i64 (-1:Int),bx:=[[V.fn 188 [] [V.gB [V.int .u64 t]]]]:aH})) none) none:=by kernel_rfl
theorem abe (r:List (List V)) (n i:Int) (t:Int) (K:Ex->St->Option R):bI am3 172 2 { fr:=[(0,.slc yI r),(1,.fn 173 [] [.ptr 0 0 0 0]),(7,.int .i64 n),(8,.int .i64 i)],tab:=[(0,.var [.fn 188 [] [.gB [.int .u64 t]]])] } K =
 cond (aZ i n) (cond (decide (0<=i∧i<(↑(List.length r):Int))) (cond (N.kX t (aj.dec (List.getD r (Int.toNat i) []))) (K .ret {fr:=[(4,.int .i64 i)],tab:=[(0,.var [V.fn 188 [] [V.gB [V.int .u64 t]]])]:St}) (K .normal {fr:=[(0,.slc yI r),(1,.fn 173 [] [V.ptr 0 0 0 0]),(7,.int .i64 n),(8,.int .i64 (IntKind.wrap .i64 (i+1)))],tab:=[(0,.var [V.fn 188 [] [V.gB [V.int .u64 t]]])]:St})) none) (K (.exit 0) {fr:=[],tab:=[(0,.var [V.fn 188 [] [V.gB [V.int .u64 t]]])]:St}):=by kernel_rfl
theorem ap7:bH Tryz.prog 172 (arN 173 188):=by
 refine aK (aT ((fK.nil _).cons afj)) (E:=am3) Tryz.func172 [2] (by kernel_rfl) (one1 (bf rfl fun l K q h=>?_)) fun a t hp=>?_
 .unfold arO at h
  split at h
  .rename_i r n i t
   replace h:=Lm h;obtain ⟨h1,h2,h3,h⟩:=h
   have e1:=aY h1
   have e2:=aY h2
   subst e1 e2
   have h3:r.length<=1000:=aX h3
   have main:=dD (E:=am3) (f:=172) (id:=2) (σ:=Nat) (fun i=>{ fr:=[(0,.slc yI r),(1,.fn 173 [] [.ptr 0 0 0 0]),(7,.int .i64 r.length),(8,.int .i64 (i:Int))],tab:=[(0,.var [.fn 188 [] [.gB [.int .u64 t]]])] }) (fun i=>i<=r.length) (fun i=>r.length-i)
    (fun i K=>cond (bU 0 (N.ix (N.kX t) ((r.drop i).map aj.dec) i)) (K .ret { fr:=[(4,.int .i64 (N.ix (N.kX t) ((r.drop i).map aj.dec) i))],tab:=[(0,.var [.fn 188 [] [.gB [.int .u64 t]]])] }) (K (.exit 0) { fr:=[],tab:=[(0,.var [.fn 188 [] [.gB [.int .u64 t]]])] })) (fun i hi=>?_) 0 (Nat.zero_le _) K q (by assumption)
   .exact main
   .by_cases hl:i<r.length
    .rw [oz hl,Ht]
     cases hc:(N.kX t) (aj.dec (r.getD i [])) with
     | true =>
      refine .inr ⟨.ret,{ fr:=[(4,.int .i64 ((i:Int)))],tab:=[(0,.var [.fn 188 [] [.gB [.int .u64 t]]])] },by simp,fun K=>?_,fun K=>?_⟩
      .rw [abe]
       simp (disch:=omega) only [evs,Int.toNat_natCast,iU,hc]
      .simp only [cond_true]
       rw [dX (by omega)]; rfl
     | false =>
      refine .inl ⟨i+1,hl,by omega,fun K=>?_,fun K=>rfl⟩
      rw [abe]
      simp (disch:=omega) only [evs,Int.toNat_natCast,iU,hc]
      try rfl
    .refine .inr ⟨.exit 0,{ fr:=[],tab:=[(0,.var [.fn 188 [] [.gB [.int .u64 t]]])] },by simp,fun K=>?_,fun K=>?_⟩
     .rw [abe]
      simp (disch:=omega) only [evs]
     .rw [List.drop_eq_nil_of_le (by omega)]; rfl
  .cases h
 .obtain ⟨l,⟨⟩⟩:=a
  have hp:Nat.ble l.length 1000=true:=hp
  refine (arP l t).trans ?_
  simp only [List.length_map,bn,hp,beq_self_eq_true,cond_true]
  show _=some (⟨.int .i64 (N.ix (N.kX t) l 0),[[.fn 188 [] [.gB [.int .u64 t]]]],[]⟩:aH)
  cases hc:bU 0 (N.ix (N.kX t) l 0) with
  | true=>rfl
  | false=>rw [Vx hc]; rfl
theorem abf:bH Tryz.prog 122 (Yl 188):=by
 refine aK (aT ((fK.nil _).cons ap7)) (E:=Ym) Tryz.func122 [] (by kernel_rfl) none0 fun a _ h=>?_
 obtain ⟨l,t⟩:=a
 have h:Nat.ble l.length 1000=true:=h
 refine (afi l t).trans ?_
 simp only [bn,h,cond_true]
 try rfl
theorem aji:bH Tryz.prog 157 aje:=by
 refine aK (aT (((fK.nil _).cons Yk).cons abf)) (E:=ajg) Tryz.func157 [] (by kernel_rfl) none0 fun a _ h=>?_
 obtain ⟨l,t⟩:=a
 have h:ig l=true:=h
 obtain ⟨h1,h2,h3⟩:=oC h
 refine (am2 l t).trans ?_
 show _=some (⟨.fE [.agg (ak.enc (N.wH l t).1),.bool (N.wH l t).2],[],[]⟩:aH)
 have hg:wI l (N.ix (N.kX t) l 0)=true:=by
  unfold wI
  rw [h]
  rcases nS (N.kX t) l 0 (Int.le_refl _) with ⟨e,_⟩ | ⟨k,e,hk,_⟩
  .rw [e]; rfl
  .rw [e,iG (by omega),dK (by omega)]; rfl
 unfold N.wH
 simp (disch:=omega) only [evs,bn,hg,He]
end Go.Ev

namespace Go.Ev
open Go
set_option maxRecDepth 100000
structure dZ where
 name:Bytes
 most:Int
 life:Int
 dead:Bytes
structure dW where
 q:dZ
 line:List aG
structure dG (α:Type) where
 a0:α
 a1:α
 a2:α
 a3:α
 a4:α
 a5:α
 a6:α
 a7:α
 a8:α
 a9:α
 a10:α
 a11:α
 a12:α
 Hu:α
 Hw:α
 Hy:α
structure aF where
 next:Int
 bytes:Int
 rows:List dW
 rises:dG aC
def abg (r:List V):dZ:=⟨(r.getD 0 .undef).toStr,(r.getD 1 .undef).toInt,(r.getD 2 .undef).toInt,(r.getD 3 .undef).toStr⟩
def lT:ah dZ:=((qA.and ((rM .u64).and ((rM .u64).and qA))).iso (fun p=>(⟨p.1,p.2.1,p.2.2.1,p.2.2.2⟩:dZ)) (fun o=>(o.name,o.most,o.life,o.dead)) (fun _=>rfl) fun _=>rfl).spelt
 yQ (fun q=>[.str q.name,.int .u64 q.most,.int .u64 q.life,.str q.dead]) abg rfl (fun _=>rfl) fun r=>by
  show (⟨((r.take 1).getD 0 .undef).toStr,(((r.drop 1).take 1).getD 0 .undef).toInt,((((r.drop 1).drop 1).take 1).getD 0 .undef).toInt,(((r.drop 1).drop 1).drop 1 |>.getD 0 .undef).toStr⟩:dZ)=abg r
  simp only [ou,uh]; rfl
def ap8 (r:List V):dW:=⟨abg r,(r.getD 4 .undef).toRows.map aj.dec⟩
def aS:ah dW:=((lT.and (uZ aj)).iso (fun p=>(⟨p.1,p.2⟩:dW)) (fun o=>(o.q,o.line)) (fun _=>rfl) fun _=>rfl).spelt
 yR (fun x=>[.str x.q.name,.int .u64 x.q.most,.int .u64 x.q.life,.str x.q.dead,.slc yI (x.line.map aj.enc)])
 ap8 rfl (fun _=>rfl) fun r=>by
  show (⟨abg (r.take 4),((r.drop 4).getD 0 .undef).toRows.map aj.dec⟩:dW)=ap8 r
  unfold ap8 abg
  rw [jo (by decide),jo (by decide),jo (by decide),jo (by decide),lH]
def asA {α:Type} (c:ah α):ah (dG α):=(c.and (c.and (c.and (c.and (c.and (c.and (c.and (c.and (c.and (c.and (c.and (c.and (c.and (c.and (c.and c))))))))))))))).iso (fun p=>(⟨p.1,p.2.1,p.2.2.1,p.2.2.2.1,p.2.2.2.2.1,p.2.2.2.2.2.1,p.2.2.2.2.2.2.1,p.2.2.2.2.2.2.2.1,p.2.2.2.2.2.2.2.2.1,p.2.2.2.2.2.2.2.2.2.1,p.2.2.2.2.2.2.2.2.2.2.1,p.2.2.2.2.2.2.2.2.2.2.2.1,p.2.2.2.2.2.2.2.2.2.2.2.2.1,p.2.2.2.2.2.2.2.2.2.2.2.2.2.1,p.2.2.2.2.2.2.2.2.2.2.2.2.2.2.1,p.2.2.2.2.2.2.2.2.2.2.2.2.2.2.2⟩:dG α)) (fun o=>(o.a0,o.a1,o.a2,o.a3,o.a4,o.a5,o.a6,o.a7,o.a8,o.a9,o.a10,o.a11,o.a12,o.Hu,o.Hw,o.Hy)) (fun _=>rfl) fun _=>rfl
def qY (r:List V) (j:Nat):aC:=⟨(r.getD j .undef).toInt,(r.getD (j+1) .undef).toRows.map ak.dec⟩
def ajj (r:List V):aF:=⟨(r.getD 0 .undef).toInt,(r.getD 1 .undef).toInt,(r.getD 2 .undef).toRows.map aS.dec,⟨qY r 3,qY r 5,qY r 7,qY r 9,qY r 11,qY r 13,qY r 15,qY r 17,qY r 19,qY r 21,qY r 23,qY r 25,qY r 27,qY r 29,qY r 31,qY r 33⟩⟩
theorem afk {r:List V} {k:Nat}:jM ((r.drop k).take 2)=qY r k:=by
 unfold jM qY
 rw [jo (by decide),jo (by decide),lH,lH]; rfl
theorem afl {r:List V} {k:Nat}:jM (r.drop k)=qY r k:=by
 unfold jM qY
 rw [lH,lH]; rfl
theorem iQ {r:List V} {k n i:Nat} (h:i<n):((r.drop k).take n).getD i .undef=r.getD (k+i) .undef:=by
 rw [jo h,lH]
def eU (a:dG aC):List V:=[.int .u64 a.a0.total,.slc yM (a.a0.kept.map ak.enc),.int .u64 a.a1.total,.slc yM (a.a1.kept.map ak.enc),.int .u64 a.a2.total,.slc yM (a.a2.kept.map ak.enc),.int .u64 a.a3.total,.slc yM (a.a3.kept.map ak.enc),.int .u64 a.a4.total,.slc yM (a.a4.kept.map ak.enc),.int .u64 a.a5.total,.slc yM (a.a5.kept.map ak.enc),.int .u64 a.a6.total,.slc yM (a.a6.kept.map ak.enc),.int .u64 a.a7.total,.slc yM (a.a7.kept.map ak.enc),.int .u64 a.a8.total,.slc yM (a.a8.kept.map ak.enc),.int .u64 a.a9.total,.slc yM (a.a9.kept.map ak.enc),.int .u64 a.a10.total,.slc yM (a.a10.kept.map ak.enc),.int .u64 a.a11.total,.slc yM (a.a11.kept.map ak.enc),.int .u64 a.a12.total,.slc yM (a.a12.kept.map ak.enc),.int .u64 a.Hu.total,.slc yM (a.Hu.kept.map ak.enc),.int .u64 a.Hw.total,.slc yM (a.Hw.kept.map ak.enc),.int .u64 a.Hy.total,.slc yM (a.Hy.kept.map ak.enc)]
def au:ah aF:=(((rM .u64).and ((rM .i64).and ((uZ aS).and (asA bD)))).iso (fun p=>(⟨p.1,p.2.1,p.2.2.1,p.2.2.2⟩:aF)) (fun o=>(o.next,o.bytes,o.rows,o.rises)) (fun _=>rfl) fun _=>rfl).spelt
 [.int .u64,.int .i64,.slc yR,.int .u64,.slc yM,.int .u64,.slc yM,.int .u64,.slc yM,.int .u64,.slc yM,.int .u64,.slc yM,.int .u64,.slc yM,.int .u64,.slc yM,.int .u64,.slc yM,.int .u64,.slc yM,.int .u64,.slc yM,.int .u64,.slc yM,.int .u64,.slc yM,.int .u64,.slc yM,.int .u64,.slc yM,.int .u64,.slc yM,.int .u64,.slc yM]
 (fun s=>(.int .u64 s.next::.int .i64 s.bytes::.slc yR (s.rows.map aS.enc)::eU s.rises))
 ajj rfl (fun _=>rfl) fun r=>by
  show (⟨((r.take 1).getD 0 .undef).toInt,(((r.drop 1).take 1).getD 0 .undef).toInt,((((r.drop 1).drop 1).take 1).getD 0 .undef).toRows.map aS.dec,⟨jM ((((r.drop 1).drop 1).drop 1).take 2),jM (((((r.drop 1).drop 1).drop 1).drop 2).take 2),jM ((((((r.drop 1).drop 1).drop 1).drop 2).drop 2).take 2),jM (((((((r.drop 1).drop 1).drop 1).drop 2).drop 2).drop 2).take 2),jM ((((((((r.drop 1).drop 1).drop 1).drop 2).drop 2).drop 2).drop 2).take 2),jM (((((((((r.drop 1).drop 1).drop 1).drop 2).drop 2).drop 2).drop 2).drop 2).take 2),jM ((((((((((r.drop 1).drop 1).drop 1).drop 2).drop 2).drop 2).drop 2).drop 2).drop 2).take 2),jM (((((((((((r.drop 1).drop 1).drop 1).drop 2).drop 2).drop 2).drop 2).drop 2).drop 2).drop 2).take 2),jM ((((((((((((r.drop 1).drop 1).drop 1).drop 2).drop 2).drop 2).drop 2).drop 2).drop 2).drop 2).drop 2).take 2),jM (((((((((((((r.drop 1).drop 1).drop 1).drop 2).drop 2).drop 2).drop 2).drop 2).drop 2).drop 2).drop 2).drop 2).take 2),jM ((((((((((((((r.drop 1).drop 1).drop 1).drop 2).drop 2).drop 2).drop 2).drop 2).drop 2).drop 2).drop 2).drop 2).drop 2).take 2),jM (((((((((((((((r.drop 1).drop 1).drop 1).drop 2).drop 2).drop 2).drop 2).drop 2).drop 2).drop 2).drop 2).drop 2).drop 2).drop 2).take 2),jM ((((((((((((((((r.drop 1).drop 1).drop 1).drop 2).drop 2).drop 2).drop 2).drop 2).drop 2).drop 2).drop 2).drop 2).drop 2).drop 2).drop 2).take 2),jM (((((((((((((((((r.drop 1).drop 1).drop 1).drop 2).drop 2).drop 2).drop 2).drop 2).drop 2).drop 2).drop 2).drop 2).drop 2).drop 2).drop 2).drop 2).take 2),jM ((((((((((((((((((r.drop 1).drop 1).drop 1).drop 2).drop 2).drop 2).drop 2).drop 2).drop 2).drop 2).drop 2).drop 2).drop 2).drop 2).drop 2).drop 2).drop 2).take 2),jM ((((((((((((((((((r.drop 1).drop 1).drop 1).drop 2).drop 2).drop 2).drop 2).drop 2).drop 2).drop 2).drop 2).drop 2).drop 2).drop 2).drop 2).drop 2).drop 2).drop 2)⟩⟩:aF)=ajj r
  simp only [List.drop_drop,afk,afl,ou,lH]
  try rfl
def dO:List Sh:=yM
def abh:List Sh:=yI
def CP:List Sh:=yR
def nT:List Sh:=yQ
def jD:List Sh:=[.int .u64,.slc dO,.int .u64,.slc dO,.int .u64,.slc dO,.int .u64,.slc dO,.int .u64,.slc dO,.int .u64,.slc dO,.int .u64,.slc dO,.int .u64,.slc dO,.int .u64,.slc dO,.int .u64,.slc dO,.int .u64,.slc dO,.int .u64,.slc dO,.int .u64,.slc dO,.int .u64,.slc dO,.int .u64,.slc dO,.int .u64,.slc dO]
def aA:List Sh:=.int .u64::.int .i64::.slc CP::jD
def reA (a:dG aC):dG aC:=⟨bD.dec (bD.enc a.a0),bD.dec (bD.enc a.a1),bD.dec (bD.enc a.a2),bD.dec (bD.enc a.a3),bD.dec (bD.enc a.a4),bD.dec (bD.enc a.a5),bD.dec (bD.enc a.a6),bD.dec (bD.enc a.a7),bD.dec (bD.enc a.a8),bD.dec (bD.enc a.a9),bD.dec (bD.enc a.a10),bD.dec (bD.enc a.a11),bD.dec (bD.enc a.a12),bD.dec (bD.enc a.Hu),bD.dec (bD.enc a.Hw),bD.dec (bD.enc a.Hy)⟩
theorem ap9 (a:dG aC):reA a=a:=by
 unfold reA
 simp only [bD.de]
def setCells (a:dG aC) (i:Nat) (v:aC):List V:=[.int .u64 (cond (Nat.beq i 0) v.total a.a0.total),.slc dO (cond (Nat.beq i 0) (v.kept.map ak.enc) (a.a0.kept.map ak.enc)),.int .u64 (cond (Nat.beq i 1) v.total a.a1.total),.slc dO (cond (Nat.beq i 1) (v.kept.map ak.enc) (a.a1.kept.map ak.enc)),.int .u64 (cond (Nat.beq i 2) v.total a.a2.total),.slc dO (cond (Nat.beq i 2) (v.kept.map ak.enc) (a.a2.kept.map ak.enc)),.int .u64 (cond (Nat.beq i 3) v.total a.a3.total),.slc dO (cond (Nat.beq i 3) (v.kept.map ak.enc) (a.a3.kept.map ak.enc)),.int .u64 (cond (Nat.beq i 4) v.total a.a4.total),.slc dO (cond (Nat.beq i 4) (v.kept.map ak.enc) (a.a4.kept.map ak.enc)),.int .u64 (cond (Nat.beq i 5) v.total a.a5.total),.slc dO (cond (Nat.beq i 5) (v.kept.map ak.enc) (a.a5.kept.map ak.enc)),.int .u64 (cond (Nat.beq i 6) v.total a.a6.total),.slc dO (cond (Nat.beq i 6) (v.kept.map ak.enc) (a.a6.kept.map ak.enc)),.int .u64 (cond (Nat.beq i 7) v.total a.a7.total),.slc dO (cond (Nat.beq i 7) (v.kept.map ak.enc) (a.a7.kept.map ak.enc)),.int .u64 (cond (Nat.beq i 8) v.total a.a8.total),.slc dO (cond (Nat.beq i 8) (v.kept.map ak.enc) (a.a8.kept.map ak.enc)),.int .u64 (cond (Nat.beq i 9) v.total a.a9.total),.slc dO (cond (Nat.beq i 9) (v.kept.map ak.enc) (a.a9.kept.map ak.enc)),.int .u64 (cond (Nat.beq i 10) v.total a.a10.total),.slc dO (cond (Nat.beq i 10) (v.kept.map ak.enc) (a.a10.kept.map ak.enc)),.int .u64 (cond (Nat.beq i 11) v.total a.a11.total),.slc dO (cond (Nat.beq i 11) (v.kept.map ak.enc) (a.a11.kept.map ak.enc)),.int .u64 (cond (Nat.beq i 12) v.total a.a12.total),.slc dO (cond (Nat.beq i 12) (v.kept.map ak.enc) (a.a12.kept.map ak.enc)),.int .u64 (cond (Nat.beq i 13) v.total a.Hu.total),.slc dO (cond (Nat.beq i 13) (v.kept.map ak.enc) (a.Hu.kept.map ak.enc)),.int .u64 (cond (Nat.beq i 14) v.total a.Hw.total),.slc dO (cond (Nat.beq i 14) (v.kept.map ak.enc) (a.Hw.kept.map ak.enc)),.int .u64 (cond (Nat.beq i 15) v.total a.Hy.total),.slc dO (cond (Nat.beq i 15) (v.kept.map ak.enc) (a.Hy.kept.map ak.enc))]
def iV (a:dG aC):List (List V):=[bD.enc a.a0,bD.enc a.a1,bD.enc a.a2,bD.enc a.a3,bD.enc a.a4,bD.enc a.a5,bD.enc a.a6,bD.enc a.a7,bD.enc a.a8,bD.enc a.a9,bD.enc a.a10,bD.enc a.a11,bD.enc a.a12,bD.enc a.Hu,bD.enc a.Hw,bD.enc a.Hy]
def bF (c:List V) (j:Nat):List (List V):=[[.int .u64 (c.getD (j+0) .undef).toInt,.slc dO (c.getD (j+1) .undef).toRows],[.int .u64 (c.getD (j+2) .undef).toInt,.slc dO (c.getD (j+3) .undef).toRows],[.int .u64 (c.getD (j+4) .undef).toInt,.slc dO (c.getD (j+5) .undef).toRows],[.int .u64 (c.getD (j+6) .undef).toInt,.slc dO (c.getD (j+7) .undef).toRows],[.int .u64 (c.getD (j+8) .undef).toInt,.slc dO (c.getD (j+9) .undef).toRows],[.int .u64 (c.getD (j+10) .undef).toInt,.slc dO (c.getD (j+11) .undef).toRows],[.int .u64 (c.getD (j+12) .undef).toInt,.slc dO (c.getD (j+13) .undef).toRows],[.int .u64 (c.getD (j+14) .undef).toInt,.slc dO (c.getD (j+15) .undef).toRows],[.int .u64 (c.getD (j+16) .undef).toInt,.slc dO (c.getD (j+17) .undef).toRows],[.int .u64 (c.getD (j+18) .undef).toInt,.slc dO (c.getD (j+19) .undef).toRows],[.int .u64 (c.getD (j+20) .undef).toInt,.slc dO (c.getD (j+21) .undef).toRows],[.int .u64 (c.getD (j+22) .undef).toInt,.slc dO (c.getD (j+23) .undef).toRows],[.int .u64 (c.getD (j+24) .undef).toInt,.slc dO (c.getD (j+25) .undef).toRows],[.int .u64 (c.getD (j+26) .undef).toInt,.slc dO (c.getD (j+27) .undef).toRows],[.int .u64 (c.getD (j+28) .undef).toInt,.slc dO (c.getD (j+29) .undef).toRows],[.int .u64 (c.getD (j+30) .undef).toInt,.slc dO (c.getD (j+31) .undef).toRows]]
def iW:aF:=⟨0,0,[],⟨iC,iC,iC,iC,iC,iC,iC,iC,iC,iC,iC,iC,iC,iC,iC,iC⟩⟩
def dG.list {α:Type} (x:dG α):List α:=[x.a0,x.a1,x.a2,x.a3,x.a4,x.a5,x.a6,x.a7,x.a8,x.a9,x.a10,x.a11,x.a12,x.Hu,x.Hw,x.Hy]
def dG.set {α:Type} (x:dG α) (i:Nat) (v:α):dG α:=⟨cond (Nat.beq i 0) v x.a0,cond (Nat.beq i 1) v x.a1,cond (Nat.beq i 2) v x.a2,cond (Nat.beq i 3) v x.a3,cond (Nat.beq i 4) v x.a4,cond (Nat.beq i 5) v x.a5,cond (Nat.beq i 6) v x.a6,cond (Nat.beq i 7) v x.a7,cond (Nat.beq i 8) v x.a8,cond (Nat.beq i 9) v x.a9,cond (Nat.beq i 10) v x.a10,cond (Nat.beq i 11) v x.a11,cond (Nat.beq i 12) v x.a12,cond (Nat.beq i 13) v x.Hu,cond (Nat.beq i 14) v x.Hw,cond (Nat.beq i 15) v x.Hy⟩
theorem dG.jE {α:Type} (x:dG α):x.list.length=16:=rfl
def am4 (a:dG aC) (i:Nat) (v:aC):dG aC:=⟨⟨cond (Nat.beq i 0) v.total a.a0.total,(cond (Nat.beq i 0) (v.kept.map ak.enc) (a.a0.kept.map ak.enc)).map ak.dec⟩,⟨cond (Nat.beq i 1) v.total a.a1.total,(cond (Nat.beq i 1) (v.kept.map ak.enc) (a.a1.kept.map ak.enc)).map ak.dec⟩,⟨cond (Nat.beq i 2) v.total a.a2.total,(cond (Nat.beq i 2) (v.kept.map ak.enc) (a.a2.kept.map ak.enc)).map ak.dec⟩,⟨cond (Nat.beq i 3) v.total a.a3.total,(cond (Nat.beq i 3) (v.kept.map ak.enc) (a.a3.kept.map ak.enc)).map ak.dec⟩,⟨cond (Nat.beq i 4) v.total a.a4.total,(cond (Nat.beq i 4) (v.kept.map ak.enc) (a.a4.kept.map ak.enc)).map ak.dec⟩,⟨cond (Nat.beq i 5) v.total a.a5.total,(cond (Nat.beq i 5) (v.kept.map ak.enc) (a.a5.kept.map ak.enc)).map ak.dec⟩,⟨cond (Nat.beq i 6) v.total a.a6.total,(cond (Nat.beq i 6) (v.kept.map ak.enc) (a.a6.kept.map ak.enc)).map ak.dec⟩,⟨cond (Nat.beq i 7) v.total a.a7.total,(cond (Nat.beq i 7) (v.kept.map ak.enc) (a.a7.kept.map ak.enc)).map ak.dec⟩,⟨cond (Nat.beq i 8) v.total a.a8.total,(cond (Nat.beq i 8) (v.kept.map ak.enc) (a.a8.kept.map ak.enc)).map ak.dec⟩,⟨cond (Nat.beq i 9) v.total a.a9.total,(cond (Nat.beq i 9) (v.kept.map ak.enc) (a.a9.kept.map ak.enc)).map ak.dec⟩,⟨cond (Nat.beq i 10) v.total a.a10.total,(cond (Nat.beq i 10) (v.kept.map ak.enc) (a.a10.kept.map ak.enc)).map ak.dec⟩,⟨cond (Nat.beq i 11) v.total a.a11.total,(cond (Nat.beq i 11) (v.kept.map ak.enc) (a.a11.kept.map ak.enc)).map ak.dec⟩,⟨cond (Nat.beq i 12) v.total a.a12.total,(cond (Nat.beq i 12) (v.kept.map ak.enc) (a.a12.kept.map ak.enc)).map ak.dec⟩,⟨cond (Nat.beq i 13) v.total a.Hu.total,(cond (Nat.beq i 13) (v.kept.map ak.enc) (a.Hu.kept.map ak.enc)).map ak.dec⟩,⟨cond (Nat.beq i 14) v.total a.Hw.total,(cond (Nat.beq i 14) (v.kept.map ak.enc) (a.Hw.kept.map ak.enc)).map ak.dec⟩,⟨cond (Nat.beq i 15) v.total a.Hy.total,(cond (Nat.beq i 15) (v.kept.map ak.enc) (a.Hy.kept.map ak.enc)).map ak.dec⟩⟩
theorem dG.zo {α:Type} (a:dG α) (v:α):∀ i,(a.set i v).list=a.list.set i v
 | 0=>rfl
 | 1=>rfl
 | 2=>rfl
 | 3=>rfl
 | 4=>rfl
 | 5=>rfl
 | 6=>rfl
 | 7=>rfl
 | 8=>rfl
 | 9=>rfl
 | 10=>rfl
 | 11=>rfl
 | 12=>rfl
 | 13=>rfl
 | 14=>rfl
 | 15=>rfl
 | _+16=>rfl
end Go.Ev

namespace Go.Ev
open Go Go.Proofs
set_option maxRecDepth 100000
-- FOLD
noncomputable def ajk:Env:={ env Tryz.prog [] [] [] [115] with tr:=true }
theorem am5 (n:Int):bM ajk 115 ((aO (ac3 aS) (aW (cu .i64))).enc ((),n)) ([]) some =
 cond (aZ n 0) none (cond (aZ 0 (IntKind.wrap .i64 (n-IntKind.wrap .i64 ((0 : Int)-0)))) (cond (decide (0<=IntKind.wrap .i64 (n-IntKind.wrap .i64 ((0 : Int)-0))∧IntKind.wrap .i64 (n-IntKind.wrap .i64 ((0 : Int)-0))*(↑(72:Nat):Int)<=140737488355328∧IntKind.wrap .i64 (n-IntKind.wrap .i64 ((0 : Int)-0))<=140737488355328)) (some {v:=.own 1000 0,bx:=[],nb:=[Box.sl yR [] 0]:aH}) none) (some {v:=.own 1000 0,bx:=[],nb:=[Box.sl yR [] 0]:aH})):=by kernel_rfl
theorem ajl:bH Tryz.prog 115 (SA aS):=by
 refine aK (E:=ajk) (aT (fK.nil _)) Tryz.func115 [] (by kernel_rfl) none0 fun a _ h=>?_
 obtain ⟨⟨⟩,n⟩:=a
 obtain ⟨h1,h2⟩:=aP h
 have h1:0<=n:=bQ h1
 have h2:n<=1000000:=bQ h2
 refine (am5 n).trans ?_
 have w0:IntKind.wrap .i64 ((0:Int)-0)=0:=rfl
 have w:IntKind.wrap .i64 (n-0)=n:=by rw [Int.sub_zero]; exact dY (by omega) (by omega)
 rw [w0,w]
 have d:decide (0<=n∧n*((72:Nat):Int)<=140737488355328∧n<=140737488355328)=true:=decide_eq_true (by omega)
 rw [d,iG h1]
 cases aZ 0 n<;>rfl
def Yn:fP:={ fr:=[(0,.slc [.slc yR]),(3,.int .i64),(9,.slc [.slc yR]),(10,.int .i64),(11,.int .i64)],tab:=[] }
def SY:List Leaf->(Ex->St->Option R)->Option R
 | [.r r0,.i i3,.r r9,.i i10,.i i11],K=>cond (i10==r9.length) (cond (i11==0) (cond (i3==0) (cond (Nat.ble (gI r9).length wV) (cond (Nat.ble r9.length wV)
   (K (.exit 0) { fr:=[(0,.slc [.slc yR] r0),(3,.int .i64 (gI r9).length)],tab:=[] }) none) none) none) none) none
 | _,_=>none
def VA:fP:={ fr:=[(6,.own 10000),(25,.slc [.slc yR]),(26,.int .i64),(27,.int .i64)],tab:=[(10000,.sl yR)] }
def O7:List Leaf->(Ex->St->Option R)->Option R
 | [.r r25,.i i26,.i i27,.r oW],K=>cond (i26==r25.length) (cond (i27==0) (cond (Nat.beq oW.length 0) (cond (Nat.ble (gI r25).length wV) (cond (Nat.ble r25.length wV)
   (K (.exit 2) { fr:=[(6,.own 10000 0)],tab:=[(10000,.sl yR (gI r25) 0)] }) none) none) none) none) none
 | _,_=>none
noncomputable def zq:Env:=env Tryz.prog [(115,SA aS)] [(11,dJ VA O7),(3,dJ Yn SY)] [(3,[(0,[0,3,9,10,11]),(1,[0,3]),(1000,[2])]),(11,[(0,[6,25,26,27]),(3,[6]),(1000,[2])])]
theorem afm (l:List (List dW)):bM zq 41 ((aW (jY (uZ aS))).enc l) ([]) some =
 cond ((↑(List.length (List.map (ah.enc (uZ aS)) l)):Int)==(↑(List.length (List.map (ah.enc (uZ aS)) l)):Int)) (cond (Nat.ble (List.length (gI (List.map (ah.enc (uZ aS)) l))) 1000000) (cond (Nat.ble (List.length (List.map (ah.enc (uZ aS)) l)) 1000000) (cond (bU (↑(List.length (gI (List.map (ah.enc (uZ aS)) l))):Int) 1000000) (cond ((↑(List.length (List.map (ah.enc (uZ aS)) l)):Int)==(↑(List.length (List.map (ah.enc (uZ aS)) l)):Int)) (cond (Nat.ble (List.length (gI (List.map (ah.enc (uZ aS)) l))) 1000000) (cond (Nat.ble (List.length (List.map (ah.enc (uZ aS)) l)) 1000000) (some {v:=.slc yR (gI (List.map (ah.enc (uZ aS)) l)),bx:=[]:aH}) none) none) none) none) none) none) none:=by kernel_rfl
theorem KE (r0:List (List V)) (i3:Int) (r9:List (List V)) (i10:Int) (i11:Int) (K:Ex->St->Option R):bI zq 41 3 { fr:=[(0,.slc [.slc yR] r0),(3,.int .i64 i3),(9,.slc [.slc yR] r9),(10,.int .i64 i10),(11,.int .i64 i11)],tab:=[] } K =
 cond (aZ i11 i10) (cond (decide (0<=i11∧i11<(↑(List.length r9):Int))) (cond (aZ (IntKind.wrap .i64 (i3+(↑(List.length (V.toRows (List.getD (List.getD r9 (Int.toNat i11) []) 0 V.undef))):Int))) 0) none (K .normal {fr:=[(0,.slc [.slc yR] r0),(3,.int .i64 (IntKind.wrap .i64 (i3+(↑(List.length (V.toRows (List.getD (List.getD r9 (Int.toNat i11) []) 0 V.undef))):Int)))),(9,.slc [.slc yR] r9),(10,.int .i64 i10),(11,.int .i64 (IntKind.wrap .i64 (i11+1)))],tab:=[]:St})) none) (K (.exit 0) {fr:=[(0,.slc [.slc yR] r0),(3,.int .i64 i3)],tab:=[]:St}):=by kernel_rfl
theorem Hz (r25:List (List V)) (i26:Int) (i27:Int) (oW:List (List V)) (K:Ex->St->Option R):bI zq 41 11 { fr:=[(6,.own 10000 0),(25,.slc [.slc yR] r25),(26,.int .i64 i26),(27,.int .i64 i27)],tab:=[(10000,.sl yR oW 0)] } K =
 cond (aZ i27 i26) (cond (decide (0<=i27∧i27<(↑(List.length r25):Int))) (cond (decide ((List.length oW+List.length (V.toRows (List.getD (List.getD r25 (Int.toNat i27) []) 0 V.undef)))*72<=140737488355328)) (K .normal {fr:=[(6,.own 10000 0),(25,.slc [.slc yR] r25),(26,.int .i64 i26),(27,.int .i64 (IntKind.wrap .i64 (i27+1)))],tab:=[(10000,.sl yR (oW++V.toRows (List.getD (List.getD r25 (Int.toNat i27) []) 0 V.undef)) 0)]:St}) none) none) (K (.exit 2) {fr:=[(6,.own 10000 0)],tab:=[(10000,.sl yR oW 0)]:St}):=by kernel_rfl
theorem O8:bH Tryz.prog 41 (xJ aS):=by
 refine aK (aT ((fK.nil _).cons ajl)) (E:=zq) Tryz.func41 [3,11] (by kernel_rfl) (Lp (bf rfl fun l K q h=>?_) (bf rfl fun l K q h=>?_)) fun a _ h=>?_
 .unfold SY at h
  split at h
  .rename_i r0 i3 r i10 i11
   replace h:=Ed h;obtain ⟨h1,h2,h3,h4,h5,h⟩:=h
   have e1:=aY h1
   have e2:=aY h2
   have e3:=aY h3
   subst e1 e2 e3
   have h4:(gI r).length<=1000000:=aX h4
   have h5:r.length<=1000000:=aX h5
   refine dh (E:=zq) (f:=41) (id:=3) (A:=Int) r (fun n i=>{ fr:=[(0,.slc [.slc yR] r0),(3,.int .i64 n),(9,.slc [.slc yR] r),(10,.int .i64 r.length),(11,.int .i64 i)],tab:=[] })
    (fun n i=>0<=n∧n+((gI (r.drop i)).length:Int)<=1000000)
    (fun n l K=>K (.exit 0) { fr:=[(0,.slc [.slc yR] r0),(3,.int .i64 (n+((gI l).length:Int)))],tab:=[] }) (fun n i ⟨hn,hn2⟩ hi=>?_) (fun n _=>?_) 0 0 (Int.le_refl _) (by omega) ⟨Int.le_refl _,by simp; omega⟩ K q (by simpa using h)
   .rw [jP hi,kK,List.length_append] at hn2
    have w:=dY (n:=n+((V.toRows (List.getD (r.getD i []) 0 .undef)).length:Int)) (by omega) (by omega)
    have w2:=dY (n:=(i:Int)+1) (by omega) (by omega)
    refine .inl ⟨n+((V.toRows (List.getD (r.getD i []) 0 .undef)).length:Int),⟨by omega,by omega⟩,fun K=>?_,fun K=>?_⟩
    .rw [KE,dK (by omega),decide_eq_true (by omega),Int.toNat_natCast,w,w2,iG (by omega)]
     try rfl
    .show K _ _=K _ _
     rw [kK,List.length_append,Int.natCast_add,Int.add_assoc]
   .refine ⟨.exit 0,{ fr:=[(0,.slc [.slc yR] r0),(3,.int .i64 n)],tab:=[] },by simp,fun K=>?_,fun K=>?_⟩
    .rw [KE,iG (Int.le_refl _)]
     try rfl
    .show K _ _=K _ _
     rw [show ((gI []).length:Int)=0 from rfl,Int.add_zero]
  .cases h
 .unfold O7 at h
  split at h
  .rename_i r i26 i27 acc
   replace h:=Ed h;obtain ⟨h1,h2,h3,h4,h5,h⟩:=h
   have e1:=aY h1
   have e2:=aY h2
   subst e1 e2
   have h3:acc.length=0:=Nat.eq_of_beq_eq_true h3
   obtain rfl:acc=[]:=List.length_eq_zero_iff.1 h3
   have h4:(gI r).length<=1000000:=aX h4
   have h5:r.length<=1000000:=aX h5
   refine dh (E:=zq) (f:=41) (id:=11) (A:=List (List V)) r (fun n i=>{ fr:=[(6,.own 10000 0),(25,.slc [.slc yR] r),(26,.int .i64 r.length),(27,.int .i64 i)],tab:=[(10000,.sl yR n 0)] })
    (fun n i=>n.length+(gI (r.drop i)).length<=1000000)
    (fun n l K=>K (.exit 2) { fr:=[(6,.own 10000 0)],tab:=[(10000,.sl yR (n++gI l) 0)] }) (fun n i hn hi=>?_) (fun n _=>?_) [] 0 (Int.le_refl _) (by omega) (by simp; omega) K q (by simpa using h)
   .rw [jP hi,kK,List.length_append] at hn
    have w2:=dY (n:=(i:Int)+1) (by omega) (by omega)
    refine .inl ⟨n++V.toRows (List.getD (r.getD i []) 0 .undef),by rw [List.length_append]; omega,fun K=>?_,fun K=>?_⟩
    .rw [Hz,dK (by omega),decide_eq_true (by omega),Int.toNat_natCast,w2]
     rw [decide_eq_true (by omega)]
     try rfl
    .show K _ _=K _ _
     rw [kK,List.append_assoc]
   .refine ⟨.exit 2,{ fr:=[(6,.own 10000 0)],tab:=[(10000,.sl yR n 0)] },by simp,fun K=>?_,fun K=>?_⟩
    .rw [Hz,iG (Int.le_refl _)]
     try rfl
    .show K _ _=K _ _
     rw [show gI []=[] from rfl,List.append_nil]
  .cases h
 .obtain ⟨h1,h2⟩:=aP h
  have h1:a.length<=1000:=aX h1
  have h2:vg a<=100000:=aX h2
  refine (afm a).trans ?_
  have e:(gI (a.map (uZ aS).enc)).length=vg a:=by rw [tC,List.length_map,G8]
  rw [e,List.length_map,dN (show vg a<=1000000 by omega),dN (show a.length<=1000000 by omega),dX (by omega),tC]
  rw [show (((a.length:Int))==(a.length:Int))=true from beq_self_eq_true _]
  try rfl
end Go.Ev

namespace Go.Ev
open Go Go.Proofs
set_option maxRecDepth 100000
-- FOLD
theorem HY {p:aG->Bool} {r:List (List V)} (h:(r.map aj.dec).all p=true) {i:Nat} (hi:i<r.length):p (aj.dec (r.getD i []))=true:=by
 refine List.all_eq_true.1 h _ (List.mem_map_of_mem ?_)
 rw [List.getD_eq_getElem?_getD,List.getElem?_eq_getElem hi]
 exact List.getElem_mem hi
theorem abj {r:List (List V)} {i:Nat} (h:i<r.length):((r.take (i+1)).map aj.dec).map aj.enc=((r.take i).map aj.dec).map aj.enc++[aj.enc (aj.dec (r.getD i []))]:=by
 rw [List.take_add_one,List.getD_eq_getElem?_getD,List.getElem?_eq_getElem h]
 simp only [Option.toList_some,List.map_append,List.map_cons,List.map_nil,Option.getD_some]
def am6:fP:={ fr:=[(3,.own 10000),(7,.slc yI),(8,.int .i64),(9,.int .i64)],tab:=[(10000,.sl yI)] }
def aoz:List Leaf->(Ex->St->Option R)->Option R
 | [.r r7,.i i8,.i i9,.r oW],K=>cond (i8==r7.length) (cond (i9==0) (cond (Nat.beq oW.length 0) (cond (Nat.ble r7.length 1000) (cond ((r7.map aj.dec).all dR)
   (K (.exit 0) { fr:=[(3,.own 10000 0)],tab:=[(10000,.sl yI ((r7.map aj.dec).map aj.enc) 0)] }) none) none) none) none) none
 | _,_=>none
noncomputable def adt:Env:=env Tryz.prog [(125,Hq)] [(3,dJ am6 aoz)] [(3,[(0,[3,7,8,9]),(1,[3]),(1000,[2])])]
theorem aqa (l:List aG):bM adt 97 ((aW (bg gu)).enc l) ([]) some =
 cond ((↑(List.length (List.map (ah.enc aj) l)):Int)==(↑(List.length (List.map (ah.enc aj) l)):Int)) (cond (Nat.ble (List.length (List.map (ah.enc aj) l)) 1000) (cond (List.all (List.map (ah.dec aj) (List.map (ah.enc aj) l)) dR) (some {v:=.slc yI (List.map (ah.enc aj) (List.map (ah.dec aj) (List.map (ah.enc aj) l))),bx:=[]:aH}) none) none) none:=by kernel_rfl
theorem adu (r7:List (List V)) (i8:Int) (i9:Int) (oW:List (List V)) (K:Ex->St->Option R):type_of% (by
  have h:bI adt 97 3 { fr:=[(3,.own 10000 0),(7,.slc yI r7),(8,.int .i64 i8),(9,.int .i64 i9)],tab:=[(10000,.sl yI oW 0)] } K =(
   let z0:=(List.getD r7 (Int.toNat i9) []);cond (aZ i9 i8) (cond (decide (0<=i9∧i9<(↑(List.length r7):Int))) (cond (dR (aj.dec z0)) (cond (decide ((List.length oW+1)*104<=140737488355328)) (K .normal {fr:=[(3,.own 10000 0),(7,.slc yI r7),(8,.int .i64 i8),(9,.int .i64 (IntKind.wrap .i64 (i9+1)))],tab:=[(10000,.sl yI (oW++[[V.int .u64 (V.toInt (z0.getD 0 .undef)),.str (V.toStr (z0.getD 1 .undef)),.str (V.toStr (z0.getD 2 .undef)),.slc yP (List.map yE (List.map yD (V.toRows (z0.getD 3 .undef)))),.str (V.toStr (z0.getD 4 .undef)),.int .u64 (V.toInt (z0.getD 5 .undef)),.int .u8 (V.toInt (z0.getD 6 .undef)),.bool (V.toBool (z0.getD 7 .undef)),.bool (V.toBool (z0.getD 8 .undef))]]) 0)]:St}) none) none) none) (K (.exit 0) {fr:=[(3,.own 10000 0)],tab:=[(10000,.sl yI oW 0)]:St})):=by kernel_rfl
  dsimp only at h;exact h):=by kernel_rfl
theorem adv:bH Tryz.prog 97 ai2:=by
 refine aK (aT ((fK.nil _).cons D7)) (E:=adt) Tryz.func97 [3] (by kernel_rfl) (one1 (bf rfl fun l K q h=>?_)) fun l _ hp=>?_
 .unfold aoz at h
  split at h
  .rename_i r n i o
   replace h:=Ed h;obtain ⟨h1,h2,h3,h4,h5,h⟩:=h
   have e1:=aY h1
   have e2:=aY h2
   have e3:=List.eq_nil_of_length_eq_zero (jk h3)
   subst e1 e2 e3
   have h4:r.length<=1000:=aX h4
   have main:=dh (E:=adt) (f:=97) (id:=3) (A:=Unit) r (fun _ i=>{ fr:=[(3,.own 10000 0),(7,.slc yI r),(8,.int .i64 r.length),(9,.int .i64 i)],tab:=[(10000,.sl yI (((r.take i.toNat).map aj.dec).map aj.enc) 0)] }) (fun _ _=>True)
    (fun _ _ K=>K (.exit 0) { fr:=[(3,.own 10000 0)],tab:=[(10000,.sl yI ((r.map aj.dec).map aj.enc) 0)] }) (fun _ i _ hi=>?_) (fun _ _=>?_) () 0 (Int.le_refl _) (by omega) trivial K q (by assumption)
   .exact main
   .refine .inl ⟨(),trivial,fun K=>?_,fun K=>rfl⟩
    rw [adu]
    have hl:(((r.take i).map aj.dec).map aj.enc).length=i:=by simp; omega
    have ht:=abj hi
    have hs:=HY h5 hi
    simp (disch:=omega) only [evs,Int.toNat_natCast,iU,Fq,hs,hl]
    rw [<- ht]
    try rfl
   .refine ⟨.exit 0,_,by simp,fun K=>?_,fun K=>rfl⟩
    rw [adu]
    simp (disch:=omega) only [evs,Int.toNat_natCast,List.take_length]
  .cases h
 .refine (aqa l).trans ?_
  have hp:ig l=true:=hp
  obtain ⟨_,h1,h2⟩:=oC hp
  show _=some (⟨.slc yI (l.map aj.enc),[],[]⟩:aH)
  simp only [List.length_map,bn,beq_self_eq_true,cond_true,h1,h2]
namespace N
def wakes:List aG->Nat->List aG->List aG
 | [],_,l=>l
 | x::r,k,l=>wakes r (k+1) (cond x.eF (setAt qX l k) l)
end N
theorem Yo:∀ (r pre:List aG),N.wakes r pre.length (pre++r)=pre++N.mX r
 | [],pre=>rfl
 | x::r,pre=>by
  unfold N.wakes
  have hg:(pre++x::r).getD pre.length fA=x:=by
   rw [List.getD_eq_getElem?_getD,List.getElem?_append_right (Nat.le_refl _)]
   simp
  have e:cond x.eF (N.setAt N.qX (pre++x::r) pre.length) (pre++x::r)=(pre++[N.KC x])++r:=by
   unfold N.KC
   cases x.eF with
   | true =>
    show N.setAt N.qX (pre++x::r) pre.length=_
    unfold N.setAt
    rw [hg]
    simp [List.set_append]
   | false=>simp
  have:=Yo r (pre++[N.KC x])
  rw [List.length_append] at this
  rw [e]
  rw [show pre.length+1=pre.length+[N.KC x].length from rfl,this,List.append_assoc]
  try rfl
def ajm:fP:={ fr:=[(1,.ptr 10000 0 0),(2,.ptr 10001 0 0),(6,.slc yI),(7,.int .i64),(8,.int .i64)],tab:=[(10000,.var [.slc yI]),(10001,.var [.slc yI])] }
def ajn:List Leaf->(Ex->St->Option R)->Option R
 | [.r r,.i n,.i i,.r a,.r b],K=>cond (n==r.length) (cond (i==0) (cond (Nat.beq a.length r.length) (cond (Nat.ble r.length 1000)
   (K (.exit 0) { fr:=[(1,.ptr 10000 0 0 0),(2,.ptr 10001 0 0 0)],tab:=[(10000,.var [.slc yI (cond ((r.map aj.dec).any fun x=>x.eF) ((N.wakes (r.map aj.dec) 0 (a.map aj.dec)).map aj.enc) a)]),(10001,.var [.slc yI b])] }) none) none) none) none
 | _,_=>none
noncomputable def O9:Env:={ env Tryz.prog [(129,SS 181 N.qX)] [(2,dJ ajm ajn)] [(2,[(0,[1,2,6,7,8]),(1,[1,2]),(1000,[2])])] with fz:=true }
theorem am7 (l:List aG):bM O9 138 ((aW (bg gu)).enc l) ([]) some =
 cond ((↑(List.length (List.map (ah.enc aj) l)):Int)==(↑(List.length (List.map (ah.enc aj) l)):Int)) (cond (Nat.beq (List.length (List.map (ah.enc aj) l)) (List.length (List.map (ah.enc aj) l))) (cond (Nat.ble (List.length (List.map (ah.enc aj) l)) 1000) (some {v:=.agg [V.slc yI (bif List.any (List.map (ah.dec aj) (List.map (ah.enc aj) l)) fun x=>aG.eF x then List.map (ah.enc aj) (N.wakes (List.map (ah.dec aj) (List.map (ah.enc aj) l)) 0 (List.map (ah.dec aj) (List.map (ah.enc aj) l))) else List.map (ah.enc aj) l)],bx:=[]:aH}) none) none) none:=by kernel_rfl
theorem Pg (r:List (List V)) (n i:Int) (a b:List (List V)) (K:Ex->St->Option R):bI O9 138 2 { fr:=[(1,.ptr 10000 0 0 0),(2,.ptr 10001 0 0 0),(6,.slc yI r),(7,.int .i64 n),(8,.int .i64 i)],tab:=[(10000,.var [.slc yI a]),(10001,.var [.slc yI b])] } K =
 cond (aZ i n) (cond (decide (0<=i∧i<(↑(List.length r):Int))) (cond (V.toBool (List.getD (List.getD r (Int.toNat i) []) 7 V.undef)) (cond (o9 (List.map (ah.dec aj) a) i) (K .normal {fr:=[(1,.ptr 10000 0 0 0),(2,.ptr 10001 0 0 0),(6,.slc yI r),(7,.int .i64 n),(8,.int .i64 (IntKind.wrap .i64 (i+1)))],tab:=[(10000,.var [V.slc yI (List.map (ah.enc aj) (N.setAt N.qX (List.map (ah.dec aj) a) (Int.toNat i)))]),(10001,.var [V.slc yI b])]:St}) none) (K .normal {fr:=[(1,.ptr 10000 0 0 0),(2,.ptr 10001 0 0 0),(6,.slc yI r),(7,.int .i64 n),(8,.int .i64 (IntKind.wrap .i64 (i+1)))],tab:=[(10000,.var [V.slc yI a]),(10001,.var [V.slc yI b])]:St})) none) (K (.exit 0) {fr:=[(1,.ptr 10000 0 0 0),(2,.ptr 10001 0 0 0)],tab:=[(10000,.var [V.slc yI a]),(10001,.var [V.slc yI b])]:St}):=by kernel_rfl
theorem Fv:∀ (r:List aG) (k:Nat) (l:List aG),(r.any fun x=>x.eF)=false->N.wakes r k l=l
 | [],_,_,_=>rfl
 | x::r,k,l,h=>by
  rw [List.any_cons,Bool.or_eq_false_iff] at h
  unfold N.wakes
  rw [h.1]
  exact Fv r (k+1) l h.2
theorem afn:dB O9 138 2:=by
 refine bf rfl fun l K q h=>?_
 unfold ajn at h
 split at h
 .rename_i r n i a b
  replace h:=UG h;obtain ⟨h1,h2,h3,h4,h⟩:=h
  have e1:=aY h1
  have e2:=aY h2
  have e3:=jk h3
  subst e1 e2
  have h4:r.length<=1000:=aX h4
  have main:=dD (E:=O9) (f:=138) (id:=2) (σ:=Nat × List (List V)) (fun s=>{ fr:=[(1,.ptr 10000 0 0 0),(2,.ptr 10001 0 0 0),(6,.slc yI r),(7,.int .i64 r.length),(8,.int .i64 (s.1:Int))],tab:=[(10000,.var [.slc yI s.2]),(10001,.var [.slc yI b])] })
   (fun s=>s.1<=r.length∧s.2.length=r.length) (fun s=>r.length-s.1)
   (fun s K=>K (.exit 0) { fr:=[(1,.ptr 10000 0 0 0),(2,.ptr 10001 0 0 0)],tab:=[(10000,.var [.slc yI (cond (((r.drop s.1).map aj.dec).any fun x=>x.eF) ((N.wakes ((r.drop s.1).map aj.dec) s.1 (s.2.map aj.dec)).map aj.enc) s.2)]),(10001,.var [.slc yI b])] })
   (fun s hs=>?_) (0,a) ⟨Nat.zero_le _,e3⟩ K q (by assumption)
  .exact main
  .obtain ⟨i,a⟩:=s
   obtain ⟨k1,k2⟩:=hs
   simp only at k1 k2 ⊢
   by_cases hl:i<r.length
   .rw [oz hl,List.any_cons]
    cases hc:(aj.dec (r.getD i [])).eF with
    | true =>
     have hc' : V.toBool (List.getD (List.getD r i []) 7 V.undef)=true:=hc
     have ga:o9 (a.map aj.dec) i=true:=by
      unfold o9
      rw [List.length_map,dX (by omega),dK (by omega),dN (by omega)]; rfl
     refine .inl ⟨(i+1,(N.setAt N.qX (a.map aj.dec) i).map aj.enc),⟨hl,by simp only [List.length_map,Jw]; exact k2⟩,by simp only; omega,fun K=>?_,fun K=>?_⟩
     .rw [Pg]
      simp (disch:=omega) only [evs,Int.toNat_natCast,hc',ga]
      try rfl
     .have e:N.wakes (aj.dec (r.getD i [])::(r.drop (i+1)).map aj.dec) i (a.map aj.dec)=N.wakes ((r.drop (i+1)).map aj.dec) (i+1) (N.setAt N.qX (a.map aj.dec) i):=by
       show N.wakes _ _ (cond (aj.dec (r.getD i [])).eF _ _)=_
       rw [hc]; rfl
      rw [e,Bool.true_or,cond_true]
      simp only [bn]
      cases hn:((r.drop (i+1)).map aj.dec).any fun x=>x.eF with
      | true=>rfl
      | false=>rw [Fv _ _ _ hn]; rfl
    | false =>
     have hc' : V.toBool (List.getD (List.getD r i []) 7 V.undef)=false:=hc
     refine .inl ⟨(i+1,a),⟨hl,k2⟩,by simp only; omega,fun K=>?_,fun K=>?_⟩
     .rw [Pg]
      simp (disch:=omega) only [evs,Int.toNat_natCast,hc']
      try rfl
     .have e:N.wakes (aj.dec (r.getD i [])::(r.drop (i+1)).map aj.dec) i (a.map aj.dec)=N.wakes ((r.drop (i+1)).map aj.dec) (i+1) (a.map aj.dec):=by
       show N.wakes _ _ (cond (aj.dec (r.getD i [])).eF _ _)=_
       rw [hc]; rfl
      rw [e,Bool.false_or]
   .have ei:i=r.length:=by omega
    subst ei
    refine .inr ⟨.exit 0,{ fr:=[(1,.ptr 10000 0 0 0),(2,.ptr 10001 0 0 0)],tab:=[(10000,.var [.slc yI a]),(10001,.var [.slc yI b])] },by simp,fun K=>?_,fun K=>?_⟩
    .rw [Pg]
     simp (disch:=omega) only [evs]
    .rw [List.drop_eq_nil_of_le (Nat.le_refl _)]; rfl
 .cases h
theorem ajo:bH Tryz.prog 138 ai3:=by
 refine aK (aT ((fK.nil _).cons ai1)) (E:=O9) Tryz.func138 [2] (by kernel_rfl) (one1 afn) fun l _ hp=>?_
 have hp:Nat.ble l.length 1000=true:=hp
 refine (am7 l).trans ?_
 simp only [List.length_map,bn,hp,beq_self_eq_true,cond_true,Nat.beq_refl]
 have e:=Yo l []
 show _=some (⟨.agg [.slc yI ((N.mX l).map aj.enc)],[],[]⟩:aH)
 have e:N.wakes l 0 l=N.mX l:=e
 rw [e]
 cases hn:l.any fun x=>x.eF with
 | true=>rfl
 | false =>
  have:=Fv l 0 l hn
  rw [e] at this
  rw [this]; rfl
def aqb:fP:={ fr:=[(2,.ptr 10000 0 0),(4,.ptr 10001 0 0),(9,.slc yI),(10,.int .i64),(11,.int .i64)],tab:=[(10000,.var [.slc yI]),(10001,.var [.slc yI])] }
def arQ:List Leaf->(Ex->St->Option R)->Option R
 | [.r r,.i n,.i i,.r z,.r a],K=>cond (n==r.length) (cond (i==0) (cond (Nat.beq a.length 0) (cond (Nat.ble r.length 300) (cond ((r.map aj.dec).all dR)
   (cond ((N.yS [] (r.map aj.dec)).2==0) (K (.exit 0) { fr:=[(2,.ptr 10000 0 0 0),(4,.ptr 10001 0 0 0)],tab:=[(10000,.var [.slc yI z]),(10001,.var [.slc yI ((N.yS [] (r.map aj.dec)).1.map aj.enc)])] })
    (K .ret { fr:=[(2,.ptr 10000 0 0 0),(3,.int .i64 (N.yS [] (r.map aj.dec)).2)],tab:=[(10000,.var [.slc yI []])] })) none) none) none) none) none
 | _,_=>none
noncomputable def ajp:Env:={ env Tryz.prog [(127,aiO)] [(3,dJ aqb arQ)] [(3,[(0,[2,4,9,10,11]),(1,[2,4]),(1000,[2,3])])] with fz:=true }
theorem arR (l:List aG):bM ajp 149 ((aW (jY aj)).enc l) ([]) some =
 cond ((↑(List.length (List.map (ah.enc aj) l)):Int)==(↑(List.length (List.map (ah.enc aj) l)):Int)) (cond (Nat.ble (List.length (List.map (ah.enc aj) l)) 300) (cond (List.all (List.map (ah.dec aj) (List.map (ah.enc aj) l)) dR) (cond (Prod.snd (N.yS [] (List.map (ah.dec aj) (List.map (ah.enc aj) l)))==0) (some {v:=.fE [V.agg [V.slc yI (List.map (ah.enc aj) (Prod.fst (N.yS [] (List.map (ah.dec aj) (List.map (ah.enc aj) l)))))],.int .i64 0],bx:=[]:aH}) (some {v:=.fE [V.agg [V.slc yI []],.int .i64 (Prod.snd (N.yS [] (List.map (ah.dec aj) (List.map (ah.enc aj) l))))],bx:=[]:aH})) none) none) none:=by kernel_rfl
theorem abk (r:List (List V)) (n i:Int) (z a:List (List V)) (K:Ex->St->Option R):type_of% (by
  have h:bI ajp 149 3 { fr:=[(2,.ptr 10000 0 0 0),(4,.ptr 10001 0 0 0),(9,.slc yI r),(10,.int .i64 n),(11,.int .i64 i)],tab:=[(10000,.var [.slc yI z]),(10001,.var [.slc yI a])] } K =(
   let z0:=(N.l7 (List.map (ah.dec aj) a) (aj.dec (List.getD r (Int.toNat i) [])));cond (aZ i n) (cond (decide (0<=i∧i<(↑(List.length r):Int))) (cond (bif Nat.ble (List.length (List.map (ah.dec aj) a)) 1000 then dR (aj.dec (List.getD r (Int.toNat i) [])) else false) (cond (Prod.snd z0 != 0) (K .ret {fr:=[(2,.ptr 10000 0 0 0),(3,.int .i64 z0.2)],tab:=[(10000,.var [V.slc yI []])]:St}) (K .normal {fr:=[(2,.ptr 10000 0 0 0),(4,.ptr 10001 0 0 0),(9,.slc yI r),(10,.int .i64 n),(11,.int .i64 (IntKind.wrap .i64 (i+1)))],tab:=[(10000,.var [V.slc yI z]),(10001,.var [V.slc yI (List.map (ah.enc aj) z0.1)])]:St})) none) none) (K (.exit 0) {fr:=[(2,.ptr 10000 0 0 0),(4,.ptr 10001 0 0 0)],tab:=[(10000,.var [V.slc yI z]),(10001,.var [V.slc yI a])]:St})):=by kernel_rfl
  dsimp only at h;exact h):=by kernel_rfl
def arS:Den:=den (aW (jY aj)) dw (nP (aO (bg gu) (aW (cu .i64)))) (fun l _=>cond (Nat.ble l.length 300) (l.all dR) false) fun l _=>(N.yS [] l,())
theorem ajq (l:List aG) (x:aG):(N.l7 l x).1.length<=l.length+1:=by
 unfold N.l7
 cases N.oZ l x.aQ != 0<;>simp
theorem am8:dB ajp 149 3:=by
 refine bf rfl fun l K q h=>?_
 unfold arQ at h
 split at h
 .rename_i r n i z a
  replace h:=Ed h;obtain ⟨h1,h2,h3,h4,h5,h⟩:=h
  have e1:=aY h1
  have e2:=aY h2
  have e3:=List.eq_nil_of_length_eq_zero (jk h3)
  subst e1 e2 e3
  have h4:r.length<=300:=aX h4
  have main:=dh (E:=ajp) (f:=149) (id:=3) (A:=List aG) r (fun acc i=>{ fr:=[(2,.ptr 10000 0 0 0),(4,.ptr 10001 0 0 0),(9,.slc yI r),(10,.int .i64 r.length),(11,.int .i64 i)],tab:=[(10000,.var [.slc yI z]),(10001,.var [.slc yI (acc.map aj.enc)])] })
   (fun acc i=>acc.length<=i)
   (fun acc rows K=>cond ((N.yS acc (rows.map aj.dec)).2==0) (K (.exit 0) { fr:=[(2,.ptr 10000 0 0 0),(4,.ptr 10001 0 0 0)],tab:=[(10000,.var [.slc yI z]),(10001,.var [.slc yI ((N.yS acc (rows.map aj.dec)).1.map aj.enc)])] })
    (K .ret { fr:=[(2,.ptr 10000 0 0 0),(3,.int .i64 (N.yS acc (rows.map aj.dec)).2)],tab:=[(10000,.var [.slc yI []])] })) (fun acc i ha hi=>?_) (fun acc _=>?_) [] 0 (Int.le_refl _) (by omega) (Nat.zero_le _) K q (by assumption)
  .exact main
  .have hs:=HY h5 hi
   have e:N.yS acc ((r.getD i []::r.drop (i+1)).map aj.dec)=cond ((N.l7 acc (aj.dec (r.getD i []))).2 != 0) ([],(N.l7 acc (aj.dec (r.getD i []))).2) (N.yS (N.l7 acc (aj.dec (r.getD i []))).1 ((r.drop (i+1)).map aj.dec)):=rfl
   rw [e]
   cases hc:(N.l7 acc (aj.dec (r.getD i []))).2 != 0 with
   | true =>
    have hz:((N.l7 acc (aj.dec (r.getD i []))).2==0)=false:=by rw [bne] at hc; simpa using hc
    refine .inr ⟨.ret,{ fr:=[(2,.ptr 10000 0 0 0),(3,.int .i64 (N.l7 acc (aj.dec (r.getD i []))).2)],tab:=[(10000,.var [.slc yI []])] },by simp,fun K=>?_,fun K=>?_⟩
    .rw [abk]
     simp (disch:=omega) only [evs,Int.toNat_natCast,iU,bn,hs,hc]
    .simp only [cond_true,hz,cond_false]
   | false =>
    have hp:=ajq acc (aj.dec (r.getD i []))
    refine .inl ⟨(N.l7 acc (aj.dec (r.getD i []))).1,by omega,fun K=>?_,fun K=>rfl⟩
    rw [abk]
    simp (disch:=omega) only [evs,Int.toNat_natCast,iU,bn,hs,hc]
  .refine ⟨.exit 0,_,by simp,fun K=>?_,fun K=>rfl⟩
   rw [abk]
   simp (disch:=omega) only [evs]
   try rfl
 .cases h
theorem aqc:bH Tryz.prog 149 arS:=by
 refine aK (aT ((fK.nil _).cons adk)) (E:=ajp) Tryz.func149 [3] (by kernel_rfl) (one1 am8) fun l _ hp=>?_
 obtain ⟨h1,h2⟩:=aP hp
 have h1:Nat.ble l.length 300=true:=h1
 have h2:l.all dR=true:=h2
 refine (arR l).trans ?_
 show _=some (⟨.fE [.agg (gu.enc (N.yS [] l).1),.int .i64 (N.yS [] l).2],[],[]⟩:aH)
 simp only [List.length_map,bn,h1,h2,beq_self_eq_true,cond_true]
 cases hc:(N.yS [] l).2==0 with
 | true=>rw [aY hc]; rfl
 | false =>
  have hb:=ac9 l [] (fun e=>by rw [e] at hc; cases hc)
  rw [hb]; rfl
def am9:fP:={ fr:=[(1,.slc yI),(2,.fn 142 [] []),(15,.slc yI),(16,.int .i64),(17,.int .i64)],tab:=[] }
def aoA:List Leaf->(Ex->St->Option R)->Option R
 | [.r r1,.r r,.i n,.i i],K=>cond (n==r.length) (cond (i==0) (cond (Nat.beq r.length r1.length) (cond (Nat.ble r.length 1000) (cond ((r.map aj.dec).all dR)
   (cond (N.nJ (r.map aj.dec) (r1.map aj.dec)) (K (.exit 0) { fr:=[],tab:=[] }) (K .ret { fr:=[(6,.bool false)],tab:=[] })) none) none) none) none) none
 | _,_=>none
noncomputable def Yp:Env:=env Tryz.prog [(142,O4)] [(4,dJ am9 aoA)] [(4,[(0,[1,2,15,16,17]),(1,[]),(1000,[6])])]
theorem aqd (a b:List aG):bM Yp 141 ((aO (jY aj) (aO (jY aj) (aW (Lr 142)))).enc (a,b,())) ([]) some =
 cond ((↑(List.length (List.map (ah.enc aj) a)):Int) != (↑(List.length (List.map (ah.enc aj) b)):Int)) (some {v:=.bool false,bx:=[]:aH}) (cond ((↑(List.length (List.map (ah.enc aj) a)):Int)==(↑(List.length (List.map (ah.enc aj) a)):Int)) (cond (Nat.beq (List.length (List.map (ah.enc aj) a)) (List.length (List.map (ah.enc aj) b))) (cond (Nat.ble (List.length (List.map (ah.enc aj) a)) 1000) (cond (List.all (List.map (ah.dec aj) (List.map (ah.enc aj) a)) dR) (cond (N.nJ (List.map (ah.dec aj) (List.map (ah.enc aj) a)) (List.map (ah.dec aj) (List.map (ah.enc aj) b))) (some {v:=.bool true,bx:=[]:aH}) (some {v:=.bool false,bx:=[]:aH})) none) none) none) none):=by kernel_rfl
theorem VB (n i:Int) (r r1:List (List V)) (K:Ex->St->Option R):bI Yp 141 4 { fr:=[(1,.slc yI r1),(2,.fn 142 [] []),(15,.slc yI r),(16,.int .i64 n),(17,.int .i64 i)],tab:=[] } K =
 cond (aZ i n) (cond (decide (0<=i∧i<(↑(List.length r):Int))) (cond (decide (0<=i∧i<(↑(List.length r1):Int))) (cond (dR (aj.dec (List.getD r (Int.toNat i) []))) (cond (!N.sG (aj.dec (List.getD r (Int.toNat i) [])) (aj.dec (List.getD r1 (Int.toNat i) []))) (K .ret {fr:=[(6,.bool false)],tab:=[]:St}) (K .normal {fr:=[(1,.slc yI r1),(2,.fn 142 [] []),(15,.slc yI r),(16,.int .i64 n),(17,.int .i64 (IntKind.wrap .i64 (i+1)))],tab:=[]:St})) none) none) none) (K (.exit 0) {fr:=[],tab:=[]:St}):=by kernel_rfl
theorem ajr:dB Yp 141 4:=by
 refine bf rfl fun l K q h=>?_
 unfold aoA at h
 split at h
 .rename_i r1 r n i
  replace h:=Ed h;obtain ⟨h1,h2,h3,h4,h5,h⟩:=h
  have e1:=aY h1
  have e2:=aY h2
  have e3:=jk h3
  subst e1 e2
  have h4:r.length<=1000:=aX h4
  refine dD (E:=Yp) (f:=141) (id:=4) (σ:=Nat) (fun i=>{ fr:=[(1,.slc yI r1),(2,.fn 142 [] []),(15,.slc yI r),(16,.int .i64 r.length),(17,.int .i64 i)],tab:=[] }) (fun i=>i<=r.length) (fun i=>r.length-i)
   (fun i K=>cond (N.nJ ((r.drop i).map aj.dec) ((r1.drop i).map aj.dec)) (K (.exit 0) { fr:=[],tab:=[] }) (K .ret { fr:=[(6,.bool false)],tab:=[] })) (fun i hi=>?_) 0 (Nat.zero_le _) K q (by assumption)
  by_cases hl:i<r.length
  .rw [oz hl,oz (show i<r1.length by omega),OY]
   have hs:=HY h5 hl
   cases hc:N.sG (aj.dec (r.getD i [])) (aj.dec (r1.getD i [])) with
   | true =>
    refine .inl ⟨i+1,hl,by omega,fun K=>?_,fun K=>rfl⟩
    rw [VB]
    simp (disch:=omega) only [evs,Int.toNat_natCast,iU,hs,hc,Bool.not_true]
    try rfl
   | false =>
    refine .inr ⟨.ret,{ fr:=[(6,.bool false)],tab:=[] },by simp,fun K=>?_,fun K=>rfl⟩
    rw [VB]
    simp (disch:=omega) only [evs,Int.toNat_natCast,iU,hs,hc,Bool.not_false]
  .refine .inr ⟨.exit 0,{ fr:=[],tab:=[] },by simp,fun K=>?_,fun K=>?_⟩
   .rw [VB]
    simp (disch:=omega) only [evs]
   .rw [List.drop_eq_nil_of_le (show r.length<=i by omega),List.drop_eq_nil_of_le (show r1.length<=i by omega)]; rfl
 .cases h
theorem ana:bH Tryz.prog 141 (aox 142):=by
 refine aK (aT ((fK.nil _).cons ajc)) (E:=Yp) Tryz.func141 [4] (by kernel_rfl) (one1 ajr) fun a _ h=>?_
 obtain ⟨a,b,⟨⟩⟩:=a
 have h:ig a=true:=h
 obtain ⟨h0,h2,h3⟩:=oC h
 refine (aqd a b).trans ?_
 show _=some (⟨.bool (N.nJ a b),[],[]⟩:aH)
 by_cases hl:a.length=b.length
 .simp (disch:=omega) only [evs,bn,hl,h3,Nat.beq_refl]
  cases N.nJ a b<;>rfl
 .rw [Jy _ _ hl]
  simp (disch:=omega) only [evs]
noncomputable def ajs:Env:=env Tryz.prog [(141,aox 142)] [] []
theorem anb (a b:List aG):bM ajs 69 ((aO (bg gu) (aW (bg gu))).enc (a,b)) ([]) some =
 cond (ig (List.map (ah.dec aj) (List.map (ah.enc aj) a))) (some {v:=.bool (N.nJ (List.map (ah.dec aj) (List.map (ah.enc aj) a)) (List.map (ah.dec aj) (List.map (ah.enc aj) b))),bx:=[]:aH}) none:=by kernel_rfl
theorem ajt:bH Tryz.prog 69 ai4:=by
 refine aK (aT ((fK.nil _).cons ana)) (E:=ajs) Tryz.func69 [] (by kernel_rfl) none0 fun a _ h=>?_
 obtain ⟨a,b⟩:=a
 have h:ig a=true:=h
 refine (anb a b).trans ?_
 simp only [bn,h,cond_true]
 try rfl
end Go.Ev

namespace Go.Ev
open Go Go.Proofs
set_option maxRecDepth 100000
-- FOLD
def N.geE (id:Int) (l:List aG) (e:Int):Int:=cond (cond (e==0) (l.any fun y=>bU id y.aQ.id) false) 13 e
def aoB:Den:=den (aO (jY aj) (aW (bg aj))) dw (nP (aO (jY aj) (aW (cu .i64)))) (fun a _=>Nat.ble a.1.length 1000) fun a _=>(N.rU a.1 a.2,())
def ajv:Den:=den (aO (jY aj) (aW (jY aj))) dw (oV iF) (fun a _=>ig a.1) fun a _=>(N.nJ a.1 a.2,())
def anc:fP:={ fr:=[(0,.slc yI),(3,.ptr 10000 0 0),(6,.int .i64),(13,.slc yI),(14,.int .i64),(15,.int .i64)],tab:=[(10000,.var [.int .u64,.str,.str,.slc yP,.str,.int .u64,.int .u8,.bool,.bool])] }
def aoC:List Leaf->(Ex->St->Option R)->Option R
 | [.r l0,.i e,.r r,.i n,.i i,.i id,.s s1,.s s2,.r hd,.s s3,.i due,.i hops,.b b1,.b b2],K=>cond (n==r.length) (cond (i==0) (cond (Nat.ble r.length 1000)
   (K (.exit 0) { fr:=[(0,.slc yI l0),(3,.ptr 10000 0 0 0),(6,.int .i64 (N.geE id (r.map aj.dec) e))],tab:=[(10000,.var [.int .u64 id,.str s1,.str s2,.slc yP hd,.str s3,.int .u64 due,.int .u8 hops,.bool b1,.bool b2])] }) none) none) none
 | _,_=>none
noncomputable def Yq:Env:=env Tryz.prog [(12,lG)] [(3,dJ anc aoC)] [(3,[(0,[0,3,6,13,14,15]),(1,[0,3,6]),(1000,[4,5])])]
theorem aqe (l:List aG) (x:aG):type_of% (by
  have h:bM Yq 187 ((aO (jY aj) (aW (bg aj))).enc (l,x)) ([]) some =(
   let z4:=(ay.id x.aQ);let z1:=(List.map (ah.enc aj) l);let z5:=(List.map (ah.dec aj) z1);let z3:=(List.map yE (ay.head x.aQ));let z2:=(N.aV {id:=ay.id x.aQ,bT:=ay.bT x.aQ,key:=ay.key x.aQ,head:=List.map yD z3,body:=ay.body x.aQ,due:=ay.due x.aQ,hops:=ay.hops x.aQ:ay});let z0:=(cond (N.geE z4 z5 z2 != 0) (some {v:=.fE [V.slc yI z1,.int .i64 (N.geE z4 z5 z2)],bx:=[]:aH}) (cond (decide (List.length z1*104<=140737488355328)) (cond (decide ((List.length z1+1)*104<=140737488355328)) (some {v:=.fE [V.slc yI (List.map (ah.enc aj) l++[[V.int .u64 z4,.str (ay.bT x.aQ),.str (ay.key x.aQ),.slc yP z3,.str (ay.body x.aQ),.int .u64 (ay.due x.aQ),.int .u8 (ay.hops x.aQ),.bool x.eF,.bool x.again]]),.int .i64 0],bx:=[]:aH}) none) none));cond ((↑(List.length z1):Int)==(↑(List.length z1):Int)) (cond (Nat.ble (List.length z1) 1000) (cond (N.geE z4 z5 z2==0) (cond (bU 64 (↑(List.length z1):Int)) (some {v:=.fE [V.slc yI z1,.int .i64 12],bx:=[]:aH}) z0) z0) none) none):=by kernel_rfl
  dsimp only at h;exact h):=by kernel_rfl
theorem adw (l0:List (List V)) (e:Int) (r:List (List V)) (n i id:Int) (s1 s2:Bytes) (hd:List (List V)) (s3:Bytes) (due hops:Int) (b1 b2:Bool) (K:Ex->St->Option R):type_of% (by
  have h:bI Yq 187 3 { fr:=[(0,.slc yI l0),(3,.ptr 10000 0 0 0),(6,.int .i64 e),(13,.slc yI r),(14,.int .i64 n),(15,.int .i64 i)],tab:=[(10000,.var [.int .u64 id,.str s1,.str s2,.slc yP hd,.str s3,.int .u64 due,.int .u8 hops,.bool b1,.bool b2])] } K =(
   let z0:=(K .normal {fr:=[(0,.slc yI l0),(3,.ptr 10000 0 0 0),(6,.int .i64 e),(13,.slc yI r),(14,.int .i64 n),(15,.int .i64 (IntKind.wrap .i64 (i+1)))],tab:=[(10000,.var [V.int .u64 id,.str s1,.str s2,.slc yP hd,.str s3,.int .u64 due,.int .u8 hops,.bool b1,.bool b2])]:St});cond (aZ i n) (cond (decide (0<=i∧i<(↑(List.length r):Int))) (cond (e==0) (cond (bU id (V.toInt (List.getD (List.getD r (Int.toNat i) []) 0 V.undef))) (K .normal {fr:=[(0,.slc yI l0),(3,.ptr 10000 0 0 0),(6,.int .i64 13),(13,.slc yI r),(14,.int .i64 n),(15,.int .i64 (IntKind.wrap .i64 (i+1)))],tab:=[(10000,.var [V.int .u64 id,.str s1,.str s2,.slc yP hd,.str s3,.int .u64 due,.int .u8 hops,.bool b1,.bool b2])]:St}) z0) z0) none) (K (.exit 0) {fr:=[(0,.slc yI l0),(3,.ptr 10000 0 0 0),(6,.int .i64 e)],tab:=[(10000,.var [V.int .u64 id,.str s1,.str s2,.slc yP hd,.str s3,.int .u64 due,.int .u8 hops,.bool b1,.bool b2])]:St})):=by kernel_rfl
  dsimp only at h;exact h):=by kernel_rfl
theorem ajw:dB Yq 187 3:=by
 refine bf rfl fun l K q h=>?_
 unfold aoC at h
 split at h
 .rename_i l0 e r n i id s1 s2 hd s3 due hops b1 b2
  replace h:=Lm h;obtain ⟨h1,h2,h3,h⟩:=h
  have e1:=aY h1
  have e2:=aY h2
  subst e1 e2
  have h3:r.length<=1000:=aX h3
  have main:=dh (E:=Yq) (f:=187) (id:=3) (A:=Int) r (fun e i=>{ fr:=[(0,.slc yI l0),(3,.ptr 10000 0 0 0),(6,.int .i64 e),(13,.slc yI r),(14,.int .i64 r.length),(15,.int .i64 i)],tab:=[(10000,.var [.int .u64 id,.str s1,.str s2,.slc yP hd,.str s3,.int .u64 due,.int .u8 hops,.bool b1,.bool b2])] }) (fun _ _=>True)
   (fun e rows K=>K (.exit 0) { fr:=[(0,.slc yI l0),(3,.ptr 10000 0 0 0),(6,.int .i64 (N.geE id (rows.map aj.dec) e))],tab:=[(10000,.var [.int .u64 id,.str s1,.str s2,.slc yP hd,.str s3,.int .u64 due,.int .u8 hops,.bool b1,.bool b2])] }) (fun e i _ hi=>?_) (fun e _=>?_) e 0 (Int.le_refl _) (by omega) trivial K q (by assumption)
  .exact main
  .refine .inl ⟨cond (cond (e==0) (bU id (aj.dec (r.getD i [])).aQ.id) false) 13 e,trivial,fun K=>?_,fun K=>?_⟩
   .rw [adw]
    have hm:V.toInt (List.getD (List.getD r i []) 0 V.undef)=(aj.dec (r.getD i [])).aQ.id:=rfl
    simp (disch:=omega) only [evs,Int.toNat_natCast,hm]
    cases e==0 with
    | false=>rfl
    | true=>cases bU id (aj.dec (r.getD i [])).aQ.id<;>rfl
   .have he:N.geE id ((r.getD i []::r.drop (i+1)).map aj.dec) e=N.geE id ((r.drop (i+1)).map aj.dec) (cond (cond (e==0) (bU id (aj.dec (r.getD i [])).aQ.id) false) 13 e):=by
     unfold N.geE
     rw [List.map_cons,List.any_cons]
     cases hz:e==0 with
     | false=>simp only [cond_false,hz]
     | true =>
      cases bU id (aj.dec (r.getD i [])).aQ.id with
      | true=>rfl
      | false=>simp only [cond_true,cond_false,hz,Bool.false_or]
    rw [he]
  .have he:N.geE id (([]:List (List V)).map aj.dec) e=e:=by
    unfold N.geE
    cases e==0<;>rfl
   refine ⟨.exit 0,{ fr:=[(0,.slc yI l0),(3,.ptr 10000 0 0 0),(6,.int .i64 (e))],tab:=[(10000,.var [.int .u64 id,.str s1,.str s2,.slc yP hd,.str s3,.int .u64 due,.int .u8 hops,.bool b1,.bool b2])] },by simp,fun K=>?_,fun K=>by rw [he]⟩
   rw [adw]
   simp (disch:=omega) only [evs]
 .cases h
noncomputable def adx:Env:=env Tryz.prog [(25,qU)] [] []
theorem ajx (a b:aG):bM adx 56 ((aO (bg aj) (aW (bg aj))).enc (a,b)) ([]) some =
 cond (dA {id:=ay.id a.aQ,bT:=ay.bT a.aQ,key:=ay.key a.aQ,head:=List.map yD (List.map yE (ay.head a.aQ)),body:=ay.body a.aQ,due:=ay.due a.aQ,hops:=ay.hops a.aQ:ay}) (cond (N.iP {id:=ay.id a.aQ,bT:=ay.bT a.aQ,key:=ay.key a.aQ,head:=List.map yD (List.map yE (ay.head a.aQ)),body:=ay.body a.aQ,due:=ay.due a.aQ,hops:=ay.hops a.aQ:ay} {id:=ay.id b.aQ,bT:=ay.bT b.aQ,key:=ay.key b.aQ,head:=List.map yD (List.map yE (ay.head b.aQ)),body:=ay.body b.aQ,due:=ay.due b.aQ,hops:=ay.hops b.aQ:ay}) (cond (aG.eF a==aG.eF b) (some {v:=.bool (aG.again a==aG.again b),bx:=[]:aH}) (some {v:=.bool false,bx:=[]:aH})) (some {v:=.bool false,bx:=[]:aH})) none:=by kernel_rfl
theorem S9:bH Tryz.prog 56 O4:=by
 refine aK (aT ((fK.nil _).cons rQ)) (E:=adx) Tryz.func56 [] (by kernel_rfl) none0 fun a _ h=>?_
 obtain ⟨a,b⟩:=a
 have h:dA a.aQ=true:=h
 refine (ajx a b).trans ?_
 show _=some (⟨.bool (N.sG a b),[],[]⟩:aH)
 unfold N.sG
 simp only [um,h,cond_true]
 cases N.iP a.aQ b.aQ<;>cases a.eF==b.eF<;>rfl
def ajy:fP:={ fr:=[(0,.slc yI),(1,.slc yI),(12,.int .i64),(13,.int .i64)],tab:=[] }
def ajz:List Leaf->(Ex->St->Option R)->Option R
 | [.r r,.r r1,.i n,.i i],K=>cond (n==r.length) (cond (i==0) (cond (Nat.beq r.length r1.length) (cond (Nat.ble r.length 1000) (cond ((r.map aj.dec).all dR)
   (cond (N.nJ (r.map aj.dec) (r1.map aj.dec)) (K (.exit 0) { fr:=[],tab:=[] }) (K .ret { fr:=[(4,.bool false)],tab:=[] })) none) none) none) none) none
 | _,_=>none
noncomputable def CQ:Env:=env Tryz.prog [(56,O4)] [(4,dJ ajy ajz)] [(4,[(0,[0,1,12,13]),(1,[]),(1000,[4])])]
theorem afo (a b:List aG):bM CQ 85 ((aO (jY aj) (aW (jY aj))).enc (a,b)) ([]) some =
 cond ((↑(List.length (List.map (ah.enc aj) a)):Int) != (↑(List.length (List.map (ah.enc aj) b)):Int)) (some {v:=.bool false,bx:=[]:aH}) (cond ((↑(List.length (List.map (ah.enc aj) a)):Int)==(↑(List.length (List.map (ah.enc aj) a)):Int)) (cond (Nat.beq (List.length (List.map (ah.enc aj) a)) (List.length (List.map (ah.enc aj) b))) (cond (Nat.ble (List.length (List.map (ah.enc aj) a)) 1000) (cond (List.all (List.map (ah.dec aj) (List.map (ah.enc aj) a)) dR) (cond (N.nJ (List.map (ah.dec aj) (List.map (ah.enc aj) a)) (List.map (ah.dec aj) (List.map (ah.enc aj) b))) (some {v:=.bool true,bx:=[]:aH}) (some {v:=.bool false,bx:=[]:aH})) none) none) none) none):=by kernel_rfl
theorem Fz (r r1:List (List V)) (n i:Int) (K:Ex->St->Option R):bI CQ 85 4 { fr:=[(0,.slc yI r),(1,.slc yI r1),(12,.int .i64 n),(13,.int .i64 i)],tab:=[] } K =
 cond (aZ i n) (cond (decide (0<=i∧i<(↑(List.length r):Int))) (cond (decide (0<=i∧i<(↑(List.length r1):Int))) (cond (dR (aj.dec (List.getD r (Int.toNat i) []))) (cond (!N.sG (aj.dec (List.getD r (Int.toNat i) [])) (aj.dec (List.getD r1 (Int.toNat i) []))) (K .ret {fr:=[(4,.bool false)],tab:=[]:St}) (K .normal {fr:=[(0,.slc yI r),(1,.slc yI r1),(12,.int .i64 n),(13,.int .i64 (IntKind.wrap .i64 (i+1)))],tab:=[]:St})) none) none) none) (K (.exit 0) {fr:=[],tab:=[]:St}):=by kernel_rfl
theorem afp:dB CQ 85 4:=by
 refine bf rfl fun l K q h=>?_
 unfold ajz at h
 split at h
 .rename_i r r1 n i
  replace h:=Ed h;obtain ⟨h1,h2,h3,h4,h5,h⟩:=h
  have e1:=aY h1
  have e2:=aY h2
  have e3:=jk h3
  subst e1 e2
  have h4:r.length<=1000:=aX h4
  refine dD (E:=CQ) (f:=85) (id:=4) (σ:=Nat) (fun i=>{ fr:=[(0,.slc yI r),(1,.slc yI r1),(12,.int .i64 r.length),(13,.int .i64 i)],tab:=[] }) (fun i=>i<=r.length) (fun i=>r.length-i)
   (fun i K=>cond (N.nJ ((r.drop i).map aj.dec) ((r1.drop i).map aj.dec)) (K (.exit 0) { fr:=[],tab:=[] }) (K .ret { fr:=[(4,.bool false)],tab:=[] })) (fun i hi=>?_) 0 (Nat.zero_le _) K q (by assumption)
  by_cases hl:i<r.length
  .rw [oz hl,oz (show i<r1.length by omega),OY]
   have hs:=HY h5 hl
   cases hc:N.sG (aj.dec (r.getD i [])) (aj.dec (r1.getD i [])) with
   | true =>
    refine .inl ⟨i+1,hl,by omega,fun K=>?_,fun K=>rfl⟩
    rw [Fz]
    simp (disch:=omega) only [evs,Int.toNat_natCast,iU,hs,hc,Bool.not_true]
    try rfl
   | false =>
    refine .inr ⟨.ret,{ fr:=[(4,.bool false)],tab:=[] },by simp,fun K=>?_,fun K=>rfl⟩
    rw [Fz]
    simp (disch:=omega) only [evs,Int.toNat_natCast,iU,hs,hc,Bool.not_false]
  .refine .inr ⟨.exit 0,{ fr:=[],tab:=[] },by simp,fun K=>?_,fun K=>?_⟩
   .rw [Fz]
    simp (disch:=omega) only [evs]
   .rw [List.drop_eq_nil_of_le (show r.length<=i by omega),List.drop_eq_nil_of_le (show r1.length<=i by omega)]; rfl
 .cases h
theorem abl:bH Tryz.prog 85 ajv:=by
 refine aK (aT ((fK.nil _).cons S9)) (E:=CQ) Tryz.func85 [4] (by kernel_rfl) (one1 afp) fun a _ h=>?_
 obtain ⟨a,b⟩:=a
 have h:ig a=true:=h
 obtain ⟨h0,h2,h3⟩:=oC h
 refine (afo a b).trans ?_
 show _=some (⟨.bool (N.nJ a b),[],[]⟩:aH)
 by_cases hl:a.length=b.length
 .simp (disch:=omega) only [evs,bn,hl,h3,Nat.beq_refl]
  cases N.nJ a b<;>rfl
 .rw [Jy _ _ hl]
  simp (disch:=omega) only [evs]
theorem ane:bH Tryz.prog 187 aoB:=by
 refine aK (aT ((fK.nil _).cons qH)) (E:=Yq) Tryz.func187 [3] (by kernel_rfl) (one1 ajw) fun a _ h=>?_
 obtain ⟨l,x⟩:=a
 have h1:Nat.ble l.length 1000=true:=h
 have h2:l.length<=1000:=aX h1
 refine (aqe l x).trans ?_
 show _=some (⟨.fE [.slc yI ((N.rU l x).1.map aj.enc),.int .i64 (N.rU l x).2],[],[]⟩:aH)
 simp only [um,bn,List.length_map,h1,beq_self_eq_true,cond_true]
 unfold N.rU N.rRc N.geE
 cases hc:N.aV x.aQ != 0 with
 | true =>
  have hz:(N.aV x.aQ==0)=false:=by rw [bne] at hc; simpa using hc
  simp (disch:=omega) only [evs,hz,hc]
 | false =>
  have hz:N.aV x.aQ=0:=by simpa using hc
  rw [hz]
  cases ha:l.any fun y=>bU x.aQ.id y.aQ.id with
  | true=>simp (disch:=omega) only [evs,ha]
  | false =>
   by_cases h64:64<=l.length
   .simp (disch:=omega) only [evs,ha]
   .simp (disch:=omega) only [evs,ha,fO,o8]
    rw [show List.map aj.enc l++[aj.enc x]=List.map aj.enc (l++[x]) by simp]
end Go.Ev

namespace Go.Ev
open Go Go.Proofs
set_option maxRecDepth 100000
-- FOLD
noncomputable def aoD:Env:=env Tryz.prog [(49,aiP),(51,aa9),(71,abb),(46,Vy),(166,nI)] [] []
theorem aqf  : bM aoD 109 [] [] some =
 some {v:=.bool true,bx:=[]:aH}:=by kernel_rfl
theorem anf (hN:bH Tryz.prog 95 fZ):bH Tryz.prog 109 nI :=
 aK (aT ((((((fK.nil _).cons (X0 hN)).cons SX).cons Yj).cons Yi).cons adp)) (E:=aoD) Tryz.func109 [] (by kernel_rfl) none0 fun _ _ _=>aqf
def qN (r:List V):List V:=[V.int .u64 (V.toInt (List.getD r 0 .undef)),V.str (V.toStr (List.getD r 1 .undef)),V.str (V.toStr (List.getD r 2 .undef)),V.slc yP (V.toRows (List.getD r 3 .undef)),V.str (V.toStr (List.getD r 4 .undef)),V.int .u64 (V.toInt (List.getD r 5 .undef)),V.int .u8 (V.toInt (List.getD r 6 .undef)),V.bool (V.toBool (List.getD r 7 .undef)),V.bool (V.toBool (List.getD r 8 .undef))]
def N.rV (r:List (List V)):List (List V):=r.map qN
theorem xO (r:List V):[V.int .u64 (V.toInt (List.getD r 0 .undef)),V.str (V.toStr (List.getD r 1 .undef)),V.str (V.toStr (List.getD r 2 .undef)),V.slc yP (V.toRows (List.getD r 3 .undef)),V.str (V.toStr (List.getD r 4 .undef)),V.int .u64 (V.toInt (List.getD r 5 .undef)),V.int .u8 (V.toInt (List.getD r 6 .undef)),V.bool (V.toBool (List.getD r 7 .undef)),V.bool (V.toBool (List.getD r 8 .undef))]=qN r:=rfl
theorem Yr (l:List aG):N.rV (l.map aj.enc)=l.map aj.enc:=by
 unfold N.rV
 rw [List.map_map]; rfl
theorem VD {r:List (List V)} {i:Nat} (h:i<r.length):N.rV (r.take (i+1))=N.rV (r.take i)++[qN (r.getD i [])]:=by
 unfold N.rV
 rw [List.take_add_one,List.getD_eq_getElem?_getD,List.getElem?_eq_getElem h]
 simp only [Option.toList_some,List.map_append,List.map_cons,List.map_nil,Option.getD_some]
def ajA:Den:=den (aW (bg gu)) dw (oV (jY aj)) (fun l _=>ig l) fun l _=>(l,())
def ajB:fP:={ fr:=[(3,.own 10000),(7,.slc yI),(8,.int .i64),(9,.int .i64)],tab:=[(10000,.sl yI)] }
def ajC:List Leaf->(Ex->St->Option R)->Option R
 | [.r r,.i n,.i i,.r a],K=>cond (n==r.length) (cond (i==0) (cond (Nat.beq a.length 0) (cond (Nat.ble r.length 1000)
   (K (.exit 0) { fr:=[(3,.own 10000 0)],tab:=[(10000,.sl yI (N.rV r) 0)] }) none) none) none) none
 | _,_=>none
noncomputable def VE:Env:=env Tryz.prog [(97,ai2)] [(3,dJ ajB ajC)] [(3,[(0,[3,7,8,9]),(1,[3]),(1000,[2])])]
theorem ang (l:List aG):bM VE 87 ((aW (bg gu)).enc l) ([]) some =
 cond (ig (List.map (ah.dec aj) (List.map (ah.enc aj) l))) (cond ((↑(List.length (List.map (ah.enc aj) (List.map (ah.dec aj) (List.map (ah.enc aj) l)))):Int)==(↑(List.length (List.map (ah.enc aj) (List.map (ah.dec aj) (List.map (ah.enc aj) l)))):Int)) (cond (Nat.ble (List.length (List.map (ah.enc aj) (List.map (ah.dec aj) (List.map (ah.enc aj) l)))) 1000) (some {v:=.slc yI (N.rV (List.map (ah.enc aj) (List.map (ah.dec aj) (List.map (ah.enc aj) l)))),bx:=[]:aH}) none) none) none:=by kernel_rfl
theorem Yt (r:List (List V)) (n i:Int) (a:List (List V)) (K:Ex->St->Option R):bI VE 87 3 { fr:=[(3,.own 10000 0),(7,.slc yI r),(8,.int .i64 n),(9,.int .i64 i)],tab:=[(10000,.sl yI a 0)] } K =
 cond (aZ i n) (cond (decide (0<=i∧i<(↑(List.length r):Int))) (cond (decide ((List.length a+1)*104<=140737488355328)) (K .normal {fr:=[(3,.own 10000 0),(7,.slc yI r),(8,.int .i64 n),(9,.int .i64 (IntKind.wrap .i64 (i+1)))],tab:=[(10000,.sl yI (a++[[V.int .u64 (V.toInt (List.getD (List.getD r (Int.toNat i) []) 0 V.undef)),.str (V.toStr (List.getD (List.getD r (Int.toNat i) []) 1 V.undef)),.str (V.toStr (List.getD (List.getD r (Int.toNat i) []) 2 V.undef)),.slc yP (V.toRows (List.getD (List.getD r (Int.toNat i) []) 3 V.undef)),.str (V.toStr (List.getD (List.getD r (Int.toNat i) []) 4 V.undef)),.int .u64 (V.toInt (List.getD (List.getD r (Int.toNat i) []) 5 V.undef)),.int .u8 (V.toInt (List.getD (List.getD r (Int.toNat i) []) 6 V.undef)),.bool (V.toBool (List.getD (List.getD r (Int.toNat i) []) 7 V.undef)),.bool (V.toBool (List.getD (List.getD r (Int.toNat i) []) 8 V.undef))]]) 0)]:St}) none) none) (K (.exit 0) {fr:=[(3,.own 10000 0)],tab:=[(10000,.sl yI a 0)]:St}):=by kernel_rfl
theorem ajD:bH Tryz.prog 87 ajA:=by
 refine aK (aT ((fK.nil _).cons adv)) (E:=VE) Tryz.func87 [3] (by kernel_rfl) (one1 (bf rfl fun l K q h=>?_)) fun l _ hp=>?_
 .unfold ajC at h
  split at h
  .rename_i r n i o
   replace h:=UG h;obtain ⟨h1,h2,h3,h4,h⟩:=h
   have e1:=aY h1
   have e2:=aY h2
   have e3:=List.eq_nil_of_length_eq_zero (jk h3)
   subst e1 e2 e3
   have h4:r.length<=1000:=aX h4
   have main:=dh (E:=VE) (f:=87) (id:=3) (A:=Unit) r (fun _ i=>{ fr:=[(3,.own 10000 0),(7,.slc yI r),(8,.int .i64 r.length),(9,.int .i64 i)],tab:=[(10000,.sl yI (N.rV (r.take i.toNat)) 0)] }) (fun _ _=>True)
    (fun _ _ K=>K (.exit 0) { fr:=[(3,.own 10000 0)],tab:=[(10000,.sl yI (N.rV r) 0)] }) (fun _ i _ hi=>?_) (fun _ _=>?_) () 0 (Int.le_refl _) (by omega) trivial K q (by assumption)
   .exact main
   .refine .inl ⟨(),trivial,fun K=>?_,fun K=>rfl⟩
    rw [Yt]
    have hl:(N.rV (r.take i)).length=i:=by unfold N.rV; simp; omega
    have ht:=VD hi
    simp (disch:=omega) only [evs,Int.toNat_natCast,xO,hl]
    rw [<- ht]
    try rfl
   .refine ⟨.exit 0,_,by simp,fun K=>?_,fun K=>rfl⟩
    rw [Yt]
    simp (disch:=omega) only [evs,Int.toNat_natCast,List.take_length]
  .cases h
 .refine (ang l).trans ?_
  have hp:ig l=true:=hp
  obtain ⟨_,h1,h2⟩:=oC hp
  show _=some (⟨.slc yI (l.map aj.enc),[],[]⟩:aH)
  simp only [List.length_map,bn,beq_self_eq_true,cond_true,h1,hp,Yr]
theorem Eh.ig {l:List aG} (h:Eh l):Go.Ev.ig l=true:=by
 unfold Go.Ev.ig
 rw [dN (Nat.le_trans h.few (by decide)),h.small]; rfl
end Go.Ev

namespace Go.Ev
open Go
set_option maxRecDepth 100000
structure arT where
 op:Int
 aQ:ay
namespace N
def act (l:List aG) (a:arT):List aG :=
 cond (Int.tmod a.op 6==2) (o7 l).1 (cond (Int.tmod a.op 6==3) (uO l a.aQ.id).1 (cond (Int.tmod a.op 6==4) (eP l a.aQ.id).1 (cond (Int.tmod a.op 6==5) (mX l) (l7 l ⟨a.aQ,false,false⟩).1)))
def acts:List aG->List arT->List aG
 | l,[]=>l
 | l,a::r=>acts (act l a) r
def rises:List aG->Bool->Int->Bool
 | [],_,_=>true
 | x::r,first,last=>cond (cond first false (bU x.aQ.id last)) false (rises r false x.aQ.id)
end N
theorem Yu {l:List aG} {k:Nat} (h:k<l.length):l=l.take k++l.getD k fA::l.drop (k+1):=by
 have:=List.take_append_drop k l
 rw [getD_drop fA h] at this
 exact this.symm
theorem anh {l:List aG} {k:Nat} (h:k<l.length):(N.cutAt l k).length+1=l.length:=by
 unfold N.cutAt
 rw [List.length_append,List.length_take,List.length_drop]; omega
end Go.Ev
