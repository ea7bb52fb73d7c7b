/- The program's data of GraphML, by the plain reader. Conditions: what a number's text reads as. -/
import Derived.Test.YtemphinmoihdaaaGreatDoorQData
set_option linter.unusedVariables false
set_option linter.unusedSimpArgs false
namespace Go.Proofs.YtemphinmoihdaaaGreatDoor.N
open Go.Proofs.YtemphinmoihdaaaGreatDoor
open Go.X
set_option maxRecDepth 100000
structure LvP where
 xr:Nat
 xt:Nat
 xk:Nat
 xs:Nat
 xd:Nat
 t0:Nat
 yr:Nat
 yv:Nat
 mt:Nat
 mS:Nat
def LvP.fs (L:LvP) (b v:Nat) (nm:ByteArray):Fs:=
 [(L.xr,0,ptr b),(L.xt,0,ptr L.t0),(L.xk,0,.map (some L.mt)),(L.xs,0,.map (some L.mS)),(L.t0,0,.string nm),(L.yr,0,ptr b),(L.yv,0,QM (v:Int)),(L.xd,0,.func (.func 146) #[] #[ptr L.xr,ptr L.xt,ptr L.xk,ptr L.xs])]
abbrev dK (gl:GL) (b:Nat) (s:ByteArray) (L:LvP) (node:Bool) (v:Nat) (nm:ByteArray) (A:XA) (x:G.Xs):List Ck:=chX gl b s (some L.mS) (L.fs b v nm) [(L.mt,bf node L.yr L.yv)] A x
section
variable {gl:GL} {b:Nat} {s:ByteArray} {rd:ByteArray->Option (Nat × Nat)} {cl:Nat->Nat}
theorem Ga (hs:s.size<=262144) (hn:oQ gl rd cl) {node:Bool} {v:Nat} {nm:ByteArray} {L:LvP} (hd:L.mt≠L.mS):
  jD gl b s (some L.mS) (L.fs b v nm) [(L.mt,bf node L.yr L.yv)] (ID s node v) (ID s node v) (.func 146) #[] #[ptr L.xr,ptr L.xt,ptr L.xk,ptr L.xs] (G.mj s rd cl node v nm):=by
 intro x A tg t TA TC h H ix hl hu
 show CV _ _ _ _ _ (fun v' h'=>∃x' A',_/\_/\Sq h (dK gl b s L node v nm A x++tK t TA TC tg) h' (dK gl b s L node v nm A' x')/\_) (fun v' h'=>∃e,_/\_/\Fr (aF (dK gl b s L node v nm A x++tK t TA TC tg)) h h')
 have H:Hp h (dK gl b s L node v nm A x++tK t TA TC tg):=H
 generalize hC:dK gl b s L node v nm A x++tK t TA TC tg=C at H ⊢
 have Q0:Sq h C h (dK gl b s L node v nm A x++tK t TA TC tg):=by rw[hC];exact Sq.start H
 refine CV.up (aF C) QC ?_ (fun v h' r=>by obtain⟨_,_,_,_,m,_⟩:=r;exact m.fr) fun v h' r=>by obtain⟨_,_,_,m⟩:=r;exact m
 show QJ 146 #[ptr t,ptr L.xr,ptr L.xt,ptr L.xk,ptr L.xs] h _ _
 apply Da
 unfold Nj
 intro hv
 have Q1:Sq h C hv (dK gl b s L node v nm A x++tK t TA TC tg):=Q0.gr (Fr.push h _)
 have cn:∀(k:Nat) (y:QS),[G.hO][k]? =some y->ac hv h.size (0+k*1)=some (.string (G.mkB y)):=by
  intro k y hk
  have hb:hv[h.size]? =some (.cells #[.string ⟨#[107,101,121]⟩] 9):=bK
  rw[aQ hb]
  match k,hk with
  | 0,hk=>cases hk;rfl
 clear_value hv
 have V1:AtV hv TA tg.list:=lg Q1.sy 10 rfl
 have hc3:ac hv t 3=some (.slice TA tg.list.length TC):=Q1.sy.cellO 9 rfl 3 rfl
 refine az [] (CW (tg:=tg) (nms:=[G.hO]) hc3 (Q1.sy.cellO 9 rfl 1 rfl) V1 hl QA cn) QB (fun _ _ r=>Fr.of_eq r.2.2) (fun _ _ r=>by obtain⟨_,_,_,m⟩:=r;exact Fr.of_eq m) (fun v' hv2 r=>?_) fun v' hv2 r=>?_
 rotate_left
 ·obtain⟨f,e,rfl,rfl⟩:=r
  exact⟨f,by unfold G.mj;rw[e];rfl,rfl,Q1.fr⟩
 obtain⟨e1,rfl,rfl⟩:=r
 have hall:=iu e1
 refine⟨rfl,?_⟩
 refine ao [] (yX (x:=⟨#[107,101,121]⟩) hc3 V1 rfl hl) QB (fun _ _ r=>by obtain⟨_,_,r,_⟩:=r;exact Fr.of_eq r) fun v' hv3 r=>?_
 obtain⟨pI,rfl,rfl,hpI⟩:=r
 obtain⟨g,o,a,rfl,hgb,-,-,es,ea,c1,c2⟩:=jE (nm:=G.hO) hpI (hall _ QB) V1
 refine⟨_,rfl,?_⟩
 intro K
 have gl3:g<hv3.size:=bk c1
 have eK:∀{k:Option (ByteArray × ByteArray × ByteArray)},(x.2.keys.find? fun k=>G.eqB k.1 a.says)=k->G.mj s rd cl node v nm tg x=match k with
  | none=>.no (a.at_,14)
  | some (_,of,name)=>G.bJ (G.eqB of nm) (a.at_,14) <|
   let t:=G.dq node name.data.toList
   G.bJ (decide (t=0)|| !x.1.contains name.data.toList) (a.at_,18) <| (G.gG s tg (if t=0 then x else(x.1++[name.data.toList],x.2))).bind fun(says,at_,y)=>
    if t=0 then .ok y else(G.dQ rd cl t v says at_ y.2).bind fun r=>.ok (y.1,r):=by
  intro k hk
  unfold G.mj
  rw[e1,es,ea]
  simp only[G.Er.bind]
  rw[hk]
  rfl
 have Lk:∀{h1:ab} {A1:XA} {x1:G.Xs} {rest:List Ck},Sq h C h1 (dK gl b s L node v nm A1 x1++rest)->ac h1 L.xr 0=some (ptr b)/\ac h1 L.xt 0=some (ptr L.t0)/\ac h1 L.xk 0=some (.map (some L.mt))/\ac h1 L.xs 0=some (.map (some L.mS))/\ac h1 L.t0 0=some (.string nm)/\
   bG h1 L.mt=some (Ent (bf node L.yr L.yv),(bf node L.yr L.yv).length)/\bG h1 L.mS=some (Ent (ek x1.1),(ek x1.1).length):=fun q=>
  ⟨q.sy.factY 8 rfl 0 rfl,q.sy.factY 8 rfl 1 rfl,q.sy.factY 8 rfl 2 rfl,q.sy.factY 8 rfl 3 rfl,q.sy.factY 8 rfl 4 rfl,q.sy.mapsY 8 rfl 0 rfl,q.sy.mapY 8 rfl⟩
 have kk:∀(c3 c4:ByteArray) (there:Bool) (h1:ab),Fr [] hv3 h1->hv3.size<h1.size->(there=true->∃k,(x.2.keys.find? fun k=>G.eqB k.1 a.says)=some (k,c3,c4))->(there=false->(x.2.keys.find? fun k=>G.eqB k.1 a.says)=none)->K c3 c4 there h1:=by
  intro c3 c4 there h1 f1 l1 ht hf
  dsimp-zeta only[K]
  have Q2:Sq h C h1 (dK gl b s L node v nm A x++tK t TA TC tg):=Q1.gr f1
  obtain⟨cr,ct,ck,cs,c0,hmt,hmS⟩:=Lk Q2
  have ca:ac h1 g (o+2)=some (QM (a.at_:Int)):=f1.cell c2 QB
  intro K2
  refine cd (fun q=>?_) fun q=>?_
  rotate_left
  ·exact⟨g,o,rfl,_,ca,aq (fun z=>absurd z QA) fun _=>⟨_,eK (hf q),rfl,Q2.fr⟩⟩
  obtain⟨k1,hk⟩:=ht q
  have eK:=eK hk
  refine⟨L.xt,0,rfl,_,ct,L.t0,0,rfl,_,c0,g,o,rfl,_,ca,?_⟩
  rw[jl,<-fk]
  refine aq (fun z=>⟨rfl,Fr.refl _ _,?_⟩) fun z=>⟨_,by rw[eK];simp only[z];rfl,rfl,Q2.fr⟩
  have eK2:G.mj s rd cl node v nm tg x=G.bJ (decide (G.dq node c4.data.toList=0)|| !x.1.contains c4.data.toList) (a.at_,18) ((G.gG s tg (if G.dq node c4.data.toList=0 then x else(x.1++[c4.data.toList],x.2))).bind fun(says,at_,y)=>
    if G.dq node c4.data.toList=0 then .ok y else(G.dQ rd cl (G.dq node c4.data.toList) v says at_ y.2).bind fun r=>.ok (y.1,r)):=by rw[eK];simp only[z];rfl
  dsimp-zeta only[K2]
  refine⟨L.xk,0,rfl,_,ck,L.mt,rfl,_,_,hmt,wI _ _ _,fun ev he hk4=>?_,fun hno=>?_⟩
  ·obtain⟨F,hF,T0,tc⟩:=Bk (gl:=gl) (b:=b) (s:=s) (mo:=some L.mS) (fs:=L.fs b v nm) (ms:=[(L.mt,bf node L.yr L.yv)]) (cl:=cl) hn (v:=v) (i1:=5) (i2:=6) rfl rfl he hk4
   rw[decide_eq_false T0,Bool.false_or]at eK2
   simp only[if_neg T0]at eK2
   refine⟨F,_,_,hF,fun _ h2=>x.1.contains c4.data.toList=false/\Sq h C h2 (dK gl b s L node v nm A (x.1++[c4.data.toList],x.2)++tK t TA TC tg),br rfl ?_,?_⟩
   ·have neS:L.mS≠hv3.size:=Nat.ne_of_lt (pX (Lk Q1).2.2.2.2.2.2)
    have xS:L.xs≠L.mS:=fun q=>kK hmS cs q.symm
    have gS:g≠L.mS:=fun q=>kK hmS ca q.symm
    intro K3
    refine⟨L.xs,0,rfl,_,cs,L.mS,rfl,_,_,hmS,pW _,fun e4 he4 hk5=>?_,fun q4=>?_⟩
    ·obtain⟨hin,hv4⟩:=CI he4 hk5
     refine⟨1,hv4,L.mS,rfl,neS,_,_,hmS,pW _,fun j5 ev5 h5 h6=>?_,fun q5=>absurd hk5 (q5 _ he4)⟩
     intro hv15
     obtain⟨es2,hm2,kb2,at2,e0,he0,hk0⟩:=F9 c4 hmS ix.2.2.2 h5 h6
     have f5:Fr [L.mS] h1 hv15:=qm _ _ _ _
     dsimp-zeta only[K3]
     intro K4
     refine⟨L.xs,0,rfl,_,f5.cell cs (by simpa using xS),g,o,rfl,_,f5.cell ca (by simpa using gS),L.mS,rfl,_,_,hm2,kb2,fun ev7 he7 hk7=>⟨2,at2 _ he7 hk7,Fr.refl _ _,aq (fun z=>absurd z QA) fun _=>⟨_,?_,rfl,Sq.frT Q2 (f5.mono fun y hy=>?_)⟩⟩,fun q7=>absurd hk0 (q7 _ he0)⟩
     ·rw[eK2,List.contains_iff_mem.2 hin];rfl
     ·simp only[List.mem_singleton]at hy
      subst hy
      exact dm.2 ⟨8,_,rfl,by simp[Ck.fy]⟩
    ·have hni:x.1.contains c4.data.toList=false:=by
      cases q:x.1.contains c4.data.toList with
      | false=>rfl
      | true=>
       obtain⟨e,he,hk⟩:=CJ (nm:=c4) (List.contains_iff_mem.1 q)
       exact absurd hk (q4 e he)
     refine⟨L.mS,rfl,neS,_,_,hmS,pW _,fun j6 ev6 h5 h6=>absurd h6 (q4 _ (Array.mem_def.1 (Array.mem_of_getElem? h5))),fun _=>?_⟩
     intro hv18
     have f5:Fr [L.mS] h1 hv18:=qm _ _ _ _
     have hp:bG hv18 L.mS=some (Ent (ek (x.1++[c4.data.toList])),(ek (x.1++[c4.data.toList])).length):=F8 c4 hmS
     have Q3:Sq h C hv18 (dK gl b s L node v nm A (x.1++[c4.data.toList],x.2)++tK t TA TC tg):=⟨Sy.seeY Q2.sy 8 rfl f5 hp (by simpa using hd),Q2.ri⟩
     clear_value hv18
     dsimp-zeta only[K3]
     intro K4
     refine⟨L.xs,0,rfl,_,f5.cell cs (by simpa using xS),g,o,rfl,_,f5.cell ca (by simpa using gS),L.mS,rfl,_,_,hp,pW _,fun ev7 he7 hk7=>⟨1,(CI he7 hk7).2,Fr.refl _ _,aq (fun _=>⟨rfl,Fr.refl _ _,hni,Q3⟩) fun z=>absurd z QA⟩,fun q7=>?_⟩
     obtain⟨e,he,hk⟩:=CJ (ks:=x.1++[c4.data.toList]) (nm:=c4) QB
     exact absurd hk (q7 e he)
   ·rintro hv23 ⟨hni,Q3⟩
    rw[hni]at eK2
    simp only[Bool.not_false,G.bJ]at eK2
    refine⟨L.xr,0,rfl,_,(Lk Q3).1,?_⟩
    refine az [b] (IY (tg:=tg) (x:=(x.1++[c4.data.toList],x.2)) (Q3.sy.lx 0 rfl) (Q3.sy.ne 9 0 QA rfl rfl (by simp[Ck.ob]) (by simp[Ck.ob])) (Q3.sy.cellO 9 rfl 0 rfl) (Q3.sy.cellO 9 rfl 4 rfl) ix.1.i hs) QB (fun _ _ r=>by obtain⟨_,_,_,_,_,_,_,m⟩:=r;exact m.fr) (fun _ _ r=>by obtain⟨_,_,_,m⟩:=r;exact m) (fun v' hv24 r=>?_) fun v' hv24 r=>?_
    rotate_left
    ·obtain⟨e,q1,rfl,f⟩:=r
     exact⟨e,by rw[eK2,q1];rfl,rfl,Sq.frT Q3 (f.mono fun y hy=>yU hy)⟩
    obtain⟨says,j,q1,j1,j2,j3,rfl,M⟩:=r
    rw[q1]at eK2
    simp only[G.Er.bind]at eK2
    have Q4:=Sq.mvX Q3 M
    refine⟨says,_,rfl,fun _ h2=>∃x' A',G.mj s rd cl node v nm tg x= .ok x'/\Value.tuple #[]= .tuple #[]/\Sq h C h2 (dK gl b s L node v nm A' x')/\ID s node v x'/\x.2.i<=x'.2.i,br rfl ?_,fun hv26 r=>r⟩
    have hun:G.dQ rd cl (G.dq node c4.data.toList) v says x.2.i {x.2 with i:=j}≠ .un:=by
     intro w
     have w:G.dQ rd cl (G.dq node c4.data.toList) v says x.2.i (G.Xs.at (x.1++[c4.data.toList],x.2) j).2= .un:=w
     rw[eK2,w]at hu
     exact hu rfl
    refine tc says x.2.i (G.Xs.at (x.1++[c4.data.toList],x.2) j) A hv24 (Q4.pick [0,1,2,3,4,5,6,7,8] rfl).hp ⟨RX.at ix.1 j2,ix.2.1,ix.2.2.1,?_⟩ Qz hun _ _ (fun v' h' r=>?_) fun v' h' r=>?_
    ·show(x.1++[c4.data.toList]).Nodup
     rw[List.nodup_append]
     refine⟨ix.2.2.2,QB,fun u hu w hw e=>?_⟩
     simp only[List.mem_singleton]at hw
     subst hw
     subst e
     rw[List.contains_iff_mem.2 hu]at hni
     cases hni
    ·obtain⟨σ',q2,rfl,P,i2,p2⟩:=r
     rw[q2]at eK2
     refine⟨rfl,(x.1++[c4.data.toList],σ'),A,eK2,rfl,(Sq.call Q4 P).pick [0,1,2,3,4,5,6,7,8] rfl,i2,?_⟩
     have p2:σ'.i=j:=p2
     have j1:x.2.i<=j:=j1
     show x.2.i<=σ'.i
     omega
    ·obtain⟨e,q2,rfl,f⟩:=r
     rw[q2]at eK2
     exact⟨e,eK2,rfl,Sq.frA Q4 f⟩
  ·have T0:=Bl hno
   rw[decide_eq_true T0,Bool.true_or]at eK2
   simp only[if_pos T0,G.bJ]at eK2
   refine⟨fun _ h2=>h2=h1,aV rfl rfl,?_⟩
   rintro hv35 rfl
   refine⟨L.xr,0,rfl,_,cr,?_⟩
   refine az [b] (IY (tg:=tg) (x:=x) (Q2.sy.lx 0 rfl) (Q2.sy.ne 9 0 QA rfl rfl (by simp[Ck.ob]) (by simp[Ck.ob])) (Q2.sy.cellO 9 rfl 0 rfl) (Q2.sy.cellO 9 rfl 4 rfl) ix.1.i hs) QB (fun _ _ r=>by obtain⟨_,_,_,_,_,_,_,m⟩:=r;exact m.fr) (fun _ _ r=>by obtain⟨_,_,_,m⟩:=r;exact m) (fun v' hv24 r=>?_) fun v' hv24 r=>?_
   rotate_left
   ·obtain⟨e,q1,rfl,f⟩:=r
    exact⟨e,by rw[eK2,q1];rfl,rfl,Sq.frT Q2 (f.mono fun y hy=>yU hy)⟩
   obtain⟨says,j,q1,j1,j2,j3,rfl,M⟩:=r
   rw[q1]at eK2
   simp only[G.Er.bind]at eK2
   have Q4:=Sq.mvX Q2 M
   refine⟨says,_,rfl,fun _ h2=>h2=hv24,aV rfl rfl,?_⟩
   rintro hv37 rfl
   exact⟨x.at j,A,eK2,rfl,Q4.pick [0,1,2,3,4,5,6,7,8] rfl,⟨RX.at ix.1 j2,ix.2.1,ix.2.2.1,ix.2.2.2⟩,j1⟩
 have hmK:bG hv3 A.mK=some (Ent (iC x.2.keys),(iC x.2.keys).length):=Q1.sy.mapM 1 rfl
 have no_:∀{h1:ab},Fr [] hv3 h1->hv3.size<h1.size->(∀e∈(Ent (iC x.2.keys)).toList,e.key≠ .string a.says)->K ByteArray.empty ByteArray.empty false h1:=by
  intro h1 f1 l1 q
  exact kk _ _ _ _ f1 l1 (fun z=>by cases z) fun _=>CK (vb q)
 have st:∀(u w:Value),Fr [] hv3 (am (am (hv3.push (.cells #[.string ByteArray.empty,.string ByteArray.empty] 148)) hv3.size 0 u) hv3.size (0+1) w)/\hv3.size<(am (am (hv3.push (.cells #[.string ByteArray.empty,.string ByteArray.empty] 148)) hv3.size 0 u) hv3.size (0+1) w).size:=fun u w=>
  ⟨((Fr.push hv3 _).hsetr (.inl (Nat.le_refl _))).hsetr (.inl (Nat.le_refl _)),QB⟩
 refine⟨[],QB,L.xr,0,rfl,QB,_,(Lk Q1).1,b,0,rfl,QB,_,Q1.sy.cellO 0 rfl 9 rfl,g,o,rfl,QB,_,c1,⟨A.mK,rfl,_,_,hmK,jF _,fun ev he hk=>?_,fun q=>?_⟩,?_⟩
 ·obtain⟨k,hk1,hk2,hk3⟩:=nC he hk
  refine⟨k.2.1,k.2.2,hk3,Fr.refl _ _,Fr.push _ _,?_⟩
  intro hv5
  exact⟨(st _ _).1,kk _ _ _ _ (st _ _).1 (st _ _).2 (fun _=>⟨k.1,jB ix.1.kn hk1 hk2⟩) fun z=>by cases z⟩
 ·exact⟨Fr.refl _ _,Fr.push _ _,(st _ _).1,no_ (st _ _).1 (st _ _).2 q⟩
 ·refine⟨Fr.push _ _,A.mK,rfl,_,_,A0 hmK _,jF _,fun ev he hk=>?_,fun q=>?_⟩
  ·obtain⟨k,hk1,hk2,hk3⟩:=nC he hk
   exact⟨k.2.1,k.2.2,hk3,Fr.push _ _,(st _ _).1,kk _ _ _ _ (st _ _).1 (st _ _).2 (fun _=>⟨k.1,jB ix.1.kn hk1 hk2⟩) fun z=>by cases z⟩
  ·exact⟨Fr.push _ _,(st _ _).1,no_ (st _ _).1 (st _ _).2 q⟩
end
section
variable {gl:GL} {b:Nat} {s:ByteArray} {rd:ByteArray->Option (Nat × Nat)} {cl:Nat->Nat}
theorem JG {node:Bool} {v:Nat} {nm:ByteArray} {L:LvP} (hk:jD gl b s (some L.mS) (L.fs b v nm) [(L.mt,bf node L.yr L.yv)] (ID s node v) (ID s node v) (.func 146) #[] #[ptr L.xr,ptr L.xt,ptr L.xk,ptr L.xs] (G.mj s rd cl node v nm)):
  qH gl b s (some L.mS) (L.fs b v nm) [(L.mt,bf node L.yr L.yv)] (ID s node v) (.func 148) #[] #[ptr L.xd] (G.ic s rd cl node v nm):=by
 intro n a x A h H ix hu
 have Q:Sq h (dK gl b s L node v nm A x) h (dK gl b s L node v nm A x):=Sq.start H
 refine(CV.ret [] QC QC (R:=fun w h'=>h'=h/\((w= .nilFunc/\n.data.toList≠G.fK)\/(w= .func (.func 146) #[] #[ptr L.xr,ptr L.xt,ptr L.xk,ptr L.xs]/\n.data.toList=G.fK))) ?_ (fun _ _ r=>Fr.of_eq r.1)).mono (fun w h' r=>?_) (fun _ _ r=>r)
 ·show QH 148 #[.string n,QM (a:Int),ptr L.xd] h _
  apply Db
  unfold Nl
  rw[jl]
  have e1:(⟨#[100,97,116,97]⟩:ByteArray).data.toList=G.fK:=rfl
  rw[e1]
  exact af (fun q=>⟨L.xd,0,rfl,_,_,_,Q.sy.factY 8 rfl 7 rfl,rfl,.inr ⟨rfl,q⟩⟩) fun q=>⟨rfl,.inl ⟨rfl,q⟩⟩
 ·obtain⟨rfl,⟨rfl,q⟩ | ⟨rfl,q⟩⟩:=r
  ·exact .inl ⟨rfl,by unfold G.ic;rw[if_neg q],rfl⟩
  ·exact .inr ⟨_,_,_,_,x,A,ID s node v,rfl,by unfold G.ic;rw[if_pos q],Q,ix,rfl,⟨ix,(lvD s node v).at_⟩,hk⟩
theorem IR (hs:s.size<=262144) (hn:oQ gl rd cl) {node:Bool} {v yr yv mt t:Nat} {tg:G.Tg} {TA:QR} {TC:Nat} {A:XA} {σ:G.Xd} {h:ab}
  (H:Hp h (stX gl b s A σ++[Ck.ob t 111 (tgC TA TC tg.name tg.at_ tg.nameAt tg.list tg.whole),Ck.mp mt (bf node yr yv),Ck.ob yr 55 [ptr b],Ck.ob yv 3 [QM (v:Int)]])) (ix:ID s node v ([],σ)) (hu:G.fm s rd cl node v tg σ≠ .un):
  QJ 112 #[ptr b,ptr t,.map (some mt)] h (fun w h'=>∃x' A',G.fm s rd cl node v tg σ= .ok x'/\w= .tuple #[]/\Sq h (stX gl b s A σ++[Ck.ob t 111 (tgC TA TC tg.name tg.at_ tg.nameAt tg.list tg.whole),Ck.mp mt (bf node yr yv),Ck.ob yr 55 [ptr b],Ck.ob yv 3 [QM (v:Int)]]) h' (stX gl b s A' x'.2)/\ID s node v x'/\σ.i<=x'.2.i)
   (fun w h'=>∃e,G.fm s rd cl node v tg σ= .no e/\w=flx e/\Fr (aF (stX gl b s A σ++[Ck.ob t 111 (tgC TA TC tg.name tg.at_ tg.nameAt tg.list tg.whole),Ck.mp mt (bf node yr yv),Ck.ob yr 55 [ptr b],Ck.ob yv 3 [QM (v:Int)]])) h h'):=by
 generalize hC:stX gl b s A σ++[Ck.ob t 111 (tgC TA TC tg.name tg.at_ tg.nameAt tg.list tg.whole),Ck.mp mt (bf node yr yv),Ck.ob yr 55 [ptr b],Ck.ob yv 3 [QM (v:Int)]]=C at H ⊢
 have Q0:Sq h C h (stX gl b s A σ++[Ck.ob t 111 (tgC TA TC tg.name tg.at_ tg.nameAt tg.list tg.whole),Ck.mp mt (bf node yr yv),Ck.ob yr 55 [ptr b],Ck.ob yv 3 [QM (v:Int)]]):=by rw[hC];exact Sq.start H
 apply C9
 unfold Ni
 intro hv hv2 hv3 hv4 hv5
 have Q1:=Q0.add1 (Q0.sy.newO (ty:=55) [ptr b]) rfl
 have Q2:=Q1.add1 (Q1.sy.newO (ty:=89) [ptr t]) rfl
 have Q3:=Q2.add1 (Q2.sy.newO (ty:=174) [.map (some mt)]) rfl
 have Q4:=Q3.add1 Q3.sy.newM rfl
 have Q5:Sq h C hv5 (stX gl b s A σ++[Ck.ob t 111 (tgC TA TC tg.name tg.at_ tg.nameAt tg.list tg.whole),Ck.mp mt (bf node yr yv),Ck.ob yr 55 [ptr b],Ck.ob yv 3 [QM (v:Int)],Ck.ob h.size 55 [ptr b],Ck.ob hv.size 89 [ptr t],Ck.ob hv2.size 174 [.map (some mt)],Ck.mp hv3.size [],Ck.ob hv4.size 59 [.map none]]):=Q4.add1 (Q4.sy.newO [.map none]) rfl
 refine⟨⟨_,Q5.sy.cellO 16 rfl 0 rfl⟩,Q5.sy.freeO 16 rfl 0,?_⟩
 clear_value hv5
 intro hv6
 have Q6:Sq h C hv6 (stX gl b s A σ++[Ck.ob t 111 (tgC TA TC tg.name tg.at_ tg.nameAt tg.list tg.whole),Ck.mp mt (bf node yr yv),Ck.ob yr 55 [ptr b],Ck.ob yv 3 [QM (v:Int)],Ck.ob h.size 55 [ptr b],Ck.ob hv.size 89 [ptr t],Ck.ob hv2.size 174 [.map (some mt)],Ck.mp hv3.size [],Ck.ob hv4.size 59 [.map (some hv3.size)]]):=⟨Q5.sy.stO 16 rfl 0 _,Q5.ri⟩
 clear_value hv6
 intro hv7
 have Q7:Sq h C hv7 (stX gl b s A σ++[Ck.ob t 111 (tgC TA TC tg.name tg.at_ tg.nameAt tg.list tg.whole),Ck.mp mt (bf node yr yv),Ck.ob yr 55 [ptr b],Ck.ob yv 3 [QM (v:Int)],Ck.ob h.size 55 [ptr b],Ck.ob hv.size 89 [ptr t],Ck.ob hv2.size 174 [.map (some mt)],Ck.mp hv3.size [],Ck.ob hv4.size 59 [.map (some hv3.size)],Ck.ob hv6.size 87 [.nilFunc]]):=Q6.add1 (Q6.sy.newO [.nilFunc]) rfl
 refine⟨⟨_,Q7.sy.cellO 17 rfl 0 rfl⟩,Q7.sy.freeO 17 rfl 0,?_⟩
 clear_value hv7
 intro hv8
 have Q8:Sq h C hv8 (stX gl b s A σ++[Ck.ob t 111 (tgC TA TC tg.name tg.at_ tg.nameAt tg.list tg.whole),Ck.mp mt (bf node yr yv),Ck.ob yr 55 [ptr b],Ck.ob yv 3 [QM (v:Int)],Ck.ob h.size 55 [ptr b],Ck.ob hv.size 89 [ptr t],Ck.ob hv2.size 174 [.map (some mt)],Ck.mp hv3.size [],Ck.ob hv4.size 59 [.map (some hv3.size)],
   Ck.ob hv6.size 87 [.func (.func 146) #[] #[ptr h.size,ptr hv.size,ptr hv2.size,ptr hv4.size]]]):=⟨Q7.sy.stO 17 rfl 0 _,Q7.ri⟩
 clear_value hv8
 refine⟨_,Q8.sy.cellO 12 rfl 0 rfl,_,Q8.sy.cellO 13 rfl 0 rfl,?_⟩
 have ne:mt≠hv3.size:=Q8.sy.ne 9 15 QA rfl rfl (by simp[Ck.mp]) (by simp[Ck.mp])
 have Q9:=Q8.turn 8 rfl To.obvob
 have Q10:=(Q9.cutY [0,1,2,3,4,5,6,7,8] rfl (some (hv3.size,[])) (LvP.fs ⟨h.size,hv.size,hv2.size,hv4.size,hv6.size,t,yr,yv,mt,hv3.size⟩ b v tg.name) [(mt,bf node yr yv)] (fun p hp=>by cases hp;exact⟨15,rfl,QA⟩) (fun f hf=>by
   simp only[LvP.fs,List.mem_cons,List.not_mem_nil,or_false]at hf
   rcases hf with rfl | rfl | rfl | rfl | rfl | rfl | rfl | rfl
   ·exact⟨Q9.sy.cellO 12 rfl 0 rfl,12,_,rfl,.inl ⟨by simp[Ck.ob],QA⟩⟩
   ·exact⟨Q9.sy.cellO 13 rfl 0 rfl,13,_,rfl,.inl ⟨by simp[Ck.ob],QA⟩⟩
   ·exact⟨Q9.sy.cellO 14 rfl 0 rfl,14,_,rfl,.inl ⟨by simp[Ck.ob],QA⟩⟩
   ·exact⟨Q9.sy.cellO 16 rfl 0 rfl,16,_,rfl,.inl ⟨by simp[Ck.ob],QA⟩⟩
   ·exact⟨Q9.sy.cellW 8 rfl 0 rfl,8,_,rfl,.inr ⟨by simp[Ck.vob],rfl⟩⟩
   ·exact⟨Q9.sy.cellO 10 rfl 0 rfl,10,_,rfl,.inl ⟨by simp[Ck.ob],QA⟩⟩
   ·exact⟨Q9.sy.cellO 11 rfl 0 rfl,11,_,rfl,.inl ⟨by simp[Ck.ob],QA⟩⟩
   ·exact⟨Q9.sy.cellO 17 rfl 0 rfl,17,_,rfl,.inl ⟨by simp[Ck.ob],QA⟩⟩) (fun m hm=>by
   simp only[List.mem_singleton]at hm
   subst hm
   exact⟨Q9.sy.mapM 9 rfl,9,_,rfl,by simp[Ck.mp],QA⟩) fun p hp m hm=>by
    simp only[List.mem_singleton]at hm
    subst hm
    cases hp
    exact ne).pick [0,1,2,3,4,5,6,7,9,8] rfl
 have Q11:Sq h C hv8 (dK gl b s ⟨h.size,hv.size,hv2.size,hv4.size,hv6.size,t,yr,yv,mt,hv3.size⟩ node v tg.name A ([],σ)++[Ck.vob t 0 (tgC TA TC tg.name tg.at_ tg.nameAt tg.list tg.whole)]):=Q10
 refine az _ (Gg hs (lvD s node v) (JG (Ga hs hn ne)) (tg:=tg) (TA:=TA) (TC:=TC) Q11.hp ix hu) QB (fun _ _ r=>by obtain⟨_,_,_,_,m,_⟩:=r;exact m.fr) (fun _ _ r=>by obtain⟨_,_,_,m⟩:=r;exact m) (fun w hv34 r=>?_) fun w hv34 r=>?_
 ·obtain⟨x',A',e,rfl,P,i2,p2⟩:=r
  exact⟨rfl,x',A',e,rfl,(Sq.callT Q11 P).pick [0,1,2,3,4,5,6,7] rfl,i2,p2⟩
 ·obtain⟨e,q1,rfl,q2⟩:=r
  exact⟨e,q1,rfl,Sq.frT Q11 q2⟩
end
theorem kZ {l:List (Value × Value)} (hl:∀p∈l,∃x,p.1= .string x):bU cz (Ent l):=by
 intro e he
 obtain⟨j,p,h1,rfl⟩:=fP he
 obtain⟨x,hx⟩:=hl p (List.mem_of_getElem? h1)
 show yk cz p.1=true
 rw[hx];rfl
theorem vc {l:List (Value × Value)} {x:ByteArray} (hl:∀p∈l,p.1≠ .string x):∀e∈(Ent l).toList,e.key≠ .string x:=by
 intro e he
 obtain⟨j,p,h1,rfl⟩:=fP he
 exact hl p (List.mem_of_getElem? h1)
theorem oO (l:List (ByteArray × Nat)):bU cz (Ent (nB l)):=kZ fun p hp=>by
 obtain⟨q,_,rfl⟩:=List.mem_map.1 hp
 exact⟨_,rfl⟩
theorem Af {l:List (ByteArray × Nat)} {e:MapEntry} {x:ByteArray} (he:e∈(Ent (nB l)).toList) (hx:e.key= .string x):∃k∈l,G.eqB k.1 x=true/\e.val= QM (k.2:Int):=by
 obtain⟨j,p,h1,rfl⟩:=fP he
 simp only[nB,List.getElem?_map,Option.map_eq_some_iff]at h1
 obtain⟨k,h2,rfl⟩:=h1
 exact⟨k,List.mem_of_getElem? h2,by rw[fk];simpa using lR.1 hx,rfl⟩
theorem Ag {l:List (ByteArray × Nat)} {x:ByteArray} (h:∀e∈(Ent (nB l)).toList,e.key≠ .string x):(l.any fun k=>G.eqB k.1 x)=false:=by
 rw[List.any_eq_false]
 intro k hk
 obtain⟨j,hj⟩:=List.mem_iff_getElem?.1 hk
 have:=h ⟨.string k.1,QM (k.2:Int),j⟩ (Array.mem_def.1 (Array.mem_of_getElem? (i:=j) (by rw[jf];simp[nB,hj])))
 rw[fk]
 simpa using fun q=>this (lR.2 q)
section
variable {gl:GL} {b:Nat} {s:ByteArray} {mo:Option Nat} {fs:Fs} {ms:Ms} {rd:ByteArray->Option (Nat × Nat)} {cl:Nat->Nat}
theorem Gi (hs:s.size<=262144) (hn:oQ gl rd cl):jD gl b s mo fs ms (IX s) (PN s) (.func 89) #[ptr b] #[] (G.jx s rd cl):=by
 intro x A tg t TA TC h H ix hl hu
 generalize hC:chX gl b s mo fs ms A x++tK t TA TC tg=C at H ⊢
 have Q0:Sq h C h (chX gl b s mo fs ms A x++tK t TA TC tg):=by rw[hC];exact Sq.start H
 refine CV.up (aF C) QC ?_ (fun v h' r=>by obtain⟨_,_,_,_,m,_⟩:=r;exact m.fr) fun v h' r=>by obtain⟨_,_,_,m⟩:=r;exact m
 show QJ 89 #[ptr b,ptr t] h _ _
 apply GY
 unfold S89
 intro hv hv2
 have Q1:Sq h C hv (chX gl b s mo fs ms A x++tK t TA TC tg++[Ck.ob h.size 55 [ptr b]]):=Q0.add1 (Q0.sy.newO _) rfl
 have Q2:Sq h C hv2 (chX gl b s mo fs ms A x++tK t TA TC tg++[Ck.ob h.size 55 [ptr b]]):=Q1.gr (Fr.push hv _)
 have cn:∀(k:Nat) (y:QS),[G.xId][k]? =some y->ac hv2 hv.size (0+k*1)=some (.string (G.mkB y)):=by
  intro k y hk
  have hb:hv2[hv.size]? =some (.cells #[.string ⟨#[105,100]⟩] 9):=bK
  rw[aQ hb]
  match k,hk with
  | 0,hk=>cases hk;rfl
 clear_value hv2
 have V2:AtV hv2 TA tg.list:=lg Q2.sy 10 rfl
 have hc3:ac hv2 t 3=some (.slice TA tg.list.length TC):=Q2.sy.cellO 9 rfl 3 rfl
 refine az [] (CW (tg:=tg) (nms:=[G.xId]) hc3 (Q2.sy.cellO 9 rfl 1 rfl) V2 hl QA cn) QB (fun _ _ r=>Fr.of_eq r.2.2) (fun _ _ r=>by obtain⟨_,_,_,m⟩:=r;exact Fr.of_eq m) (fun v hv3 r=>?_) fun v hv3 r=>?_
 rotate_left
 ·obtain⟨f,e,rfl,rfl⟩:=r
  exact⟨f,by unfold G.jx G.below;rw[e];rfl,rfl,Q2.fr⟩
 obtain⟨e1,rfl,rfl⟩:=r
 have hall:=iu e1
 refine⟨rfl,?_⟩
 refine ao [] (yX (x:=⟨#[105,100]⟩) hc3 V2 rfl hl) QB (fun _ _ r=>by obtain⟨_,_,r,_⟩:=r;exact Fr.of_eq r) fun v hv4 r=>?_
 obtain⟨pI,rfl,rfl,hpI⟩:=r
 obtain⟨g,o,a,rfl,hgb,-,-,es,ea,c1,c2⟩:=jE (nm:=G.xId) hpI (hall _ QB) V2
 have eK:G.jx s rd cl tg x=(G.bJ (!x.2.ids.any fun p=>G.eqB p.1 a.says) (a.at_,18) <|
   G.fm s rd cl true x.2.n tg {x.2 with n:=x.2.n+1,ids:=x.2.ids++[(a.says,x.2.n)],labels:=x.2.labels++[G.noB],spots:=x.2.spots++[(0,0)]}).bind fun y=>.ok (x.1,y.2):=by
  unfold G.jx G.below;rw[e1,es,ea];rfl
 refine⟨_,rfl,?_⟩
 intro K
 have cB:ac hv4 h.size 0=some (ptr b):=Q2.sy.cellO 11 rfl 0 rfl
 have c2':ac hv4 g (o+2)=some (QM (a.at_:Int)):=c2
 have hmN:bG hv4 A.mN=some (Ent (nB x.2.ids),(nB x.2.ids).length):=Q2.sy.mapM 2 rfl
 refine⟨_,cB,b,0,rfl,_,Q2.sy.cellO 0 rfl 10 rfl,g,o,rfl,_,c1,A.mN,rfl,_,_,hmN,oO _,fun ev he hk=>?_,fun hno=>?_⟩
 ·obtain⟨k,hk1,hk2,hk3⟩:=Af he hk
  have hany:(x.2.ids.any fun p=>G.eqB p.1 a.says)=true:=List.any_eq_true.2 ⟨k,hk1,hk2⟩
  exact⟨_,hk3,Fr.refl _ _,g,o,rfl,_,c2',aq (fun z=>absurd z QA) fun _=>⟨_,by rw[eK,hany];rfl,rfl,Q2.fr⟩⟩
 have hany:=Ag hno
 rw[hany]at eK
 simp only[Bool.not_false,G.bJ]at eK
 refine⟨Fr.refl _ _,g,o,rfl,_,c2',aq (fun _=>?_) fun z=>absurd z QA⟩
 refine⟨rfl,_,cB,b,0,rfl,_,Q2.sy.cellO 0 rfl 2 rfl,?_⟩
 intro hv7
 have Q7:Sq h C hv7 (chX gl b s mo fs ms A x++tK t TA TC tg++[Ck.ob h.size 55 [ptr b],Ck.ob hv4.size 3 [QM 0]]):=Q2.add1 (Q2.sy.newO _) rfl
 have c17:ac hv7 g (o+1)=some (.string a.says):=(Fr.push hv4 _).cell c1 QB
 clear_value hv7
 refine⟨⟨_,Q7.sy.cellO 12 rfl 0 rfl⟩,Q7.sy.freeO 12 rfl 0,?_⟩
 intro hv8
 have Q8:Sq h C hv8 (chX gl b s mo fs ms A x++tK t TA TC tg++[Ck.ob h.size 55 [ptr b],Ck.ob hv4.size 3 [QM (x.2.n:Int)]]):=⟨Q7.sy.stO 12 rfl 0 _,Q7.ri⟩
 have g4:g≠hv4.size:=Nat.ne_of_lt (bk c1)
 have gb:g≠b:=Q2.sy.ne 10 0 QA rfl rfl hgb (by simp[Ck.ob])
 have c18:ac hv8 g (o+1)=some (.string a.says):=((Fr.refl [hv4.size] hv7).hsetr (.inr QB)).cell c17 (by simpa using g4)
 clear_value hv8
 refine⟨_,Q8.sy.cellO 11 rfl 0 rfl,b,0,rfl,_,Q8.sy.cellO 0 rfl 2 rfl,b,0,rfl,⟨_,Q8.sy.cellO 0 rfl 2 rfl⟩,Q8.sy.freeO 0 rfl 2,?_⟩
 have hlt:x.2.n<1024:=ix.2
 rw[wrN Qz]
 intro hv9
 have Q9:Sq h C hv9 (chX gl b s mo fs ms A (x.1,{x.2 with n:=x.2.n+1})++tK t TA TC tg++[Ck.ob h.size 55 [ptr b],Ck.ob hv4.size 3 [QM (x.2.n:Int)]]):=⟨Q8.sy.stO 0 rfl 2 _,Q8.ri⟩
 have c19:ac hv9 g (o+1)=some (.string a.says):=((Fr.refl [b] hv8).hsetr (.inr QB)).cell c18 (by simpa using gb)
 clear_value hv9
 intro K2
 refine⟨_,Q9.sy.cellO 11 rfl 0 rfl,b,0,rfl,_,Q9.sy.cellO 0 rfl 10 rfl,g,o,rfl,_,c19,_,Q9.sy.cellO 12 rfl 0 rfl,A.mN,rfl,_,_,Q9.sy.mapM 2 rfl,oO _,fun j2 ev2 h5 h6=>absurd h6 (hno _ (Array.mem_def.1 (Array.mem_of_getElem? h5))),fun _=>?_⟩
 intro hv12
 have Q12:Sq h C hv12 (chX gl b s mo fs ms A (x.1,{x.2 with n:=x.2.n+1,ids:=x.2.ids++[(a.says,x.2.n)]})++tK t TA TC tg++[Ck.ob h.size 55 [ptr b],Ck.ob hv4.size 3 [QM (x.2.n:Int)]]):=
  ⟨Q9.sy.putM 2 rfl (nB (x.2.ids++[(a.says,x.2.n)])) (by rw[iy];simp[nB]) (by simp[nB]),Q9.ri⟩
 clear_value hv12
 dsimp-zeta only[K2]
 intro K3
 have r2:RX s {x.2 with n:=x.2.n+1,ids:=x.2.ids++[(a.says,x.2.n)],labels:=x.2.labels++[G.noB],spots:=x.2.spots++[(0,0)]}:=by
  refine⟨ix.1.i,hlt,by simp[ix.1.l],by simp[ix.1.p],?_,?_,ix.1.w,ix.1.e,ix.1.kn⟩
  ·show((x.2.ids++[(a.says,x.2.n)]).map fun p=>p.1.data.toList).Nodup
   rw[List.map_append,List.nodup_append]
   refine⟨ix.1.dn,QB,?_⟩
   intro u hu' w hw e
   simp only[List.map_cons,List.map_nil,List.mem_singleton]at hw
   subst hw
   obtain⟨ky,hk1,rfl⟩:=List.mem_map.1 hu'
   rw[List.any_eq_false]at hany
   refine hany ky hk1 ?_
   rw[fk,decide_eq_true_eq,e]
  ·intro p hp
   show p.2<x.2.n+1
   rcases List.mem_append.1 hp with hp | hp
   ·have:=ix.1.dv p hp;omega
   ·simp only[List.mem_singleton]at hp
    subst hp
    exact Nat.lt_succ_self _
 have fin:∀(p:Nat) (hvx:ab) (A':XA),Sq h C hvx (chX gl b s mo fs ms A' (x.1,{x.2 with n:=x.2.n+1,ids:=x.2.ids++[(a.says,x.2.n)],labels:=x.2.labels++[G.noB],spots:=x.2.spots++[(0,0)]})++tK t TA TC tg++[Ck.ob h.size 55 [ptr b],Ck.ob hv4.size 3 [QM (x.2.n:Int)],Ck.junk hv12.size,Ck.junk p])->K3 p hvx:=by
  intro p hvx A' Qx
  generalize hσ:({x.2 with n:=x.2.n+1,ids:=x.2.ids++[(a.says,x.2.n)],labels:=x.2.labels++[G.noB],spots:=x.2.spots++[(0,0)]}:G.Xd)=σ at Qx r2 eK
  dsimp-zeta only[K3]
  refine⟨_,Qx.sy.cellO 11 rfl 0 rfl,?_⟩
  intro hv31
  have Q31:Sq h C hv31 (chX gl b s mo fs ms A' (x.1,σ)++tK t TA TC tg++[Ck.ob h.size 55 [ptr b],Ck.ob hv4.size 3 [QM (x.2.n:Int)],Ck.junk hv12.size,Ck.junk p,Ck.mp hvx.size []]):=Qx.add1 Qx.sy.newM rfl
  have n1:hvx.size≠p:=Q31.sy.neJ 15 14 rfl rfl rfl (by simp[Ck.mp])
  have n2:hvx.size≠hv12.size:=Q31.sy.neJ 15 13 rfl rfl rfl (by simp[Ck.mp])
  refine⟨hvx.size,rfl,n1,n2,_,_,Q31.sy.mapM 15 rfl,kZ QB,vc QB,?_⟩
  intro hv32
  have Q32:Sq h C hv32 (chX gl b s mo fs ms A' (x.1,σ)++tK t TA TC tg++[Ck.ob h.size 55 [ptr b],Ck.ob hv4.size 3 [QM (x.2.n:Int)],Ck.junk hv12.size,Ck.junk p,Ck.mp hvx.size ((bf true h.size hv4.size).take 1)]):=⟨Q31.sy.putM 15 rfl _ (iy _ _ _) rfl,Q31.ri⟩
  refine⟨hvx.size,rfl,n1,n2,_,_,Q32.sy.mapM 15 rfl,kZ ?_,vc ?_,?_⟩
  ·intro p hp;simp[bf]at hp;subst hp;exact⟨_,rfl⟩
  ·intro p hp;simp[bf]at hp;subst hp;exact fun z=>absurd (lR.1 z) QA
  intro hv33
  have Q33:Sq h C hv33 (chX gl b s mo fs ms A' (x.1,σ)++tK t TA TC tg++[Ck.ob h.size 55 [ptr b],Ck.ob hv4.size 3 [QM (x.2.n:Int)],Ck.junk hv12.size,Ck.junk p,Ck.mp hvx.size ((bf true h.size hv4.size).take 2)]):=⟨Q32.sy.putM 15 rfl _ (iy _ _ _) rfl,Q32.ri⟩
  refine⟨hvx.size,rfl,n1,n2,_,_,Q33.sy.mapM 15 rfl,kZ ?_,vc ?_,?_⟩
  ·intro p hp;simp[bf]at hp;rcases hp with rfl | rfl<;>exact⟨_,rfl⟩
  ·intro p hp;simp[bf]at hp;rcases hp with rfl | rfl<;>exact fun z=>absurd (lR.1 z) QA
  intro hv34
  have Q34:Sq h C hv34 (chX gl b s mo fs ms A' (x.1,σ)++tK t TA TC tg++[Ck.ob h.size 55 [ptr b],Ck.ob hv4.size 3 [QM (x.2.n:Int)],Ck.junk hv12.size,Ck.junk p,Ck.mp hvx.size (bf true h.size hv4.size)]):=⟨Q33.sy.putM 15 rfl _ (iy _ _ _) rfl,Q33.ri⟩
  have Q35:Sq h C hv34 ((stX gl b s A' σ++[Ck.ob t 111 (tgC TA TC tg.name tg.at_ tg.nameAt tg.list tg.whole),Ck.mp hvx.size (bf true h.size hv4.size),Ck.ob h.size 55 [ptr b],Ck.ob hv4.size 3 [QM (x.2.n:Int)]])++[Ck.fy (mo.map fun m=>(m,x.1)) fs ms]):=Q34.pick [0,1,2,3,4,5,6,7,9,15,11,12,8] rfl
  have hun:G.fm s rd cl true x.2.n tg σ≠ .un:=by
   intro z
   rw[eK,z]at hu
   exact hu rfl
  have en:x.2.n<σ.n:=by rw[<-hσ];exact Nat.lt_succ_self _
  have ei:σ.i=x.2.i:=by rw[<-hσ]
  refine az _ (IR hs hn (node:=true) (v:=x.2.n) (yr:=h.size) (yv:=hv4.size) (mt:=hvx.size) (tg:=tg) (TA:=TA) (TC:=TC) (Q35.pick [0,1,2,3,4,5,6,7,8,9,10,11] rfl).hp ⟨r2,fun _=>en,fun z=>absurd z QA,List.nodup_nil⟩ hun) ?_ (fun _ _ r=>by obtain⟨_,_,_,_,m,_⟩:=r;exact m.fr) (fun _ _ r=>by obtain⟨_,_,_,m⟩:=r;exact m) (fun w hv35 r=>?_) fun w hv35 r=>?_
  ·intro z hz
   simp only[List.mem_cons,List.not_mem_nil,or_false]at hz
   rcases hz with rfl | rfl
   ·exact Q34.sy.nO 14 [0,1,2,3,4,5,6,7,9,15,11,12] rfl rfl
   ·exact Q34.sy.nO 13 [0,1,2,3,4,5,6,7,9,15,11,12] rfl rfl
  ·obtain⟨x',A2,e,rfl,P,i2,p2⟩:=r
   exact⟨rfl,(x.1,x'.2),A2,by rw[eK,e];rfl,rfl,Sq.call Q35 P,i2.1,by rw[<-ei];exact p2⟩
  ·obtain⟨e,q1,rfl,q2⟩:=r
   exact⟨e,by rw[eK,q1];rfl,rfl,Sq.frA Q35 q2⟩
 have hL:∀y∈ai A.aL,y<h.size/\y≠b:=fun y hy=>⟨qI Q0.sy 3 rfl y hy,Q0.sy.ne 3 0 QA rfl rfl hy (by simp[Ck.ob])⟩
 have hS:∀y∈ai A.aS,y<h.size/\y≠b:=fun y hy=>⟨qI Q0.sy 4 rfl y hy,Q0.sy.ne 4 0 QA rfl rfl hy (by simp[Ck.ob])⟩
 have hbl:b<h.size:=qI Q0.sy 0 rfl b (by simp[Ck.ob])
 have h12:h.size<=hv12.size:=Q12.fr.size
 have hM1:∀y,(y=b\/h.size<=y)->y∉ai A.aL++ai A.aS:=by
  intro y hy q
  rcases List.mem_append.1 q with q | q
  ·have:=hL y q;omega
  ·have:=hS y q;omega
 have hM2:∀y,h.size<=y->y∉b::(ai A.aL++ai A.aS):=by
  intro y hy q
  rcases List.mem_cons.1 q with rfl | q
  ·omega
  ·exact hM1 y (.inr hy) q
 have hll:=ix.1.l
 have hsl:=ix.1.p
 have st:∀(p:Nat) (hb:ab) (sA sA2:QR) (sC sC2:Nat),h.size<=p->Fr (ai A.aL++ai A.aS) hv12 hb->
   Sq h C hb ([Ck.ob b 63 (rx s A {x.2 with n:=x.2.n+1,ids:=x.2.ids++[(a.says,x.2.n)]}),Ck.mp A.mK (iC x.2.keys),Ck.mp A.mN (nB (x.2.ids++[(a.says,x.2.n)])),Ck.sl eS 9 sA (x.2.labels.length+1) sC (x.2.labels++[G.noB]),Ck.sl eFF 68 sA2 (x.2.spots.length+1) sC2 (x.2.spots++[(0,0)]),Ck.sl eF 66 A.aW x.2.weights.length A.cW x.2.weights,
    Ck.sl eN 114 A.aE x.2.ends.length A.cE x.2.ends,Ck.glob gl,Ck.fy (mo.map fun m=>(m,x.1)) fs ms]++tK t TA TC tg++[Ck.ob h.size 55 [ptr b],Ck.ob hv4.size 3 [QM (x.2.n:Int)],Ck.junk hv12.size,Ck.junk p])->
   (b≠p/\b≠hv12.size)/\(∃u,ac hb b (0+12)=some u)/\au hb b (0+12)=true/\Fr (b::(ai A.aL++ai A.aS)) hv12 (am hb b (0+12) (.slice sA (x.2.labels.length+1) sC))/\
   (∃u,ac (am hb b (0+12) (.slice sA (x.2.labels.length+1) sC)) b (0+13)=some u)/\au (am hb b (0+12) (.slice sA (x.2.labels.length+1) sC)) b (0+13)=true/\
   Fr (b::(ai A.aL++ai A.aS)) hv12 (am (am hb b (0+12) (.slice sA (x.2.labels.length+1) sC)) b (0+13) (.slice sA2 (x.2.spots.length+1) sC2))/\K3 p (am (am hb b (0+12) (.slice sA (x.2.labels.length+1) sC)) b (0+13) (.slice sA2 (x.2.spots.length+1) sC2)):=by
  intro p hb sA sA2 sC sC2 hp f Q
  have Ya:=Q.sy.stO 0 rfl 12 (.slice sA (x.2.labels.length+1) sC)
  have Yb:=Ya.stO 0 rfl 13 (.slice sA2 (x.2.spots.length+1) sC2)
  have fa:Fr (b::(ai A.aL++ai A.aS)) hv12 (am hb b (0+12) (.slice sA (x.2.labels.length+1) sC)):=(f.mono fun y q=>List.mem_cons_of_mem _ q).hsetr (.inr QB)
  refine⟨⟨Qz,Qz⟩,⟨_,Q.sy.cellO 0 rfl 12 rfl⟩,Q.sy.freeO 0 rfl 12,fa,⟨_,Ya.cellO 0 rfl 13 rfl⟩,Ya.freeO 0 rfl 13,fa.hsetr (.inr QB),?_⟩
  refine fin p _ {A with aL:=sA,cL:=sC,aS:=sA2,cS:=sC2} ⟨?_,Q.ri⟩
  have l1:(x.2.labels++[G.noB]).length=x.2.labels.length+1:=by simp
  have l2:(x.2.spots++[((0:Nat),(0:Nat))]).length=x.2.spots.length+1:=by simp
  unfold chX stX rx
  simp only[l1,l2]
  exact Yb
 refine⟨ai A.aL++ai A.aS,b::(ai A.aL++ai A.aS),fun y q=>List.mem_cons_of_mem _ q,QB,hM1 _ (.inr (Nat.le_refl _)),_,Q12.sy.cellO 11 rfl 0 rfl,hM2 _ (Nat.le_refl _),_,Q12.sy.cellO 11 rfl 0 rfl,hM1 _ (.inr (Nat.le_refl _)),_,Q12.sy.cellO 11 rfl 0 rfl,
  b,0,rfl,hM1 _ (.inl rfl),A.aL,x.2.labels.length,A.cL,Q12.sy.cellO 0 rfl 12 rfl,hM2 _ (Nat.le_refl _),_,Q12.sy.cellO 11 rfl 0 rfl,b,0,rfl,hM1 _ (.inl rfl),A.aS,x.2.spots.length,A.cS,Q12.sy.cellO 0 rfl 13 rfl,?_,?_⟩
 ·intro hp1
  have Z1:=Q12.add1 (Q12.sy.junk (.cells #[.string (⟨#[]⟩:ByteArray)] 9)) rfl
  have g1:Fr (ai A.aL++ai A.aS) hv12 hp1:=(Fr.push _ _).nil
  have sp1:hv12.size<hp1.size:=by simp[hp1]
  refine⟨g1,?_,?_⟩
  ·refine⟨_,Z1.sy.ownS 3 rfl,fun y hy q=>?_,Qz,by simp only[maxLen];omega,fun sA sC ha ow f gg _=>?_⟩
   ·have:=(hL y q).1
    simp only[List.mem_singleton]at hy
    omega
   have ga:Fr (ai A.aL++ai A.aS) hv12 ha:=g1.trans (f.mono fun y q=>List.mem_append.2 (.inl q))
   have Za:Sq h C ha _:=⟨Z1.sy.appS 3 rfl [G.noB] ow f gg rfl rfl,Z1.ri⟩
   have sa:hp1.size<=ha.size:=f.size
   refine⟨ga,?_⟩
   intro hp2
   have Z2:=Za.add1 (Za.sy.junk (.cells #[QQ 0,QQ 0] 68)) rfl
   have g2:Fr (ai A.aL++ai A.aS) hv12 hp2:=ga.trans (Fr.push _ _).nil
   refine⟨g2,_,Z2.sy.ownS 4 rfl,fun y hy q=>?_,Qz,by simp only[maxLen];omega,fun sA2 sC2 hb ow2 f2 gg2 _=>?_⟩
   ·have:=(hS y q).1
    simp only[List.mem_cons,List.not_mem_nil,or_false]at hy
    omega
   have gb:Fr (ai A.aL++ai A.aS) hv12 hb:=g2.trans (f2.mono fun y q=>List.mem_append.2 (.inr q))
   have Zb:Sq h C hb _:=⟨Z2.sy.appS 4 rfl [((0:Nat),(0:Nat))] ow2 f2 gg2 rfl rfl,Z2.ri⟩
   obtain⟨⟨k1,k2⟩,k3,k4,k5,k6,k7,k8,k9⟩:=st ha.size hb sA sA2 sC sC2 Qz gb Zb
   exact⟨gb,b,0,rfl,k1,k2,k3,k4,k5,b,0,rfl,k1,k2,k6,k7,k8,k9⟩
  ·intro hp2
   have Z2:=Z1.add1 (Z1.sy.junk (.cells #[QQ 0,QQ 0] 68)) rfl
   have g2:Fr (ai A.aL++ai A.aS) hv12 hp2:=g1.trans (Fr.push _ _).nil
   have sp2:hp1.size<hp2.size:=by simp[hp2]
   refine⟨g2,_,Z2.sy.ownS 3 rfl,fun y hy q=>?_,Qz,by simp only[maxLen];omega,fun sA sC ha ow f gg _=>?_⟩
   ·have:=(hL y q).1
    simp only[List.mem_cons,List.not_mem_nil,or_false]at hy
    omega
   have ga:Fr (ai A.aL++ai A.aS) hv12 ha:=g2.trans (f.mono fun y q=>List.mem_append.2 (.inl q))
   have Za:Sq h C ha _:=⟨Z2.sy.appS 3 rfl [G.noB] ow f gg rfl rfl,Z2.ri⟩
   refine⟨ga,_,Za.sy.ownS 4 rfl,fun y hy q=>?_,Qz,by simp only[maxLen];omega,fun sA2 sC2 hb ow2 f2 gg2 _=>?_⟩
   ·have:=(hS y q).1
    simp only[List.mem_cons,List.not_mem_nil,or_false]at hy
    omega
   have gb:Fr (ai A.aL++ai A.aS) hv12 hb:=ga.trans (f2.mono fun y q=>List.mem_append.2 (.inr q))
   have Zb:Sq h C hb _:=⟨Za.sy.appS 4 rfl [((0:Nat),(0:Nat))] ow2 f2 gg2 rfl rfl,Za.ri⟩
   obtain⟨⟨k1,k2⟩,k3,k4,k5,k6,k7,k8,k9⟩:=st hp1.size hb sA sA2 sC sC2 Qz gb Zb
   exact⟨gb,b,0,rfl,k1,k2,k3,k4,k5,b,0,rfl,k1,k2,k6,k7,k8,k9⟩
 ·intro hp1
  have Z1:=Q12.add1 (Q12.sy.junk (.cells #[QQ 0,QQ 0] 68)) rfl
  have g1:Fr (ai A.aL++ai A.aS) hv12 hp1:=(Fr.push _ _).nil
  have sp1:hv12.size<hp1.size:=by simp[hp1]
  refine⟨g1,?_⟩
  intro hp2
  have Z2:=Z1.add1 (Z1.sy.junk (.cells #[.string (⟨#[]⟩:ByteArray)] 9)) rfl
  have g2:Fr (ai A.aL++ai A.aS) hv12 hp2:=g1.trans (Fr.push _ _).nil
  have sp2:hp1.size<hp2.size:=by simp[hp2]
  refine⟨g2,_,Z2.sy.ownS 3 rfl,fun y hy q=>?_,Qz,by simp only[maxLen];omega,fun sA sC ha ow f gg _=>?_⟩
  ·have:=(hL y q).1
   simp only[List.mem_cons,List.not_mem_nil,or_false]at hy
   omega
  have ga:Fr (ai A.aL++ai A.aS) hv12 ha:=g2.trans (f.mono fun y q=>List.mem_append.2 (.inl q))
  have Za:Sq h C ha _:=⟨Z2.sy.appS 3 rfl [G.noB] ow f gg rfl rfl,Z2.ri⟩
  refine⟨ga,_,Za.sy.ownS 4 rfl,fun y hy q=>?_,Qz,by simp only[maxLen];omega,fun sA2 sC2 hb ow2 f2 gg2 _=>?_⟩
  ·have:=(hS y q).1
   simp only[List.mem_cons,List.not_mem_nil,or_false]at hy
   omega
  have gb:Fr (ai A.aL++ai A.aS) hv12 hb:=ga.trans (f2.mono fun y q=>List.mem_append.2 (.inr q))
  have Zb:Sq h C hb _:=⟨Za.sy.appS 4 rfl [((0:Nat),(0:Nat))] ow2 f2 gg2 rfl rfl,Za.ri⟩
  obtain⟨⟨k1,k2⟩,k3,k4,k5,k6,k7,k8,k9⟩:=st hp1.size hb sA sA2 sC sC2 Qz gb Zb
  exact⟨gb,b,0,rfl,k1,k2,k3,k4,k5,b,0,rfl,k1,k2,k6,k7,k8,k9⟩
end
section
variable {gl:GL} {b:Nat} {s:ByteArray} {mo:Option Nat} {fs:Fs} {ms:Ms} {rd:ByteArray->Option (Nat × Nat)} {cl:Nat->Nat}
def eJ (tg:G.Tg):List (ByteArray × Nat):=[(G.aG tg G.bS,G.kR tg G.bS),(G.aG tg G.bT,G.kR tg G.bT)]
theorem Gb (hs:s.size<=262144) (hn:oQ gl rd cl):jD gl b s mo fs ms (IX s) (PE s) (.func 90) #[ptr b] #[] (G.ji s rd cl):=by
 intro x A tg t TA TC h H ix hl hu
 generalize hC:chX gl b s mo fs ms A x++tK t TA TC tg=C at H ⊢
 have Q0:Sq h C h (chX gl b s mo fs ms A x++tK t TA TC tg):=by rw[hC];exact Sq.start H
 refine CV.up (aF C) QC ?_ (fun v h' r=>by obtain⟨_,_,_,_,m,_⟩:=r;exact m.fr) fun v h' r=>by obtain⟨_,_,_,m⟩:=r;exact m
 show QJ 90 #[ptr b,ptr t] h _ _
 apply GZ
 unfold S90
 intro hv hv2
 have Q1:Sq h C hv (chX gl b s mo fs ms A x++tK t TA TC tg++[Ck.ob h.size 55 [ptr b]]):=Q0.add1 (Q0.sy.newO _) rfl
 have Q2:Sq h C hv2 (chX gl b s mo fs ms A x++tK t TA TC tg++[Ck.ob h.size 55 [ptr b]]):=Q1.gr (Fr.push hv _)
 have cn:∀(k:Nat) (y:QS),[G.bS,G.bT][k]? =some y->ac hv2 hv.size (0+k*1)=some (.string (G.mkB y)):=by
  intro k y hk
  have hb:hv2[hv.size]? =some (.cells #[.string ⟨#[115,111,117,114,99,101]⟩,.string ⟨#[116,97,114,103,101,116]⟩] 9):=bK
  rw[aQ hb]
  match k,hk with
  | 0,hk=>cases hk;rfl
  | 1,hk=>cases hk;rfl
 clear_value hv2
 have V2:AtV hv2 TA tg.list:=lg Q2.sy 10 rfl
 have hc3:ac hv2 t 3=some (.slice TA tg.list.length TC):=Q2.sy.cellO 9 rfl 3 rfl
 refine az [] (CW (tg:=tg) (nms:=[G.bS,G.bT]) hc3 (Q2.sy.cellO 9 rfl 1 rfl) V2 hl QA cn) QB (fun _ _ r=>Fr.of_eq r.2.2) (fun _ _ r=>by obtain⟨_,_,_,m⟩:=r;exact Fr.of_eq m) (fun v hv3 r=>?_) fun v hv3 r=>?_
 rotate_left
 ·obtain⟨f,e,rfl,rfl⟩:=r
  exact⟨f,by unfold G.ji G.below;rw[e];rfl,rfl,Q2.fr⟩
 obtain⟨e1,rfl,rfl⟩:=r
 have hall:=iu e1
 have eK:G.ji s rd cl tg x=(G.fm s rd cl false x.2.weights.length tg {x.2 with ends:=x.2.ends++eJ tg,weights:=x.2.weights++[4607182418800017408]}).bind fun y=>.ok (x.1,y.2):=by
  unfold G.ji G.below;rw[e1];rfl
 refine⟨rfl,?_⟩
 intro hv4
 have Q4:Sq h C hv4 (chX gl b s mo fs ms A x++tK t TA TC tg++[Ck.ob h.size 55 [ptr b],Ck.ob hv3.size 9 [.string ⟨#[115,111,117,114,99,101]⟩,.string ⟨#[116,97,114,103,101,116]⟩]]):=Q2.add1 (Q2.sy.newO _) rfl
 clear_value hv4
 have hwl:x.2.weights.length<3072:=ix.2
 have hel:x.2.ends.length=2*x.2.weights.length:=ix.1.e
 refine⟨fun l h'=>∃(k:Nat) (A':XA),l=[QM (k:Int)]/\k<=2/\Sq h C h' (chX gl b s mo fs ms A' (x.1,{x.2 with ends:=x.2.ends++(eJ tg).take k})++tK t TA TC tg++[Ck.ob h.size 55 [ptr b],Ck.ob hv3.size 9 [.string ⟨#[115,111,117,114,99,101]⟩,.string ⟨#[116,97,114,103,101,116]⟩]]),
  mI 2,⟨0,A,rfl,Qz,by simpa using Q4⟩,?_⟩
 rintro z hv5 ⟨k,A',e,hk,Q⟩
 cases e
 have el:(x.2.ends++(eJ tg).take k).length=x.2.ends.length+k:=by
  rw[List.length_append,List.length_take]
  have:(eJ tg).length=2:=rfl
  omega
 refine af (fun q=>?_) fun q=>?_
 ·have hk2:k<2:=by omega
  obtain⟨nm,y,hnm,hy,hsm⟩:∃(nm:ByteArray) (y:ByteArray × Nat),ac hv5 hv3.size (0+k*1)=some (.string nm)/\(eJ tg)[k]? =some y/\(G.kO tg nm.data.toList).isSome=true/\y=(G.aG tg nm.data.toList,G.kR tg nm.data.toList):=by
   match k,hk2 with
   | 0,_=>exact⟨_,_,Q.sy.cellO 12 rfl 0 rfl,rfl,hall G.bS QB,rfl⟩
   | 1,_=>exact⟨_,_,Q.sy.cellO 12 rfl 1 rfl,rfl,hall G.bT QB,rfl⟩
  refine⟨hv3.size,0,rfl,Qz,Qz,nm,by rw[Int.toNat_natCast];exact hnm,?_⟩
  have V5:AtV hv5 TA tg.list:=lg Q.sy 10 rfl
  refine ao [] (yX (x:=nm) (Q.sy.cellO 9 rfl 3 rfl) V5 rfl hl) QB (fun _ _ r=>by obtain⟨_,_,r,_⟩:=r;exact Fr.of_eq r) fun v hv6 r=>?_
  obtain⟨pI,rfl,rfl,hpI⟩:=r
  obtain⟨g,o,a,rfl,hgb,-,-,es,ea,c1,c2⟩:=jE (nm:=nm.data.toList) hpI hsm.1 V5
  have cB:ac hv6 h.size 0=some (ptr b):=Q.sy.cellO 11 rfl 0 rfl
  have nE:∀(i:Nat) (c:Ck),(chX gl b s mo fs ms A' (x.1,{x.2 with ends:=x.2.ends++(eJ tg).take k})++tK t TA TC tg++[Ck.ob h.size 55 [ptr b],Ck.ob hv3.size 9 [.string ⟨#[115,111,117,114,99,101]⟩,.string ⟨#[116,97,114,103,101,116]⟩]])[i]? =some c->i≠6->∀w∈c.own,w∉ai A'.aE:=
   fun i c hi h6 w hw w2=>Q.sy.ne i 6 h6 hi rfl hw w2 rfl
  refine⟨_,rfl,ai A'.aE,QB,nE 11 _ rfl QA _ (by simp[Ck.ob]),_,cB,nE 11 _ rfl QA _ (by simp[Ck.ob]),_,cB,b,0,rfl,nE 0 _ rfl QA _ (by simp[Ck.ob]),_,_,_,Q.sy.cellO 0 rfl 11 rfl,g,o,rfl,nE 10 _ rfl QA _ hgb,_,c1,g,o,rfl,nE 10 _ rfl QA _ hgb,_,c2,?_⟩
  intro hv7
  have Q7:=Q.add1 (Q.sy.junk (.cells #[.string a.says,QM (a.at_:Int)] 114)) rfl
  have f7:Fr (ai A'.aE) hv6 hv7:=(Fr.push hv6 _).nil
  refine⟨f7,_,Q7.sy.ownS 6 rfl,fun w hw w2=>?_,by simp only[el];omega,by simp only[el,maxLen];omega,fun sA sC hv8 ow f gg _=>?_⟩
  ·simp only[List.mem_singleton]at hw
   subst hw
   exact Q7.sy.nJ 6 13 rfl rfl rfl w2
  have f8:Fr (ai A'.aE) hv6 hv8:=f7.trans f
  have Q8:Sq h C hv8 _:=⟨Q7.sy.appS 6 rfl [(a.says,a.at_)] ow f gg rfl rfl,Q7.ri⟩
  refine⟨f8,b,0,rfl,Q7.sy.neJ 0 13 rfl rfl rfl (by simp[Ck.ob]),⟨_,Q8.sy.cellO 0 rfl 11 rfl⟩,Q8.sy.freeO 0 rfl 11,?_⟩
  rw[wrN Qz]
  refine⟨⟨k+1,{A' with aE:=sA,cE:=sC},rfl,Qz,?_⟩,by simp only[mI];omega⟩
  have Q9:=(⟨Q8.sy.stO 0 rfl 11 (.slice sA ((x.2.ends++(eJ tg).take k).length+1) sC),Q8.ri⟩:Sq h C _ _).pick [0,1,2,3,4,5,6,7,8,9,10,11,12] rfl
  have ek:x.2.ends++(eJ tg).take (k+1)=(x.2.ends++(eJ tg).take k)++[(a.says,a.at_)]:=by
   rw[List.take_add_one,hy,hsm.2,es,ea,List.append_assoc];rfl
  have l1:((x.2.ends++(eJ tg).take k)++[(a.says,a.at_)]).length=(x.2.ends++(eJ tg).take k).length+1:=by rw[List.length_append];rfl
  rw[ek]
  unfold chX stX rx
  simp only[l1]
  exact Q9
 ·have hk2:k=2:=by omega
  subst hk2
  have e2:(eJ tg).take 2=eJ tg:=rfl
  rw[e2]at Q
  have cB:ac hv5 h.size 0=some (ptr b):=Q.sy.cellO 11 rfl 0 rfl
  refine⟨_,cB,b,0,rfl,_,_,_,Q.sy.cellO 0 rfl 14 rfl,?_⟩
  intro hv10
  have Q10:Sq h C hv10 (chX gl b s mo fs ms A' (x.1,{x.2 with ends:=x.2.ends++eJ tg})++tK t TA TC tg++[Ck.ob h.size 55 [ptr b],Ck.ob hv3.size 9 [.string ⟨#[115,111,117,114,99,101]⟩,.string ⟨#[116,97,114,103,101,116]⟩],Ck.ob hv5.size 3 [QM 0]]):=Q.add1 (Q.sy.newO _) rfl
  clear_value hv10
  refine⟨⟨_,Q10.sy.cellO 13 rfl 0 rfl⟩,Q10.sy.freeO 13 rfl 0,?_⟩
  intro hv11
  have Q11:Sq h C hv11 (chX gl b s mo fs ms A' (x.1,{x.2 with ends:=x.2.ends++eJ tg})++tK t TA TC tg++[Ck.ob h.size 55 [ptr b],Ck.ob hv3.size 9 [.string ⟨#[115,111,117,114,99,101]⟩,.string ⟨#[116,97,114,103,101,116]⟩],Ck.ob hv5.size 3 [QM (x.2.weights.length:Int)]]):=⟨Q10.sy.stO 13 rfl 0 _,Q10.ri⟩
  clear_value hv11
  have cB11:ac hv11 h.size 0=some (ptr b):=Q11.sy.cellO 11 rfl 0 rfl
  have nW:∀(i:Nat) (c:Ck),(chX gl b s mo fs ms A' (x.1,{x.2 with ends:=x.2.ends++eJ tg})++tK t TA TC tg++[Ck.ob h.size 55 [ptr b],Ck.ob hv3.size 9 [.string ⟨#[115,111,117,114,99,101]⟩,.string ⟨#[116,97,114,103,101,116]⟩],Ck.ob hv5.size 3 [QM (x.2.weights.length:Int)]])[i]? =some c->i≠5->∀w∈c.own,w∉ai A'.aW:=
   fun i c hi h6 w hw w2=>Q11.sy.ne i 5 h6 hi rfl hw w2 rfl
  refine⟨ai A'.aW,QB,nW 11 _ rfl QA _ (by simp[Ck.ob]),_,cB11,nW 11 _ rfl QA _ (by simp[Ck.ob]),_,cB11,b,0,rfl,nW 0 _ rfl QA _ (by simp[Ck.ob]),_,_,_,Q11.sy.cellO 0 rfl 14 rfl,?_⟩
  intro hv12
  have Q12:=Q11.add1 (Q11.sy.junk (.cells #[QQ 4607182418800017408] 66)) rfl
  have f12:Fr (ai A'.aW) hv11 hv12:=(Fr.push hv11 _).nil
  refine⟨f12,_,Q12.sy.ownS 5 rfl,fun w hw w2=>?_,by show(x.2.weights.length+1)*8<=_;omega,by show x.2.weights.length+1<=_;simp only[maxLen];omega,fun sA sC hv13 ow f gg _=>?_⟩
  ·simp only[List.mem_singleton]at hw
   subst hw
   exact Q12.sy.nJ 5 14 rfl rfl rfl w2
  have Q13:Sq h C hv13 _:=⟨Q12.sy.appS 5 rfl [(4607182418800017408:Nat)] ow f gg rfl rfl,Q12.ri⟩
  refine⟨f12.trans f,b,0,rfl,Q12.sy.neJ 0 14 rfl rfl rfl (by simp[Ck.ob]),⟨_,Q13.sy.cellO 0 rfl 14 rfl⟩,Q13.sy.freeO 0 rfl 14,?_⟩
  intro hv14
  have Q14:Sq h C hv14 (chX gl b s mo fs ms {A' with aW:=sA,cW:=sC} (x.1,{x.2 with ends:=x.2.ends++eJ tg,weights:=x.2.weights++[4607182418800017408]})++tK t TA TC tg++[Ck.ob h.size 55 [ptr b],Ck.ob hv3.size 9 [.string ⟨#[115,111,117,114,99,101]⟩,.string ⟨#[116,97,114,103,101,116]⟩],Ck.ob hv5.size 3 [QM (x.2.weights.length:Int)],Ck.junk hv11.size]):=by
   have Y:=Q13.sy.stO 0 rfl 14 (.slice sA (x.2.weights.length+1) sC)
   have l1:(x.2.weights++[4607182418800017408]).length=x.2.weights.length+1:=by rw[List.length_append];rfl
   refine⟨?_,Q13.ri⟩
   unfold chX stX rx
   simp only[l1]
   exact Y
  clear_value hv14
  have r2:RX s {x.2 with ends:=x.2.ends++eJ tg,weights:=x.2.weights++[4607182418800017408]}:=by
   refine⟨ix.1.i,ix.1.n,ix.1.l,ix.1.p,ix.1.dn,ix.1.dv,?_,?_,ix.1.kn⟩
   ·show(x.2.weights++[4607182418800017408]).length<=3072
    rw[List.length_append];exact hwl
   ·show(x.2.ends++eJ tg).length=2*(x.2.weights++[4607182418800017408]).length
    rw[List.length_append,List.length_append,hel]
    show _+2=2*(_+1)
    omega
  have wl:x.2.weights.length<({x.2 with ends:=x.2.ends++eJ tg,weights:=x.2.weights++[4607182418800017408]}:G.Xd).weights.length:=by
   show _<(x.2.weights++[4607182418800017408]).length
   rw[List.length_append];exact Nat.lt_succ_self _
  generalize hσ:({x.2 with ends:=x.2.ends++eJ tg,weights:=x.2.weights++[4607182418800017408]}:G.Xd)=σ at Q14 r2 eK wl
  have ei:σ.i=x.2.i:=by rw[<-hσ]
  refine⟨_,Q14.sy.cellO 11 rfl 0 rfl,?_⟩
  intro hv15
  have Q15:Sq h C hv15 (chX gl b s mo fs ms {A' with aW:=sA,cW:=sC} (x.1,σ)++tK t TA TC tg++[Ck.ob h.size 55 [ptr b],Ck.ob hv3.size 9 [.string ⟨#[115,111,117,114,99,101]⟩,.string ⟨#[116,97,114,103,101,116]⟩],Ck.ob hv5.size 3 [QM (x.2.weights.length:Int)],Ck.junk hv11.size,Ck.mp hv14.size []]):=Q14.add1 Q14.sy.newM rfl
  refine⟨hv14.size,rfl,Q15.sy.neJ 15 14 rfl rfl rfl (by simp[Ck.mp]),_,_,Q15.sy.mapM 15 rfl,kZ QB,vc QB,?_⟩
  intro hv16
  have Q16:Sq h C hv16 (chX gl b s mo fs ms {A' with aW:=sA,cW:=sC} (x.1,σ)++tK t TA TC tg++[Ck.ob h.size 55 [ptr b],Ck.ob hv3.size 9 [.string ⟨#[115,111,117,114,99,101]⟩,.string ⟨#[116,97,114,103,101,116]⟩],Ck.ob hv5.size 3 [QM (x.2.weights.length:Int)],Ck.junk hv11.size,Ck.mp hv14.size (bf false h.size hv5.size)]):=⟨Q15.sy.putM 15 rfl _ (iy _ _ _) rfl,Q15.ri⟩
  have Q17:Sq h C hv16 ((stX gl b s {A' with aW:=sA,cW:=sC} σ++[Ck.ob t 111 (tgC TA TC tg.name tg.at_ tg.nameAt tg.list tg.whole),Ck.mp hv14.size (bf false h.size hv5.size),Ck.ob h.size 55 [ptr b],Ck.ob hv5.size 3 [QM (x.2.weights.length:Int)]])++[Ck.fy (mo.map fun m=>(m,x.1)) fs ms]):=Q16.pick [0,1,2,3,4,5,6,7,9,15,11,13,8] rfl
  have hun:G.fm s rd cl false x.2.weights.length tg σ≠ .un:=by
   intro z
   rw[eK,z]at hu
   exact hu rfl
  refine az _ (IR hs hn (node:=false) (v:=x.2.weights.length) (yr:=h.size) (yv:=hv5.size) (mt:=hv14.size) (tg:=tg) (TA:=TA) (TC:=TC) (Q17.pick [0,1,2,3,4,5,6,7,8,9,10,11] rfl).hp ⟨r2,fun z=>absurd z QA,fun _=>wl,List.nodup_nil⟩ hun) ?_ (fun _ _ r=>by obtain⟨_,_,_,_,m,_⟩:=r;exact m.fr) (fun _ _ r=>by obtain⟨_,_,_,m⟩:=r;exact m) (fun w hv35 r=>?_) fun w hv35 r=>?_
  ·intro z hz
   simp only[List.mem_singleton]at hz
   subst hz
   exact Q16.sy.nO 14 [0,1,2,3,4,5,6,7,9,15,11,13] rfl rfl
  ·obtain⟨x',A2,e,rfl,P,i2,p2⟩:=r
   exact⟨rfl,(x.1,x'.2),A2,by rw[eK,e];rfl,rfl,Sq.call Q17 P,i2.1,by rw[<-ei];exact p2⟩
  ·obtain⟨e,q1,rfl,q2⟩:=r
   exact⟨e,by rw[eK,q1];rfl,rfl,Sq.frA Q17 q2⟩
end
end Go.Proofs.YtemphinmoihdaaaGreatDoor.N
