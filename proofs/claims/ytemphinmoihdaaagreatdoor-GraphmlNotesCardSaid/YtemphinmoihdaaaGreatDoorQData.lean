/- The program's keys of GraphML, by the plain reader. Conditions: none. -/
import Derived.Test.YtemphinmoihdaaaGreatDoorQKind
import Derived.Test.YtemphinmoihdaaaGreatDoorSXw
set_option linter.unusedVariables false
set_option linter.unusedSimpArgs false
namespace Go.Proofs.YtemphinmoihdaaaGreatDoor.N
open Go.Proofs.YtemphinmoihdaaaGreatDoor
open Go.X
set_option maxRecDepth 100000
theorem jE {h:ab} {p A:QR} {tg:G.Tg} {nm:QS} (hp:atP p A tg.list nm) (hs:(G.kO tg nm).isSome=true) (V:AtV h A tg.list):
  ∃g o a,p=some ⟨g,o,none⟩/\g∈ai A/\a∈tg.list/\a.name.data.toList=nm/\G.aG tg nm=a.says/\G.kR tg nm=a.at_/\ac h g (o+1)=some (.string a.says)/\ac h g (o+2)=some (QM (a.at_:Int)):=by
 rcases hp with⟨_,hf⟩ | ⟨k,a,g,o,hk,hf,rfl,rfl⟩
 ·unfold G.kO at hs
  rw[hf]at hs;cases hs
 ·obtain⟨g2,o2,e,c0,c1,c2⟩:=V k a hk
  simp only[Option.some.injEq,Addr.mk.injEq,and_true]at e
  obtain⟨rfl,rfl⟩:=e
  have hg:G.kO tg nm=some a:=hf
  have hn:=List.find?_some hf
  exact⟨g,o+k*3,a,rfl,by simp[ai],List.mem_of_getElem? hk,by simpa using hn,by unfold G.aG;rw[hg];rfl,by unfold G.kR;rw[hg];rfl,c1,c2⟩
theorem iu {tg:G.Tg}:∀{l:List QS},G.fJ tg l= .ok ()->∀x∈l,(G.kO tg x).isSome=true
 | [],_,x,hx=>by simp at hx
 | y::l,h,x,hx=>by
  rw[G.fJ]at h
  cases q:(G.kO tg y).isSome with
  | false=>rw[q]at h;cases h
  | true=>
   rw[q]at h
   rcases List.mem_cons.1 hx with rfl | hx
   ·exact q
   ·exact iu h x hx
theorem tM {r:G.Xd}:∀{l:List G.Atr},G.cM r l= .ok ()->∀a∈l,a.name.data.toList=G.xId->(r.keys.any fun k=>G.eqB k.1 a.says)=false
 | [],_,a,ha,_=>by simp at ha
 | x::l,h,a,ha,hn=>by
  rw[G.cM]at h
  have go:G.cM r l= .ok ()->a∈l->(r.keys.any fun k=>G.eqB k.1 a.says)=false:=fun h2 h3=>tM h2 a h3 hn
  split at h
  ·rename_i q
   have hl:G.cM r l= .ok ():=by
    cases z:decide (x.says.data.toList=G.aR\/x.says.data.toList=G.cN)with
    | false=>rw[z]at h;cases h
    | true=>rw[z]at h;exact h
   rcases List.mem_cons.1 ha with rfl | ha
   ·rw[hn]at q;exact absurd q QA
   ·exact go hl ha
  ·split at h
   ·cases z:r.keys.any fun k=>G.eqB k.1 x.says with
    | true=>rw[z]at h;cases h
    | false=>
     rw[z]at h
     rcases List.mem_cons.1 ha with rfl | ha
     ·exact z
     ·exact go h ha
   ·rename_i q1 q2
    rcases List.mem_cons.1 ha with rfl | ha
    ·exact absurd hn q2
    ·exact go h ha
theorem jF (l:List (ByteArray × ByteArray × ByteArray)):bU cz (Ent (iC l)):=by
 intro e he
 obtain⟨j,p,h1,rfl⟩:=fP he
 simp only[iC,List.getElem?_map,Option.map_eq_some_iff]at h1
 obtain⟨k,_,rfl⟩:=h1
 rfl
theorem lR {a b:ByteArray}:(Value.string a=Value.string b) ↔ a.data.toList=b.data.toList:=by
 constructor
 ·intro e;injection e with e;rw[e]
 ·intro e
  have:a=b:=by
   cases a;cases b
   simp only[ByteArray.mk.injEq]
   exact Array.ext' e
  rw[this]
theorem nC {l:List (ByteArray × ByteArray × ByteArray)} {e:MapEntry} {x:ByteArray} (he:e∈(Ent (iC l)).toList) (hx:e.key= .string x):∃k∈l,G.eqB k.1 x=true/\e.val= .agg #[.string k.2.1,.string k.2.2]:=by
 obtain⟨j,p,h1,rfl⟩:=fP he
 simp only[iC,List.getElem?_map,Option.map_eq_some_iff]at h1
 obtain⟨k,h2,rfl⟩:=h1
 exact⟨k,List.mem_of_getElem? h2,by rw[fk];simpa using lR.1 hx,rfl⟩
theorem vb {l:List (ByteArray × ByteArray × ByteArray)} {x:ByteArray} (h:∀e∈(Ent (iC l)).toList,e.key≠ .string x):(l.any fun k=>G.eqB k.1 x)=false:=by
 rw[List.any_eq_false]
 intro k hk
 obtain⟨j,hj⟩:=List.mem_iff_getElem?.1 hk
 have:=h ⟨.string k.1,.agg #[.string k.2.1,.string k.2.2],j⟩ (Array.mem_def.1 (Array.mem_of_getElem? (i:=j) (by rw[jf];simp[iC,hj])))
 rw[fk]
 simpa using fun q=>this (lR.2 q)
theorem mB {l:List (ByteArray × ByteArray × ByteArray)} {x:ByteArray} {k:ByteArray × ByteArray × ByteArray} (hk:k∈l) (h:G.eqB k.1 x=true):(l.any fun k=>G.eqB k.1 x)=true:=by
 rw[List.any_eq_true];exact⟨k,hk,h⟩
section
variable {gl:GL} {b:Nat} {s:ByteArray} {fs:Fs} {ms:Ms}
theorem Gh (hs:s.size<=262144):jD gl b s none fs ms (IX s) (IX s) (.func 66) #[ptr b] #[] (G.sO s):=by
 intro x A tg t TA TC h H ix hl hu
 generalize hC:chX gl b s none fs ms A x++tK t TA TC tg=C at H ⊢
 have Q0:Sq h C h (chX gl b s none fs ms A x++tK t TA TC tg):=by rw[hC];exact Sq.start H
 refine CV.up (aF C) QC ?_ (fun v h' r=>by obtain⟨_,_,_,_,m,_⟩:=r;exact m.fr) fun v h' r=>by obtain⟨_,_,_,m⟩:=r;exact m
 show QJ 66 #[ptr b,ptr t] h _ _
 apply GW
 unfold S66
 intro hv
 have Q1:Sq h C hv (chX gl b s none fs ms A x++tK t TA TC tg):=Q0.gr (Fr.push h _)
 have cn:∀(k:Nat) (y:QS),[G.xId,G.fN,G.di][k]? =some y->ac hv h.size (0+k*1)=some (.string (G.mkB y)):=by
  intro k y hk
  have hb:hv[h.size]? =some (.cells #[.string ⟨#[105,100]⟩,.string ⟨#[102,111,114]⟩,.string ⟨#[97,116,116,114,46,110,97,109,101]⟩] 9):=bK
  rw[aQ hb]
  match k,hk with
  | 0,hk=>cases hk;rfl
  | 1,hk=>cases hk;rfl
  | 2,hk=>cases hk;rfl
 clear_value hv
 have V1:AtV hv TA tg.list:=lg Q1.sy 10 rfl
 have hc3:ac hv t 3=some (.slice TA tg.list.length TC):=Q1.sy.cellO 9 rfl 3 rfl
 refine az [] (CW (tg:=tg) (nms:=[G.xId,G.fN,G.di]) hc3 (Q1.sy.cellO 9 rfl 1 rfl) V1 hl QA cn) QB (fun _ _ r=>Fr.of_eq r.2.2) (fun _ _ r=>by obtain⟨_,_,_,m⟩:=r;exact Fr.of_eq m) (fun v hv2 r=>?_) fun v hv2 r=>?_
 rotate_left
 ·obtain⟨f,e,rfl,rfl⟩:=r
  exact⟨f,by unfold G.sO G.below;rw[e];rfl,rfl,Q1.fr⟩
 obtain⟨e1,rfl,rfl⟩:=r
 have eK:G.sO s tg x=((G.cM x.2 tg.list).bind fun _=>G.within s (G.elem s G.kP) tg ([],{x.2 with keys:=x.2.keys++[(G.aG tg G.xId,G.aG tg G.fN,G.aG tg G.di)]})).bind fun y=>.ok (x.1,y.2):=by
  unfold G.sO G.below;rw[e1];rfl
 have hall:=iu e1
 refine⟨rfl,?_⟩
 intro K
 have kk:∀(p:Nat) (hvX:ab),Fr [] hv2 hvX->hv2.size<=p->p<hvX.size->K p (G.aG tg G.fN) (G.aG tg G.di) hvX:=by
  intro p hvX fX hp1 hp2
  dsimp-zeta only[K]
  intro hv12
  have f12:Fr [] hv2 hv12:=((fX.hsetL hp1).hsetL hp1)
  have s12:hv12.size=hvX.size:=by simp[hv12]
  clear_value hv12
  have Q12:=Q1.gr f12
  refine⟨t,0,rfl,_,_,_,Q12.sy.cellO 9 rfl 3 rfl,?_⟩
  refine⟨fun l h'=>∃k:Nat,l=[QM (k:Int)]/\k<=tg.list.length/\Fr [] hv12 h'/\G.cM x.2 tg.list=G.cM x.2 (tg.list.drop k),mI tg.list.length,⟨0,rfl,Nat.zero_le _,Fr.refl _ _,rfl⟩,?_⟩
  rintro z hv13 ⟨k,e,hk,f13,eC⟩
  cases e
  have Q13:=Q12.gr f13
  have V13:AtV hv13 TA tg.list:=lg Q13.sy 10 rfl
  have s13:=f13.size
  have own13:∀(z:Nat) (h':ab),hv2.size<=z->z∉aF (chX gl b s none fs ms A x++tK t TA TC tg):=by
   intro z h' hz q
   obtain⟨k,c,h1,h2⟩:=dm.1 q
   have:=qI Q1.sy k h1 z h2
   omega
  refine af (fun q=>?_) fun q=>?_
  ·obtain⟨a,ha⟩:∃a,tg.list[k]? =some a:=⟨_,List.getElem?_eq_getElem Qz⟩
   have hd:tg.list.drop k=a::tg.list.drop (k+1):=by
    obtain⟨h1,h2⟩:=List.getElem?_eq_some_iff.1 ha
    rw[List.drop_eq_getElem_cons h1,h2]
   rw[hd,G.cM]at eC
   obtain⟨g,o,eg,c0,c1,c2⟩:=V13 k a ha
   refine⟨g,o,eg,Qz,Qz,a.name,by rw[Int.toNat_natCast];exact c0,a.says,by rw[Int.toNat_natCast];exact c1,(a.at_:Int),by rw[Int.toNat_natCast];exact c2,?_⟩
   intro hv14 hv15
   have f15:Fr [] hv13 hv15:=((((Fr.push hv13 _).hsetL (Nat.le_refl _)).hsetL (Nat.le_refl _)).hsetL (Nat.le_refl _))
   have s15:hv15.size=hv13.size+1:=by simp[hv15,hv14]
   clear_value hv15
   clear hv14
   have Q15:=Q13.gr f15
   simp-zeta only[jl]
   rw[wrN Qz]
   have bad:∀{f:G.F} {h':ab},G.cM x.2 tg.list= .no f->Fr [] hv15 h'->∃e,G.sO s tg x= .no e/\flx f=flx e/\Fr (aF C) h h':=fun ef f'=>⟨_,by rw[eK,ef];rfl,rfl,(Q15.gr f').fr⟩
   refine⟨fun _ h'=>Fr [] hv15 h'/\G.cM x.2 tg.list=G.cM x.2 (tg.list.drop (k+1)),?_,fun hv29 r=>⟨⟨k+1,rfl,Qz,(f13.trans f15).trans r.1,r.2⟩,by simp only[mI];omega⟩⟩
   refine af (fun q1=>?_) fun q1=>?_
   ·have q1:a.name.data.toList=G.fN:=q1
    rw[if_pos q1]at eC
    intro K2
    refine af (fun q2=>aq (fun _=>⟨rfl,Fr.refl _ _,?_⟩) fun z=>absurd z QA) fun q2=>aq (fun q3=>⟨rfl,Fr.refl _ _,?_⟩) fun q3=>?_
    ·rw[eC,decide_eq_true (.inl q2)];rfl
    ·rw[eC,decide_eq_true (.inr (of_decide_eq_true q3))];rfl
    ·refine bad (f:=(a.at_,16)) ?_ (Fr.refl _ _)
     rw[eC,decide_eq_false (fun z=>z.elim q2 (of_decide_eq_false q3))];rfl
   have q1:¬a.name.data.toList=G.fN:=q1
   rw[if_neg q1]at eC
   refine⟨fun _ h'=>Fr [] hv15 h'/\G.cM x.2 tg.list=G.cM x.2 (tg.list.drop (k+1)),?_,fun _ r=>r⟩
   refine af (fun q2=>?_) fun q2=>?_
   rotate_left
   ·have q2:¬a.name.data.toList=G.xId:=q2
    rw[if_neg q2]at eC
    exact⟨Fr.refl _ _,eC⟩
   have q2:a.name.data.toList=G.xId:=q2
   rw[if_pos q2]at eC
   intro K3
   have k3:∀(c3 c4:ByteArray) (there:Bool) (hv26:ab),Fr [] hv15 hv26->there=(x.2.keys.any fun k=>G.eqB k.1 a.says)->K3 c3 c4 there hv26:=by
    intro c3 c4 there hv26 f26 ht
    refine aq (fun q3=>⟨rfl,f26,?_⟩) fun q3=>bad (f:=(a.at_,18)) ?_ f26
    ·rw[eC,<-ht,q3];rfl
    ·rw[eC,<-ht,q3];rfl
   refine⟨[],QB,b,0,rfl,QB,_,Q15.sy.cellO 0 rfl 9 rfl,?_,?_⟩
   ·refine⟨_,rfl,_,_,Q15.sy.mapM 1 rfl,jF _,fun ev he hk=>?_,fun hn=>?_⟩
    ·obtain⟨ky,hk1,hk2,hk3⟩:=nC he hk
     refine⟨_,_,hk3,Fr.refl _ _,?_⟩
     intro hv19
     have f19:Fr [] hv15 hv19:=Fr.push _ _
     refine⟨f19,?_⟩
     intro hv20
     have f20:Fr [] hv15 hv20:=(f19.hsetL (Nat.le_refl _)).hsetL (Nat.le_refl _)
     exact⟨f20,k3 G.noB G.noB _ _ f20 (mB hk1 hk2).symm⟩
    ·refine⟨Fr.refl _ _,?_⟩
     intro hv21
     have f19:Fr [] hv15 hv21:=Fr.push _ _
     refine⟨f19,?_⟩
     intro hv22
     have f20:Fr [] hv15 hv22:=(f19.hsetL (Nat.le_refl _)).hsetL (Nat.le_refl _)
     exact⟨f20,k3 G.noB G.noB _ _ f20 (vb hn).symm⟩
   ·intro hv23
    have f19:Fr [] hv15 hv23:=Fr.push _ _
    have s23:hv15.size<=hv15.size:=Nat.le_refl _
    have Q23:=Q15.gr f19
    refine⟨f19,_,rfl,_,_,Q23.sy.mapM 1 rfl,jF _,fun ev he hk=>?_,fun hn=>?_⟩
    ·obtain⟨ky,hk1,hk2,hk3⟩:=nC he hk
     refine⟨_,_,hk3,f19,?_⟩
     intro hv24
     have f20:Fr [] hv15 hv24:=(f19.hsetL (Nat.le_refl _)).hsetL (Nat.le_refl _)
     exact⟨f20,k3 G.noB G.noB _ _ f20 (mB hk1 hk2).symm⟩
    ·refine⟨f19,?_⟩
     intro hv25
     have f20:Fr [] hv15 hv25:=(f19.hsetL (Nat.le_refl _)).hsetL (Nat.le_refl _)
     exact⟨f20,k3 G.noB G.noB _ _ f20 (vb hn).symm⟩
  ·--all have been looked at
   rw[List.drop_of_length_le Qz]at eC
   have eC:G.cM x.2 tg.list= .ok ():=eC
   rw[eC]at eK
   intro K4
   refine⟨b,0,rfl,_,Q13.sy.cellO 0 rfl 9 rfl,?_⟩
   refine ao [] (yX (x:=⟨#[105,100]⟩) (Q13.sy.cellO 9 rfl 3 rfl) V13 rfl hl) QB (fun _ _ r=>by obtain⟨_,_,r,_⟩:=r;exact Fr.of_eq r) fun v hv30 r=>?_
   obtain⟨pI,rfl,rfl,hpI⟩:=r
   obtain⟨g,o,a,rfl,-,ha,hn,es,-,c1,-⟩:=jE (nm:=G.xId) hpI (hall _ QB) V13
   have hnew:=tM eC a ha hn
   refine⟨_,rfl,Fr.refl _ _,g,o,rfl,_,c1,_,rfl,?_,_,_,Q13.sy.mapM 1 rfl,jF _,fun j3 ev hj hk=>?_,fun hno=>?_⟩
   ·rintro rfl
    exact own13 _ hv30 Qz (dm.2 ⟨1,_,rfl,by simp[Ck.mp]⟩)
   ·obtain⟨ky,hk1,hk2,-⟩:=nC (by rw[Array.mem_toList_iff];exact Array.mem_of_getElem? hj) hk
    rw[mB hk1 hk2]at hnew;cases hnew
   ·have el:(Ent (iC x.2.keys)).push ⟨.string a.says,.agg #[.string (G.aG tg G.fN),.string (G.aG tg G.di)],(iC x.2.keys).length⟩=Ent (iC (x.2.keys++[(G.aG tg G.xId,G.aG tg G.fN,G.aG tg G.di)])):=by
     rw[iy];simp[iC,es]
    have en:(iC x.2.keys).length+1=(iC (x.2.keys++[(G.aG tg G.xId,G.aG tg G.fN,G.aG tg G.di)])).length:=by simp[iC]
    rw[el,en]
    intro hv32
    have Q32:Sq h C hv32 (chX gl b s none fs ms A ([],{x.2 with keys:=x.2.keys++[(G.aG tg G.xId,G.aG tg G.fN,G.aG tg G.di)]})++tK t TA TC tg):=⟨Q13.sy.putM 1 rfl (iC (x.2.keys++[(G.aG tg G.xId,G.aG tg G.fN,G.aG tg G.di)])) rfl rfl,Q13.ri⟩
    clear_value hv32
    have i32:IX s ([],{x.2 with keys:=x.2.keys++[(G.aG tg G.xId,G.aG tg G.fN,G.aG tg G.di)]}):=by
     refine⟨ix.i,ix.n,ix.l,ix.p,ix.dn,ix.dv,ix.w,ix.e,?_⟩
     show((x.2.keys++[(G.aG tg G.xId,G.aG tg G.fN,G.aG tg G.di)]).map fun k=>k.1.data.toList).Nodup
     rw[List.map_append,List.nodup_append]
     refine⟨ix.kn,QB,?_⟩
     intro u hu' w hw e
     simp only[List.map_cons,List.map_nil,List.mem_singleton]at hw
     subst hw
     obtain⟨ky,hk1,rfl⟩:=List.mem_map.1 hu'
     rw[List.any_eq_false]at hnew
     refine hnew ky hk1 ?_
     rw[fk,decide_eq_true_eq,e,es]
    have Q33:Sq h C hv32 ((chX gl b s none fs ms A ([],{x.2 with keys:=x.2.keys++[(G.aG tg G.xId,G.aG tg G.fN,G.aG tg G.di)]})++[Ck.vob t 0 (tgC TA TC tg.name tg.at_ tg.nameAt tg.list tg.whole)])++[Ck.sl eA 142 TA tg.list.length TC tg.list]):=Q32.turn 9 rfl To.obvob
    have hun:G.within s (G.elem s G.kP) tg ([],{x.2 with keys:=x.2.keys++[(G.aG tg G.xId,G.aG tg G.fN,G.aG tg G.di)]})≠ .un:=by
     intro z
     simp only[G.Er.bind]at eK
     rw[eK,z]at hu
     exact hu rfl
    refine az _ (Gg hs (lvX s) JN (tg:=tg) (TA:=TA) (TC:=TC) (Q33.pick [0,1,2,3,4,5,6,7,8,9] rfl).hp i32 hun) ?_ (fun _ _ r=>by obtain⟨_,_,_,_,m,_⟩:=r;exact m.fr) (fun _ _ r=>by obtain⟨_,_,_,m⟩:=r;exact m) (fun v hv34 r=>?_) fun v hv34 r=>?_
    ·intro z hz q
     simp only[List.mem_singleton]at hz
     subst hz
     refine own13 z hv30 hp1 ?_
     have q:z∈aF (chX gl b s none fs ms A x++[Ck.vob t 0 (tgC TA TC tg.name tg.at_ tg.nameAt tg.list tg.whole)]):=q
     simp only[aF,List.flatMap_append,List.mem_append]at q ⊢
     rcases q with q | q
     ·exact .inl q
     ·simp[Ck.vob]at q
    ·obtain⟨x',A',e,rfl,P,i2,p2⟩:=r
     simp only[G.Er.bind]at eK
     rw[e]at eK
     exact⟨rfl,(x.1,x'.2),A',eK,rfl,(Sq.call Q33 P).pick [0,1,2,3,4,5,6,7,8] rfl,i2,p2⟩
    ·obtain⟨e,q1,rfl,q2⟩:=r
     simp only[G.Er.bind]at eK
     rw[q1]at eK
     exact⟨e,eK,rfl,Sq.frA Q33 q2⟩
 have lit1:(⟨#[102,111,114]⟩:ByteArray).data.toList=G.fN:=rfl
 have Mk:(⟨#[97,116,116,114,46,110,97,109,101]⟩:ByteArray).data.toList=G.di:=rfl
 have get:∀{nm:ByteArray} {hx:ab} {Hd:List Nat} {KK:Value->ab->Prop},Fr [] hv2 hx->(G.kO tg nm.data.toList).isSome=true->(∀g o,ac hv2 g (o+1)=some (.string (G.aG tg nm.data.toList))->KK (.pointer (some ⟨g,o,none⟩)) hx)->QG 86 #[ptr t,.string nm] hx Hd KK:=by
  intro nm hx Hd KK fx hsm k
  have Vx:AtV hx TA tg.list:=V1.fr fx QB
  refine ao [] (yX (x:=nm) (fx.cell hc3 QB) Vx rfl hl) QB (fun _ _ r=>by obtain⟨_,_,r,_⟩:=r;exact Fr.of_eq r) fun v hv30 r=>?_
  obtain⟨pI,rfl,rfl,hpI⟩:=r
  obtain⟨g,o,a,rfl,-,-,-,es,-,c1,-⟩:=jE (nm:=nm.data.toList) hpI hsm V1
  exact k g o (by rw[es];exact c1)
 have hF:(G.kO tg (⟨#[102,111,114]⟩:ByteArray).data.toList).isSome=true:=hall G.fN QB
 have hN:(G.kO tg (⟨#[97,116,116,114,46,110,97,109,101]⟩:ByteArray).data.toList).isSome=true:=hall G.di QB
 refine⟨get (Fr.refl _ _) hF fun g o c=>⟨_,rfl,Fr.refl _ _,g,o,rfl,_,c,get (Fr.refl _ _) hN fun g2 o2 c2=>⟨_,rfl,Fr.refl _ _,g2,o2,rfl,_,c2,?_⟩,?_⟩,?_⟩
 ·intro hv5
  have f5:Fr [] hv2 hv5:=Fr.push _ _
  exact⟨f5,kk _ _ f5 (Nat.le_refl _) (by simp[hv5])⟩
 ·intro hv6
  have f6:Fr [] hv2 hv6:=Fr.push _ _
  exact⟨f6,get f6 hN fun g2 o2 c2=>⟨_,rfl,f6,g2,o2,rfl,_,c2,kk _ _ f6 (Nat.le_refl _) (by simp[hv6])⟩⟩
 ·intro hv8
  have f8:Fr [] hv2 hv8:=Fr.push _ _
  exact⟨f8,get f8 hF fun g o c=>⟨_,rfl,f8,g,o,rfl,_,c,get f8 hN fun g2 o2 c2=>⟨_,rfl,f8,g2,o2,rfl,_,c2,kk _ _ f8 (Nat.le_refl _) (by simp[hv8])⟩⟩⟩
end
end Go.Proofs.YtemphinmoihdaaaGreatDoor.N
namespace Go.X
theorem Sq.cutY {h0 h:ab} {C cs:List Ck} (q:Sq h0 C h cs) (l:List Nat) (hc:ib cs.length l=true) (mo:Option (Nat × List QS)) (fs:Fs) (ms:Ms)
  (hm:∀p,mo=some p->∃k,cs[k]? =some (Ck.mp p.1 (ek p.2))/\k∉l)
  (hf:∀f∈fs,ac h f.1 f.2.1=some f.2.2/\∃(k:Nat) (c:Ck),cs[k]? =some c/\((f.1∈c.own/\k∉l)\/(f.1∈c.rd/\c.own=[])))
  (hs:∀m∈ms,bG h m.1=some (Ent m.2,m.2.length)/\∃(k:Nat) (c:Ck),cs[k]? =some c/\m.1∈c.own/\k∉l) (hd:∀p,mo=some p->∀m∈ms,m.1≠p.1):
  Sq h0 C h (pk cs l++[Ck.fy mo fs ms]):=by
 refine⟨q.sy.cutY l hc mo fs ms hm hf hs hd,fun x hx=>?_⟩
 have ow:∀{k:Nat} {c:Ck},cs[k]? =some c->x∈c.own->x∈rds C\/x∈aF C\/h0.size<=x:=fun hk hx=>(q.sy.ow _ _ hk x hx).elim (fun w=>.inr (.inl w)) fun w=>.inr (.inr w)
 obtain⟨k,c,h1,h2⟩:=bR.1 hx
 rcases gu h1 with h1 | ⟨_,h1⟩
 ·obtain⟨i,_,h3⟩:=ja hc h1
  exact q.ri x (bR.2 ⟨i,c,h3,h2⟩)
 ·obtain⟨e,rfl⟩:=List.getElem?_eq_some_iff.1 h1
  simp only[List.length_singleton]at e
  have e0:k-(pk cs l).length=0:=by omega
  simp only[e0,List.getElem_cons_zero]at h2
  rcases List.mem_append.1 (show x∈fs.map (·.1)++ms.map (·.1)from h2)with h2 | h2
  ·obtain⟨f,h3,rfl⟩:=List.mem_map.1 h2
   obtain⟨-,k,c,h4,h5⟩:=hf f h3
   rcases h5 with⟨h5,_⟩ | ⟨h5,_⟩
   ·exact ow h4 h5
   ·exact q.ri _ (bR.2 ⟨k,c,h4,h5⟩)
  ·obtain⟨m,h3,rfl⟩:=List.mem_map.1 h2
   obtain⟨-,k,c,h4,h5,_⟩:=hs m h3
   exact ow h4 h5
end Go.X
namespace Go.Proofs.YtemphinmoihdaaaGreatDoor.N
open Go.Proofs.YtemphinmoihdaaaGreatDoor
open Go.X
set_option maxRecDepth 100000
section
variable {gl:GL} {b:Nat} {s:ByteArray} {mo:Option Nat} {fs:Fs} {ms:Ms} {rd:ByteArray->Option (Nat × Nat)} {cl:Nat->Nat}
theorem Ge (hs:s.size<=262144) (hm:∀xR,qH gl b s none [(xR,0,ptr b)] [] (IX s) (.func 88) #[] #[ptr xR] (G.aP s rd cl)):jD gl b s none fs ms (IX s) (IX s) (.func 67) #[ptr b] #[] (G.jU s rd cl):=by
 intro x A tg t TA TC h H ix hl hu
 generalize hC:chX gl b s none fs ms A x++tK t TA TC tg=C at H ⊢
 have Q0:Sq h C h (chX gl b s none fs ms A x++tK t TA TC tg):=by rw[hC];exact Sq.start H
 refine CV.up (aF C) QC ?_ (fun v h' r=>by obtain⟨_,_,_,_,m,_⟩:=r;exact m.fr) fun v h' r=>by obtain⟨_,_,_,m⟩:=r;exact m
 show QJ 67 #[ptr b,ptr t] h _ _
 apply GX
 unfold S67
 intro hv hv2
 have Q1:Sq h C hv (chX gl b s none fs ms A x++tK t TA TC tg++[Ck.ob h.size 55 [ptr b]]):=Q0.add1 (Q0.sy.newO _) rfl
 have Q2:Sq h C hv2 (chX gl b s none fs ms A x++tK t TA TC tg++[Ck.ob h.size 55 [ptr b]]):=Q1.gr (Fr.push hv _)
 have cn:∀(k:Nat) (y:QS),[G.bx][k]? =some y->ac hv2 hv.size (0+k*1)=some (.string (G.mkB y)):=by
  intro k y hk
  have hb:hv2[hv.size]? =some (.cells #[.string ⟨#[101,100,103,101,100,101,102,97,117,108,116]⟩] 9):=bK
  rw[aQ hb]
  match k,hk with
  | 0,hk=>cases hk;rfl
 clear_value hv2
 have V2:AtV hv2 TA tg.list:=lg Q2.sy 10 rfl
 have hc3:ac hv2 t 3=some (.slice TA tg.list.length TC):=Q2.sy.cellO 9 rfl 3 rfl
 have cB:ac hv2 h.size 0=some (ptr b):=Q2.sy.cellO 11 rfl 0 rfl
 refine az [] (CW (tg:=tg) (nms:=[G.bx]) hc3 (Q2.sy.cellO 9 rfl 1 rfl) V2 hl QA cn) QB (fun _ _ r=>Fr.of_eq r.2.2) (fun _ _ r=>by obtain⟨_,_,_,m⟩:=r;exact Fr.of_eq m) (fun v hv3 r=>?_) fun v hv3 r=>?_
 rotate_left
 ·obtain⟨f,e,rfl,rfl⟩:=r
  exact⟨f,by unfold G.jU G.below;rw[e];rfl,rfl,Q2.fr⟩
 obtain⟨e1,rfl,rfl⟩:=r
 have eK:G.jU s rd cl tg x=(G.bJ (decide ((G.aG tg G.bx).data.toList=G.cA\/(G.aG tg G.bx).data.toList=G.gM)) (G.kR tg G.bx,16) <|
   G.within s (G.elem s (G.aP s rd cl)) tg ([],{x.2 with dir:=decide ((G.aG tg G.bx).data.toList=G.cA)})).bind fun y=>.ok (x.1,y.2):=by
  unfold G.jU G.below;rw[e1];rfl
 have hall:=iu e1
 refine⟨rfl,?_⟩
 refine ao [] (yX (x:=⟨#[101,100,103,101,100,101,102,97,117,108,116]⟩) hc3 V2 rfl hl) QB (fun _ _ r=>by obtain⟨_,_,r,_⟩:=r;exact Fr.of_eq r) fun v hv4 r=>?_
 obtain⟨pI,rfl,rfl,hpI⟩:=r
 obtain⟨g,o,a,rfl,hgb,-,-,es,ea,c1,c2⟩:=jE (nm:=G.bx) hpI (hall _ QB) V2
 rw[es,ea]at eK
 refine⟨_,rfl,?_⟩
 intro K
 have kk:(a.says.data.toList=G.cA\/a.says.data.toList=G.gM)->K hv4:=by
  intro hd
  rw[decide_eq_true hd]at eK
  simp only[G.bJ]at eK
  dsimp-zeta only[K]
  refine⟨_,cB,g,o,rfl,_,c1,b,0,rfl,⟨_,Q2.sy.cellO 0 rfl 4 rfl⟩,Q2.sy.freeO 0 rfl 4,?_⟩
  rw[jl]
  intro hv8
  have Q8:Sq h C hv8 (chX gl b s none fs ms A (x.1,{x.2 with dir:=decide (a.says.data.toList=G.cA)})++tK t TA TC tg++[Ck.ob h.size 55 [ptr b]]):=⟨Q2.sy.stO 0 rfl 4 _,Q2.ri⟩
  clear_value hv8
  have cB8:ac hv8 h.size 0=some (ptr b):=Q8.sy.cellO 11 rfl 0 rfl
  refine⟨_,cB8,?_⟩
  have Q9:=Q8.turn 9 rfl To.obvob
  have Q10:=(Q9.cutY [0,1,2,3,4,5,6,7,9,8,10] rfl none [(h.size,0,ptr b)] [] (fun p hp=>by cases hp) (fun f hf=>by
   simp only[List.mem_singleton]at hf
   subst hf
   exact⟨cB8,11,_,rfl,.inl ⟨by simp[Ck.ob],QA⟩⟩) (fun m hm=>by cases hm) fun p hp=>by cases hp).pick [0,1,2,3,4,5,6,7,11,8,9,10] rfl
  have Q11:Sq h C hv8 ((chX gl b s none [(h.size,0,ptr b)] [] A ([],{x.2 with dir:=decide (a.says.data.toList=G.cA)})++[Ck.vob t 0 (tgC TA TC tg.name tg.at_ tg.nameAt tg.list tg.whole)])++[Ck.fy none fs ms,Ck.sl eA 142 TA tg.list.length TC tg.list]):=Q10
  have i8:IX s ([],{x.2 with dir:=decide (a.says.data.toList=G.cA)}):=⟨ix.i,ix.n,ix.l,ix.p,ix.dn,ix.dv,ix.w,ix.e,ix.kn⟩
  have hun:G.within s (G.elem s (G.aP s rd cl)) tg ([],{x.2 with dir:=decide (a.says.data.toList=G.cA)})≠ .un:=by
   intro z
   rw[eK,z]at hu
   exact hu rfl
  refine az _ (Gg hs (lvX s) (hm h.size) (tg:=tg) (TA:=TA) (TC:=TC) (Q11.pick [0,1,2,3,4,5,6,7,8,9] rfl).hp i8 hun) QB (fun _ _ r=>by obtain⟨_,_,_,_,m,_⟩:=r;exact m.fr) (fun _ _ r=>by obtain⟨_,_,_,m⟩:=r;exact m) (fun v hv34 r=>?_) fun v hv34 r=>?_
  ·obtain⟨x',A',e,rfl,P,i2,p2⟩:=r
   rw[e]at eK
   have Q12:=Sq.call Q11 P
   exact⟨rfl,(x.1,x'.2),A',eK,rfl,Q12.pick [0,1,2,3,4,5,6,7,9] rfl,i2,p2⟩
  ·obtain⟨e,q1,rfl,q2⟩:=r
   rw[q1]at eK
   exact⟨e,eK,rfl,Sq.frA Q11 q2⟩
 have c2':ac hv4 g (o+2)=some (QM (a.at_:Int)):=c2
 refine⟨g,o,rfl,_,c1,?_⟩
 rw[jl]
 refine af (fun q=>⟨g,o,rfl,_,c2',aq (fun _=>⟨rfl,Fr.refl _ _,kk (.inl q)⟩) fun z=>absurd z QA⟩) fun q=>⟨g,o,rfl,_,c1,g,o,rfl,_,c2',?_⟩
 rw[jl]
 refine aq (fun q2=>⟨rfl,Fr.refl _ _,kk (.inr (of_decide_eq_true q2))⟩) fun q2=>⟨_,?_,rfl,Q2.fr⟩
 rw[eK,decide_eq_false (fun z=>z.elim q (of_decide_eq_false q2))];rfl
def PN (s:ByteArray) (x:G.Xs):Prop:=IX s x/\x.2.n<1024
def PE (s:ByteArray) (x:G.Xs):Prop:=IX s x/\x.2.weights.length<3072
theorem JK {xR:Nat} (hn:jD gl b s mo ((xR,0,ptr b)::fs) ms (IX s) (PN s) (.func 89) #[ptr b] #[] (G.jx s rd cl)) (he:jD gl b s mo ((xR,0,ptr b)::fs) ms (IX s) (PE s) (.func 90) #[ptr b] #[] (G.ji s rd cl)):
  qH gl b s mo ((xR,0,ptr b)::fs) ms (IX s) (.func 88) #[] #[ptr xR] (G.aP s rd cl):=by
 intro nm a x A h H ix hu
 have Q:Sq h (chX gl b s mo ((xR,0,ptr b)::fs) ms A x) h (chX gl b s mo ((xR,0,ptr b)::fs) ms A x):=Sq.start H
 refine CV.up (aF (chX gl b s mo ((xR,0,ptr b)::fs) ms A x)) QC ?_ (fun v h' r=>?_) fun v h' r=>by obtain⟨_,_,_,m⟩:=r;exact m
 ·show QJ 88 #[.string nm,QM (a:Int),ptr xR] h _ _
  apply GV
  unfold S88
  have cR:ac h xR 0=some (ptr b):=Q.sy.factY 8 rfl 0 rfl
  rw[jl,jl]
  have e1:(⟨#[110,111,100,101]⟩:ByteArray).data.toList=G.aR:=rfl
  have e2:(⟨#[101,100,103,101]⟩:ByteArray).data.toList=G.cN:=rfl
  rw[e1,e2]
  refine af (fun q=>?_) fun q=>af (fun q2=>?_) fun q2=>?_
  ·have eM:G.aP s rd cl nm a x=G.bJ (decide (x.2.n<1024)) (a,3) (.ok (x,G.jx s rd cl)):=by unfold G.aP;rw[if_pos q]
   refine⟨xR,0,rfl,_,cR,b,0,rfl,_,Q.sy.cellO 0 rfl 2 rfl,?_⟩
   have es:decide ((x.2.n:Int)<(1024:Int))=decide (x.2.n<1024):=dB QF
   rw[es]
   refine aq (fun z=>⟨rfl,xR,0,rfl,_,cR,.inr ⟨_,_,_,_,x,A,PN s,rfl,by rw[eM,z];rfl,Q,ix,rfl,⟨⟨ix,of_decide_eq_true z⟩,fun x j p hj=>⟨RX.at p.1 hj,p.2⟩⟩,hn⟩⟩) fun z=>⟨_,by rw[eM,z];rfl,rfl,Q.fr⟩
  ·have eM:G.aP s rd cl nm a x=G.bJ (decide (x.2.weights.length<3072)) (a,3) (.ok (x,G.ji s rd cl)):=by unfold G.aP;rw[if_neg q,if_pos q2]
   refine⟨xR,0,rfl,_,cR,b,0,rfl,_,_,_,Q.sy.cellO 0 rfl 14 rfl,?_⟩
   have es:decide (((x.2.weights.length:Nat):Int)<(3072:Int))=decide (x.2.weights.length<3072):=dB QF
   rw[es]
   refine aq (fun z=>⟨rfl,xR,0,rfl,_,cR,.inr ⟨_,_,_,_,x,A,PE s,rfl,by rw[eM,z];rfl,Q,ix,rfl,⟨⟨ix,of_decide_eq_true z⟩,fun x j p hj=>⟨RX.at p.1 hj,p.2⟩⟩,he⟩⟩) fun z=>⟨_,by rw[eM,z];rfl,rfl,Q.fr⟩
  ·refine .inl ⟨rfl,?_,rfl⟩
   unfold G.aP;rw[if_neg q,if_neg q2]
 ·rcases r with⟨_,_,rfl⟩ | ⟨_,_,_,_,_,_,_,_,_,m,_⟩
  ·exact Fr.refl _ _
  ·exact m.fr
end
section
variable {gl:GL} {b:Nat} {s:ByteArray} {mo:Option Nat} {fs:Fs} {ms:Ms} {rd:ByteArray->Option (Nat × Nat)} {cl:Nat->Nat}
theorem IY {h:ab} {t:Nat} {tg:G.Tg} {x:G.Xs} (L:Lx h b s x.2.i) (ht:t≠b) (c0:ac h t 0=some (.string tg.name)) (c4:ac h t 4=some (.bool tg.whole)) (hi:x.2.i<=s.size) (hs:s.size<=262144):
  QJ 147 #[ptr b,ptr t] h (fun v h'=>∃says j,G.gG s tg x= .ok (says,x.2.i,x.at j)/\x.2.i<=j/\j<=s.size/\says.size<=s.size/\v= .tuple #[.string says,QM (x.2.i:Int)]/\Mv b h h' j)
   (fun v h'=>∃f,G.gG s tg x= .no f/\v=flx f/\Fr [b] h h'):=by
 apply Dd
 unfold Nm
 refine⟨b,0,rfl,_,L.c1,t,0,rfl,_,c4,cd (fun q=>?_) fun q=>?_⟩
 ·exact⟨G.noB,x.2.i,by unfold G.gG;rw[if_pos q];rfl,Nat.le_refl _,hi,Nat.zero_le _,rfl,Mv.refl L⟩
 have eC:G.gG s tg x=(G.jc s (enB 60) (fun c=>G.bO c||G.cj c) x.2.i []).bind fun(o,e)=>match o with
   | none=>.no (s.size,15)
   | some l=>(G.iz s tg.name (e+1)).bind fun j=>.ok (G.mkB l,x.2.i,x.at j):=by
  unfold G.gG;rw[if_neg (by rw[q];decide)];rfl
 refine⟨b,0,rfl,?_⟩
 refine az [b] (IZ (e:=60) (fun n h=>MK) QC QC L hi hs) QB (fun _ _ r=>by obtain⟨_,_,_,_,_,_,_,_,m⟩:=r;exact m.fr) (fun _ _ r=>by obtain⟨_,_,_,m⟩:=r;exact m) (fun v hv r=>?_) fun v hv r=>?_
 rotate_left
 ·obtain⟨f,e,rfl,f1⟩:=r
  exact⟨f,by rw[eC,e];rfl,rfl,f1⟩
 obtain⟨o,j,e,rfl,j1,j2,j3,j5,M⟩:=r
 have L1:=L.mv M
 rw[e]at eC
 simp only[G.Er.bind]at eC
 cases o with
 | none=>
  refine⟨_,_,rfl,b,0,rfl,_,L1.c1,aq (fun z=>absurd z QA) fun _=>⟨_,eC,?_,M.fr⟩⟩
  rw[j5 rfl]
 | some l=>
  obtain⟨hj,hll⟩:=j3 l rfl
  refine⟨_,_,rfl,b,0,rfl,_,L1.c1,aq (fun _=>⟨rfl,b,0,rfl,_,L1.c1,b,0,rfl,L1.cell,L1.fr,?_⟩) fun z=>absurd z QA⟩
  rw[wrN Qz]
  intro hv3
  have M3:Mv b h hv3 (j+1):=M.trans (Mv.to L1 (j+1))
  have L3:=L.mv M3
  clear_value hv3
  refine⟨[b],QB,b,0,rfl,t,0,rfl,_,M3.fr.cell c0 (by simpa using ht),?_⟩
  refine az [b] (MX L3 Qz hs) QB (fun _ _ r=>by obtain⟨_,_,_,_,_,m⟩:=r;exact m.fr) (fun _ _ r=>by obtain⟨_,_,_,m⟩:=r;exact m) (fun v hv4 r=>?_) fun v hv4 r=>?_
  ·obtain⟨k,e2,k1,k2,rfl,M4⟩:=r
   rw[e2]at eC
   exact⟨rfl,M4.fr,G.mkB l,k,eC,Qz,k2,by show l.toArray.size<=_;rw[List.size_toArray];omega,rfl,M3.trans M4⟩
  ·obtain⟨f,e2,rfl,f4⟩:=r
   rw[e2]at eC
   exact⟨f,eC,rfl,M3.fr.trans f4⟩
def oQ (gl:GL) (rd:ByteArray->Option (Nat × Nat)) (cl:Nat->Nat):Prop:=
 ∀(says:ByteArray) (a:Nat) (h:ab),Gl gl h->says.size<=262144->G.pO rd cl says a≠ .un->
  QJ 115 #[.string says,QM (a:Int)] h (fun v h'=>∃x,G.pO rd cl says a= .ok x/\v= QQ x/\Fr [] h h') (fun v h'=>∃e,G.pO rd cl says a= .no e/\v=flx e/\Fr [] h h')
theorem tQ :oQ gl (fun _=>none) cl:=fun says a h g hs hu=>absurd rfl hu
def Ai (gl:GL) (b:Nat) (s:ByteArray) (mo:Option Nat) (fs:Fs) (ms:Ms) (I:G.Xs->Prop) (F:Fn) (X Y:Array Value) (k:ByteArray->Nat->G.Xd->G.Er G.Xd):Prop:=
 ∀(says:ByteArray) (a:Nat) (x:G.Xs) (A:XA) (h:ab),Hp h (chX gl b s mo fs ms A x)->I x->says.size<=262144->k says a x.2≠ .un->
  CV F X Y [.string says,QM (a:Int)] h (fun v h'=>∃σ',k says a x.2= .ok σ'/\v= .tuple #[]/\Sq h (chX gl b s mo fs ms A x) h' (chX gl b s mo fs ms A (x.1,σ'))/\I (x.1,σ')/\σ'.i=x.2.i)
   (fun v h'=>∃e,k says a x.2= .no e/\v=flx e/\Fr (aF (chX gl b s mo fs ms A x)) h h')
def ID (s:ByteArray) (node:Bool) (v:Nat) (x:G.Xs):Prop:=RX s x.2/\(node=true->v<x.2.n)/\(node=false->v<x.2.weights.length)/\x.1.Nodup
theorem lvD (s:ByteArray) (node:Bool) (v:Nat):LvI s (ID s node v):=⟨fun x j r hj=>⟨RX.at r.1 hj,r.2.1,r.2.2.1,r.2.2.2⟩,fun x r=>r.1.i⟩
theorem nfx {A:XA} {x:G.Xs} {h0 h:ab} {M:List Nat} (Y:Sy h0 M h (chX gl b s mo fs ms A x)) {y o:Nat} {u:Value} (hy:(y,o,u)∈fs) {c:Ck} {j:Nat} (hj:(chX gl b s mo fs ms A x)[j]? =some c) (h8:j≠8) {z:Nat} (hz:z∈c.own):z≠y:=by
 rintro rfl
 exact(Y.hp.ap j 8 _ _ h8 hj rfl z hz).2 (List.mem_append_left _ (List.mem_map.2 ⟨_,hy,rfl⟩))
theorem Gm {v yr yv i1 i2:Nat} (hr:fs[i1]? =some (yr,0,ptr b)) (hv:fs[i2]? =some (yv,0,QM (v:Int))):Ai gl b s mo fs ms (ID s true v) (.func 113) #[] #[ptr yr,ptr yv] (G.dQ rd cl 1 v):=by
 intro says a x A h H ix hs hu
 generalize hC:chX gl b s mo fs ms A x=C at H ⊢
 have Q:Sq h C h (chX gl b s mo fs ms A x):=by rw[hC];exact Sq.start H
 have Y:=Q.sy
 refine CV.up (aF C) QC ?_ (fun v h' r=>by obtain⟨_,_,_,m,_⟩:=r;exact m.fr) fun v h' r=>by obtain⟨_,_,_,m⟩:=r;exact m
 show QJ 113 #[.string says,QM (a:Int),ptr yr,ptr yv] h _ _
 apply De
 unfold Nn
 have eT:G.dQ rd cl 1 v says a x.2=G.bJ (decide (says.size<=256)) (a,23) (G.bJ (says.data.toList.all fun c=>G.bO c.toNat) (a,25) (.ok {x.2 with labels:=x.2.labels.set v says,h0:=true})):=rfl
 have es:decide (((says.size:Nat):Int)<=(256:Int))=decide (says.size<=256):=dB QF
 rw[es]
 refine aq (fun q1=>⟨rfl,?_⟩) fun q1=>⟨_,by rw[eT,q1];rfl,rfl,Q.fr⟩
 rw[q1]at eT
 simp only[G.bJ]at eT
 have q1:=of_decide_eq_true q1
 have hlen:says.data.toList.length=says.size:=by rw[Array.length_toList];rfl
 refine⟨fun l h'=>∃k:Nat,l=[QM (k:Int)]/\k<=says.size/\h'=h/\((says.data.toList.take k).all fun c=>G.bO c.toNat)=true,mI says.size,⟨0,rfl,Nat.zero_le _,rfl,rfl⟩,?_⟩
 rintro z hv2 ⟨k,e,hk,rfl,hp⟩
 cases e
 refine af (fun q2=>?_) fun q2=>?_
 ·have hk2:k<says.size:=by omega
  obtain⟨c,hc,-⟩:=get_at hk2
  refine⟨Qz,Qz,c,by rw[Int.toNat_natCast];exact hc,?_⟩
  have hcl:says.data.toList[k]? =some c:=by
   rw[Array.getElem?_toList]
   exact hc
  rw[wrN Qz]
  refine fQ Ac ⟨_,rfl,aq (fun q3=>⟨rfl,⟨k+1,rfl,Qz,rfl,?_⟩,by simp only[mI];omega⟩) fun q3=>⟨_,?_,rfl,Q.fr⟩⟩
  ·rw[gP hcl,List.all_append,hp]
   simp[q3]
  ·have:(says.data.toList.all fun c=>G.bO c.toNat)=false:=by
    rw[List.all_eq_false]
    exact⟨c,List.mem_of_getElem? hcl,by simp[q3]⟩
   rw[eT,this]
 ·rw[List.take_of_length_le Qz]at hp
  rw[hp]at eT
  have hll:=ix.1.l
  have hvn:=ix.2.1 rfl
  obtain⟨g,hg,gown,-⟩:=Y.atS 3 rfl (i:=(v:Int)) Qz Qz
  have cR:ac hv2 yr 0=some (ptr b):=Y.factY 8 rfl i1 hr
  have cV:ac hv2 yv 0=some (QM (v:Int)):=Y.factY 8 rfl i2 hv
  have bne:b≠yr:=nfx Y (List.mem_of_getElem? hr) (j:=0) rfl QA (by simp[Ck.ob])
  have gne:g≠yr:=nfx Y (List.mem_of_getElem? hr) (j:=3) rfl QA gown
  have bg:b≠g:=fun q=>(Y.hp.ap 3 0 _ _ QA rfl rfl g gown).1 (by simp[Ck.ob,q])
  have c2:ac hv2 g (0+v*1)=_:=Y.cellS 3 rfl hg (i:=v) (t:=0) (List.getElem?_eq_getElem Qz) rfl
  refine⟨[b,g],QB,yr,0,rfl,_,cR,b,0,rfl,_,_,_,Y.cellO 0 rfl 12 rfl,yv,0,rfl,_,cV,yr,0,rfl,by simp;exact⟨bne.symm,gne.symm⟩,_,cR,g,0,hg,Qz,Qz,b,0,rfl,⟨_,c2⟩,Y.freeS 3 rfl hg _,?_⟩
  rw[Int.toNat_natCast]
  intro hv5
  have Y3:=Y.st1 3 rfl hg (i:=v) says Qz rfl
  have f3:Fr [b,g] hv2 hv5:=(Fr.refl _ _).hsetr (.inr QB)
  refine⟨f3,⟨_,Y3.cellO 0 rfl 15 rfl⟩,Y3.freeO 0 rfl 15,?_⟩
  intro hv6
  have Y4:=Y3.stO 0 rfl 15 (.bool true)
  refine⟨f3.hsetr (.inr QB),{x.2 with labels:=x.2.labels.set v says,h0:=true},eT,rfl,?_,?_,rfl⟩
  ·have l1:(x.2.labels.set v says).length=x.2.labels.length:=by simp
   refine⟨?_,Q.ri⟩
   show Sy hv2 (aF C) hv6 (chX gl b s mo fs ms A (x.1,{x.2 with labels:=x.2.labels.set v says,h0:=true}))
   unfold chX stX rx
   simp only[l1]
   exact Y4
  ·exact⟨⟨ix.1.i,ix.1.n,by simpa using ix.1.l,ix.1.p,ix.1.dn,ix.1.dv,ix.1.w,ix.1.e,ix.1.kn⟩,ix.2.1,ix.2.2.1,ix.2.2.2⟩
theorem Gn (hn:oQ gl rd cl) {v yr yv i1 i2:Nat} (hr:fs[i1]? =some (yr,0,ptr b)) (hv:fs[i2]? =some (yv,0,QM (v:Int))):Ai gl b s mo fs ms (ID s false v) (.func 117) #[] #[ptr yr,ptr yv] (G.dQ rd cl 4 v):=by
 intro says a x A h H ix hs hu
 generalize hC:chX gl b s mo fs ms A x=C at H ⊢
 have Q:Sq h C h (chX gl b s mo fs ms A x):=by rw[hC];exact Sq.start H
 refine CV.up (aF C) QC ?_ (fun v h' r=>by obtain⟨_,_,_,m,_⟩:=r;exact m.fr) fun v h' r=>by obtain⟨_,_,_,m⟩:=r;exact m
 show QJ 117 #[.string says,QM (a:Int),ptr yr,ptr yv] h _ _
 apply Dh
 unfold Nr
 have eT:G.dQ rd cl 4 v says a x.2=(G.pO rd cl says a).bind fun z=>.ok {x.2 with weights:=x.2.weights.set v z,h2:=true}:=rfl
 have cR:ac h yr 0=some (ptr b):=Q.sy.factY 8 rfl i1 hr
 have cV:ac h yv 0=some (QM (v:Int)):=Q.sy.factY 8 rfl i2 hv
 have hvw:=ix.2.2.1 rfl
 obtain⟨g,hg,gown,-⟩:=Q.sy.atS 5 rfl (i:=(v:Int)) Qz Qz
 have bne:b≠yr:=nfx Q.sy (List.mem_of_getElem? hr) (j:=0) rfl QA (by simp[Ck.ob])
 have gne:g≠yr:=nfx Q.sy (List.mem_of_getElem? hr) (j:=5) rfl QA gown
 refine⟨[],[b,g],QB,QB,yr,0,rfl,QB,_,cR,b,0,rfl,QB,_,_,_,Q.sy.cellO 0 rfl 14 rfl,yv,0,rfl,QB,_,cV,yr,0,rfl,by simp;exact⟨bne.symm,gne.symm⟩,_,cR,b,0,rfl,?_⟩
 have hun:G.pO rd cl says a≠ .un:=by
  intro z
  rw[eT,z]at hu
  exact hu rfl
 refine az [] (hn says a h (Q.sy.glo 7 rfl) hs hun) QB (fun _ _ r=>by obtain⟨_,_,_,m⟩:=r;exact m) (fun _ _ r=>by obtain⟨_,_,_,m⟩:=r;exact m) (fun w hv2 r=>?_) fun w hv2 r=>?_
 rotate_left
 ·obtain⟨e,q,rfl,f⟩:=r
  exact⟨e,by rw[eT,q];rfl,rfl,(Q.gr f).fr⟩
 obtain⟨z,q,rfl,f2⟩:=r
 rw[q]at eT
 have Q2:=Q.gr f2
 have Y2:=Q2.sy
 have c2:ac hv2 g (0+v*1)=_:=Y2.cellS 5 rfl hg (i:=v) (t:=0) (List.getElem?_eq_getElem Qz) rfl
 refine⟨z,rfl,f2,g,0,hg,Qz,Qz,⟨_,c2⟩,Y2.freeS 5 rfl hg _,?_⟩
 rw[Int.toNat_natCast]
 intro hv5
 have Y3:=Y2.st1 5 rfl hg (i:=v) z Qz rfl
 have f3:Fr [b,g] h hv5:=f2.nil.hsetr (.inr QB)
 refine⟨f3,⟨_,Y3.cellO 0 rfl 17 rfl⟩,Y3.freeO 0 rfl 17,?_⟩
 intro hv6
 have Y4:=Y3.stO 0 rfl 17 (.bool true)
 refine⟨f3.hsetr (.inr QB),{x.2 with weights:=x.2.weights.set v z,h2:=true},eT,rfl,?_,?_,rfl⟩
 ·have l1:(x.2.weights.set v z).length=x.2.weights.length:=by simp
  refine⟨?_,Q2.ri⟩
  show Sy h (aF C) hv6 (chX gl b s mo fs ms A (x.1,{x.2 with weights:=x.2.weights.set v z,h2:=true}))
  unfold chX stX rx
  simp only[l1]
  exact Y4
 ·exact⟨⟨ix.1.i,ix.1.n,ix.1.l,ix.1.p,ix.1.dn,ix.1.dv,by simpa using ix.1.w,by simpa using ix.1.e,ix.1.kn⟩,ix.2.1,by simpa using ix.2.2.1,ix.2.2.2⟩
theorem Gp {α:Type} {l:List α} {i:Nat} {x:α} {f:α->α} (hx:l[i]? =some x):l.modify i f=l.set i (f x):=by
 apply List.ext_getElem?
 grind
theorem Aj (hn:oQ gl rd cl) {v yr yv i1 i2:Nat} (y:Bool) (hr:fs[i1]? =some (yr,0,ptr b)) (hv:fs[i2]? =some (yv,0,QM (v:Int))):Ai gl b s mo fs ms (ID s true v) (.func (if y=true then 116 else 114)) #[] #[ptr yr,ptr yv] (G.dQ rd cl (2+y.toNat) v):=by
 intro says a x A h H ix hs hu
 generalize hC:chX gl b s mo fs ms A x=C at H ⊢
 have Q:Sq h C h (chX gl b s mo fs ms A x):=by rw[hC];exact Sq.start H
 refine CV.up (aF C) (by cases y<;>kernel_rfl) ?_ (fun v h' r=>by obtain⟨_,_,_,m,_⟩:=r;exact m.fr) fun v h' r=>by obtain⟨_,_,_,m⟩:=r;exact m
 have eT:G.dQ rd cl (2+y.toNat) v says a x.2=(G.pO rd cl says a).bind fun z=>.ok {x.2 with spots:=x.2.spots.modify v fun p=>if y=true then(p.1,z)else(z,p.2),h1:=true}:=by cases y<;>rfl
 have cR:ac h yr 0=some (ptr b):=Q.sy.factY 8 rfl i1 hr
 have cV:ac h yv 0=some (QM (v:Int)):=Q.sy.factY 8 rfl i2 hv
 have hvn:=ix.2.1 rfl
 have hsl:=ix.1.p
 obtain⟨g,hg,gown,-⟩:=Q.sy.atS 4 rfl (i:=(v:Int)) Qz Qz
 have bne:b≠yr:=nfx Q.sy (List.mem_of_getElem? hr) (j:=0) rfl QA (by simp[Ck.ob])
 have gne:g≠yr:=nfx Q.sy (List.mem_of_getElem? hr) (j:=4) rfl QA gown
 have hun:G.pO rd cl says a≠ .un:=by
  intro z
  rw[eT,z]at hu
  exact hu rfl
 obtain⟨p,hp⟩:∃p,x.2.spots[v]? =some p:=⟨_,List.getElem?_eq_getElem Qz⟩
 have ty:y.toNat<2:=by cases y<;>decide
 obtain⟨u,hu2⟩:∃u,(eFF.enc p)[y.toNat]? =some u:=by cases y<;>exact⟨_,rfl⟩
 have fin:∀{z:Nat} {hv2:ab},Fr [] h hv2->G.dQ rd cl (2+y.toNat) v says a x.2= .ok {x.2 with spots:=x.2.spots.modify v fun p=>if y=true then(p.1,z)else(z,p.2),h1:=true}->
   (∃u,ac hv2 g (0+v*2+y.toNat)=some u)/\au hv2 g (0+v*2+y.toNat)=true/\Fr [b,g] h (am hv2 g (0+v*2+y.toNat) (QQ z))/\(∃u,ac (am hv2 g (0+v*2+y.toNat) (QQ z)) b (0+15+1)=some u)/\au (am hv2 g (0+v*2+y.toNat) (QQ z)) b (0+15+1)=true/\
   Fr [b,g] h (am (am hv2 g (0+v*2+y.toNat) (QQ z)) b (0+15+1) (.bool true))/\
   ∃σ',G.dQ rd cl (2+y.toNat) v says a x.2= .ok σ'/\Sq h C (am (am hv2 g (0+v*2+y.toNat) (QQ z)) b (0+15+1) (.bool true)) (chX gl b s mo fs ms A (x.1,σ'))/\ID s true v (x.1,σ')/\σ'.i=x.2.i:=by
  intro z hv2 f2 eT
  have Q2:=Q.gr f2
  have Y2:=Q2.sy
  have c2:ac hv2 g (0+v*2+y.toNat)=some u:=Y2.cellS 4 rfl hg hp hu2
  have Y3:=Y2.stS 4 rfl hg (i:=v) (t:=y.toNat) (x:=p) (if y=true then(p.1,z)else(z,p.2)) (v:=QQ z) hp ty (by cases y<;>rfl)
  have f3:Fr [b,g] h (am hv2 g (0+v*2+y.toNat) (QQ z)):=f2.nil.hsetr (.inr QB)
  have Y4:=Y3.stO 0 rfl 16 (.bool true)
  refine⟨⟨_,c2⟩,Y2.freeS 4 rfl hg _,f3,⟨_,Y3.cellO 0 rfl 16 rfl⟩,Y3.freeO 0 rfl 16,f3.hsetr (.inr QB),_,eT,⟨?_,Q2.ri⟩,?_,rfl⟩
  ·rw[Gp hp]
   have l1:(x.2.spots.set v (if y=true then(p.1,z)else(z,p.2))).length=x.2.spots.length:=by simp
   show Sy h (aF C) _ (chX gl b s mo fs ms A (x.1,{x.2 with spots:=x.2.spots.set v (if y=true then(p.1,z)else(z,p.2)),h1:=true}))
   unfold chX stX rx
   simp only[l1]
   exact Y4
  ·exact⟨⟨ix.1.i,ix.1.n,ix.1.l,by simpa using ix.1.p,ix.1.dn,ix.1.dv,ix.1.w,ix.1.e,ix.1.kn⟩,ix.2.1,ix.2.2.1,ix.2.2.2⟩
 have bad:∀{w:Value} {hv2:ab},(∃e,G.pO rd cl says a= .no e/\w=flx e/\Fr [] h hv2)->∃e,G.dQ rd cl (2+y.toNat) v says a x.2= .no e/\w=flx e/\Fr (aF C) h hv2:=by
  rintro w hv2 ⟨e,q,rfl,f⟩
  exact⟨e,by rw[eT,q];rfl,rfl,(Q.gr f).fr⟩
 have nc:=hn says a h (Q.sy.glo 7 rfl) hs hun
 cases y with
 | false=>
  show QJ 114 #[.string says,QM (a:Int),ptr yr,ptr yv] h _ _
  apply Df
  unfold Np
  refine⟨[],[b,g],QB,QB,yr,0,rfl,QB,_,cR,b,0,rfl,QB,_,_,_,Q.sy.cellO 0 rfl 13 rfl,yv,0,rfl,QB,_,cV,yr,0,rfl,by simp;exact⟨bne.symm,gne.symm⟩,_,cR,b,0,rfl,?_⟩
  refine az [] nc QB (fun _ _ r=>by obtain⟨_,_,_,m⟩:=r;exact m) (fun _ _ r=>by obtain⟨_,_,_,m⟩:=r;exact m) (fun w hv2 r=>?_) fun w hv2 r=>bad r
  obtain⟨z,q,rfl,f2⟩:=r
  rw[q]at eT
  obtain⟨k1,k2,k3,k4,k5,k6,σ',k7,k8,k9,k10⟩:=fin f2 eT
  exact⟨z,rfl,f2,g,0,hg,Qz,Qz,k1,k2,k3,k4,k5,k6,σ',k7,rfl,k8,k9,k10⟩
 | true=>
  show QJ 116 #[.string says,QM (a:Int),ptr yr,ptr yv] h _ _
  apply Dg
  unfold Nq
  refine⟨[],[b,g],QB,QB,yr,0,rfl,QB,_,cR,b,0,rfl,QB,_,_,_,Q.sy.cellO 0 rfl 13 rfl,yv,0,rfl,QB,_,cV,yr,0,rfl,by simp;exact⟨bne.symm,gne.symm⟩,_,cR,b,0,rfl,?_⟩
  refine az [] nc QB (fun _ _ r=>by obtain⟨_,_,_,m⟩:=r;exact m) (fun _ _ r=>by obtain⟨_,_,_,m⟩:=r;exact m) (fun w hv2 r=>?_) fun w hv2 r=>bad r
  obtain⟨z,q,rfl,f2⟩:=r
  rw[q]at eT
  obtain⟨k1,k2,k3,k4,k5,k6,σ',k7,k8,k9,k10⟩:=fin f2 eT
  exact⟨z,rfl,f2,g,0,hg,Qz,Qz,k1,k2,k3,k4,k5,k6,σ',k7,rfl,k8,k9,k10⟩
end
theorem FG (l:List (Value × Value)) (j:Nat) (k v:Value):(Ent l).modify j (fun e=>{e with key:=k,val:=v})=Ent (l.modify j fun _=>(k,v)):=by
 refine FC fun i=>?_
 rw[Array.getElem?_modify,jf,List.getElem?_modify]
 by_cases q:j=i
 ·subst q;cases l[j]? <;>simp
 ·cases l[i]? <;>simp[q]
theorem zR (b:ByteArray):G.mkB b.data.toList=b:=by
 cases b;simp[G.mkB]
theorem jS {l:QS} {b:ByteArray}:(Value.string (G.mkB l)=Value.string b) ↔ l=b.data.toList:=by
 constructor
 ·intro e
  injection e with e
  rw[<-e];simp[G.mkB]
 ·rintro rfl;rw[zR]
theorem uL {ks:List QS} {j:Nat} {p:Value × Value} (h:(ek ks)[j]? =some p):∃k,ks[j]? =some k/\p=(.string (G.mkB k),QM 1):=by
 unfold ek at h
 rw[List.getElem?_map]at h
 cases e:ks[j]? with
 | none=>rw[e]at h;cases h
 | some k=>rw[e]at h;exact⟨k,rfl,(Option.some.inj h).symm⟩
theorem pW (ks:List QS):bU cz (Ent (ek ks)):=by
 intro e he
 obtain⟨j,p,h1,rfl⟩:=fP he
 obtain⟨k,_,rfl⟩:=uL h1
 rfl
theorem A0 {h:ab} {m:Nat} {x:Array MapEntry × Nat} (hm:bG h m=some x) (o:Obj):bG (h.push o) m=some x:=by
 obtain⟨es,c⟩:=x
 have:=bD hm
 have hl:=(Array.getElem?_eq_some_iff.1 this).1
 exact kq (by rw[Array.getElem?_push,if_neg Qz];exact this)
theorem pX {h:ab} {m:Nat} {x:Array MapEntry × Nat} (hm:bG h m=some x):m<h.size:=by
 obtain⟨es,c⟩:=x
 exact(Array.getElem?_eq_some_iff.1 (bD hm)).1
theorem F8 {h:ab} {m:Nat} {ks:List QS} (nm:ByteArray) (hm:bG h m=some (Ent (ek ks),(ek ks).length)):
  bG (cb h m ((Ent (ek ks)).push ⟨.string nm,QM 1,(ek ks).length⟩) ((ek ks).length+1)) m=some (Ent (ek (ks++[nm.data.toList])),(ek (ks++[nm.data.toList])).length):=by
 have e:(Ent (ek ks)).push ⟨.string nm,QM 1,(ek ks).length⟩=Ent (ek (ks++[nm.data.toList])):=by
  rw[iy];simp[ek,zR]
 have el:(ek ks).length+1=(ek (ks++[nm.data.toList])).length:=by simp[ek]
 rw[e,el]
 exact oD (pX hm) _ _
theorem CI {ks:List QS} {nm:ByteArray} {e:MapEntry} (he:e∈(Ent (ek ks)).toList) (hk:e.key= .string nm):nm.data.toList∈ks/\e.val= QM 1:=by
 obtain⟨j,p,h3,rfl⟩:=fP he
 obtain⟨k,h4,rfl⟩:=uL h3
 have hk:k=nm.data.toList:=jS.1 hk
 subst hk
 exact⟨List.mem_of_getElem? h4,rfl⟩
theorem CJ {ks:List QS} {nm:ByteArray} (hin:nm.data.toList∈ks):∃e∈(Ent (ek ks)).toList,e.key= .string nm:=by
 obtain⟨j,hj⟩:=List.mem_iff_getElem?.1 hin
 refine⟨⟨.string (G.mkB nm.data.toList),QM 1,j⟩,Array.mem_def.1 (Array.mem_of_getElem? (i:=j) ?_),jS.2 rfl⟩
 rw[jf]
 simp[ek,hj]
theorem F9 {h:ab} {m:Nat} {ks:List QS} (nm:ByteArray) (hm:bG h m=some (Ent (ek ks),(ek ks).length)) (hn:ks.Nodup) {j:Nat} {ev:MapEntry} (hj:(Ent (ek ks))[j]? =some ev) (hk:ev.key= .string nm):
  ∃es,bG (cb h m ((Ent (ek ks)).modify j fun e=>{e with key:=.string nm,val:=QM 2}) (ek ks).length) m=some (es,(ek ks).length)/\bU cz es/\(∀e∈es.toList,e.key= .string nm->e.val= QM 2)/\∃e∈es.toList,e.key= .string nm:=by
 have hp:=oD (pX hm) (Ent ((ek ks).modify j fun _=>(.string nm,QM 2))) (ek ks).length
 have hj:ks[j]? =some nm.data.toList:=by
  rw[jf]at hj
  cases e:(ek ks)[j]? with
  | none=>rw[e]at hj;cases hj
  | some p=>
   rw[e]at hj
   obtain⟨k2,h7,rfl⟩:=uL e
   simp only[Option.map_some,Option.some.injEq]at hj
   subst hj
   rw[h7,jS.1 hk]
 have at_:∀{i:Nat} {p:Value × Value},((ek ks).modify j fun _=>(Value.string nm,QM 2))[i]? =Option.some p->(i=j/\p=(.string nm,QM 2))\/(i≠j/\∃k,ks[i]? =Option.some k/\p=(.string (G.mkB k),QM 1)):=by
  intro i p hp
  rw[List.getElem?_modify]at hp
  by_cases q:j=i
  ·subst q
   cases e:(ek ks)[j]? with
   | none=>rw[e]at hp;simp at hp
   | some y=>rw[e]at hp;simp at hp;exact .inl ⟨rfl,hp.symm⟩
  ·cases e:(ek ks)[i]? with
   | none=>rw[e]at hp;simp at hp
   | some y=>
    rw[e]at hp
    simp only[if_neg q,Option.map_eq_map,Option.map_some,id_eq,Option.some.injEq]at hp
    subst hp
    obtain⟨k,h3,h4⟩:=uL e
    exact .inr ⟨fun z=>q z.symm,k,h3,h4⟩
 rw[FG]
 refine⟨_,hp,?_,fun ev he hk=>?_,⟨.string nm,QM 2,j⟩,Array.mem_def.1 (Array.mem_of_getElem? (i:=j) ?_),rfl⟩
 ·intro e he
  obtain⟨i,p,h1,rfl⟩:=fP he
  rcases at_ h1 with⟨_,rfl⟩ | ⟨_,k,_,rfl⟩<;>rfl
 ·obtain⟨i,p,h3,rfl⟩:=fP he
  rcases at_ h3 with⟨_,rfl⟩ | ⟨q,k,h4,rfl⟩
  ·rfl
  ·have:k=nm.data.toList:=jS.1 hk
   subst this
   exact absurd (pv hn h4 hj) q
 ·rw[jf,List.getElem?_modify]
  have:(ek ks)[j]? =Option.some (.string (G.mkB nm.data.toList),QM 1):=by simp[ek,hj]
  rw[this]
  simp
theorem Sy.seeY {h0 h h':ab} {M:List Nat} {cs:List Ck} {fs:Fs} {ms:Ms} {m:Nat} {ks ks':List QS} (Y:Sy h0 M h cs) (k:Nat) (hk:cs[k]? =some (Ck.fy (some (m,ks)) fs ms)) (f:Fr [m] h h') (hm:bG h' m=some (Ent (ek ks'),(ek ks').length)) (hd:∀p∈ms,p.1≠m):
  Sy h0 M h' (cs.set k (Ck.fy (some (m,ks')) fs ms)):=by
 refine Y.mut hk _ f.size (fun d hd hn=>f.blk d hd (by simpa[Ck.fy]using hn)) ⟨fun p hp=>?_,fun x hx=>?_,fun x hx=>?_⟩ (fun d hd=>.inl hd) (fun d hd=>.inr (.inl hd))
 ·cases hp;exact hm
 ·have h1:=(Y.ok hk).2.1 x hx
  have h2:=kK (Y.mapY k hk) h1
  rw[dW (f.blk x.1 (bk h1) (by simpa using fun q=>h2 q.symm))]
  exact h1
 ·have h1:=(Y.ok hk).2.2 x hx
  exact kq ((f.blk x.1 (pX h1) (by simpa using hd x hx)).trans (bD h1))
theorem jB {l:List (ByteArray × ByteArray × ByteArray)} (hn:(l.map fun k=>k.1.data.toList).Nodup) {k:ByteArray × ByteArray × ByteArray} {x:ByteArray} (hk:k∈l) (h:G.eqB k.1 x=true):(l.find? fun k=>G.eqB k.1 x)=some k:=by
 cases hf:l.find? fun k=>G.eqB k.1 x with
 | none=>exact absurd h (by simpa using List.find?_eq_none.1 hf k hk)
 | some k2=>
  have h2:=List.find?_some hf
  obtain⟨i,hi⟩:=List.mem_iff_getElem?.1 hk
  obtain⟨j,hj⟩:=List.mem_iff_getElem?.1 (List.mem_of_find?_eq_some hf)
  rw[fk]at h h2
  have e:=pv (p:=i) (q:=j) (x:=x.data.toList) hn (by rw[List.getElem?_map,hi,Option.map_some,of_decide_eq_true h]) (by rw[List.getElem?_map,hj,Option.map_some,of_decide_eq_true h2])
  subst e
  rw[hi]at hj
  exact hj.symm
theorem CK {l:List (ByteArray × ByteArray × ByteArray)} {x:ByteArray} (h:(l.any fun k=>G.eqB k.1 x)=false):(l.find? fun k=>G.eqB k.1 x)=none:=by
 rw[List.any_eq_false]at h
 exact List.find?_eq_none.2 h
section
variable {gl:GL} {b:Nat} {s:ByteArray} {mo:Option Nat} {fs:Fs} {ms:Ms} {rd:ByteArray->Option (Nat × Nat)} {cl:Nat->Nat}
def bf (node:Bool) (yr yv:Nat):List (Value × Value):=
 if node=true then [(.string (G.mkB G.ey),.func (.func 113) #[] #[ptr yr,ptr yv]),(.string (G.mkB G.xX),.func (.func 114) #[] #[ptr yr,ptr yv]),(.string (G.mkB G.xY),.func (.func 116) #[] #[ptr yr,ptr yv])]
 else [(.string (G.mkB G.dX),.func (.func 117) #[] #[ptr yr,ptr yv])]
theorem wI (node:Bool) (yr yv:Nat):bU cz (Ent (bf node yr yv)):=by
 intro e he
 obtain⟨j,p,h1,rfl⟩:=fP he
 cases node<;>simp only[bf]at h1
 ·match j,h1 with
  | 0,h1=>cases h1;rfl
 ·match j,h1 with
  | 0,h1=>cases h1;rfl
  | 1,h1=>cases h1;rfl
  | 2,h1=>cases h1;rfl
theorem Bk (hn:oQ gl rd cl) {node:Bool} {v yr yv i1 i2:Nat} (hr:fs[i1]? =some (yr,0,ptr b)) (hv:fs[i2]? =some (yv,0,QM (v:Int))) {e:MapEntry} {nm:ByteArray} (he:e∈(Ent (bf node yr yv)).toList) (hk:e.key= .string nm):
  ∃F,e.val= .func F #[] #[ptr yr,ptr yv]/\G.dq node nm.data.toList≠0/\Ai gl b s mo fs ms (ID s node v) F #[] #[ptr yr,ptr yv] (G.dQ rd cl (G.dq node nm.data.toList) v):=by
 obtain⟨j,p,h1,rfl⟩:=fP he
 cases node<;>simp only[bf]at h1
 ·match j,h1 with
  | 0,h1=>
   cases h1
   rw[<-jS.1 hk]
   exact⟨_,rfl,QA,Gn hn hr hv⟩
 ·match j,h1 with
  | 0,h1=>
   cases h1
   rw[<-jS.1 hk]
   exact⟨_,rfl,QA,Gm hr hv⟩
  | 1,h1=>
   cases h1
   rw[<-jS.1 hk]
   exact⟨_,rfl,QA,Aj hn false hr hv⟩
  | 2,h1=>
   cases h1
   rw[<-jS.1 hk]
   exact⟨_,rfl,QA,Aj hn true hr hv⟩
theorem Bl {node:Bool} {yr yv:Nat} {nm:ByteArray} (h:∀e∈(Ent (bf node yr yv)).toList,e.key≠ .string nm):G.dq node nm.data.toList=0:=by
 have no:∀(j:Nat) (k:QS) (w:Value),(bf node yr yv)[j]? =some (.string (G.mkB k),w)->nm.data.toList≠k:=by
  intro j k w hj e
  exact h ⟨.string (G.mkB k),w,j⟩ (Array.mem_def.1 (Array.mem_of_getElem? (i:=j) (by rw[jf,hj];rfl))) (jS.2 e.symm)
 unfold G.dq
 cases node with
 | false=>simp only[Bool.false_eq_true,if_false];rw[if_neg (no 0 _ _ rfl)]
 | true=>simp only[if_true];rw[if_neg (no 0 _ _ rfl),if_neg (no 1 _ _ rfl),if_neg (no 2 _ _ rfl)]
end
end Go.Proofs.YtemphinmoihdaaaGreatDoor.N
