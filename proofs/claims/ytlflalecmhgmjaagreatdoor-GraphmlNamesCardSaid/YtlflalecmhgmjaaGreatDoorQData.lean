/- The program's keys of GraphML, by the plain reader. Conditions: none. -/
import Derived.Test.YtlflalecmhgmjaaGreatDoorQKind
import Derived.Test.YtlflalecmhgmjaaGreatDoorHKey3
set_option linter.unusedVariables false
set_option linter.unusedSimpArgs false
namespace Go.Proofs.YtlflalecmhgmjaaGreatDoor.N
open Go.Proofs.YtlflalecmhgmjaaGreatDoor
open Go.X
set_option maxRecDepth 100000
theorem gx {h:ab} {p A:Option Addr} {tg:G.Tg} {nm:List UInt8} (hp:atP p A tg.list nm) (hs:(G.cK tg nm).isSome=true) (V:AtV h A tg.list):
  ∃g o a,p=some ⟨g,o,none⟩/\g∈ai A/\a∈tg.list/\a.name.data.toList=nm/\G.aw tg nm=a.says/\G.jr tg nm=a.at_/\ac h g (o+1)=some (.string a.says)/\ac h g (o+2)=some (.int .i64 (a.at_:Int)):=by
 rcases hp with⟨_,hf⟩ | ⟨k,a,g,o,hk,hf,rfl,rfl⟩
 ·unfold G.cK at hs
  rw[hf]at hs;cases hs
 ·obtain⟨g2,o2,e,c0,c1,c2⟩:=V k a hk
  simp only[Option.some.injEq,Addr.mk.injEq,and_true]at e
  obtain⟨rfl,rfl⟩:=e
  have hg:G.cK tg nm=some a:=hf
  have hn:=List.find?_some hf
  exact⟨g,o+k*3,a,rfl,by simp[ai],List.mem_of_getElem? hk,by simpa using hn,by unfold G.aw;rw[hg];rfl,by unfold G.jr;rw[hg];rfl,c1,c2⟩
theorem fA {tg:G.Tg}:∀{l:List (List UInt8)},G.bJ tg l= .ok ()->∀x∈l,(G.cK tg x).isSome=true
 | [],_,x,hx=>by simp at hx
 | y::l,h,x,hx=>by
  rw[G.bJ]at h
  cases q:(G.cK tg y).isSome with
  | false=>rw[q]at h;cases h
  | true=>
   rw[q]at h
   rcases List.mem_cons.1 hx with rfl | hx
   ·exact q
   ·exact fA h x hx
theorem nu {r:G.Xd}:∀{l:List G.Atr},G.bo r l= .ok ()->∀a∈l,a.name.data.toList=G.xId->(r.keys.any fun k=>G.eqB k.1 a.says)=false
 | [],_,a,ha,_=>by simp at ha
 | x::l,h,a,ha,hn=>by
  rw[G.bo]at h
  have go:G.bo r l= .ok ()->a∈l->(r.keys.any fun k=>G.eqB k.1 a.says)=false:=fun h2 h3=>nu h2 a h3 hn
  split at h
  ·rename_i q
   have hl:G.bo r l= .ok ():=by
    cases z:decide (x.says.data.toList=G.br\/x.says.data.toList=G.bU)with
    | false=>rw[z]at h;cases h
    | true=>rw[z]at h;exact h
   rcases List.mem_cons.1 ha with rfl | ha
   ·rw[hn]at q;exact absurd q (by decide)
   ·exact go hl ha
  ·split at h
   ·cases z:r.keys.any fun k=>G.eqB k.1 x.says with
    | true=>rw[z]at h;cases h
    | false=>
     rw[z]at h
     rcases List.mem_cons.1 ha with rfl | ha
     ·exact z
     ·exact go h ha
   ·rename_i q1 q2
    rcases List.mem_cons.1 ha with rfl | ha
    ·exact absurd hn q2
    ·exact go h ha
theorem gy (l:List (ByteArray × ByteArray × ByteArray)):bs bH (Ent (fI l)):=by
 intro e he
 obtain⟨j,p,h1,rfl⟩:=dJ he
 simp only[fI,List.getElem?_map,Option.map_eq_some_iff]at h1
 obtain⟨k,_,rfl⟩:=h1
 rfl
theorem iI {a b:ByteArray}:(Value.string a=Value.string b) ↔ a.data.toList=b.data.toList:=by
 constructor
 ·intro e;injection e with e;rw[e]
 ·intro e
  have:a=b:=by
   cases a;cases b
   simp only[ByteArray.mk.injEq]
   exact Array.ext' e
  rw[this]
theorem jv {l:List (ByteArray × ByteArray × ByteArray)} {e:MapEntry} {x:ByteArray} (he:e∈(Ent (fI l)).toList) (hx:e.key= .string x):∃k∈l,G.eqB k.1 x=true/\e.val= .agg #[.string k.2.1,.string k.2.2]:=by
 obtain⟨j,p,h1,rfl⟩:=dJ he
 simp only[fI,List.getElem?_map,Option.map_eq_some_iff]at h1
 obtain⟨k,h2,rfl⟩:=h1
 exact⟨k,List.mem_of_getElem? h2,by rw[du];simpa using iI.1 hx,rfl⟩
theorem ot {l:List (ByteArray × ByteArray × ByteArray)} {x:ByteArray} (h:∀e∈(Ent (fI l)).toList,e.key≠ .string x):(l.any fun k=>G.eqB k.1 x)=false:=by
 rw[List.any_eq_false]
 intro k hk
 obtain⟨j,hj⟩:=List.mem_iff_getElem?.1 hk
 have:=h ⟨.string k.1,.agg #[.string k.2.1,.string k.2.2],j⟩ (Array.mem_def.1 (Array.mem_of_getElem? (i:=j) (by rw[fV];simp[fI,hj])))
 rw[du]
 simpa using fun q=>this (iI.2 q)
theorem i7 {l:List (ByteArray × ByteArray × ByteArray)} {x:ByteArray} {k:ByteArray × ByteArray × ByteArray} (hk:k∈l) (h:G.eqB k.1 x=true):(l.any fun k=>G.eqB k.1 x)=true:=by
 rw[List.any_eq_true];exact⟨k,hk,h⟩
section
variable {gl:GL} {b:Nat} {s:ByteArray} {fs:Fs} {ms:Ms}
theorem wB (hs:s.size<=262144):gw gl b s none fs ms (IX s) (IX s) (.func 141) #[ptr b] #[] (G.js s):=by
 intro x A tg t TA TC h H ix hl hu
 generalize hC:chX gl b s none fs ms A x++tK t TA TC tg=C at H ⊢
 have Q0:Sq h C h (chX gl b s none fs ms A x++tK t TA TC tg):=by rw[hC];exact Sq.start H
 refine CV.up (az C) (by kernel_rfl) ?_ (fun v h' r=>by obtain⟨_,_,_,_,m,_⟩:=r;exact m.fr) fun v h' r=>by obtain⟨_,_,_,m⟩:=r;exact m
 show av Tryz.prog 141 #[ptr b,ptr t] h _ _
 apply uZ
 unfold AG
 intro hv
 have Q1:Sq h C hv (chX gl b s none fs ms A x++tK t TA TC tg):=Q0.gr (Fr.push h _)
 have cn:∀(k:Nat) (y:List UInt8),[G.xId,G.dT,G.bV][k]? =some y->ac hv h.size (0+k*1)=some (.string (G.mkB y)):=by
  intro k y hk
  have hb:hv[h.size]? =some (.cells #[.string ⟨#[105,100]⟩,.string ⟨#[102,111,114]⟩,.string ⟨#[97,116,116,114,46,110,97,109,101]⟩] 9):=bN
  rw[aJ hb]
  match k,hk with
  | 0,hk=>cases hk;rfl
  | 1,hk=>cases hk;rfl
  | 2,hk=>cases hk;rfl
 clear_value hv
 have V1:AtV hv TA tg.list:=ik Q1.sy 10 rfl
 have hc3:ac hv t 3=some (.slice TA tg.list.length TC):=Q1.sy.cellO 9 rfl 3 rfl
 refine ar [] (pG (tg:=tg) (nms:=[G.xId,G.dT,G.bV]) hc3 (Q1.sy.cellO 9 rfl 1 rfl) V1 hl (by decide) cn) (by simp) (fun _ _ r=>Fr.of_eq r.2.2) (fun _ _ r=>by obtain⟨_,_,_,m⟩:=r;exact Fr.of_eq m) (fun v hv2 r=>?_) fun v hv2 r=>?_
 rotate_left
 ·obtain⟨f,e,rfl,rfl⟩:=r
  exact⟨f,by unfold G.js G.below;rw[e];rfl,rfl,Q1.fr⟩
 obtain⟨e1,rfl,rfl⟩:=r
 have eK:G.js s tg x=((G.bo x.2 tg.list).bind fun _=>G.within s (G.elem s G.hY) tg ([],{x.2 with keys:=x.2.keys++[(G.aw tg G.xId,G.aw tg G.dT,G.aw tg G.bV)]})).bind fun y=>.ok (x.1,y.2):=by
  unfold G.js G.below;rw[e1];rfl
 have hall:=fA e1
 refine⟨rfl,?_⟩
 intro K
 have kk:∀(p:Nat) (hvX:ab),Fr [] hv2 hvX->hv2.size<=p->p<hvX.size->K p (G.aw tg G.dT) (G.aw tg G.bV) hvX:=by
  intro p hvX fX hp1 hp2
  dsimp-zeta only[K]
  intro hv12
  have f12:Fr [] hv2 hv12:=((fX.hsetL hp1).hsetL hp1)
  have s12:hv12.size=hvX.size:=by simp[hv12]
  clear_value hv12
  have Q12:=Q1.gr f12
  refine⟨t,0,rfl,_,_,_,Q12.sy.cellO 9 rfl 3 rfl,?_⟩
  refine⟨fun l h'=>∃k:Nat,l=[.int .i64 (k:Int)]/\k<=tg.list.length/\Fr [] hv12 h'/\G.bo x.2 tg.list=G.bo x.2 (tg.list.drop k),mI tg.list.length,⟨0,rfl,Nat.zero_le _,Fr.refl _ _,rfl⟩,?_⟩
  rintro z hv13 ⟨k,e,hk,f13,eC⟩
  cases e
  have Q13:=Q12.gr f13
  have V13:AtV hv13 TA tg.list:=ik Q13.sy 10 rfl
  have s13:=f13.size
  have own13:∀(z:Nat) (h':ab),hv2.size<=z->z∉az (chX gl b s none fs ms A x++tK t TA TC tg):=by
   intro z h' hz q
   obtain⟨k,c,h1,h2⟩:=bZ.1 q
   have:=mR Q1.sy k h1 z h2
   omega
  refine ae (fun q=>?_) fun q=>?_
  ·obtain⟨a,ha⟩:∃a,tg.list[k]? =some a:=⟨_,List.getElem?_eq_getElem (by omega)⟩
   have hd:tg.list.drop k=a::tg.list.drop (k+1):=by
    obtain⟨h1,h2⟩:=List.getElem?_eq_some_iff.1 ha
    rw[List.drop_eq_getElem_cons h1,h2]
   rw[hd,G.bo]at eC
   obtain⟨g,o,eg,c0,c1,c2⟩:=V13 k a ha
   refine⟨g,o,eg,by omega,by omega,a.name,by rw[Int.toNat_natCast];exact c0,a.says,by rw[Int.toNat_natCast];exact c1,(a.at_:Int),by rw[Int.toNat_natCast];exact c2,?_⟩
   intro hv14 hv15
   have f15:Fr [] hv13 hv15:=((((Fr.push hv13 _).hsetL (Nat.le_refl _)).hsetL (Nat.le_refl _)).hsetL (Nat.le_refl _))
   have s15:hv15.size=hv13.size+1:=by simp[hv15,hv14]
   clear_value hv15
   clear hv14
   have Q15:=Q13.gr f15
   simp-zeta only[gf]
   rw[wrN (by omega)]
   have bad:∀{f:G.F} {h':ab},G.bo x.2 tg.list= .no f->Fr [] hv15 h'->∃e,G.js s tg x= .no e/\flx f=flx e/\Fr (az C) h h':=fun ef f'=>⟨_,by rw[eK,ef];rfl,rfl,(Q15.gr f').fr⟩
   refine⟨fun _ h'=>Fr [] hv15 h'/\G.bo x.2 tg.list=G.bo x.2 (tg.list.drop (k+1)),?_,fun hv29 r=>⟨⟨k+1,rfl,by omega,(f13.trans f15).trans r.1,r.2⟩,by simp only[mI];omega⟩⟩
   refine ae (fun q1=>?_) fun q1=>?_
   ·have q1:a.name.data.toList=G.dT:=q1
    rw[if_pos q1]at eC
    intro K2
    refine ae (fun q2=>ak (fun _=>⟨rfl,Fr.refl _ _,?_⟩) fun z=>absurd z (by decide)) fun q2=>ak (fun q3=>⟨rfl,Fr.refl _ _,?_⟩) fun q3=>?_
    ·rw[eC,decide_eq_true (.inl q2)];rfl
    ·rw[eC,decide_eq_true (.inr (of_decide_eq_true q3))];rfl
    ·refine bad (f:=(a.at_,16)) ?_ (Fr.refl _ _)
     rw[eC,decide_eq_false (fun z=>z.elim q2 (of_decide_eq_false q3))];rfl
   have q1:¬a.name.data.toList=G.dT:=q1
   rw[if_neg q1]at eC
   refine⟨fun _ h'=>Fr [] hv15 h'/\G.bo x.2 tg.list=G.bo x.2 (tg.list.drop (k+1)),?_,fun _ r=>r⟩
   refine ae (fun q2=>?_) fun q2=>?_
   rotate_left
   ·have q2:¬a.name.data.toList=G.xId:=q2
    rw[if_neg q2]at eC
    exact⟨Fr.refl _ _,eC⟩
   have q2:a.name.data.toList=G.xId:=q2
   rw[if_pos q2]at eC
   intro K3
   have k3:∀(c3 c4:ByteArray) (there:Bool) (hv26:ab),Fr [] hv15 hv26->there=(x.2.keys.any fun k=>G.eqB k.1 a.says)->K3 c3 c4 there hv26:=by
    intro c3 c4 there hv26 f26 ht
    refine ak (fun q3=>⟨rfl,f26,?_⟩) fun q3=>bad (f:=(a.at_,18)) ?_ f26
    ·rw[eC,<-ht,q3];rfl
    ·rw[eC,<-ht,q3];rfl
   refine⟨[],by simp,b,0,rfl,by simp,_,Q15.sy.cellO 0 rfl 9 rfl,?_,?_⟩
   ·refine⟨_,rfl,_,_,Q15.sy.mapM 1 rfl,gy _,fun ev he hk=>?_,fun hn=>?_⟩
    ·obtain⟨ky,hk1,hk2,hk3⟩:=jv he hk
     refine⟨_,_,hk3,Fr.refl _ _,?_⟩
     intro hv19
     have f19:Fr [] hv15 hv19:=Fr.push _ _
     refine⟨f19,?_⟩
     intro hv20
     have f20:Fr [] hv15 hv20:=(f19.hsetL (Nat.le_refl _)).hsetL (Nat.le_refl _)
     exact⟨f20,k3 G.noB G.noB _ _ f20 (i7 hk1 hk2).symm⟩
    ·refine⟨Fr.refl _ _,?_⟩
     intro hv21
     have f19:Fr [] hv15 hv21:=Fr.push _ _
     refine⟨f19,?_⟩
     intro hv22
     have f20:Fr [] hv15 hv22:=(f19.hsetL (Nat.le_refl _)).hsetL (Nat.le_refl _)
     exact⟨f20,k3 G.noB G.noB _ _ f20 (ot hn).symm⟩
   ·intro hv23
    have f19:Fr [] hv15 hv23:=Fr.push _ _
    have s23:hv15.size<=hv15.size:=Nat.le_refl _
    have Q23:=Q15.gr f19
    refine⟨f19,_,rfl,_,_,Q23.sy.mapM 1 rfl,gy _,fun ev he hk=>?_,fun hn=>?_⟩
    ·obtain⟨ky,hk1,hk2,hk3⟩:=jv he hk
     refine⟨_,_,hk3,f19,?_⟩
     intro hv24
     have f20:Fr [] hv15 hv24:=(f19.hsetL (Nat.le_refl _)).hsetL (Nat.le_refl _)
     exact⟨f20,k3 G.noB G.noB _ _ f20 (i7 hk1 hk2).symm⟩
    ·refine⟨f19,?_⟩
     intro hv25
     have f20:Fr [] hv15 hv25:=(f19.hsetL (Nat.le_refl _)).hsetL (Nat.le_refl _)
     exact⟨f20,k3 G.noB G.noB _ _ f20 (ot hn).symm⟩
  ·--all have been looked at
   rw[List.drop_of_length_le (by omega)]at eC
   have eC:G.bo x.2 tg.list= .ok ():=eC
   rw[eC]at eK
   intro K4
   refine⟨b,0,rfl,_,Q13.sy.cellO 0 rfl 9 rfl,?_⟩
   refine al [] (lJ (x:=⟨#[105,100]⟩) (Q13.sy.cellO 9 rfl 3 rfl) V13 rfl hl) (by simp) (fun _ _ r=>by obtain⟨_,_,r,_⟩:=r;exact Fr.of_eq r) fun v hv30 r=>?_
   obtain⟨pI,rfl,rfl,hpI⟩:=r
   obtain⟨g,o,a,rfl,-,ha,hn,es,-,c1,-⟩:=gx (nm:=G.xId) hpI (hall _ (by simp)) V13
   have hnew:=nu eC a ha hn
   refine⟨_,rfl,Fr.refl _ _,g,o,rfl,_,c1,_,rfl,?_,_,_,Q13.sy.mapM 1 rfl,gy _,fun j3 ev hj hk=>?_,fun hno=>?_⟩
   ·rintro rfl
    exact own13 _ hv30 (by omega) (bZ.2 ⟨1,_,rfl,by simp[Ck.mp]⟩)
   ·obtain⟨ky,hk1,hk2,-⟩:=jv (by rw[Array.mem_toList_iff];exact Array.mem_of_getElem? hj) hk
    rw[i7 hk1 hk2]at hnew;cases hnew
   ·have el:(Ent (fI x.2.keys)).push ⟨.string a.says,.agg #[.string (G.aw tg G.dT),.string (G.aw tg G.bV)],(fI x.2.keys).length⟩=Ent (fI (x.2.keys++[(G.aw tg G.xId,G.aw tg G.dT,G.aw tg G.bV)])):=by
     rw[fC];simp[fI,es]
    have en:(fI x.2.keys).length+1=(fI (x.2.keys++[(G.aw tg G.xId,G.aw tg G.dT,G.aw tg G.bV)])).length:=by simp[fI]
    rw[el,en]
    intro hv32
    have Q32:Sq h C hv32 (chX gl b s none fs ms A ([],{x.2 with keys:=x.2.keys++[(G.aw tg G.xId,G.aw tg G.dT,G.aw tg G.bV)]})++tK t TA TC tg):=⟨Q13.sy.putM 1 rfl (fI (x.2.keys++[(G.aw tg G.xId,G.aw tg G.dT,G.aw tg G.bV)])) rfl rfl,Q13.ri⟩
    clear_value hv32
    have i32:IX s ([],{x.2 with keys:=x.2.keys++[(G.aw tg G.xId,G.aw tg G.dT,G.aw tg G.bV)]}):=by
     refine⟨ix.i,ix.n,ix.l,ix.p,ix.dn,ix.dv,ix.w,ix.e,?_⟩
     show((x.2.keys++[(G.aw tg G.xId,G.aw tg G.dT,G.aw tg G.bV)]).map fun k=>k.1.data.toList).Nodup
     rw[List.map_append,List.nodup_append]
     refine⟨ix.kn,by simp,?_⟩
     intro u hu' w hw e
     simp only[List.map_cons,List.map_nil,List.mem_singleton]at hw
     subst hw
     obtain⟨ky,hk1,rfl⟩:=List.mem_map.1 hu'
     rw[List.any_eq_false]at hnew
     refine hnew ky hk1 ?_
     rw[du,decide_eq_true_eq,e,es]
    have Q33:Sq h C hv32 ((chX gl b s none fs ms A ([],{x.2 with keys:=x.2.keys++[(G.aw tg G.xId,G.aw tg G.dT,G.aw tg G.bV)]})++[Ck.vob t 0 (tgC TA TC tg.name tg.at_ tg.nameAt tg.list tg.whole)])++[Ck.sl eA 230 TA tg.list.length TC tg.list]):=Q32.turn 9 rfl To.obvob
    have hun:G.within s (G.elem s G.hY) tg ([],{x.2 with keys:=x.2.keys++[(G.aw tg G.xId,G.aw tg G.dT,G.aw tg G.bV)]})≠ .un:=by
     intro z
     simp only[G.Er.bind]at eK
     rw[eK,z]at hu
     exact hu rfl
    refine ar _ (wA hs (lvX s) yZ (tg:=tg) (TA:=TA) (TC:=TC) (Q33.pick [0,1,2,3,4,5,6,7,8,9] rfl).hp i32 hun) ?_ (fun _ _ r=>by obtain⟨_,_,_,_,m,_⟩:=r;exact m.fr) (fun _ _ r=>by obtain⟨_,_,_,m⟩:=r;exact m) (fun v hv34 r=>?_) fun v hv34 r=>?_
    ·intro z hz q
     simp only[List.mem_singleton]at hz
     subst hz
     refine own13 z hv30 hp1 ?_
     have q:z∈az (chX gl b s none fs ms A x++[Ck.vob t 0 (tgC TA TC tg.name tg.at_ tg.nameAt tg.list tg.whole)]):=q
     simp only[az,List.flatMap_append,List.mem_append]at q ⊢
     rcases q with q | q
     ·exact .inl q
     ·simp[Ck.vob]at q
    ·obtain⟨x',A',e,rfl,P,i2,p2⟩:=r
     simp only[G.Er.bind]at eK
     rw[e]at eK
     exact⟨rfl,(x.1,x'.2),A',eK,rfl,(Sq.call Q33 P).pick [0,1,2,3,4,5,6,7,8] rfl,i2,p2⟩
    ·obtain⟨e,q1,rfl,q2⟩:=r
     simp only[G.Er.bind]at eK
     rw[q1]at eK
     exact⟨e,eK,rfl,Sq.frA Q33 q2⟩
 have lit1:(⟨#[102,111,114]⟩:ByteArray).data.toList=G.dT:=rfl
 have zK:(⟨#[97,116,116,114,46,110,97,109,101]⟩:ByteArray).data.toList=G.bV:=rfl
 have get:∀{nm:ByteArray} {hx:ab} {Hd:List Nat} {KK:Value->ab->Prop},Fr [] hv2 hx->(G.cK tg nm.data.toList).isSome=true->(∀g o,ac hv2 g (o+1)=some (.string (G.aw tg nm.data.toList))->KK (.pointer (some ⟨g,o,none⟩)) hx)->aj Tryz.prog 185 #[ptr t,.string nm] hx Hd KK:=by
  intro nm hx Hd KK fx hsm k
  have Vx:AtV hx TA tg.list:=V1.fr fx (by simp)
  refine al [] (lJ (x:=nm) (fx.cell hc3 (by simp)) Vx rfl hl) (by simp) (fun _ _ r=>by obtain⟨_,_,r,_⟩:=r;exact Fr.of_eq r) fun v hv30 r=>?_
  obtain⟨pI,rfl,rfl,hpI⟩:=r
  obtain⟨g,o,a,rfl,-,-,-,es,-,c1,-⟩:=gx (nm:=nm.data.toList) hpI hsm V1
  exact k g o (by rw[es];exact c1)
 have hF:(G.cK tg (⟨#[102,111,114]⟩:ByteArray).data.toList).isSome=true:=hall G.dT (by simp)
 have hN:(G.cK tg (⟨#[97,116,116,114,46,110,97,109,101]⟩:ByteArray).data.toList).isSome=true:=hall G.bV (by simp)
 refine⟨get (Fr.refl _ _) hF fun g o c=>⟨_,rfl,Fr.refl _ _,g,o,rfl,_,c,get (Fr.refl _ _) hN fun g2 o2 c2=>⟨_,rfl,Fr.refl _ _,g2,o2,rfl,_,c2,?_⟩,?_⟩,?_⟩
 ·intro hv5
  have f5:Fr [] hv2 hv5:=Fr.push _ _
  exact⟨f5,kk _ _ f5 (Nat.le_refl _) (by simp[hv5])⟩
 ·intro hv6
  have f6:Fr [] hv2 hv6:=Fr.push _ _
  exact⟨f6,get f6 hN fun g2 o2 c2=>⟨_,rfl,f6,g2,o2,rfl,_,c2,kk _ _ f6 (Nat.le_refl _) (by simp[hv6])⟩⟩
 ·intro hv8
  have f8:Fr [] hv2 hv8:=Fr.push _ _
  exact⟨f8,get f8 hF fun g o c=>⟨_,rfl,f8,g,o,rfl,_,c,get f8 hN fun g2 o2 c2=>⟨_,rfl,f8,g2,o2,rfl,_,c2,kk _ _ f8 (Nat.le_refl _) (by simp[hv8])⟩⟩⟩
end
end Go.Proofs.YtlflalecmhgmjaaGreatDoor.N
namespace Go.X
theorem Sq.cutY {h0 h:ab} {C cs:List Ck} (q:Sq h0 C h cs) (l:List Nat) (hc:iE cs.length l=true) (mo:Option (Nat × List (List UInt8))) (fs:Fs) (ms:Ms)
  (hm:∀p,mo=some p->∃k,cs[k]? =some (Ck.mp p.1 (ek p.2))/\k∉l)
  (hf:∀f∈fs,ac h f.1 f.2.1=some f.2.2/\∃(k:Nat) (c:Ck),cs[k]? =some c/\((f.1∈c.own/\k∉l)\/(f.1∈c.rd/\c.own=[])))
  (hs:∀m∈ms,bk h m.1=some (Ent m.2,m.2.length)/\∃(k:Nat) (c:Ck),cs[k]? =some c/\m.1∈c.own/\k∉l) (hd:∀p,mo=some p->∀m∈ms,m.1≠p.1):
  Sq h0 C h (pk cs l++[Ck.fy mo fs ms]):=by
 refine⟨q.sy.cutY l hc mo fs ms hm hf hs hd,fun x hx=>?_⟩
 have ow:∀{k:Nat} {c:Ck},cs[k]? =some c->x∈c.own->x∈rds C\/x∈az C\/h0.size<=x:=fun hk hx=>(q.sy.ow _ _ hk x hx).elim (fun w=>.inr (.inl w)) fun w=>.inr (.inr w)
 obtain⟨k,c,h1,h2⟩:=bp.1 hx
 rcases ey h1 with h1 | ⟨_,h1⟩
 ·obtain⟨i,_,h3⟩:=gO hc h1
  exact q.ri x (bp.2 ⟨i,c,h3,h2⟩)
 ·obtain⟨e,rfl⟩:=List.getElem?_eq_some_iff.1 h1
  simp only[List.length_singleton]at e
  have e0:k-(pk cs l).length=0:=by omega
  simp only[e0,List.getElem_cons_zero]at h2
  rcases List.mem_append.1 (show x∈fs.map (·.1)++ms.map (·.1)from h2)with h2 | h2
  ·obtain⟨f,h3,rfl⟩:=List.mem_map.1 h2
   obtain⟨-,k,c,h4,h5⟩:=hf f h3
   rcases h5 with⟨h5,_⟩ | ⟨h5,_⟩
   ·exact ow h4 h5
   ·exact q.ri _ (bp.2 ⟨k,c,h4,h5⟩)
  ·obtain⟨m,h3,rfl⟩:=List.mem_map.1 h2
   obtain⟨-,k,c,h4,h5,_⟩:=hs m h3
   exact ow h4 h5
end Go.X
namespace Go.Proofs.YtlflalecmhgmjaaGreatDoor.N
open Go.Proofs.YtlflalecmhgmjaaGreatDoor
open Go.X
set_option maxRecDepth 100000
section
variable {gl:GL} {b:Nat} {s:ByteArray} {mo:Option Nat} {fs:Fs} {ms:Ms} {rd:ByteArray->Option (Nat × Nat)} {cl:Nat->Nat}
theorem wy (hs:s.size<=262144) (hm:∀xR,lC gl b s none [(xR,0,ptr b)] [] (IX s) (.func 187) #[] #[ptr xR] (G.aI s rd cl)):gw gl b s none fs ms (IX s) (IX s) (.func 142) #[ptr b] #[] (G.gp s rd cl):=by
 intro x A tg t TA TC h H ix hl hu
 generalize hC:chX gl b s none fs ms A x++tK t TA TC tg=C at H ⊢
 have Q0:Sq h C h (chX gl b s none fs ms A x++tK t TA TC tg):=by rw[hC];exact Sq.start H
 refine CV.up (az C) (by kernel_rfl) ?_ (fun v h' r=>by obtain⟨_,_,_,_,m,_⟩:=r;exact m.fr) fun v h' r=>by obtain⟨_,_,_,m⟩:=r;exact m
 show av Tryz.prog 142 #[ptr b,ptr t] h _ _
 apply u3
 unfold AH
 intro hv hv2
 have Q1:Sq h C hv (chX gl b s none fs ms A x++tK t TA TC tg++[Ck.ob h.size 65 [ptr b]]):=Q0.add1 (Q0.sy.newO _) rfl
 have Q2:Sq h C hv2 (chX gl b s none fs ms A x++tK t TA TC tg++[Ck.ob h.size 65 [ptr b]]):=Q1.gr (Fr.push hv _)
 have cn:∀(k:Nat) (y:List UInt8),[G.bm][k]? =some y->ac hv2 hv.size (0+k*1)=some (.string (G.mkB y)):=by
  intro k y hk
  have hb:hv2[hv.size]? =some (.cells #[.string ⟨#[101,100,103,101,100,101,102,97,117,108,116]⟩] 9):=bN
  rw[aJ hb]
  match k,hk with
  | 0,hk=>cases hk;rfl
 clear_value hv2
 have V2:AtV hv2 TA tg.list:=ik Q2.sy 10 rfl
 have hc3:ac hv2 t 3=some (.slice TA tg.list.length TC):=Q2.sy.cellO 9 rfl 3 rfl
 have cB:ac hv2 h.size 0=some (ptr b):=Q2.sy.cellO 11 rfl 0 rfl
 refine ar [] (pG (tg:=tg) (nms:=[G.bm]) hc3 (Q2.sy.cellO 9 rfl 1 rfl) V2 hl (by decide) cn) (by simp) (fun _ _ r=>Fr.of_eq r.2.2) (fun _ _ r=>by obtain⟨_,_,_,m⟩:=r;exact Fr.of_eq m) (fun v hv3 r=>?_) fun v hv3 r=>?_
 rotate_left
 ·obtain⟨f,e,rfl,rfl⟩:=r
  exact⟨f,by unfold G.gp G.below;rw[e];rfl,rfl,Q2.fr⟩
 obtain⟨e1,rfl,rfl⟩:=r
 have eK:G.gp s rd cl tg x=(G.aP (decide ((G.aw tg G.bm).data.toList=G.bO\/(G.aw tg G.bm).data.toList=G.aZ)) (G.jr tg G.bm,16) <|
   G.within s (G.elem s (G.aI s rd cl)) tg ([],{x.2 with dir:=decide ((G.aw tg G.bm).data.toList=G.bO)})).bind fun y=>.ok (x.1,y.2):=by
  unfold G.gp G.below;rw[e1];rfl
 have hall:=fA e1
 refine⟨rfl,?_⟩
 refine al [] (lJ (x:=⟨#[101,100,103,101,100,101,102,97,117,108,116]⟩) hc3 V2 rfl hl) (by simp) (fun _ _ r=>by obtain⟨_,_,r,_⟩:=r;exact Fr.of_eq r) fun v hv4 r=>?_
 obtain⟨pI,rfl,rfl,hpI⟩:=r
 obtain⟨g,o,a,rfl,hgb,-,-,es,ea,c1,c2⟩:=gx (nm:=G.bm) hpI (hall _ (by simp)) V2
 rw[es,ea]at eK
 refine⟨_,rfl,?_⟩
 intro K
 have kk:(a.says.data.toList=G.bO\/a.says.data.toList=G.aZ)->K hv4:=by
  intro hd
  rw[decide_eq_true hd]at eK
  simp only[G.aP]at eK
  dsimp-zeta only[K]
  refine⟨_,cB,g,o,rfl,_,c1,b,0,rfl,⟨_,Q2.sy.cellO 0 rfl 4 rfl⟩,Q2.sy.freeO 0 rfl 4,?_⟩
  rw[gf]
  intro hv8
  have Q8:Sq h C hv8 (chX gl b s none fs ms A (x.1,{x.2 with dir:=decide (a.says.data.toList=G.bO)})++tK t TA TC tg++[Ck.ob h.size 65 [ptr b]]):=⟨Q2.sy.stO 0 rfl 4 _,Q2.ri⟩
  clear_value hv8
  have cB8:ac hv8 h.size 0=some (ptr b):=Q8.sy.cellO 11 rfl 0 rfl
  refine⟨_,cB8,?_⟩
  have Q9:=Q8.turn 9 rfl To.obvob
  have Q10:=(Q9.cutY [0,1,2,3,4,5,6,7,9,8,10] rfl none [(h.size,0,ptr b)] [] (fun p hp=>by cases hp) (fun f hf=>by
   simp only[List.mem_singleton]at hf
   subst hf
   exact⟨cB8,11,_,rfl,.inl ⟨by simp[Ck.ob],by decide⟩⟩) (fun m hm=>by cases hm) fun p hp=>by cases hp).pick [0,1,2,3,4,5,6,7,11,8,9,10] rfl
  have Q11:Sq h C hv8 ((chX gl b s none [(h.size,0,ptr b)] [] A ([],{x.2 with dir:=decide (a.says.data.toList=G.bO)})++[Ck.vob t 0 (tgC TA TC tg.name tg.at_ tg.nameAt tg.list tg.whole)])++[Ck.fy none fs ms,Ck.sl eA 230 TA tg.list.length TC tg.list]):=Q10
  have i8:IX s ([],{x.2 with dir:=decide (a.says.data.toList=G.bO)}):=⟨ix.i,ix.n,ix.l,ix.p,ix.dn,ix.dv,ix.w,ix.e,ix.kn⟩
  have hun:G.within s (G.elem s (G.aI s rd cl)) tg ([],{x.2 with dir:=decide (a.says.data.toList=G.bO)})≠ .un:=by
   intro z
   rw[eK,z]at hu
   exact hu rfl
  refine ar _ (wA hs (lvX s) (hm h.size) (tg:=tg) (TA:=TA) (TC:=TC) (Q11.pick [0,1,2,3,4,5,6,7,8,9] rfl).hp i8 hun) (by simp) (fun _ _ r=>by obtain⟨_,_,_,_,m,_⟩:=r;exact m.fr) (fun _ _ r=>by obtain⟨_,_,_,m⟩:=r;exact m) (fun v hv34 r=>?_) fun v hv34 r=>?_
  ·obtain⟨x',A',e,rfl,P,i2,p2⟩:=r
   rw[e]at eK
   have Q12:=Sq.call Q11 P
   exact⟨rfl,(x.1,x'.2),A',eK,rfl,Q12.pick [0,1,2,3,4,5,6,7,9] rfl,i2,p2⟩
  ·obtain⟨e,q1,rfl,q2⟩:=r
   rw[q1]at eK
   exact⟨e,eK,rfl,Sq.frA Q11 q2⟩
 have c2':ac hv4 g (o+2)=some (.int .i64 (a.at_:Int)):=c2
 refine⟨g,o,rfl,_,c1,?_⟩
 rw[gf]
 refine ae (fun q=>⟨g,o,rfl,_,c2',ak (fun _=>⟨rfl,Fr.refl _ _,kk (.inl q)⟩) fun z=>absurd z (by decide)⟩) fun q=>⟨g,o,rfl,_,c1,g,o,rfl,_,c2',?_⟩
 rw[gf]
 refine ak (fun q2=>⟨rfl,Fr.refl _ _,kk (.inr (of_decide_eq_true q2))⟩) fun q2=>⟨_,?_,rfl,Q2.fr⟩
 rw[eK,decide_eq_false (fun z=>z.elim q (of_decide_eq_false q2))];rfl
def PN (s:ByteArray) (x:G.Xs):Prop:=IX s x/\x.2.n<1024
def PE (s:ByteArray) (x:G.Xs):Prop:=IX s x/\x.2.weights.length<3072
theorem yW {xR:Nat} (hn:gw gl b s mo ((xR,0,ptr b)::fs) ms (IX s) (PN s) (.func 188) #[ptr b] #[] (G.gQ s rd cl)) (he:gw gl b s mo ((xR,0,ptr b)::fs) ms (IX s) (PE s) (.func 189) #[ptr b] #[] (G.gR s rd cl)):
  lC gl b s mo ((xR,0,ptr b)::fs) ms (IX s) (.func 187) #[] #[ptr xR] (G.aI s rd cl):=by
 intro nm a x A h H ix hu
 have Q:Sq h (chX gl b s mo ((xR,0,ptr b)::fs) ms A x) h (chX gl b s mo ((xR,0,ptr b)::fs) ms A x):=Sq.start H
 refine CV.up (az (chX gl b s mo ((xR,0,ptr b)::fs) ms A x)) (by kernel_rfl) ?_ (fun v h' r=>?_) fun v h' r=>by obtain⟨_,_,_,m⟩:=r;exact m
 ·show av Tryz.prog 187 #[.string nm,.int .i64 (a:Int),ptr xR] h _ _
  apply uY
  unfold AF
  have cR:ac h xR 0=some (ptr b):=Q.sy.factY 8 rfl 0 rfl
  rw[gf,gf]
  have e1:(⟨#[110,111,100,101]⟩:ByteArray).data.toList=G.br:=rfl
  have e2:(⟨#[101,100,103,101]⟩:ByteArray).data.toList=G.bU:=rfl
  rw[e1,e2]
  refine ae (fun q=>?_) fun q=>ae (fun q2=>?_) fun q2=>?_
  ·have eM:G.aI s rd cl nm a x=G.aP (decide (x.2.n<1024)) (a,3) (.ok (x,G.gQ s rd cl)):=by unfold G.aI;rw[if_pos q]
   refine⟨xR,0,rfl,_,cR,b,0,rfl,_,Q.sy.cellO 0 rfl 2 rfl,?_⟩
   have es:decide ((x.2.n:Int)<(1024:Int))=decide (x.2.n<1024):=cp (by simp;omega)
   rw[es]
   refine ak (fun z=>⟨rfl,xR,0,rfl,_,cR,.inr ⟨_,_,_,_,x,A,PN s,rfl,by rw[eM,z];rfl,Q,ix,rfl,⟨⟨ix,of_decide_eq_true z⟩,fun x j p hj=>⟨RX.at p.1 hj,p.2⟩⟩,hn⟩⟩) fun z=>⟨_,by rw[eM,z];rfl,rfl,Q.fr⟩
  ·have eM:G.aI s rd cl nm a x=G.aP (decide (x.2.weights.length<3072)) (a,3) (.ok (x,G.gR s rd cl)):=by unfold G.aI;rw[if_neg q,if_pos q2]
   refine⟨xR,0,rfl,_,cR,b,0,rfl,_,_,_,Q.sy.cellO 0 rfl 14 rfl,?_⟩
   have es:decide (((x.2.weights.length:Nat):Int)<(3072:Int))=decide (x.2.weights.length<3072):=cp (by simp;omega)
   rw[es]
   refine ak (fun z=>⟨rfl,xR,0,rfl,_,cR,.inr ⟨_,_,_,_,x,A,PE s,rfl,by rw[eM,z];rfl,Q,ix,rfl,⟨⟨ix,of_decide_eq_true z⟩,fun x j p hj=>⟨RX.at p.1 hj,p.2⟩⟩,he⟩⟩) fun z=>⟨_,by rw[eM,z];rfl,rfl,Q.fr⟩
  ·refine .inl ⟨rfl,?_,rfl⟩
   unfold G.aI;rw[if_neg q,if_neg q2]
 ·rcases r with⟨_,_,rfl⟩ | ⟨_,_,_,_,_,_,_,_,_,m,_⟩
  ·exact Fr.refl _ _
  ·exact m.fr
end
section
variable {gl:GL} {b:Nat} {s:ByteArray} {mo:Option Nat} {fs:Fs} {ms:Ms} {rd:ByteArray->Option (Nat × Nat)} {cl:Nat->Nat}
theorem yy {h:ab} {t:Nat} {tg:G.Tg} {x:G.Xs} (L:Lx h b s x.2.i) (ht:t≠b) (c0:ac h t 0=some (.string tg.name)) (c4:ac h t 4=some (.bool tg.whole)) (hi:x.2.i<=s.size) (hs:s.size<=262144):
  av Tryz.prog 289 #[ptr b,ptr t] h (fun v h'=>∃says j,G.eO s tg x= .ok (says,x.2.i,x.at j)/\x.2.i<=j/\j<=s.size/\says.size<=s.size/\v= .tuple #[.string says,.int .i64 (x.2.i:Int)]/\Mv b h h' j)
   (fun v h'=>∃f,G.eO s tg x= .no f/\v=flx f/\Fr [b] h h'):=by
 apply vc
 unfold AN
 refine⟨b,0,rfl,_,L.c1,t,0,rfl,_,c4,fm (fun q=>?_) fun q=>?_⟩
 ·exact⟨G.noB,x.2.i,by unfold G.eO;rw[if_pos q];rfl,Nat.le_refl _,hi,Nat.zero_le _,rfl,Mv.refl L⟩
 have eC:G.eO s tg x=(G.fU s (enB 60) (fun c=>G.bD c||G.cz c) x.2.i []).bind fun(o,e)=>match o with
   | none=>.no (s.size,15)
   | some l=>(G.fF s tg.name (e+1)).bind fun j=>.ok (G.mkB l,x.2.i,x.at j):=by
  unfold G.eO;rw[if_neg (by rw[q];decide)];rfl
 refine⟨b,0,rfl,?_⟩
 refine ar [b] (yz (e:=60) (fun n h=>z7) (by kernel_rfl) (by kernel_rfl) L hi hs) (by simp) (fun _ _ r=>by obtain⟨_,_,_,_,_,_,_,_,m⟩:=r;exact m.fr) (fun _ _ r=>by obtain⟨_,_,_,m⟩:=r;exact m) (fun v hv r=>?_) fun v hv r=>?_
 rotate_left
 ·obtain⟨f,e,rfl,f1⟩:=r
  exact⟨f,by rw[eC,e];rfl,rfl,f1⟩
 obtain⟨o,j,e,rfl,j1,j2,j3,j5,M⟩:=r
 have L1:=L.mv M
 rw[e]at eC
 simp only[G.Er.bind]at eC
 cases o with
 | none=>
  refine⟨_,_,rfl,b,0,rfl,_,L1.c1,ak (fun z=>absurd z (by decide)) fun _=>⟨_,eC,?_,M.fr⟩⟩
  rw[j5 rfl]
 | some l=>
  obtain⟨hj,hll⟩:=j3 l rfl
  refine⟨_,_,rfl,b,0,rfl,_,L1.c1,ak (fun _=>⟨rfl,b,0,rfl,_,L1.c1,b,0,rfl,L1.cell,L1.fr,?_⟩) fun z=>absurd z (by decide)⟩
  rw[wrN (by omega)]
  intro hv3
  have M3:Mv b h hv3 (j+1):=M.trans (Mv.to L1 (j+1))
  have L3:=L.mv M3
  clear_value hv3
  refine⟨[b],by simp,b,0,rfl,t,0,rfl,_,M3.fr.cell c0 (by simpa using ht),?_⟩
  refine ar [b] (yw L3 (by omega) hs) (by simp) (fun _ _ r=>by obtain⟨_,_,_,_,_,m⟩:=r;exact m.fr) (fun _ _ r=>by obtain⟨_,_,_,m⟩:=r;exact m) (fun v hv4 r=>?_) fun v hv4 r=>?_
  ·obtain⟨k,e2,k1,k2,rfl,M4⟩:=r
   rw[e2]at eC
   exact⟨rfl,M4.fr,G.mkB l,k,eC,by omega,k2,by show l.toArray.size<=_;rw[List.size_toArray];omega,rfl,M3.trans M4⟩
  ·obtain⟨f,e2,rfl,f4⟩:=r
   rw[e2]at eC
   exact⟨f,eC,rfl,M3.fr.trans f4⟩
def lK (gl:GL) (rd:ByteArray->Option (Nat × Nat)) (cl:Nat->Nat):Prop:=
 ∀(says:ByteArray) (a:Nat) (h:ab),Gl gl h->says.size<=262144->G.om rd cl says a≠ .un->
  av Tryz.prog 234 #[.string says,.int .i64 (a:Int)] h (fun v h'=>∃x,G.om rd cl says a= .ok x/\v= .float .f64 x/\Fr [] h h') (fun v h'=>∃e,G.om rd cl says a= .no e/\v=flx e/\Fr [] h h')
theorem j8 :lK gl (fun _=>none) cl:=fun says a h g hs hu=>absurd rfl hu
def r9 (gl:GL) (b:Nat) (s:ByteArray) (mo:Option Nat) (fs:Fs) (ms:Ms) (I:G.Xs->Prop) (F:Fn) (X Y:Array Value) (k:ByteArray->Nat->G.Xd->G.Er G.Xd):Prop:=
 ∀(says:ByteArray) (a:Nat) (x:G.Xs) (A:XA) (h:ab),Hp h (chX gl b s mo fs ms A x)->I x->says.size<=262144->k says a x.2≠ .un->
  CV F X Y [.string says,.int .i64 (a:Int)] h (fun v h'=>∃σ',k says a x.2= .ok σ'/\v= .tuple #[]/\Sq h (chX gl b s mo fs ms A x) h' (chX gl b s mo fs ms A (x.1,σ'))/\I (x.1,σ')/\σ'.i=x.2.i)
   (fun v h'=>∃e,k says a x.2= .no e/\v=flx e/\Fr (az (chX gl b s mo fs ms A x)) h h')
def ID (s:ByteArray) (node:Bool) (v:Nat) (x:G.Xs):Prop:=RX s x.2/\(node=true->v<x.2.n)/\(node=false->v<x.2.weights.length)/\x.1.Nodup
theorem lvD (s:ByteArray) (node:Bool) (v:Nat):LvI s (ID s node v):=⟨fun x j r hj=>⟨RX.at r.1 hj,r.2.1,r.2.2.1,r.2.2.2⟩,fun x r=>r.1.i⟩
theorem nfx {A:XA} {x:G.Xs} {h0 h:ab} {M:List Nat} (Y:Sy h0 M h (chX gl b s mo fs ms A x)) {y o:Nat} {u:Value} (hy:(y,o,u)∈fs) {c:Ck} {j:Nat} (hj:(chX gl b s mo fs ms A x)[j]? =some c) (h8:j≠8) {z:Nat} (hz:z∈c.own):z≠y:=by
 rintro rfl
 exact(Y.hp.ap j 8 _ _ h8 hj rfl z hz).2 (List.mem_append_left _ (List.mem_map.2 ⟨_,hy,rfl⟩))
theorem wL {v yr yv i1 i2:Nat} (hr:fs[i1]? =some (yr,0,ptr b)) (hv:fs[i2]? =some (yv,0,.int .i64 (v:Int))):r9 gl b s mo fs ms (ID s true v) (.func 232) #[] #[ptr yr,ptr yv] (G.dX rd cl 1 v):=by
 intro says a x A h H ix hs hu
 generalize hC:chX gl b s mo fs ms A x=C at H ⊢
 have Q:Sq h C h (chX gl b s mo fs ms A x):=by rw[hC];exact Sq.start H
 have Y:=Q.sy
 refine CV.up (az C) (by kernel_rfl) ?_ (fun v h' r=>by obtain⟨_,_,_,m,_⟩:=r;exact m.fr) fun v h' r=>by obtain⟨_,_,_,m⟩:=r;exact m
 show av Tryz.prog 232 #[.string says,.int .i64 (a:Int),ptr yr,ptr yv] h _ _
 apply vd
 unfold AO
 have eT:G.dX rd cl 1 v says a x.2=G.aP (decide (says.size<=256)) (a,23) (G.aP (says.data.toList.all fun c=>G.bD c.toNat) (a,25) (.ok {x.2 with labels:=x.2.labels.set v says,h0:=true})):=rfl
 have es:decide (((says.size:Nat):Int)<=(256:Int))=decide (says.size<=256):=cp (by simp;omega)
 rw[es]
 refine ak (fun q1=>⟨rfl,?_⟩) fun q1=>⟨_,by rw[eT,q1];rfl,rfl,Q.fr⟩
 rw[q1]at eT
 simp only[G.aP]at eT
 have q1:=of_decide_eq_true q1
 have hlen:says.data.toList.length=says.size:=by rw[Array.length_toList];rfl
 refine⟨fun l h'=>∃k:Nat,l=[.int .i64 (k:Int)]/\k<=says.size/\h'=h/\((says.data.toList.take k).all fun c=>G.bD c.toNat)=true,mI says.size,⟨0,rfl,Nat.zero_le _,rfl,rfl⟩,?_⟩
 rintro z hv2 ⟨k,e,hk,rfl,hp⟩
 cases e
 refine ae (fun q2=>?_) fun q2=>?_
 ·have hk2:k<says.size:=by omega
  obtain⟨c,hc,-⟩:=get_at hk2
  refine⟨by omega,by omega,c,by rw[Int.toNat_natCast];exact hc,?_⟩
  have hcl:says.data.toList[k]? =some c:=by
   rw[Array.getElem?_toList]
   exact hc
  rw[wrN (by omega)]
  refine dM rR ⟨_,rfl,ak (fun q3=>⟨rfl,⟨k+1,rfl,by omega,rfl,?_⟩,by simp only[mI];omega⟩) fun q3=>⟨_,?_,rfl,Q.fr⟩⟩
  ·rw[gz hcl,List.all_append,hp]
   simp[q3]
  ·have:(says.data.toList.all fun c=>G.bD c.toNat)=false:=by
    rw[List.all_eq_false]
    exact⟨c,List.mem_of_getElem? hcl,by simp[q3]⟩
   rw[eT,this]
 ·rw[List.take_of_length_le (by omega)]at hp
  rw[hp]at eT
  have hll:=ix.1.l
  have hvn:=ix.2.1 rfl
  obtain⟨g,hg,gown,-⟩:=Y.atS 3 rfl (i:=(v:Int)) (by omega) (by omega)
  have cR:ac hv2 yr 0=some (ptr b):=Y.factY 8 rfl i1 hr
  have cV:ac hv2 yv 0=some (.int .i64 (v:Int)):=Y.factY 8 rfl i2 hv
  have bne:b≠yr:=nfx Y (List.mem_of_getElem? hr) (j:=0) rfl (by decide) (by simp[Ck.ob])
  have gne:g≠yr:=nfx Y (List.mem_of_getElem? hr) (j:=3) rfl (by decide) gown
  have bg:b≠g:=fun q=>(Y.hp.ap 3 0 _ _ (by decide) rfl rfl g gown).1 (by simp[Ck.ob,q])
  have c2:ac hv2 g (0+v*1)=_:=Y.cellS 3 rfl hg (i:=v) (t:=0) (List.getElem?_eq_getElem (by omega)) rfl
  refine⟨[b,g],by simp,yr,0,rfl,_,cR,b,0,rfl,_,_,_,Y.cellO 0 rfl 12 rfl,yv,0,rfl,_,cV,yr,0,rfl,by simp;exact⟨bne.symm,gne.symm⟩,_,cR,g,0,hg,by omega,by omega,b,0,rfl,⟨_,c2⟩,Y.freeS 3 rfl hg _,?_⟩
  rw[Int.toNat_natCast]
  intro hv5
  have Y3:=Y.st1 3 rfl hg (i:=v) says (by omega) rfl
  have f3:Fr [b,g] hv2 hv5:=(Fr.refl _ _).hsetr (.inr (by simp))
  refine⟨f3,⟨_,Y3.cellO 0 rfl 15 rfl⟩,Y3.freeO 0 rfl 15,?_⟩
  intro hv6
  have Y4:=Y3.stO 0 rfl 15 (.bool true)
  refine⟨f3.hsetr (.inr (by simp)),{x.2 with labels:=x.2.labels.set v says,h0:=true},eT,rfl,?_,?_,rfl⟩
  ·have l1:(x.2.labels.set v says).length=x.2.labels.length:=by simp
   refine⟨?_,Q.ri⟩
   show Sy hv2 (az C) hv6 (chX gl b s mo fs ms A (x.1,{x.2 with labels:=x.2.labels.set v says,h0:=true}))
   unfold chX stX rx
   simp only[l1]
   exact Y4
  ·exact⟨⟨ix.1.i,ix.1.n,by simpa using ix.1.l,ix.1.p,ix.1.dn,ix.1.dv,ix.1.w,ix.1.e,ix.1.kn⟩,ix.2.1,ix.2.2.1,ix.2.2.2⟩
theorem wM (hn:lK gl rd cl) {v yr yv i1 i2:Nat} (hr:fs[i1]? =some (yr,0,ptr b)) (hv:fs[i2]? =some (yv,0,.int .i64 (v:Int))):r9 gl b s mo fs ms (ID s false v) (.func 236) #[] #[ptr yr,ptr yv] (G.dX rd cl 4 v):=by
 intro says a x A h H ix hs hu
 generalize hC:chX gl b s mo fs ms A x=C at H ⊢
 have Q:Sq h C h (chX gl b s mo fs ms A x):=by rw[hC];exact Sq.start H
 refine CV.up (az C) (by kernel_rfl) ?_ (fun v h' r=>by obtain⟨_,_,_,m,_⟩:=r;exact m.fr) fun v h' r=>by obtain⟨_,_,_,m⟩:=r;exact m
 show av Tryz.prog 236 #[.string says,.int .i64 (a:Int),ptr yr,ptr yv] h _ _
 apply vg
 unfold AR
 have eT:G.dX rd cl 4 v says a x.2=(G.om rd cl says a).bind fun z=>.ok {x.2 with weights:=x.2.weights.set v z,h2:=true}:=rfl
 have cR:ac h yr 0=some (ptr b):=Q.sy.factY 8 rfl i1 hr
 have cV:ac h yv 0=some (.int .i64 (v:Int)):=Q.sy.factY 8 rfl i2 hv
 have hvw:=ix.2.2.1 rfl
 obtain⟨g,hg,gown,-⟩:=Q.sy.atS 5 rfl (i:=(v:Int)) (by omega) (by omega)
 have bne:b≠yr:=nfx Q.sy (List.mem_of_getElem? hr) (j:=0) rfl (by decide) (by simp[Ck.ob])
 have gne:g≠yr:=nfx Q.sy (List.mem_of_getElem? hr) (j:=5) rfl (by decide) gown
 refine⟨[],[b,g],by simp,by simp,yr,0,rfl,by simp,_,cR,b,0,rfl,by simp,_,_,_,Q.sy.cellO 0 rfl 14 rfl,yv,0,rfl,by simp,_,cV,yr,0,rfl,by simp;exact⟨bne.symm,gne.symm⟩,_,cR,b,0,rfl,?_⟩
 have hun:G.om rd cl says a≠ .un:=by
  intro z
  rw[eT,z]at hu
  exact hu rfl
 refine ar [] (hn says a h (Q.sy.glo 7 rfl) hs hun) (by simp) (fun _ _ r=>by obtain⟨_,_,_,m⟩:=r;exact m) (fun _ _ r=>by obtain⟨_,_,_,m⟩:=r;exact m) (fun w hv2 r=>?_) fun w hv2 r=>?_
 rotate_left
 ·obtain⟨e,q,rfl,f⟩:=r
  exact⟨e,by rw[eT,q];rfl,rfl,(Q.gr f).fr⟩
 obtain⟨z,q,rfl,f2⟩:=r
 rw[q]at eT
 have Q2:=Q.gr f2
 have Y2:=Q2.sy
 have c2:ac hv2 g (0+v*1)=_:=Y2.cellS 5 rfl hg (i:=v) (t:=0) (List.getElem?_eq_getElem (by omega)) rfl
 refine⟨z,rfl,f2,g,0,hg,by omega,by omega,⟨_,c2⟩,Y2.freeS 5 rfl hg _,?_⟩
 rw[Int.toNat_natCast]
 intro hv5
 have Y3:=Y2.st1 5 rfl hg (i:=v) z (by omega) rfl
 have f3:Fr [b,g] h hv5:=f2.nil.hsetr (.inr (by simp))
 refine⟨f3,⟨_,Y3.cellO 0 rfl 17 rfl⟩,Y3.freeO 0 rfl 17,?_⟩
 intro hv6
 have Y4:=Y3.stO 0 rfl 17 (.bool true)
 refine⟨f3.hsetr (.inr (by simp)),{x.2 with weights:=x.2.weights.set v z,h2:=true},eT,rfl,?_,?_,rfl⟩
 ·have l1:(x.2.weights.set v z).length=x.2.weights.length:=by simp
  refine⟨?_,Q2.ri⟩
  show Sy h (az C) hv6 (chX gl b s mo fs ms A (x.1,{x.2 with weights:=x.2.weights.set v z,h2:=true}))
  unfold chX stX rx
  simp only[l1]
  exact Y4
 ·exact⟨⟨ix.1.i,ix.1.n,ix.1.l,ix.1.p,ix.1.dn,ix.1.dv,by simpa using ix.1.w,by simpa using ix.1.e,ix.1.kn⟩,ix.2.1,by simpa using ix.2.2.1,ix.2.2.2⟩
theorem wN {α:Type} {l:List α} {i:Nat} {x:α} {f:α->α} (hx:l[i]? =some x):l.modify i f=l.set i (f x):=by
 apply List.ext_getElem?
 grind
theorem sb (hn:lK gl rd cl) {v yr yv i1 i2:Nat} (y:Bool) (hr:fs[i1]? =some (yr,0,ptr b)) (hv:fs[i2]? =some (yv,0,.int .i64 (v:Int))):r9 gl b s mo fs ms (ID s true v) (.func (if y=true then 235 else 233)) #[] #[ptr yr,ptr yv] (G.dX rd cl (2+y.toNat) v):=by
 intro says a x A h H ix hs hu
 generalize hC:chX gl b s mo fs ms A x=C at H ⊢
 have Q:Sq h C h (chX gl b s mo fs ms A x):=by rw[hC];exact Sq.start H
 refine CV.up (az C) (by cases y<;>kernel_rfl) ?_ (fun v h' r=>by obtain⟨_,_,_,m,_⟩:=r;exact m.fr) fun v h' r=>by obtain⟨_,_,_,m⟩:=r;exact m
 have eT:G.dX rd cl (2+y.toNat) v says a x.2=(G.om rd cl says a).bind fun z=>.ok {x.2 with spots:=x.2.spots.modify v fun p=>if y=true then(p.1,z)else(z,p.2),h1:=true}:=by cases y<;>rfl
 have cR:ac h yr 0=some (ptr b):=Q.sy.factY 8 rfl i1 hr
 have cV:ac h yv 0=some (.int .i64 (v:Int)):=Q.sy.factY 8 rfl i2 hv
 have hvn:=ix.2.1 rfl
 have hsl:=ix.1.p
 obtain⟨g,hg,gown,-⟩:=Q.sy.atS 4 rfl (i:=(v:Int)) (by omega) (by omega)
 have bne:b≠yr:=nfx Q.sy (List.mem_of_getElem? hr) (j:=0) rfl (by decide) (by simp[Ck.ob])
 have gne:g≠yr:=nfx Q.sy (List.mem_of_getElem? hr) (j:=4) rfl (by decide) gown
 have hun:G.om rd cl says a≠ .un:=by
  intro z
  rw[eT,z]at hu
  exact hu rfl
 obtain⟨p,hp⟩:∃p,x.2.spots[v]? =some p:=⟨_,List.getElem?_eq_getElem (by omega)⟩
 have ty:y.toNat<2:=by cases y<;>decide
 obtain⟨u,hu2⟩:∃u,(eFF.enc p)[y.toNat]? =some u:=by cases y<;>exact⟨_,rfl⟩
 have fin:∀{z:Nat} {hv2:ab},Fr [] h hv2->G.dX rd cl (2+y.toNat) v says a x.2= .ok {x.2 with spots:=x.2.spots.modify v fun p=>if y=true then(p.1,z)else(z,p.2),h1:=true}->
   (∃u,ac hv2 g (0+v*2+y.toNat)=some u)/\aq hv2 g (0+v*2+y.toNat)=true/\Fr [b,g] h (ag hv2 g (0+v*2+y.toNat) (.float .f64 z))/\(∃u,ac (ag hv2 g (0+v*2+y.toNat) (.float .f64 z)) b (0+15+1)=some u)/\aq (ag hv2 g (0+v*2+y.toNat) (.float .f64 z)) b (0+15+1)=true/\
   Fr [b,g] h (ag (ag hv2 g (0+v*2+y.toNat) (.float .f64 z)) b (0+15+1) (.bool true))/\
   ∃σ',G.dX rd cl (2+y.toNat) v says a x.2= .ok σ'/\Sq h C (ag (ag hv2 g (0+v*2+y.toNat) (.float .f64 z)) b (0+15+1) (.bool true)) (chX gl b s mo fs ms A (x.1,σ'))/\ID s true v (x.1,σ')/\σ'.i=x.2.i:=by
  intro z hv2 f2 eT
  have Q2:=Q.gr f2
  have Y2:=Q2.sy
  have c2:ac hv2 g (0+v*2+y.toNat)=some u:=Y2.cellS 4 rfl hg hp hu2
  have Y3:=Y2.stS 4 rfl hg (i:=v) (t:=y.toNat) (x:=p) (if y=true then(p.1,z)else(z,p.2)) (v:=.float .f64 z) hp ty (by cases y<;>rfl)
  have f3:Fr [b,g] h (ag hv2 g (0+v*2+y.toNat) (.float .f64 z)):=f2.nil.hsetr (.inr (by simp))
  have Y4:=Y3.stO 0 rfl 16 (.bool true)
  refine⟨⟨_,c2⟩,Y2.freeS 4 rfl hg _,f3,⟨_,Y3.cellO 0 rfl 16 rfl⟩,Y3.freeO 0 rfl 16,f3.hsetr (.inr (by simp)),_,eT,⟨?_,Q2.ri⟩,?_,rfl⟩
  ·rw[wN hp]
   have l1:(x.2.spots.set v (if y=true then(p.1,z)else(z,p.2))).length=x.2.spots.length:=by simp
   show Sy h (az C) _ (chX gl b s mo fs ms A (x.1,{x.2 with spots:=x.2.spots.set v (if y=true then(p.1,z)else(z,p.2)),h1:=true}))
   unfold chX stX rx
   simp only[l1]
   exact Y4
  ·exact⟨⟨ix.1.i,ix.1.n,ix.1.l,by simpa using ix.1.p,ix.1.dn,ix.1.dv,ix.1.w,ix.1.e,ix.1.kn⟩,ix.2.1,ix.2.2.1,ix.2.2.2⟩
 have bad:∀{w:Value} {hv2:ab},(∃e,G.om rd cl says a= .no e/\w=flx e/\Fr [] h hv2)->∃e,G.dX rd cl (2+y.toNat) v says a x.2= .no e/\w=flx e/\Fr (az C) h hv2:=by
  rintro w hv2 ⟨e,q,rfl,f⟩
  exact⟨e,by rw[eT,q];rfl,rfl,(Q.gr f).fr⟩
 have nc:=hn says a h (Q.sy.glo 7 rfl) hs hun
 cases y with
 | false=>
  show av Tryz.prog 233 #[.string says,.int .i64 (a:Int),ptr yr,ptr yv] h _ _
  apply ve
  unfold AP
  refine⟨[],[b,g],by simp,by simp,yr,0,rfl,by simp,_,cR,b,0,rfl,by simp,_,_,_,Q.sy.cellO 0 rfl 13 rfl,yv,0,rfl,by simp,_,cV,yr,0,rfl,by simp;exact⟨bne.symm,gne.symm⟩,_,cR,b,0,rfl,?_⟩
  refine ar [] nc (by simp) (fun _ _ r=>by obtain⟨_,_,_,m⟩:=r;exact m) (fun _ _ r=>by obtain⟨_,_,_,m⟩:=r;exact m) (fun w hv2 r=>?_) fun w hv2 r=>bad r
  obtain⟨z,q,rfl,f2⟩:=r
  rw[q]at eT
  obtain⟨k1,k2,k3,k4,k5,k6,σ',k7,k8,k9,k10⟩:=fin f2 eT
  exact⟨z,rfl,f2,g,0,hg,by omega,by omega,k1,k2,k3,k4,k5,k6,σ',k7,rfl,k8,k9,k10⟩
 | true=>
  show av Tryz.prog 235 #[.string says,.int .i64 (a:Int),ptr yr,ptr yv] h _ _
  apply vf
  unfold AQ
  refine⟨[],[b,g],by simp,by simp,yr,0,rfl,by simp,_,cR,b,0,rfl,by simp,_,_,_,Q.sy.cellO 0 rfl 13 rfl,yv,0,rfl,by simp,_,cV,yr,0,rfl,by simp;exact⟨bne.symm,gne.symm⟩,_,cR,b,0,rfl,?_⟩
  refine ar [] nc (by simp) (fun _ _ r=>by obtain⟨_,_,_,m⟩:=r;exact m) (fun _ _ r=>by obtain⟨_,_,_,m⟩:=r;exact m) (fun w hv2 r=>?_) fun w hv2 r=>bad r
  obtain⟨z,q,rfl,f2⟩:=r
  rw[q]at eT
  obtain⟨k1,k2,k3,k4,k5,k6,σ',k7,k8,k9,k10⟩:=fin f2 eT
  exact⟨z,rfl,f2,g,0,hg,by omega,by omega,k1,k2,k3,k4,k5,k6,σ',k7,rfl,k8,k9,k10⟩
end
theorem wq {h:ab} {m:Nat} {ks:List (List UInt8)} (nm:ByteArray) (hm:bk h m=some (Ent (ek ks),(ek ks).length)):
  bk (bz h m ((Ent (ek ks)).push ⟨.string nm,.int .i64 1,(ek ks).length⟩) ((ek ks).length+1)) m=some (Ent (ek (ks++[nm.data.toList])),(ek (ks++[nm.data.toList])).length):=by
 have e:(Ent (ek ks)).push ⟨.string nm,.int .i64 1,(ek ks).length⟩=Ent (ek (ks++[nm.data.toList])):=by
  rw[fC];simp[ek,rF]
 have el:(ek ks).length+1=(ek (ks++[nm.data.toList])).length:=by simp[ek]
 rw[e,el]
 exact jS (kU hm) _ _
theorem uo {ks:List (List UInt8)} {nm:ByteArray} {e:MapEntry} (he:e∈(Ent (ek ks)).toList) (hk:e.key= .string nm):nm.data.toList∈ks/\e.val= .int .i64 1:=by
 obtain⟨j,p,h3,rfl⟩:=dJ he
 obtain⟨k,h4,rfl⟩:=oc h3
 have hk:k=nm.data.toList:=gG.1 hk
 subst hk
 exact⟨List.mem_of_getElem? h4,rfl⟩
theorem uq {ks:List (List UInt8)} {nm:ByteArray} (hin:nm.data.toList∈ks):∃e∈(Ent (ek ks)).toList,e.key= .string nm:=by
 obtain⟨j,hj⟩:=List.mem_iff_getElem?.1 hin
 refine⟨⟨.string (G.mkB nm.data.toList),.int .i64 1,j⟩,Array.mem_def.1 (Array.mem_of_getElem? (i:=j) ?_),gG.2 rfl⟩
 rw[fV]
 simp[ek,hj]
theorem wt {h:ab} {m:Nat} {ks:List (List UInt8)} (nm:ByteArray) (hm:bk h m=some (Ent (ek ks),(ek ks).length)) (hn:ks.Nodup) {j:Nat} {ev:MapEntry} (hj:(Ent (ek ks))[j]? =some ev) (hk:ev.key= .string nm):
  ∃es,bk (bz h m ((Ent (ek ks)).modify j fun e=>{e with key:=.string nm,val:=.int .i64 2}) (ek ks).length) m=some (es,(ek ks).length)/\bs bH es/\(∀e∈es.toList,e.key= .string nm->e.val= .int .i64 2)/\∃e∈es.toList,e.key= .string nm:=by
 have hp:=jS (kU hm) (Ent ((ek ks).modify j fun _=>(.string nm,.int .i64 2))) (ek ks).length
 have hj:ks[j]? =some nm.data.toList:=by
  rw[fV]at hj
  cases e:(ek ks)[j]? with
  | none=>rw[e]at hj;cases hj
  | some p=>
   rw[e]at hj
   obtain⟨k2,h7,rfl⟩:=oc e
   simp only[Option.map_some,Option.some.injEq]at hj
   subst hj
   rw[h7,gG.1 hk]
 have at_:∀{i:Nat} {p:Value × Value},((ek ks).modify j fun _=>(Value.string nm,Value.int .i64 2))[i]? =Option.some p->(i=j/\p=(.string nm,.int .i64 2))\/(i≠j/\∃k,ks[i]? =Option.some k/\p=(.string (G.mkB k),.int .i64 1)):=by
  intro i p hp
  rw[List.getElem?_modify]at hp
  by_cases q:j=i
  ·subst q
   cases e:(ek ks)[j]? with
   | none=>rw[e]at hp;simp at hp
   | some y=>rw[e]at hp;simp at hp;exact .inl ⟨rfl,hp.symm⟩
  ·cases e:(ek ks)[i]? with
   | none=>rw[e]at hp;simp at hp
   | some y=>
    rw[e]at hp
    simp only[if_neg q,Option.map_eq_map,Option.map_some,id_eq,Option.some.injEq]at hp
    subst hp
    obtain⟨k,h3,h4⟩:=oc e
    exact .inr ⟨fun z=>q z.symm,k,h3,h4⟩
 rw[wj]
 refine⟨_,hp,?_,fun ev he hk=>?_,⟨.string nm,.int .i64 2,j⟩,Array.mem_def.1 (Array.mem_of_getElem? (i:=j) ?_),rfl⟩
 ·intro e he
  obtain⟨i,p,h1,rfl⟩:=dJ he
  rcases at_ h1 with⟨_,rfl⟩ | ⟨_,k,_,rfl⟩<;>rfl
 ·obtain⟨i,p,h3,rfl⟩:=dJ he
  rcases at_ h3 with⟨_,rfl⟩ | ⟨q,k,h4,rfl⟩
  ·rfl
  ·have:k=nm.data.toList:=gG.1 hk
   subst this
   exact absurd (kw hn h4 hj) q
 ·rw[fV,List.getElem?_modify]
  have:(ek ks)[j]? =Option.some (.string (G.mkB nm.data.toList),.int .i64 1):=by simp[ek,hj]
  rw[this]
  simp
theorem Sy.seeY {h0 h h':ab} {M:List Nat} {cs:List Ck} {fs:Fs} {ms:Ms} {m:Nat} {ks ks':List (List UInt8)} (Y:Sy h0 M h cs) (k:Nat) (hk:cs[k]? =some (Ck.fy (some (m,ks)) fs ms)) (f:Fr [m] h h') (hm:bk h' m=some (Ent (ek ks'),(ek ks').length)) (hd:∀p∈ms,p.1≠m):
  Sy h0 M h' (cs.set k (Ck.fy (some (m,ks')) fs ms)):=by
 refine Y.mut hk _ f.size (fun d hd hn=>f.blk d hd (by simpa[Ck.fy]using hn)) ⟨fun p hp=>?_,fun x hx=>?_,fun x hx=>?_⟩ (fun d hd=>.inl hd) (fun d hd=>.inr (.inl hd))
 ·cases hp;exact hm
 ·have h1:=(Y.ok hk).2.1 x hx
  have h2:=hJ (Y.mapY k hk) h1
  rw[cO (f.blk x.1 (aQ h1) (by simpa using fun q=>h2 q.symm))]
  exact h1
 ·have h1:=(Y.ok hk).2.2 x hx
  exact gM ((f.blk x.1 (kU h1) (by simpa using hd x hx)).trans (bj h1))
theorem gv {l:List (ByteArray × ByteArray × ByteArray)} (hn:(l.map fun k=>k.1.data.toList).Nodup) {k:ByteArray × ByteArray × ByteArray} {x:ByteArray} (hk:k∈l) (h:G.eqB k.1 x=true):(l.find? fun k=>G.eqB k.1 x)=some k:=by
 cases hf:l.find? fun k=>G.eqB k.1 x with
 | none=>exact absurd h (by simpa using List.find?_eq_none.1 hf k hk)
 | some k2=>
  have h2:=List.find?_some hf
  obtain⟨i,hi⟩:=List.mem_iff_getElem?.1 hk
  obtain⟨j,hj⟩:=List.mem_iff_getElem?.1 (List.mem_of_find?_eq_some hf)
  rw[du]at h h2
  have e:=kw (p:=i) (q:=j) (x:=x.data.toList) hn (by rw[List.getElem?_map,hi,Option.map_some,of_decide_eq_true h]) (by rw[List.getElem?_map,hj,Option.map_some,of_decide_eq_true h2])
  subst e
  rw[hi]at hj
  exact hj.symm
theorem ur {l:List (ByteArray × ByteArray × ByteArray)} {x:ByteArray} (h:(l.any fun k=>G.eqB k.1 x)=false):(l.find? fun k=>G.eqB k.1 x)=none:=by
 rw[List.any_eq_false]at h
 exact List.find?_eq_none.2 h
section
variable {gl:GL} {b:Nat} {s:ByteArray} {mo:Option Nat} {fs:Fs} {ms:Ms} {rd:ByteArray->Option (Nat × Nat)} {cl:Nat->Nat}
def aM (node:Bool) (yr yv:Nat):List (Value × Value):=
 if node=true then [(.string (G.mkB G.cN),.func (.func 232) #[] #[ptr yr,ptr yv]),(.string (G.mkB G.xX),.func (.func 233) #[] #[ptr yr,ptr yv]),(.string (G.mkB G.xY),.func (.func 235) #[] #[ptr yr,ptr yv])]
 else [(.string (G.mkB G.cU),.func (.func 236) #[] #[ptr yr,ptr yv])]
theorem pv (node:Bool) (yr yv:Nat):bs bH (Ent (aM node yr yv)):=by
 intro e he
 obtain⟨j,p,h1,rfl⟩:=dJ he
 cases node<;>simp only[aM]at h1
 ·match j,h1 with
  | 0,h1=>cases h1;rfl
 ·match j,h1 with
  | 0,h1=>cases h1;rfl
  | 1,h1=>cases h1;rfl
  | 2,h1=>cases h1;rfl
theorem sQ (hn:lK gl rd cl) {node:Bool} {v yr yv i1 i2:Nat} (hr:fs[i1]? =some (yr,0,ptr b)) (hv:fs[i2]? =some (yv,0,.int .i64 (v:Int))) {e:MapEntry} {nm:ByteArray} (he:e∈(Ent (aM node yr yv)).toList) (hk:e.key= .string nm):
  ∃F,e.val= .func F #[] #[ptr yr,ptr yv]/\G.eD node nm.data.toList≠0/\r9 gl b s mo fs ms (ID s node v) F #[] #[ptr yr,ptr yv] (G.dX rd cl (G.eD node nm.data.toList) v):=by
 obtain⟨j,p,h1,rfl⟩:=dJ he
 cases node<;>simp only[aM]at h1
 ·match j,h1 with
  | 0,h1=>
   cases h1
   rw[<-gG.1 hk]
   exact⟨_,rfl,by decide,wM hn hr hv⟩
 ·match j,h1 with
  | 0,h1=>
   cases h1
   rw[<-gG.1 hk]
   exact⟨_,rfl,by decide,wL hr hv⟩
  | 1,h1=>
   cases h1
   rw[<-gG.1 hk]
   exact⟨_,rfl,by decide,sb hn false hr hv⟩
  | 2,h1=>
   cases h1
   rw[<-gG.1 hk]
   exact⟨_,rfl,by decide,sb hn true hr hv⟩
theorem sS {node:Bool} {yr yv:Nat} {nm:ByteArray} (h:∀e∈(Ent (aM node yr yv)).toList,e.key≠ .string nm):G.eD node nm.data.toList=0:=by
 have no:∀(j:Nat) (k:List UInt8) (w:Value),(aM node yr yv)[j]? =some (.string (G.mkB k),w)->nm.data.toList≠k:=by
  intro j k w hj e
  exact h ⟨.string (G.mkB k),w,j⟩ (Array.mem_def.1 (Array.mem_of_getElem? (i:=j) (by rw[fV,hj];rfl))) (gG.2 e.symm)
 unfold G.eD
 cases node with
 | false=>simp only[Bool.false_eq_true,if_false];rw[if_neg (no 0 _ _ rfl)]
 | true=>simp only[if_true];rw[if_neg (no 0 _ _ rfl),if_neg (no 1 _ _ rfl),if_neg (no 2 _ _ rfl)]
end
end Go.Proofs.YtlflalecmhgmjaaGreatDoor.N
