/- The program's keys of GraphML, by the plain reader. Conditions: none. -/
import Derived.Test.YtlflalecmhgmjaaGreatDoorQKind
import Derived.Test.YtlflalecmhgmjaaGreatDoorTEdg
set_option linter.unusedVariables false
set_option linter.unusedSimpArgs false
namespace Go.Proofs.YtlflalecmhgmjaaGreatDoor.N
open Go.Proofs.YtlflalecmhgmjaaGreatDoor
open Go.X
set_option maxRecDepth 100000
theorem gq {h:ab} {p A:Option Addr} {tg:G.Tg} {nm:List UInt8} (hp:atP p A tg.list nm) (hs:(G.jC tg nm).isSome=true) (V:AtV h A tg.list):
  ∃g o a,p=some ⟨g,o,none⟩/\g∈ag A/\a∈tg.list/\a.name.data.toList=nm/\G.aF tg nm=a.says/\G.kp tg nm=a.at_/\ac h g (o+1)=some (.string a.says)/\ac h g (o+2)=some (.int .i64 (a.at_:Int)):=by
 rcases hp with⟨_,hf⟩ | ⟨k,a,g,o,hk,hf,rfl,rfl⟩
 ·unfold G.jC at hs
  rw[hf]at hs;cases hs
 ·obtain⟨g2,o2,e,c0,c1,c2⟩:=V k a hk
  simp only[Option.some.injEq,Addr.mk.injEq,and_true]at e
  obtain⟨rfl,rfl⟩:=e
  have hg:G.jC tg nm=some a:=hf
  have hn:=List.find?_some hf
  exact⟨g,o+k*3,a,rfl,by simp[ag],List.mem_of_getElem? hk,by simpa using hn,by unfold G.aF;rw[hg];rfl,by unfold G.kp;rw[hg];rfl,c1,c2⟩
theorem eO {tg:G.Tg}:∀{l:List (List UInt8)},G.gd tg l= .ok ()->∀x∈l,(G.jC tg x).isSome=true
 | [],_,x,hx=>by simp at hx
 | y::l,h,x,hx=>by
  rw[G.gd]at h
  cases q:(G.jC tg y).isSome with
  | false=>rw[q]at h;cases h
  | true=>
   rw[q]at h
   rcases List.mem_cons.1 hx with rfl | hx
   ·exact q
   ·exact eO h x hx
theorem nP {r:G.Xd}:∀{l:List G.Atr},G.bW r l= .ok ()->∀a∈l,a.name.data.toList=G.xId->(r.keys.any fun k=>G.eqB k.1 a.says)=false
 | [],_,a,ha,_=>by simp at ha
 | x::l,h,a,ha,hn=>by
  rw[G.bW]at h
  have go:G.bW r l= .ok ()->a∈l->(r.keys.any fun k=>G.eqB k.1 a.says)=false:=fun h2 h3=>nP h2 a h3 hn
  split at h
  ·rename_i q
   have hl:G.bW r l= .ok ():=by
    cases z:decide (x.says.data.toList=G.sf\/x.says.data.toList=G.sj)with
    | false=>rw[z]at h;cases h
    | true=>rw[z]at h;exact h
   rcases List.mem_cons.1 ha with rfl | ha
   ·rw[hn]at q;exact absurd q (by decide)
   ·exact go hl ha
  ·split at h
   ·cases z:r.keys.any fun k=>G.eqB k.1 x.says with
    | true=>rw[z]at h;cases h
    | false=>
     rw[z]at h
     rcases List.mem_cons.1 ha with rfl | ha
     ·exact z
     ·exact go h ha
   ·rename_i q1 q2
    rcases List.mem_cons.1 ha with rfl | ha
    ·exact absurd hn q2
    ·exact go h ha
theorem gu (l:List (ByteArray × ByteArray × ByteArray)):bm bz (Ent (fe l)):=by
 intro e he
 obtain⟨j,p,h1,rfl⟩:=dh he
 simp only[fe,List.getElem?_map,Option.map_eq_some_iff]at h1
 obtain⟨k,_,rfl⟩:=h1
 rfl
theorem iV {a b:ByteArray}:(Value.string a=Value.string b) ↔ a.data.toList=b.data.toList:=by
 constructor
 ·intro e;injection e with e;rw[e]
 ·intro e
  have:a=b:=by
   cases a;cases b
   simp only[ByteArray.mk.injEq]
   exact Array.ext' e
  rw[this]
theorem jG {l:List (ByteArray × ByteArray × ByteArray)} {e:MapEntry} {x:ByteArray} (he:e∈(Ent (fe l)).toList) (hx:e.key= .string x):∃k∈l,G.eqB k.1 x=true/\e.val= .agg #[.string k.2.1,.string k.2.2]:=by
 obtain⟨j,p,h1,rfl⟩:=dh he
 simp only[fe,List.getElem?_map,Option.map_eq_some_iff]at h1
 obtain⟨k,h2,rfl⟩:=h1
 exact⟨k,List.mem_of_getElem? h2,by rw[cJ];simpa using iV.1 hx,rfl⟩
theorem oM {l:List (ByteArray × ByteArray × ByteArray)} {x:ByteArray} (h:∀e∈(Ent (fe l)).toList,e.key≠ .string x):(l.any fun k=>G.eqB k.1 x)=false:=by
 rw[List.any_eq_false]
 intro k hk
 obtain⟨j,hj⟩:=List.mem_iff_getElem?.1 hk
 have:=h ⟨.string k.1,.agg #[.string k.2.1,.string k.2.2],j⟩ (Array.mem_def.1 (Array.mem_of_getElem? (i:=j) (by rw[fE];simp[fe,hj])))
 rw[cJ]
 simpa using fun q=>this (iV.2 q)
theorem jl {l:List (ByteArray × ByteArray × ByteArray)} {x:ByteArray} {k:ByteArray × ByteArray × ByteArray} (hk:k∈l) (h:G.eqB k.1 x=true):(l.any fun k=>G.eqB k.1 x)=true:=by
 rw[List.any_eq_true];exact⟨k,hk,h⟩
section
variable {gl:GL} {b:Nat} {s:ByteArray} {fs:Fs} {ms:Ms}
theorem yf (hs:s.size<=262144):gp gl b s none fs ms (IX s) (IX s) (.func 141) #[ptr b] #[] (G.pJ s):=by
 intro x A tg t TA TC h H ix hl hu
 generalize hC:chX gl b s none fs ms A x++tK t TA TC tg=C at H ⊢
 have Q0:Sq h C h (chX gl b s none fs ms A x++tK t TA TC tg):=by rw[hC];exact Sq.start H
 refine CV.up (aA C) (by kernel_rfl) ?_ (fun v h' r=>by obtain⟨_,_,_,_,m,_⟩:=r;exact m.fr) fun v h' r=>by obtain⟨_,_,_,m⟩:=r;exact m
 show az Tryz.prog 141 #[ptr b,ptr t] h _ _
 apply vH
 unfold Dv
 intro hv
 have Q1:Sq h C hv (chX gl b s none fs ms A x++tK t TA TC tg):=Q0.gr (Fr.push h _)
 have cn:∀(k:Nat) (y:List UInt8),[G.xId,G.gf,G.dQ][k]? =some y->ac hv h.size (0+k*1)=some (.string (G.mkB y)):=by
  intro k y hk
  have hb:hv[h.size]? =some (.cells #[.string ⟨#[105,100]⟩,.string ⟨#[102,111,114]⟩,.string ⟨#[97,116,116,114,46,110,97,109,101]⟩] 9):=ba
  rw[aI hb]
  match k,hk with
  | 0,hk=>cases hk;rfl
  | 1,hk=>cases hk;rfl
  | 2,hk=>cases hk;rfl
 clear_value hv
 have V1:AtV hv TA tg.list:=iz Q1.sy 10 rfl
 have hc3:ac hv t 3=some (.slice TA tg.list.length TC):=Q1.sy.cellO 9 rfl 3 rfl
 refine av [] (pR (tg:=tg) (nms:=[G.xId,G.gf,G.dQ]) hc3 (Q1.sy.cellO 9 rfl 1 rfl) V1 hl (by decide) cn) (by simp) (fun _ _ r=>Fr.of_eq r.2.2) (fun _ _ r=>by obtain⟨_,_,_,m⟩:=r;exact Fr.of_eq m) (fun v hv2 r=>?_) fun v hv2 r=>?_
 rotate_left
 ·obtain⟨f,e,rfl,rfl⟩:=r
  exact⟨f,by unfold G.pJ G.below;rw[e];rfl,rfl,Q1.fr⟩
 obtain⟨e1,rfl,rfl⟩:=r
 have eK:G.pJ s tg x=((G.bW x.2 tg.list).bind fun _=>G.within s (G.elem s G.ir) tg ([],{x.2 with keys:=x.2.keys++[(G.aF tg G.xId,G.aF tg G.gf,G.aF tg G.dQ)]})).bind fun y=>.ok (x.1,y.2):=by
  unfold G.pJ G.below;rw[e1];rfl
 have hall:=eO e1
 refine⟨rfl,?_⟩
 intro K
 have kk:∀(p:Nat) (hvX:ab),Fr [] hv2 hvX->hv2.size<=p->p<hvX.size->K p (G.aF tg G.gf) (G.aF tg G.dQ) hvX:=by
  intro p hvX fX hp1 hp2
  dsimp-zeta only[K]
  intro hv12
  have f12:Fr [] hv2 hv12:=((fX.hsetL hp1).hsetL hp1)
  have s12:hv12.size=hvX.size:=by simp[hv12]
  clear_value hv12
  have Q12:=Q1.gr f12
  refine⟨t,0,rfl,_,_,_,Q12.sy.cellO 9 rfl 3 rfl,?_⟩
  refine⟨fun l h'=>∃k:Nat,l=[.int .i64 (k:Int)]/\k<=tg.list.length/\Fr [] hv12 h'/\G.bW x.2 tg.list=G.bW x.2 (tg.list.drop k),mI tg.list.length,⟨0,rfl,Nat.zero_le _,Fr.refl _ _,rfl⟩,?_⟩
  rintro z hv13 ⟨k,e,hk,f13,eC⟩
  cases e
  have Q13:=Q12.gr f13
  have V13:AtV hv13 TA tg.list:=iz Q13.sy 10 rfl
  have s13:=f13.size
  have own13:∀(z:Nat) (h':ab),hv2.size<=z->z∉aA (chX gl b s none fs ms A x++tK t TA TC tg):=by
   intro z h' hz q
   obtain⟨k,c,h1,h2⟩:=bM.1 q
   have:=kY Q1.sy k h1 z h2
   omega
  refine af (fun q=>?_) fun q=>?_
  ·obtain⟨a,ha⟩:∃a,tg.list[k]? =some a:=⟨_,List.getElem?_eq_getElem (by omega)⟩
   have hd:tg.list.drop k=a::tg.list.drop (k+1):=by
    obtain⟨h1,h2⟩:=List.getElem?_eq_some_iff.1 ha
    rw[List.drop_eq_getElem_cons h1,h2]
   rw[hd,G.bW]at eC
   obtain⟨g,o,eg,c0,c1,c2⟩:=V13 k a ha
   refine⟨g,o,eg,by omega,by omega,a.name,by rw[Int.toNat_natCast];exact c0,a.says,by rw[Int.toNat_natCast];exact c1,(a.at_:Int),by rw[Int.toNat_natCast];exact c2,?_⟩
   intro hv14 hv15
   have f15:Fr [] hv13 hv15:=((((Fr.push hv13 _).hsetL (Nat.le_refl _)).hsetL (Nat.le_refl _)).hsetL (Nat.le_refl _))
   have s15:hv15.size=hv13.size+1:=by simp[hv15,hv14]
   clear_value hv15
   clear hv14
   have Q15:=Q13.gr f15
   simp-zeta only[fK]
   rw[wrN (by omega)]
   have bad:∀{f:G.F} {h':ab},G.bW x.2 tg.list= .no f->Fr [] hv15 h'->∃e,G.pJ s tg x= .no e/\flx f=flx e/\Fr (aA C) h h':=fun ef f'=>⟨_,by rw[eK,ef];rfl,rfl,(Q15.gr f').fr⟩
   refine⟨fun _ h'=>Fr [] hv15 h'/\G.bW x.2 tg.list=G.bW x.2 (tg.list.drop (k+1)),?_,fun hv29 r=>⟨⟨k+1,rfl,by omega,(f13.trans f15).trans r.1,r.2⟩,by simp only[mI];omega⟩⟩
   refine af (fun q1=>?_) fun q1=>?_
   ·have q1:a.name.data.toList=G.gf:=q1
    rw[if_pos q1]at eC
    intro K2
    refine af (fun q2=>ao (fun _=>⟨rfl,Fr.refl _ _,?_⟩) fun z=>absurd z (by decide)) fun q2=>ao (fun q3=>⟨rfl,Fr.refl _ _,?_⟩) fun q3=>?_
    ·rw[eC,decide_eq_true (.inl q2)];rfl
    ·rw[eC,decide_eq_true (.inr (of_decide_eq_true q3))];rfl
    ·refine bad (f:=(a.at_,16)) ?_ (Fr.refl _ _)
     rw[eC,decide_eq_false (fun z=>z.elim q2 (of_decide_eq_false q3))];rfl
   have q1:¬a.name.data.toList=G.gf:=q1
   rw[if_neg q1]at eC
   refine⟨fun _ h'=>Fr [] hv15 h'/\G.bW x.2 tg.list=G.bW x.2 (tg.list.drop (k+1)),?_,fun _ r=>r⟩
   refine af (fun q2=>?_) fun q2=>?_
   rotate_left
   ·have q2:¬a.name.data.toList=G.xId:=q2
    rw[if_neg q2]at eC
    exact⟨Fr.refl _ _,eC⟩
   have q2:a.name.data.toList=G.xId:=q2
   rw[if_pos q2]at eC
   intro K3
   have k3:∀(c3 c4:ByteArray) (there:Bool) (hv26:ab),Fr [] hv15 hv26->there=(x.2.keys.any fun k=>G.eqB k.1 a.says)->K3 c3 c4 there hv26:=by
    intro c3 c4 there hv26 f26 ht
    refine ao (fun q3=>⟨rfl,f26,?_⟩) fun q3=>bad (f:=(a.at_,18)) ?_ f26
    ·rw[eC,<-ht,q3];rfl
    ·rw[eC,<-ht,q3];rfl
   refine⟨[],by simp,b,0,rfl,by simp,_,Q15.sy.cellO 0 rfl 9 rfl,?_,?_⟩
   ·refine⟨_,rfl,_,_,Q15.sy.mapM 1 rfl,gu _,fun ev he hk=>?_,fun hn=>?_⟩
    ·obtain⟨ky,hk1,hk2,hk3⟩:=jG he hk
     refine⟨_,_,hk3,Fr.refl _ _,?_⟩
     intro hv19
     have f19:Fr [] hv15 hv19:=Fr.push _ _
     refine⟨f19,?_⟩
     intro hv20
     have f20:Fr [] hv15 hv20:=(f19.hsetL (Nat.le_refl _)).hsetL (Nat.le_refl _)
     exact⟨f20,k3 G.noB G.noB _ _ f20 (jl hk1 hk2).symm⟩
    ·refine⟨Fr.refl _ _,?_⟩
     intro hv21
     have f19:Fr [] hv15 hv21:=Fr.push _ _
     refine⟨f19,?_⟩
     intro hv22
     have f20:Fr [] hv15 hv22:=(f19.hsetL (Nat.le_refl _)).hsetL (Nat.le_refl _)
     exact⟨f20,k3 G.noB G.noB _ _ f20 (oM hn).symm⟩
   ·intro hv23
    have f19:Fr [] hv15 hv23:=Fr.push _ _
    have s23:hv15.size<=hv15.size:=Nat.le_refl _
    have Q23:=Q15.gr f19
    refine⟨f19,_,rfl,_,_,Q23.sy.mapM 1 rfl,gu _,fun ev he hk=>?_,fun hn=>?_⟩
    ·obtain⟨ky,hk1,hk2,hk3⟩:=jG he hk
     refine⟨_,_,hk3,f19,?_⟩
     intro hv24
     have f20:Fr [] hv15 hv24:=(f19.hsetL (Nat.le_refl _)).hsetL (Nat.le_refl _)
     exact⟨f20,k3 G.noB G.noB _ _ f20 (jl hk1 hk2).symm⟩
    ·refine⟨f19,?_⟩
     intro hv25
     have f20:Fr [] hv15 hv25:=(f19.hsetL (Nat.le_refl _)).hsetL (Nat.le_refl _)
     exact⟨f20,k3 G.noB G.noB _ _ f20 (oM hn).symm⟩
  ·--all have been looked at
   rw[List.drop_of_length_le (by omega)]at eC
   have eC:G.bW x.2 tg.list= .ok ():=eC
   rw[eC]at eK
   intro K4
   refine⟨b,0,rfl,_,Q13.sy.cellO 0 rfl 9 rfl,?_⟩
   refine ak [] (lK (x:=⟨#[105,100]⟩) (Q13.sy.cellO 9 rfl 3 rfl) V13 rfl hl) (by simp) (fun _ _ r=>by obtain⟨_,_,r,_⟩:=r;exact Fr.of_eq r) fun v hv30 r=>?_
   obtain⟨pI,rfl,rfl,hpI⟩:=r
   obtain⟨g,o,a,rfl,-,ha,hn,es,-,c1,-⟩:=gq (nm:=G.xId) hpI (hall _ (by simp)) V13
   have hnew:=nP eC a ha hn
   refine⟨_,rfl,Fr.refl _ _,g,o,rfl,_,c1,_,rfl,?_,_,_,Q13.sy.mapM 1 rfl,gu _,fun j3 ev hj hk=>?_,fun hno=>?_⟩
   ·rintro rfl
    exact own13 _ hv30 (by omega) (bM.2 ⟨1,_,rfl,by simp[Ck.mp]⟩)
   ·obtain⟨ky,hk1,hk2,-⟩:=jG (by rw[Array.mem_toList_iff];exact Array.mem_of_getElem? hj) hk
    rw[jl hk1 hk2]at hnew;cases hnew
   ·have el:(Ent (fe x.2.keys)).push ⟨.string a.says,.agg #[.string (G.aF tg G.gf),.string (G.aF tg G.dQ)],(fe x.2.keys).length⟩=Ent (fe (x.2.keys++[(G.aF tg G.xId,G.aF tg G.gf,G.aF tg G.dQ)])):=by
     rw[eV];simp[fe,es]
    have en:(fe x.2.keys).length+1=(fe (x.2.keys++[(G.aF tg G.xId,G.aF tg G.gf,G.aF tg G.dQ)])).length:=by simp[fe]
    rw[el,en]
    intro hv32
    have Q32:Sq h C hv32 (chX gl b s none fs ms A ([],{x.2 with keys:=x.2.keys++[(G.aF tg G.xId,G.aF tg G.gf,G.aF tg G.dQ)]})++tK t TA TC tg):=⟨Q13.sy.putM 1 rfl (fe (x.2.keys++[(G.aF tg G.xId,G.aF tg G.gf,G.aF tg G.dQ)])) rfl rfl,Q13.ri⟩
    clear_value hv32
    have i32:IX s ([],{x.2 with keys:=x.2.keys++[(G.aF tg G.xId,G.aF tg G.gf,G.aF tg G.dQ)]}):=by
     refine⟨ix.i,ix.n,ix.l,ix.p,ix.dn,ix.dv,ix.w,ix.e,?_⟩
     show((x.2.keys++[(G.aF tg G.xId,G.aF tg G.gf,G.aF tg G.dQ)]).map fun k=>k.1.data.toList).Nodup
     rw[List.map_append,List.nodup_append]
     refine⟨ix.kn,by simp,?_⟩
     intro u hu' w hw e
     simp only[List.map_cons,List.map_nil,List.mem_singleton]at hw
     subst hw
     obtain⟨ky,hk1,rfl⟩:=List.mem_map.1 hu'
     rw[List.any_eq_false]at hnew
     refine hnew ky hk1 ?_
     rw[cJ,decide_eq_true_eq,e,es]
    have Q33:Sq h C hv32 ((chX gl b s none fs ms A ([],{x.2 with keys:=x.2.keys++[(G.aF tg G.xId,G.aF tg G.gf,G.aF tg G.dQ)]})++[Ck.vob t 0 (tgC TA TC tg.name tg.at_ tg.nameAt tg.list tg.whole)])++[Ck.sl eA 230 TA tg.list.length TC tg.list]):=Q32.turn 9 rfl To.obvob
    have hun:G.within s (G.elem s G.ir) tg ([],{x.2 with keys:=x.2.keys++[(G.aF tg G.xId,G.aF tg G.gf,G.aF tg G.dQ)]})≠ .un:=by
     intro z
     simp only[G.Er.bind]at eK
     rw[eK,z]at hu
     exact hu rfl
    refine av _ (ye hs (lvX s) AJ (tg:=tg) (TA:=TA) (TC:=TC) (Q33.pick [0,1,2,3,4,5,6,7,8,9] rfl).hp i32 hun) ?_ (fun _ _ r=>by obtain⟨_,_,_,_,m,_⟩:=r;exact m.fr) (fun _ _ r=>by obtain⟨_,_,_,m⟩:=r;exact m) (fun v hv34 r=>?_) fun v hv34 r=>?_
    ·intro z hz q
     simp only[List.mem_singleton]at hz
     subst hz
     refine own13 z hv30 hp1 ?_
     have q:z∈aA (chX gl b s none fs ms A x++[Ck.vob t 0 (tgC TA TC tg.name tg.at_ tg.nameAt tg.list tg.whole)]):=q
     simp only[aA,List.flatMap_append,List.mem_append]at q ⊢
     rcases q with q | q
     ·exact .inl q
     ·simp[Ck.vob]at q
    ·obtain⟨x',A',e,rfl,P,i2,p2⟩:=r
     simp only[G.Er.bind]at eK
     rw[e]at eK
     exact⟨rfl,(x.1,x'.2),A',eK,rfl,(Sq.call Q33 P).pick [0,1,2,3,4,5,6,7,8] rfl,i2,p2⟩
    ·obtain⟨e,q1,rfl,q2⟩:=r
     simp only[G.Er.bind]at eK
     rw[q1]at eK
     exact⟨e,eK,rfl,Sq.frA Q33 q2⟩
 have lit1:(⟨#[102,111,114]⟩:ByteArray).data.toList=G.gf:=rfl
 have Cj:(⟨#[97,116,116,114,46,110,97,109,101]⟩:ByteArray).data.toList=G.dQ:=rfl
 have get:∀{nm:ByteArray} {hx:ab} {Hd:List Nat} {KK:Value->ab->Prop},Fr [] hv2 hx->(G.jC tg nm.data.toList).isSome=true->(∀g o,ac hv2 g (o+1)=some (.string (G.aF tg nm.data.toList))->KK (.pointer (some ⟨g,o,none⟩)) hx)->ai Tryz.prog 185 #[ptr t,.string nm] hx Hd KK:=by
  intro nm hx Hd KK fx hsm k
  have Vx:AtV hx TA tg.list:=V1.fr fx (by simp)
  refine ak [] (lK (x:=nm) (fx.cell hc3 (by simp)) Vx rfl hl) (by simp) (fun _ _ r=>by obtain⟨_,_,r,_⟩:=r;exact Fr.of_eq r) fun v hv30 r=>?_
  obtain⟨pI,rfl,rfl,hpI⟩:=r
  obtain⟨g,o,a,rfl,-,-,-,es,-,c1,-⟩:=gq (nm:=nm.data.toList) hpI hsm V1
  exact k g o (by rw[es];exact c1)
 have hF:(G.jC tg (⟨#[102,111,114]⟩:ByteArray).data.toList).isSome=true:=hall G.gf (by simp)
 have hN:(G.jC tg (⟨#[97,116,116,114,46,110,97,109,101]⟩:ByteArray).data.toList).isSome=true:=hall G.dQ (by simp)
 refine⟨get (Fr.refl _ _) hF fun g o c=>⟨_,rfl,Fr.refl _ _,g,o,rfl,_,c,get (Fr.refl _ _) hN fun g2 o2 c2=>⟨_,rfl,Fr.refl _ _,g2,o2,rfl,_,c2,?_⟩,?_⟩,?_⟩
 ·intro hv5
  have f5:Fr [] hv2 hv5:=Fr.push _ _
  exact⟨f5,kk _ _ f5 (Nat.le_refl _) (by simp[hv5])⟩
 ·intro hv6
  have f6:Fr [] hv2 hv6:=Fr.push _ _
  exact⟨f6,get f6 hN fun g2 o2 c2=>⟨_,rfl,f6,g2,o2,rfl,_,c2,kk _ _ f6 (Nat.le_refl _) (by simp[hv6])⟩⟩
 ·intro hv8
  have f8:Fr [] hv2 hv8:=Fr.push _ _
  exact⟨f8,get f8 hF fun g o c=>⟨_,rfl,f8,g,o,rfl,_,c,get f8 hN fun g2 o2 c2=>⟨_,rfl,f8,g2,o2,rfl,_,c2,kk _ _ f8 (Nat.le_refl _) (by simp[hv8])⟩⟩⟩
end
end Go.Proofs.YtlflalecmhgmjaaGreatDoor.N
namespace Go.X
theorem Sq.cutY {h0 h:ab} {C cs:List Ck} (q:Sq h0 C h cs) (l:List Nat) (hc:ii cs.length l=true) (mo:Option (Nat × List (List UInt8))) (fs:Fs) (ms:Ms)
  (hm:∀p,mo=some p->∃k,cs[k]? =some (Ck.mp p.1 (ek p.2))/\k∉l)
  (hf:∀f∈fs,ac h f.1 f.2.1=some f.2.2/\∃(k:Nat) (c:Ck),cs[k]? =some c/\((f.1∈c.own/\k∉l)\/(f.1∈c.rd/\c.own=[])))
  (hs:∀m∈ms,bf h m.1=some (Ent m.2,m.2.length)/\∃(k:Nat) (c:Ck),cs[k]? =some c/\m.1∈c.own/\k∉l) (hd:∀p,mo=some p->∀m∈ms,m.1≠p.1):
  Sq h0 C h (pk cs l++[Ck.fy mo fs ms]):=by
 refine⟨q.sy.cutY l hc mo fs ms hm hf hs hd,fun x hx=>?_⟩
 have ow:∀{k:Nat} {c:Ck},cs[k]? =some c->x∈c.own->x∈rds C\/x∈aA C\/h0.size<=x:=fun hk hx=>(q.sy.ow _ _ hk x hx).elim (fun w=>.inr (.inl w)) fun w=>.inr (.inr w)
 obtain⟨k,c,h1,h2⟩:=bk.1 hx
 rcases dz h1 with h1 | ⟨_,h1⟩
 ·obtain⟨i,_,h3⟩:=gR hc h1
  exact q.ri x (bk.2 ⟨i,c,h3,h2⟩)
 ·obtain⟨e,rfl⟩:=List.getElem?_eq_some_iff.1 h1
  simp only[List.length_singleton]at e
  have e0:k-(pk cs l).length=0:=by omega
  simp only[e0,List.getElem_cons_zero]at h2
  rcases List.mem_append.1 (show x∈fs.map (·.1)++ms.map (·.1)from h2)with h2 | h2
  ·obtain⟨f,h3,rfl⟩:=List.mem_map.1 h2
   obtain⟨-,k,c,h4,h5⟩:=hf f h3
   rcases h5 with⟨h5,_⟩ | ⟨h5,_⟩
   ·exact ow h4 h5
   ·exact q.ri _ (bk.2 ⟨k,c,h4,h5⟩)
  ·obtain⟨m,h3,rfl⟩:=List.mem_map.1 h2
   obtain⟨-,k,c,h4,h5,_⟩:=hs m h3
   exact ow h4 h5
end Go.X
namespace Go.Proofs.YtlflalecmhgmjaaGreatDoor.N
open Go.Proofs.YtlflalecmhgmjaaGreatDoor
open Go.X
set_option maxRecDepth 100000
section
variable {gl:GL} {b:Nat} {s:ByteArray} {mo:Option Nat} {fs:Fs} {ms:Ms} {rd:ByteArray->Option (Nat × Nat)} {cl:Nat->Nat}
theorem yc (hs:s.size<=262144) (hm:∀xR,lF gl b s none [(xR,0,ptr b)] [] (IX s) (.func 187) #[] #[ptr xR] (G.cA s rd cl)):gp gl b s none fs ms (IX s) (IX s) (.func 142) #[ptr b] #[] (G.jj s rd cl):=by
 intro x A tg t TA TC h H ix hl hu
 generalize hC:chX gl b s none fs ms A x++tK t TA TC tg=C at H ⊢
 have Q0:Sq h C h (chX gl b s none fs ms A x++tK t TA TC tg):=by rw[hC];exact Sq.start H
 refine CV.up (aA C) (by kernel_rfl) ?_ (fun v h' r=>by obtain⟨_,_,_,_,m,_⟩:=r;exact m.fr) fun v h' r=>by obtain⟨_,_,_,m⟩:=r;exact m
 show az Tryz.prog 142 #[ptr b,ptr t] h _ _
 apply vI
 unfold Dw
 intro hv hv2
 have Q1:Sq h C hv (chX gl b s none fs ms A x++tK t TA TC tg++[Ck.ob h.size 65 [ptr b]]):=Q0.add1 (Q0.sy.newO _) rfl
 have Q2:Sq h C hv2 (chX gl b s none fs ms A x++tK t TA TC tg++[Ck.ob h.size 65 [ptr b]]):=Q1.gr (Fr.push hv _)
 have cn:∀(k:Nat) (y:List UInt8),[G.bT][k]? =some y->ac hv2 hv.size (0+k*1)=some (.string (G.mkB y)):=by
  intro k y hk
  have hb:hv2[hv.size]? =some (.cells #[.string ⟨#[101,100,103,101,100,101,102,97,117,108,116]⟩] 9):=ba
  rw[aI hb]
  match k,hk with
  | 0,hk=>cases hk;rfl
 clear_value hv2
 have V2:AtV hv2 TA tg.list:=iz Q2.sy 10 rfl
 have hc3:ac hv2 t 3=some (.slice TA tg.list.length TC):=Q2.sy.cellO 9 rfl 3 rfl
 have cB:ac hv2 h.size 0=some (ptr b):=Q2.sy.cellO 11 rfl 0 rfl
 refine av [] (pR (tg:=tg) (nms:=[G.bT]) hc3 (Q2.sy.cellO 9 rfl 1 rfl) V2 hl (by decide) cn) (by simp) (fun _ _ r=>Fr.of_eq r.2.2) (fun _ _ r=>by obtain⟨_,_,_,m⟩:=r;exact Fr.of_eq m) (fun v hv3 r=>?_) fun v hv3 r=>?_
 rotate_left
 ·obtain⟨f,e,rfl,rfl⟩:=r
  exact⟨f,by unfold G.jj G.below;rw[e];rfl,rfl,Q2.fr⟩
 obtain⟨e1,rfl,rfl⟩:=r
 have eK:G.jj s rd cl tg x=(G.bx (decide ((G.aF tg G.bT).data.toList=G.co\/(G.aF tg G.bT).data.toList=G.it)) (G.kp tg G.bT,16) <|
   G.within s (G.elem s (G.cA s rd cl)) tg ([],{x.2 with dir:=decide ((G.aF tg G.bT).data.toList=G.co)})).bind fun y=>.ok (x.1,y.2):=by
  unfold G.jj G.below;rw[e1];rfl
 have hall:=eO e1
 refine⟨rfl,?_⟩
 refine ak [] (lK (x:=⟨#[101,100,103,101,100,101,102,97,117,108,116]⟩) hc3 V2 rfl hl) (by simp) (fun _ _ r=>by obtain⟨_,_,r,_⟩:=r;exact Fr.of_eq r) fun v hv4 r=>?_
 obtain⟨pI,rfl,rfl,hpI⟩:=r
 obtain⟨g,o,a,rfl,hgb,-,-,es,ea,c1,c2⟩:=gq (nm:=G.bT) hpI (hall _ (by simp)) V2
 rw[es,ea]at eK
 refine⟨_,rfl,?_⟩
 intro K
 have kk:(a.says.data.toList=G.co\/a.says.data.toList=G.it)->K hv4:=by
  intro hd
  rw[decide_eq_true hd]at eK
  simp only[G.bx]at eK
  dsimp-zeta only[K]
  refine⟨_,cB,g,o,rfl,_,c1,b,0,rfl,⟨_,Q2.sy.cellO 0 rfl 4 rfl⟩,Q2.sy.freeO 0 rfl 4,?_⟩
  rw[fK]
  intro hv8
  have Q8:Sq h C hv8 (chX gl b s none fs ms A (x.1,{x.2 with dir:=decide (a.says.data.toList=G.co)})++tK t TA TC tg++[Ck.ob h.size 65 [ptr b]]):=⟨Q2.sy.stO 0 rfl 4 _,Q2.ri⟩
  clear_value hv8
  have cB8:ac hv8 h.size 0=some (ptr b):=Q8.sy.cellO 11 rfl 0 rfl
  refine⟨_,cB8,?_⟩
  have Q9:=Q8.turn 9 rfl To.obvob
  have Q10:=(Q9.cutY [0,1,2,3,4,5,6,7,9,8,10] rfl none [(h.size,0,ptr b)] [] (fun p hp=>by cases hp) (fun f hf=>by
   simp only[List.mem_singleton]at hf
   subst hf
   exact⟨cB8,11,_,rfl,.inl ⟨by simp[Ck.ob],by decide⟩⟩) (fun m hm=>by cases hm) fun p hp=>by cases hp).pick [0,1,2,3,4,5,6,7,11,8,9,10] rfl
  have Q11:Sq h C hv8 ((chX gl b s none [(h.size,0,ptr b)] [] A ([],{x.2 with dir:=decide (a.says.data.toList=G.co)})++[Ck.vob t 0 (tgC TA TC tg.name tg.at_ tg.nameAt tg.list tg.whole)])++[Ck.fy none fs ms,Ck.sl eA 230 TA tg.list.length TC tg.list]):=Q10
  have i8:IX s ([],{x.2 with dir:=decide (a.says.data.toList=G.co)}):=⟨ix.i,ix.n,ix.l,ix.p,ix.dn,ix.dv,ix.w,ix.e,ix.kn⟩
  have hun:G.within s (G.elem s (G.cA s rd cl)) tg ([],{x.2 with dir:=decide (a.says.data.toList=G.co)})≠ .un:=by
   intro z
   rw[eK,z]at hu
   exact hu rfl
  refine av _ (ye hs (lvX s) (hm h.size) (tg:=tg) (TA:=TA) (TC:=TC) (Q11.pick [0,1,2,3,4,5,6,7,8,9] rfl).hp i8 hun) (by simp) (fun _ _ r=>by obtain⟨_,_,_,_,m,_⟩:=r;exact m.fr) (fun _ _ r=>by obtain⟨_,_,_,m⟩:=r;exact m) (fun v hv34 r=>?_) fun v hv34 r=>?_
  ·obtain⟨x',A',e,rfl,P,i2,p2⟩:=r
   rw[e]at eK
   have Q12:=Sq.call Q11 P
   exact⟨rfl,(x.1,x'.2),A',eK,rfl,Q12.pick [0,1,2,3,4,5,6,7,9] rfl,i2,p2⟩
  ·obtain⟨e,q1,rfl,q2⟩:=r
   rw[q1]at eK
   exact⟨e,eK,rfl,Sq.frA Q11 q2⟩
 have c2':ac hv4 g (o+2)=some (.int .i64 (a.at_:Int)):=c2
 refine⟨g,o,rfl,_,c1,?_⟩
 rw[fK]
 refine af (fun q=>⟨g,o,rfl,_,c2',ao (fun _=>⟨rfl,Fr.refl _ _,kk (.inl q)⟩) fun z=>absurd z (by decide)⟩) fun q=>⟨g,o,rfl,_,c1,g,o,rfl,_,c2',?_⟩
 rw[fK]
 refine ao (fun q2=>⟨rfl,Fr.refl _ _,kk (.inr (of_decide_eq_true q2))⟩) fun q2=>⟨_,?_,rfl,Q2.fr⟩
 rw[eK,decide_eq_false (fun z=>z.elim q (of_decide_eq_false q2))];rfl
def PN (s:ByteArray) (x:G.Xs):Prop:=IX s x/\x.2.n<1024
def PE (s:ByteArray) (x:G.Xs):Prop:=IX s x/\x.2.weights.length<3072
theorem AG {xR:Nat} (hn:gp gl b s mo ((xR,0,ptr b)::fs) ms (IX s) (PN s) (.func 188) #[ptr b] #[] (G.gU s rd cl)) (he:gp gl b s mo ((xR,0,ptr b)::fs) ms (IX s) (PE s) (.func 189) #[ptr b] #[] (G.gh s rd cl)):
  lF gl b s mo ((xR,0,ptr b)::fs) ms (IX s) (.func 187) #[] #[ptr xR] (G.cA s rd cl):=by
 intro nm a x A h H ix hu
 have Q:Sq h (chX gl b s mo ((xR,0,ptr b)::fs) ms A x) h (chX gl b s mo ((xR,0,ptr b)::fs) ms A x):=Sq.start H
 refine CV.up (aA (chX gl b s mo ((xR,0,ptr b)::fs) ms A x)) (by kernel_rfl) ?_ (fun v h' r=>?_) fun v h' r=>by obtain⟨_,_,_,m⟩:=r;exact m
 ·show az Tryz.prog 187 #[.string nm,.int .i64 (a:Int),ptr xR] h _ _
  apply vG
  unfold Du
  have cR:ac h xR 0=some (ptr b):=Q.sy.factY 8 rfl 0 rfl
  rw[fK,fK]
  have e1:(⟨#[110,111,100,101]⟩:ByteArray).data.toList=G.sf:=rfl
  have e2:(⟨#[101,100,103,101]⟩:ByteArray).data.toList=G.sj:=rfl
  rw[e1,e2]
  refine af (fun q=>?_) fun q=>af (fun q2=>?_) fun q2=>?_
  ·have eM:G.cA s rd cl nm a x=G.bx (decide (x.2.n<1024)) (a,3) (.ok (x,G.gU s rd cl)):=by unfold G.cA;rw[if_pos q]
   refine⟨xR,0,rfl,_,cR,b,0,rfl,_,Q.sy.cellO 0 rfl 2 rfl,?_⟩
   have es:decide ((x.2.n:Int)<(1024:Int))=decide (x.2.n<1024):=bS (by simp;omega)
   rw[es]
   refine ao (fun z=>⟨rfl,xR,0,rfl,_,cR,.inr ⟨_,_,_,_,x,A,PN s,rfl,by rw[eM,z];rfl,Q,ix,rfl,⟨⟨ix,of_decide_eq_true z⟩,fun x j p hj=>⟨RX.at p.1 hj,p.2⟩⟩,hn⟩⟩) fun z=>⟨_,by rw[eM,z];rfl,rfl,Q.fr⟩
  ·have eM:G.cA s rd cl nm a x=G.bx (decide (x.2.weights.length<3072)) (a,3) (.ok (x,G.gh s rd cl)):=by unfold G.cA;rw[if_neg q,if_pos q2]
   refine⟨xR,0,rfl,_,cR,b,0,rfl,_,_,_,Q.sy.cellO 0 rfl 14 rfl,?_⟩
   have es:decide (((x.2.weights.length:Nat):Int)<(3072:Int))=decide (x.2.weights.length<3072):=bS (by simp;omega)
   rw[es]
   refine ao (fun z=>⟨rfl,xR,0,rfl,_,cR,.inr ⟨_,_,_,_,x,A,PE s,rfl,by rw[eM,z];rfl,Q,ix,rfl,⟨⟨ix,of_decide_eq_true z⟩,fun x j p hj=>⟨RX.at p.1 hj,p.2⟩⟩,he⟩⟩) fun z=>⟨_,by rw[eM,z];rfl,rfl,Q.fr⟩
  ·refine .inl ⟨rfl,?_,rfl⟩
   unfold G.cA;rw[if_neg q,if_neg q2]
 ·rcases r with⟨_,_,rfl⟩ | ⟨_,_,_,_,_,_,_,_,_,m,_⟩
  ·exact Fr.refl _ _
  ·exact m.fr
end
section
variable {gl:GL} {b:Nat} {s:ByteArray} {mo:Option Nat} {fs:Fs} {ms:Ms} {rd:ByteArray->Option (Nat × Nat)} {cl:Nat->Nat}
theorem Ab {h:ab} {t:Nat} {tg:G.Tg} {x:G.Xs} (L:Lx h b s x.2.i) (ht:t≠b) (c0:ac h t 0=some (.string tg.name)) (c4:ac h t 4=some (.bool tg.whole)) (hi:x.2.i<=s.size) (hs:s.size<=262144):
  az Tryz.prog 289 #[ptr b,ptr t] h (fun v h'=>∃says j,G.fI s tg x= .ok (says,x.2.i,x.at j)/\x.2.i<=j/\j<=s.size/\says.size<=s.size/\v= .tuple #[.string says,.int .i64 (x.2.i:Int)]/\Mv b h h' j)
   (fun v h'=>∃f,G.fI s tg x= .no f/\v=flx f/\Fr [b] h h'):=by
 apply vO
 unfold DC
 refine⟨b,0,rfl,_,L.c1,t,0,rfl,_,c4,cm (fun q=>?_) fun q=>?_⟩
 ·exact⟨G.noB,x.2.i,by unfold G.fI;rw[if_pos q];rfl,Nat.le_refl _,hi,Nat.zero_le _,rfl,Mv.refl L⟩
 have eC:G.fI s tg x=(G.hU s (enB 60) (fun c=>G.dq c||G.eu c) x.2.i []).bind fun(o,e)=>match o with
   | none=>.no (s.size,15)
   | some l=>(G.gH s tg.name (e+1)).bind fun j=>.ok (G.mkB l,x.2.i,x.at j):=by
  unfold G.fI;rw[if_neg (by rw[q];decide)];rfl
 refine⟨b,0,rfl,?_⟩
 refine av [b] (Ac (e:=60) (fun n h=>CD) (by kernel_rfl) (by kernel_rfl) L hi hs) (by simp) (fun _ _ r=>by obtain⟨_,_,_,_,_,_,_,_,m⟩:=r;exact m.fr) (fun _ _ r=>by obtain⟨_,_,_,m⟩:=r;exact m) (fun v hv r=>?_) fun v hv r=>?_
 rotate_left
 ·obtain⟨f,e,rfl,f1⟩:=r
  exact⟨f,by rw[eC,e];rfl,rfl,f1⟩
 obtain⟨o,j,e,rfl,j1,j2,j3,j5,M⟩:=r
 have L1:=L.mv M
 rw[e]at eC
 simp only[G.Er.bind]at eC
 cases o with
 | none=>
  refine⟨_,_,rfl,b,0,rfl,_,L1.c1,ao (fun z=>absurd z (by decide)) fun _=>⟨_,eC,?_,M.fr⟩⟩
  rw[j5 rfl]
 | some l=>
  obtain⟨hj,hll⟩:=j3 l rfl
  refine⟨_,_,rfl,b,0,rfl,_,L1.c1,ao (fun _=>⟨rfl,b,0,rfl,_,L1.c1,b,0,rfl,L1.cell,L1.fr,?_⟩) fun z=>absurd z (by decide)⟩
  rw[wrN (by omega)]
  intro hv3
  have M3:Mv b h hv3 (j+1):=M.trans (Mv.to L1 (j+1))
  have L3:=L.mv M3
  clear_value hv3
  refine⟨[b],by simp,b,0,rfl,t,0,rfl,_,M3.fr.cell c0 (by simpa using ht),?_⟩
  refine av [b] (Aa L3 (by omega) hs) (by simp) (fun _ _ r=>by obtain⟨_,_,_,_,_,m⟩:=r;exact m.fr) (fun _ _ r=>by obtain⟨_,_,_,m⟩:=r;exact m) (fun v hv4 r=>?_) fun v hv4 r=>?_
  ·obtain⟨k,e2,k1,k2,rfl,M4⟩:=r
   rw[e2]at eC
   exact⟨rfl,M4.fr,G.mkB l,k,eC,by omega,k2,by show l.toArray.size<=_;rw[List.size_toArray];omega,rfl,M3.trans M4⟩
  ·obtain⟨f,e2,rfl,f4⟩:=r
   rw[e2]at eC
   exact⟨f,eC,rfl,M3.fr.trans f4⟩
def lM (gl:GL) (rd:ByteArray->Option (Nat × Nat)) (cl:Nat->Nat):Prop:=
 ∀(says:ByteArray) (a:Nat) (h:ab),Gl gl h->says.size<=262144->G.oK rd cl says a≠ .un->
  az Tryz.prog 234 #[.string says,.int .i64 (a:Int)] h (fun v h'=>∃x,G.oK rd cl says a= .ok x/\v= .float .f64 x/\Fr [] h h') (fun v h'=>∃e,G.oK rd cl says a= .no e/\v=flx e/\Fr [] h h')
theorem nQ :lM gl (fun _=>none) cl:=fun says a h g hs hu=>absurd rfl hu
def sJ (gl:GL) (b:Nat) (s:ByteArray) (mo:Option Nat) (fs:Fs) (ms:Ms) (I:G.Xs->Prop) (F:Fn) (X Y:Array Value) (k:ByteArray->Nat->G.Xd->G.Er G.Xd):Prop:=
 ∀(says:ByteArray) (a:Nat) (x:G.Xs) (A:XA) (h:ab),Hp h (chX gl b s mo fs ms A x)->I x->says.size<=262144->k says a x.2≠ .un->
  CV F X Y [.string says,.int .i64 (a:Int)] h (fun v h'=>∃σ',k says a x.2= .ok σ'/\v= .tuple #[]/\Sq h (chX gl b s mo fs ms A x) h' (chX gl b s mo fs ms A (x.1,σ'))/\I (x.1,σ')/\σ'.i=x.2.i)
   (fun v h'=>∃e,k says a x.2= .no e/\v=flx e/\Fr (aA (chX gl b s mo fs ms A x)) h h')
def ID (s:ByteArray) (node:Bool) (v:Nat) (x:G.Xs):Prop:=RX s x.2/\(node=true->v<x.2.n)/\(node=false->v<x.2.weights.length)/\x.1.Nodup
theorem lvD (s:ByteArray) (node:Bool) (v:Nat):LvI s (ID s node v):=⟨fun x j r hj=>⟨RX.at r.1 hj,r.2.1,r.2.2.1,r.2.2.2⟩,fun x r=>r.1.i⟩
theorem nfx {A:XA} {x:G.Xs} {h0 h:ab} {M:List Nat} (Y:Sy h0 M h (chX gl b s mo fs ms A x)) {y o:Nat} {u:Value} (hy:(y,o,u)∈fs) {c:Ck} {j:Nat} (hj:(chX gl b s mo fs ms A x)[j]? =some c) (h8:j≠8) {z:Nat} (hz:z∈c.own):z≠y:=by
 rintro rfl
 exact(Y.hp.ap j 8 _ _ h8 hj rfl z hz).2 (List.mem_append_left _ (List.mem_map.2 ⟨_,hy,rfl⟩))
theorem yl {v yr yv i1 i2:Nat} (hr:fs[i1]? =some (yr,0,ptr b)) (hv:fs[i2]? =some (yv,0,.int .i64 (v:Int))):sJ gl b s mo fs ms (ID s true v) (.func 232) #[] #[ptr yr,ptr yv] (G.dx rd cl 1 v):=by
 intro says a x A h H ix hs hu
 generalize hC:chX gl b s mo fs ms A x=C at H ⊢
 have Q:Sq h C h (chX gl b s mo fs ms A x):=by rw[hC];exact Sq.start H
 have Y:=Q.sy
 refine CV.up (aA C) (by kernel_rfl) ?_ (fun v h' r=>by obtain⟨_,_,_,m,_⟩:=r;exact m.fr) fun v h' r=>by obtain⟨_,_,_,m⟩:=r;exact m
 show az Tryz.prog 232 #[.string says,.int .i64 (a:Int),ptr yr,ptr yv] h _ _
 apply vP
 unfold DE
 have eT:G.dx rd cl 1 v says a x.2=G.bx (decide (says.size<=256)) (a,23) (G.bx (says.data.toList.all fun c=>G.dq c.toNat) (a,25) (.ok {x.2 with labels:=x.2.labels.set v says,h0:=true})):=rfl
 have es:decide (((says.size:Nat):Int)<=(256:Int))=decide (says.size<=256):=bS (by simp;omega)
 rw[es]
 refine ao (fun q1=>⟨rfl,?_⟩) fun q1=>⟨_,by rw[eT,q1];rfl,rfl,Q.fr⟩
 rw[q1]at eT
 simp only[G.bx]at eT
 have q1:=of_decide_eq_true q1
 have hlen:says.data.toList.length=says.size:=by rw[Array.length_toList];rfl
 refine⟨fun l h'=>∃k:Nat,l=[.int .i64 (k:Int)]/\k<=says.size/\h'=h/\((says.data.toList.take k).all fun c=>G.dq c.toNat)=true,mI says.size,⟨0,rfl,Nat.zero_le _,rfl,rfl⟩,?_⟩
 rintro z hv2 ⟨k,e,hk,rfl,hp⟩
 cases e
 refine af (fun q2=>?_) fun q2=>?_
 ·have hk2:k<says.size:=by omega
  obtain⟨c,hc,-⟩:=get_at hk2
  refine⟨by omega,by omega,c,by rw[Int.toNat_natCast];exact hc,?_⟩
  have hcl:says.data.toList[k]? =some c:=by
   rw[Array.getElem?_toList]
   exact hc
  rw[wrN (by omega)]
  refine di su ⟨_,rfl,ao (fun q3=>⟨rfl,⟨k+1,rfl,by omega,rfl,?_⟩,by simp only[mI];omega⟩) fun q3=>⟨_,?_,rfl,Q.fr⟩⟩
  ·rw[dj hcl,List.all_append,hp]
   simp[q3]
  ·have:(says.data.toList.all fun c=>G.dq c.toNat)=false:=by
    rw[List.all_eq_false]
    exact⟨c,List.mem_of_getElem? hcl,by simp[q3]⟩
   rw[eT,this]
 ·rw[List.take_of_length_le (by omega)]at hp
  rw[hp]at eT
  have hll:=ix.1.l
  have hvn:=ix.2.1 rfl
  obtain⟨g,hg,gown,-⟩:=Y.atS 3 rfl (i:=(v:Int)) (by omega) (by omega)
  have cR:ac hv2 yr 0=some (ptr b):=Y.factY 8 rfl i1 hr
  have cV:ac hv2 yv 0=some (.int .i64 (v:Int)):=Y.factY 8 rfl i2 hv
  have bne:b≠yr:=nfx Y (List.mem_of_getElem? hr) (j:=0) rfl (by decide) (by simp[Ck.ob])
  have gne:g≠yr:=nfx Y (List.mem_of_getElem? hr) (j:=3) rfl (by decide) gown
  have bg:b≠g:=fun q=>(Y.hp.ap 3 0 _ _ (by decide) rfl rfl g gown).1 (by simp[Ck.ob,q])
  have c2:ac hv2 g (0+v*1)=_:=Y.cellS 3 rfl hg (i:=v) (t:=0) (List.getElem?_eq_getElem (by omega)) rfl
  refine⟨[b,g],by simp,yr,0,rfl,_,cR,b,0,rfl,_,_,_,Y.cellO 0 rfl 12 rfl,yv,0,rfl,_,cV,yr,0,rfl,by simp;exact⟨bne.symm,gne.symm⟩,_,cR,g,0,hg,by omega,by omega,b,0,rfl,⟨_,c2⟩,Y.freeS 3 rfl hg _,?_⟩
  rw[Int.toNat_natCast]
  intro hv5
  have Y3:=Y.st1 3 rfl hg (i:=v) says (by omega) rfl
  have f3:Fr [b,g] hv2 hv5:=(Fr.refl _ _).hsetr (.inr (by simp))
  refine⟨f3,⟨_,Y3.cellO 0 rfl 15 rfl⟩,Y3.freeO 0 rfl 15,?_⟩
  intro hv6
  have Y4:=Y3.stO 0 rfl 15 (.bool true)
  refine⟨f3.hsetr (.inr (by simp)),{x.2 with labels:=x.2.labels.set v says,h0:=true},eT,rfl,?_,?_,rfl⟩
  ·have l1:(x.2.labels.set v says).length=x.2.labels.length:=by simp
   refine⟨?_,Q.ri⟩
   show Sy hv2 (aA C) hv6 (chX gl b s mo fs ms A (x.1,{x.2 with labels:=x.2.labels.set v says,h0:=true}))
   unfold chX stX rx
   simp only[l1]
   exact Y4
  ·exact⟨⟨ix.1.i,ix.1.n,by simpa using ix.1.l,ix.1.p,ix.1.dn,ix.1.dv,ix.1.w,ix.1.e,ix.1.kn⟩,ix.2.1,ix.2.2.1,ix.2.2.2⟩
theorem ym (hn:lM gl rd cl) {v yr yv i1 i2:Nat} (hr:fs[i1]? =some (yr,0,ptr b)) (hv:fs[i2]? =some (yv,0,.int .i64 (v:Int))):sJ gl b s mo fs ms (ID s false v) (.func 236) #[] #[ptr yr,ptr yv] (G.dx rd cl 4 v):=by
 intro says a x A h H ix hs hu
 generalize hC:chX gl b s mo fs ms A x=C at H ⊢
 have Q:Sq h C h (chX gl b s mo fs ms A x):=by rw[hC];exact Sq.start H
 refine CV.up (aA C) (by kernel_rfl) ?_ (fun v h' r=>by obtain⟨_,_,_,m,_⟩:=r;exact m.fr) fun v h' r=>by obtain⟨_,_,_,m⟩:=r;exact m
 show az Tryz.prog 236 #[.string says,.int .i64 (a:Int),ptr yr,ptr yv] h _ _
 apply vS
 unfold DH
 have eT:G.dx rd cl 4 v says a x.2=(G.oK rd cl says a).bind fun z=>.ok {x.2 with weights:=x.2.weights.set v z,h2:=true}:=rfl
 have cR:ac h yr 0=some (ptr b):=Q.sy.factY 8 rfl i1 hr
 have cV:ac h yv 0=some (.int .i64 (v:Int)):=Q.sy.factY 8 rfl i2 hv
 have hvw:=ix.2.2.1 rfl
 obtain⟨g,hg,gown,-⟩:=Q.sy.atS 5 rfl (i:=(v:Int)) (by omega) (by omega)
 have bne:b≠yr:=nfx Q.sy (List.mem_of_getElem? hr) (j:=0) rfl (by decide) (by simp[Ck.ob])
 have gne:g≠yr:=nfx Q.sy (List.mem_of_getElem? hr) (j:=5) rfl (by decide) gown
 refine⟨[],[b,g],by simp,by simp,yr,0,rfl,by simp,_,cR,b,0,rfl,by simp,_,_,_,Q.sy.cellO 0 rfl 14 rfl,yv,0,rfl,by simp,_,cV,yr,0,rfl,by simp;exact⟨bne.symm,gne.symm⟩,_,cR,b,0,rfl,?_⟩
 have hun:G.oK rd cl says a≠ .un:=by
  intro z
  rw[eT,z]at hu
  exact hu rfl
 refine av [] (hn says a h (Q.sy.glo 7 rfl) hs hun) (by simp) (fun _ _ r=>by obtain⟨_,_,_,m⟩:=r;exact m) (fun _ _ r=>by obtain⟨_,_,_,m⟩:=r;exact m) (fun w hv2 r=>?_) fun w hv2 r=>?_
 rotate_left
 ·obtain⟨e,q,rfl,f⟩:=r
  exact⟨e,by rw[eT,q];rfl,rfl,(Q.gr f).fr⟩
 obtain⟨z,q,rfl,f2⟩:=r
 rw[q]at eT
 have Q2:=Q.gr f2
 have Y2:=Q2.sy
 have c2:ac hv2 g (0+v*1)=_:=Y2.cellS 5 rfl hg (i:=v) (t:=0) (List.getElem?_eq_getElem (by omega)) rfl
 refine⟨z,rfl,f2,g,0,hg,by omega,by omega,⟨_,c2⟩,Y2.freeS 5 rfl hg _,?_⟩
 rw[Int.toNat_natCast]
 intro hv5
 have Y3:=Y2.st1 5 rfl hg (i:=v) z (by omega) rfl
 have f3:Fr [b,g] h hv5:=f2.nil.hsetr (.inr (by simp))
 refine⟨f3,⟨_,Y3.cellO 0 rfl 17 rfl⟩,Y3.freeO 0 rfl 17,?_⟩
 intro hv6
 have Y4:=Y3.stO 0 rfl 17 (.bool true)
 refine⟨f3.hsetr (.inr (by simp)),{x.2 with weights:=x.2.weights.set v z,h2:=true},eT,rfl,?_,?_,rfl⟩
 ·have l1:(x.2.weights.set v z).length=x.2.weights.length:=by simp
  refine⟨?_,Q2.ri⟩
  show Sy h (aA C) hv6 (chX gl b s mo fs ms A (x.1,{x.2 with weights:=x.2.weights.set v z,h2:=true}))
  unfold chX stX rx
  simp only[l1]
  exact Y4
 ·exact⟨⟨ix.1.i,ix.1.n,ix.1.l,ix.1.p,ix.1.dn,ix.1.dv,by simpa using ix.1.w,by simpa using ix.1.e,ix.1.kn⟩,ix.2.1,by simpa using ix.2.2.1,ix.2.2.2⟩
theorem yn {α:Type} {l:List α} {i:Nat} {x:α} {f:α->α} (hx:l[i]? =some x):l.modify i f=l.set i (f x):=by
 apply List.ext_getElem?
 grind
theorem sK (hn:lM gl rd cl) {v yr yv i1 i2:Nat} (y:Bool) (hr:fs[i1]? =some (yr,0,ptr b)) (hv:fs[i2]? =some (yv,0,.int .i64 (v:Int))):sJ gl b s mo fs ms (ID s true v) (.func (if y=true then 235 else 233)) #[] #[ptr yr,ptr yv] (G.dx rd cl (2+y.toNat) v):=by
 intro says a x A h H ix hs hu
 generalize hC:chX gl b s mo fs ms A x=C at H ⊢
 have Q:Sq h C h (chX gl b s mo fs ms A x):=by rw[hC];exact Sq.start H
 refine CV.up (aA C) (by cases y<;>kernel_rfl) ?_ (fun v h' r=>by obtain⟨_,_,_,m,_⟩:=r;exact m.fr) fun v h' r=>by obtain⟨_,_,_,m⟩:=r;exact m
 have eT:G.dx rd cl (2+y.toNat) v says a x.2=(G.oK rd cl says a).bind fun z=>.ok {x.2 with spots:=x.2.spots.modify v fun p=>if y=true then(p.1,z)else(z,p.2),h1:=true}:=by cases y<;>rfl
 have cR:ac h yr 0=some (ptr b):=Q.sy.factY 8 rfl i1 hr
 have cV:ac h yv 0=some (.int .i64 (v:Int)):=Q.sy.factY 8 rfl i2 hv
 have hvn:=ix.2.1 rfl
 have hsl:=ix.1.p
 obtain⟨g,hg,gown,-⟩:=Q.sy.atS 4 rfl (i:=(v:Int)) (by omega) (by omega)
 have bne:b≠yr:=nfx Q.sy (List.mem_of_getElem? hr) (j:=0) rfl (by decide) (by simp[Ck.ob])
 have gne:g≠yr:=nfx Q.sy (List.mem_of_getElem? hr) (j:=4) rfl (by decide) gown
 have hun:G.oK rd cl says a≠ .un:=by
  intro z
  rw[eT,z]at hu
  exact hu rfl
 obtain⟨p,hp⟩:∃p,x.2.spots[v]? =some p:=⟨_,List.getElem?_eq_getElem (by omega)⟩
 have ty:y.toNat<2:=by cases y<;>decide
 obtain⟨u,hu2⟩:∃u,(eFF.enc p)[y.toNat]? =some u:=by cases y<;>exact⟨_,rfl⟩
 have fin:∀{z:Nat} {hv2:ab},Fr [] h hv2->G.dx rd cl (2+y.toNat) v says a x.2= .ok {x.2 with spots:=x.2.spots.modify v fun p=>if y=true then(p.1,z)else(z,p.2),h1:=true}->
   (∃u,ac hv2 g (0+v*2+y.toNat)=some u)/\aq hv2 g (0+v*2+y.toNat)=true/\Fr [b,g] h (am hv2 g (0+v*2+y.toNat) (.float .f64 z))/\(∃u,ac (am hv2 g (0+v*2+y.toNat) (.float .f64 z)) b (0+15+1)=some u)/\aq (am hv2 g (0+v*2+y.toNat) (.float .f64 z)) b (0+15+1)=true/\
   Fr [b,g] h (am (am hv2 g (0+v*2+y.toNat) (.float .f64 z)) b (0+15+1) (.bool true))/\
   ∃σ',G.dx rd cl (2+y.toNat) v says a x.2= .ok σ'/\Sq h C (am (am hv2 g (0+v*2+y.toNat) (.float .f64 z)) b (0+15+1) (.bool true)) (chX gl b s mo fs ms A (x.1,σ'))/\ID s true v (x.1,σ')/\σ'.i=x.2.i:=by
  intro z hv2 f2 eT
  have Q2:=Q.gr f2
  have Y2:=Q2.sy
  have c2:ac hv2 g (0+v*2+y.toNat)=some u:=Y2.cellS 4 rfl hg hp hu2
  have Y3:=Y2.stS 4 rfl hg (i:=v) (t:=y.toNat) (x:=p) (if y=true then(p.1,z)else(z,p.2)) (v:=.float .f64 z) hp ty (by cases y<;>rfl)
  have f3:Fr [b,g] h (am hv2 g (0+v*2+y.toNat) (.float .f64 z)):=f2.nil.hsetr (.inr (by simp))
  have Y4:=Y3.stO 0 rfl 16 (.bool true)
  refine⟨⟨_,c2⟩,Y2.freeS 4 rfl hg _,f3,⟨_,Y3.cellO 0 rfl 16 rfl⟩,Y3.freeO 0 rfl 16,f3.hsetr (.inr (by simp)),_,eT,⟨?_,Q2.ri⟩,?_,rfl⟩
  ·rw[yn hp]
   have l1:(x.2.spots.set v (if y=true then(p.1,z)else(z,p.2))).length=x.2.spots.length:=by simp
   show Sy h (aA C) _ (chX gl b s mo fs ms A (x.1,{x.2 with spots:=x.2.spots.set v (if y=true then(p.1,z)else(z,p.2)),h1:=true}))
   unfold chX stX rx
   simp only[l1]
   exact Y4
  ·exact⟨⟨ix.1.i,ix.1.n,ix.1.l,by simpa using ix.1.p,ix.1.dn,ix.1.dv,ix.1.w,ix.1.e,ix.1.kn⟩,ix.2.1,ix.2.2.1,ix.2.2.2⟩
 have bad:∀{w:Value} {hv2:ab},(∃e,G.oK rd cl says a= .no e/\w=flx e/\Fr [] h hv2)->∃e,G.dx rd cl (2+y.toNat) v says a x.2= .no e/\w=flx e/\Fr (aA C) h hv2:=by
  rintro w hv2 ⟨e,q,rfl,f⟩
  exact⟨e,by rw[eT,q];rfl,rfl,(Q.gr f).fr⟩
 have nc:=hn says a h (Q.sy.glo 7 rfl) hs hun
 cases y with
 | false=>
  show az Tryz.prog 233 #[.string says,.int .i64 (a:Int),ptr yr,ptr yv] h _ _
  apply vQ
  unfold DF
  refine⟨[],[b,g],by simp,by simp,yr,0,rfl,by simp,_,cR,b,0,rfl,by simp,_,_,_,Q.sy.cellO 0 rfl 13 rfl,yv,0,rfl,by simp,_,cV,yr,0,rfl,by simp;exact⟨bne.symm,gne.symm⟩,_,cR,b,0,rfl,?_⟩
  refine av [] nc (by simp) (fun _ _ r=>by obtain⟨_,_,_,m⟩:=r;exact m) (fun _ _ r=>by obtain⟨_,_,_,m⟩:=r;exact m) (fun w hv2 r=>?_) fun w hv2 r=>bad r
  obtain⟨z,q,rfl,f2⟩:=r
  rw[q]at eT
  obtain⟨k1,k2,k3,k4,k5,k6,σ',k7,k8,k9,k10⟩:=fin f2 eT
  exact⟨z,rfl,f2,g,0,hg,by omega,by omega,k1,k2,k3,k4,k5,k6,σ',k7,rfl,k8,k9,k10⟩
 | true=>
  show az Tryz.prog 235 #[.string says,.int .i64 (a:Int),ptr yr,ptr yv] h _ _
  apply vR
  unfold DG
  refine⟨[],[b,g],by simp,by simp,yr,0,rfl,by simp,_,cR,b,0,rfl,by simp,_,_,_,Q.sy.cellO 0 rfl 13 rfl,yv,0,rfl,by simp,_,cV,yr,0,rfl,by simp;exact⟨bne.symm,gne.symm⟩,_,cR,b,0,rfl,?_⟩
  refine av [] nc (by simp) (fun _ _ r=>by obtain⟨_,_,_,m⟩:=r;exact m) (fun _ _ r=>by obtain⟨_,_,_,m⟩:=r;exact m) (fun w hv2 r=>?_) fun w hv2 r=>bad r
  obtain⟨z,q,rfl,f2⟩:=r
  rw[q]at eT
  obtain⟨k1,k2,k3,k4,k5,k6,σ',k7,k8,k9,k10⟩:=fin f2 eT
  exact⟨z,rfl,f2,g,0,hg,by omega,by omega,k1,k2,k3,k4,k5,k6,σ',k7,rfl,k8,k9,k10⟩
end
theorem xW {h:ab} {m:Nat} {ks:List (List UInt8)} (nm:ByteArray) (hm:bf h m=some (Ent (ek ks),(ek ks).length)):
  bf (bq h m ((Ent (ek ks)).push ⟨.string nm,.int .i64 1,(ek ks).length⟩) ((ek ks).length+1)) m=some (Ent (ek (ks++[nm.data.toList])),(ek (ks++[nm.data.toList])).length):=by
 have e:(Ent (ek ks)).push ⟨.string nm,.int .i64 1,(ek ks).length⟩=Ent (ek (ks++[nm.data.toList])):=by
  rw[eV];simp[ek,kL]
 have el:(ek ks).length+1=(ek (ks++[nm.data.toList])).length:=by simp[ek]
 rw[e,el]
 exact kg (lk hm) _ _
theorem uS {ks:List (List UInt8)} {nm:ByteArray} {e:MapEntry} (he:e∈(Ent (ek ks)).toList) (hk:e.key= .string nm):nm.data.toList∈ks/\e.val= .int .i64 1:=by
 obtain⟨j,p,h3,rfl⟩:=dh he
 obtain⟨k,h4,rfl⟩:=oE h3
 have hk:k=nm.data.toList:=gF.1 hk
 subst hk
 exact⟨List.mem_of_getElem? h4,rfl⟩
theorem uT {ks:List (List UInt8)} {nm:ByteArray} (hin:nm.data.toList∈ks):∃e∈(Ent (ek ks)).toList,e.key= .string nm:=by
 obtain⟨j,hj⟩:=List.mem_iff_getElem?.1 hin
 refine⟨⟨.string (G.mkB nm.data.toList),.int .i64 1,j⟩,Array.mem_def.1 (Array.mem_of_getElem? (i:=j) ?_),gF.2 rfl⟩
 rw[fE]
 simp[ek,hj]
theorem xZ {h:ab} {m:Nat} {ks:List (List UInt8)} (nm:ByteArray) (hm:bf h m=some (Ent (ek ks),(ek ks).length)) (hn:ks.Nodup) {j:Nat} {ev:MapEntry} (hj:(Ent (ek ks))[j]? =some ev) (hk:ev.key= .string nm):
  ∃es,bf (bq h m ((Ent (ek ks)).modify j fun e=>{e with key:=.string nm,val:=.int .i64 2}) (ek ks).length) m=some (es,(ek ks).length)/\bm bz es/\(∀e∈es.toList,e.key= .string nm->e.val= .int .i64 2)/\∃e∈es.toList,e.key= .string nm:=by
 have hp:=kg (lk hm) (Ent ((ek ks).modify j fun _=>(.string nm,.int .i64 2))) (ek ks).length
 have hj:ks[j]? =some nm.data.toList:=by
  rw[fE]at hj
  cases e:(ek ks)[j]? with
  | none=>rw[e]at hj;cases hj
  | some p=>
   rw[e]at hj
   obtain⟨k2,h7,rfl⟩:=oE e
   simp only[Option.map_some,Option.some.injEq]at hj
   subst hj
   rw[h7,gF.1 hk]
 have at_:∀{i:Nat} {p:Value × Value},((ek ks).modify j fun _=>(Value.string nm,Value.int .i64 2))[i]? =Option.some p->(i=j/\p=(.string nm,.int .i64 2))\/(i≠j/\∃k,ks[i]? =Option.some k/\p=(.string (G.mkB k),.int .i64 1)):=by
  intro i p hp
  rw[List.getElem?_modify]at hp
  by_cases q:j=i
  ·subst q
   cases e:(ek ks)[j]? with
   | none=>rw[e]at hp;simp at hp
   | some y=>rw[e]at hp;simp at hp;exact .inl ⟨rfl,hp.symm⟩
  ·cases e:(ek ks)[i]? with
   | none=>rw[e]at hp;simp at hp
   | some y=>
    rw[e]at hp
    simp only[if_neg q,Option.map_eq_map,Option.map_some,id_eq,Option.some.injEq]at hp
    subst hp
    obtain⟨k,h3,h4⟩:=oE e
    exact .inr ⟨fun z=>q z.symm,k,h3,h4⟩
 rw[xT]
 refine⟨_,hp,?_,fun ev he hk=>?_,⟨.string nm,.int .i64 2,j⟩,Array.mem_def.1 (Array.mem_of_getElem? (i:=j) ?_),rfl⟩
 ·intro e he
  obtain⟨i,p,h1,rfl⟩:=dh he
  rcases at_ h1 with⟨_,rfl⟩ | ⟨_,k,_,rfl⟩<;>rfl
 ·obtain⟨i,p,h3,rfl⟩:=dh he
  rcases at_ h3 with⟨_,rfl⟩ | ⟨q,k,h4,rfl⟩
  ·rfl
  ·have:k=nm.data.toList:=gF.1 hk
   subst this
   exact absurd (kK hn h4 hj) q
 ·rw[fE,List.getElem?_modify]
  have:(ek ks)[j]? =Option.some (.string (G.mkB nm.data.toList),.int .i64 1):=by simp[ek,hj]
  rw[this]
  simp
theorem Sy.seeY {h0 h h':ab} {M:List Nat} {cs:List Ck} {fs:Fs} {ms:Ms} {m:Nat} {ks ks':List (List UInt8)} (Y:Sy h0 M h cs) (k:Nat) (hk:cs[k]? =some (Ck.fy (some (m,ks)) fs ms)) (f:Fr [m] h h') (hm:bf h' m=some (Ent (ek ks'),(ek ks').length)) (hd:∀p∈ms,p.1≠m):
  Sy h0 M h' (cs.set k (Ck.fy (some (m,ks')) fs ms)):=by
 refine Y.mut hk _ f.size (fun d hd hn=>f.blk d hd (by simpa[Ck.fy]using hn)) ⟨fun p hp=>?_,fun x hx=>?_,fun x hx=>?_⟩ (fun d hd=>.inl hd) (fun d hd=>.inr (.inl hd))
 ·cases hp;exact hm
 ·have h1:=(Y.ok hk).2.1 x hx
  have h2:=im (Y.mapY k hk) h1
  rw[cj (f.blk x.1 (aO h1) (by simpa using fun q=>h2 q.symm))]
  exact h1
 ·have h1:=(Y.ok hk).2.2 x hx
  exact gO ((f.blk x.1 (lk h1) (by simpa using hd x hx)).trans (bd h1))
theorem gi {l:List (ByteArray × ByteArray × ByteArray)} (hn:(l.map fun k=>k.1.data.toList).Nodup) {k:ByteArray × ByteArray × ByteArray} {x:ByteArray} (hk:k∈l) (h:G.eqB k.1 x=true):(l.find? fun k=>G.eqB k.1 x)=some k:=by
 cases hf:l.find? fun k=>G.eqB k.1 x with
 | none=>exact absurd h (by simpa using List.find?_eq_none.1 hf k hk)
 | some k2=>
  have h2:=List.find?_some hf
  obtain⟨i,hi⟩:=List.mem_iff_getElem?.1 hk
  obtain⟨j,hj⟩:=List.mem_iff_getElem?.1 (List.mem_of_find?_eq_some hf)
  rw[cJ]at h h2
  have e:=kK (p:=i) (q:=j) (x:=x.data.toList) hn (by rw[List.getElem?_map,hi,Option.map_some,of_decide_eq_true h]) (by rw[List.getElem?_map,hj,Option.map_some,of_decide_eq_true h2])
  subst e
  rw[hi]at hj
  exact hj.symm
theorem uU {l:List (ByteArray × ByteArray × ByteArray)} {x:ByteArray} (h:(l.any fun k=>G.eqB k.1 x)=false):(l.find? fun k=>G.eqB k.1 x)=none:=by
 rw[List.any_eq_false]at h
 exact List.find?_eq_none.2 h
section
variable {gl:GL} {b:Nat} {s:ByteArray} {mo:Option Nat} {fs:Fs} {ms:Ms} {rd:ByteArray->Option (Nat × Nat)} {cl:Nat->Nat}
def aM (node:Bool) (yr yv:Nat):List (Value × Value):=
 if node=true then [(.string (G.mkB G.uL),.func (.func 232) #[] #[ptr yr,ptr yv]),(.string (G.mkB G.xX),.func (.func 233) #[] #[ptr yr,ptr yv]),(.string (G.mkB G.xY),.func (.func 235) #[] #[ptr yr,ptr yv])]
 else [(.string (G.mkB G.so),.func (.func 236) #[] #[ptr yr,ptr yv])]
theorem pN (node:Bool) (yr yv:Nat):bm bz (Ent (aM node yr yv)):=by
 intro e he
 obtain⟨j,p,h1,rfl⟩:=dh he
 cases node<;>simp only[aM]at h1
 ·match j,h1 with
  | 0,h1=>cases h1;rfl
 ·match j,h1 with
  | 0,h1=>cases h1;rfl
  | 1,h1=>cases h1;rfl
  | 2,h1=>cases h1;rfl
theorem tw (hn:lM gl rd cl) {node:Bool} {v yr yv i1 i2:Nat} (hr:fs[i1]? =some (yr,0,ptr b)) (hv:fs[i2]? =some (yv,0,.int .i64 (v:Int))) {e:MapEntry} {nm:ByteArray} (he:e∈(Ent (aM node yr yv)).toList) (hk:e.key= .string nm):
  ∃F,e.val= .func F #[] #[ptr yr,ptr yv]/\G.ey node nm.data.toList≠0/\sJ gl b s mo fs ms (ID s node v) F #[] #[ptr yr,ptr yv] (G.dx rd cl (G.ey node nm.data.toList) v):=by
 obtain⟨j,p,h1,rfl⟩:=dh he
 cases node<;>simp only[aM]at h1
 ·match j,h1 with
  | 0,h1=>
   cases h1
   rw[<-gF.1 hk]
   exact⟨_,rfl,by decide,ym hn hr hv⟩
 ·match j,h1 with
  | 0,h1=>
   cases h1
   rw[<-gF.1 hk]
   exact⟨_,rfl,by decide,yl hr hv⟩
  | 1,h1=>
   cases h1
   rw[<-gF.1 hk]
   exact⟨_,rfl,by decide,sK hn false hr hv⟩
  | 2,h1=>
   cases h1
   rw[<-gF.1 hk]
   exact⟨_,rfl,by decide,sK hn true hr hv⟩
theorem tz {node:Bool} {yr yv:Nat} {nm:ByteArray} (h:∀e∈(Ent (aM node yr yv)).toList,e.key≠ .string nm):G.ey node nm.data.toList=0:=by
 have no:∀(j:Nat) (k:List UInt8) (w:Value),(aM node yr yv)[j]? =some (.string (G.mkB k),w)->nm.data.toList≠k:=by
  intro j k w hj e
  exact h ⟨.string (G.mkB k),w,j⟩ (Array.mem_def.1 (Array.mem_of_getElem? (i:=j) (by rw[fE,hj];rfl))) (gF.2 e.symm)
 unfold G.ey
 cases node with
 | false=>simp only[Bool.false_eq_true,if_false];rw[if_neg (no 0 _ _ rfl)]
 | true=>simp only[if_true];rw[if_neg (no 0 _ _ rfl),if_neg (no 1 _ _ rfl),if_neg (no 2 _ _ rfl)]
end
end Go.Proofs.YtlflalecmhgmjaaGreatDoor.N
