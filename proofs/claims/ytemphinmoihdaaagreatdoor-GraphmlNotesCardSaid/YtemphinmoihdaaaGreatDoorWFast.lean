/- Small facts for readFloat. Conditions: none. -/
import Derived.Test.YtemphinmoihdaaaGreatDoorWPre
set_option linter.unusedVariables false
set_option linter.unusedSimpArgs false
open Go.IntKind (i64 u64 u8 i32)
namespace Go.Proofs.YtemphinmoihdaaaGreatDoor.N
open Go.X Go.Proofs.YtemphinmoihdaaaGreatDoor
set_option maxRecDepth 100000
set_option maxHeartbeats 1000000
theorem vh (s:ByteArray) (i:Nat):s[i]? =s.data.toList[i]? :=by
 rw[getElem?_def]
 by_cases h:i<s.size
 ·rw[dif_pos h]
  have h2:i<s.data.toList.length:=h
  rw[List.getElem?_eq_getElem h2];rfl
 ·rw[dif_neg h]
  exact(List.getElem?_eq_none (by exact Nat.le_of_not_lt h)).symm
def dG (l:QS):Bool × Nat:=
 match l with
 | c::_=>if c=43 then(false,1)else if c=45 then(true,1)else(false,0)
 | []=>(false,0)
theorem OQ :∀n:Fin 256,bits .or .u8 ((n.val:Nat):Int) 32=120->n.val=120\/n.val=88:=by decide+kernel
theorem Qp (c:UInt8) (h:bits .or .u8 ((UInt8.toNat c:Nat):Int) 32=120):c=120\/c=88:=
 (OQ ⟨c.toNat,c.toNat_lt⟩ h).imp (fun e=>UInt8.toNat_inj.1 e) fun e=>UInt8.toNat_inj.1 e
theorem KU {c:Int} {R:Int->Prop} (r:R (bits .or .u8 c 32)):I2 c R:=by
 apply N9;exact r
theorem OS {c:Int} {h:ab}:QH 160 #[QP c] h fun v h'=>v= QP (bits .or .u8 c 32)/\Fr [] h h':=
 (KU (R:=fun r=>r=bits .or .u8 c 32) rfl h (Hp.nil h)).mono fun v h' ⟨r,Y,e,q⟩=>⟨by rw[e,q],Y.fr⟩
end Go.Proofs.YtemphinmoihdaaaGreatDoor.N
/- readFloat as a function: digits scanned, the exponent read. Conditions: none. -/
namespace Go.Proofs.YtemphinmoihdaaaGreatDoor.N
open Go.X Go.Proofs.YtemphinmoihdaaaGreatDoor
set_option maxRecDepth 100000
set_option maxHeartbeats 2000000
structure RS where
 m:Nat
 tr:Bool
 dot:Bool
 dig:Bool
 nd:Nat
 nm:Nat
 dp:Int
def RS0 :RS:=⟨0,false,false,false,0,0,0⟩
def bz (st:RS) (d:Nat):RS:=
 if d=0/\st.nd=0 then⟨st.m,st.tr,st.dot,true,st.nd,st.nm,st.dp-1⟩
 else if st.nm<19 then⟨st.m*10+d,st.tr,st.dot,true,st.nd+1,st.nm+1,st.dp⟩
 else⟨st.m,st.tr||decide (d≠0),st.dot,true,st.nd+1,st.nm,st.dp⟩
def gi (st:RS):RS:=⟨st.m,st.tr,true,st.dig,st.nd,st.nm,st.nd⟩
def isD (c:UInt8):Bool:=decide (48<=c.toNat)&&decide (c.toNat<=57)
def scan :RS->QS->RS × QS
 | st,[]=>(st,[])
 | st,c::r=>if c=46 then(if st.dot then(st,c::r)else scan (gi st) r)else if isD c then scan (bz st (c.toNat-48)) r else(st,c::r)
def gj (ds:QS):Nat:=ds.foldl (fun a c=>a*10+(c.toNat-48)) 0
def jH :QS->Int
 | []=>0
 | _::r=>if r.head? =some 43 then gj r.tail else if r.head? =some 45 then-(gj r.tail:Int)else gj r
def jd (st:RS) (rest:QS):Int:=if st.m≠0 then(if st.dot then st.dp else(st.nd:Int))+jH rest-st.nm else 0
structure Inv (l:QS) (stF:RS) (rest:QS) (st:RS) (k:Nat):Prop where
 sc:scan st (l.drop k)=(stF,rest)
 nm:st.nm<=19
 m:st.m<10^st.nm
 nn:st.nm<=st.nd
 nd:st.nd<=k
 d0: -(k:Int)<=st.dp
 d1:st.dp<=k
 k:k<=l.length
theorem Inv.lt64 {l:QS} {stF st:RS} {rest:QS} {k:Nat} (h:Inv l stF rest st k):st.m<10000000000000000000:=by
 have:=Nat.pow_le_pow_right (n:=10) QA h.nm
 have:=h.m
 omega
theorem c95 {c:UInt8} (h:c≠95):(true==(((UInt8.toNat c:Nat):Int)==95))=false:=by
 have:c.toNat≠95:=fun e=>h (UInt8.toNat_inj.1 e)
 rw[beq_eq_false_iff_ne];intro e
 have:=(beq_iff_eq.1 e.symm)
 omega
theorem c46 (c:UInt8):(true==(((UInt8.toNat c:Nat):Int)==46))=decide (c=46):=by
 by_cases h:c=46
 ·subst h;rfl
 ·have:c.toNat≠46:=fun e=>h (UInt8.toNat_inj.1 e)
  rw[decide_eq_false h,beq_eq_false_iff_ne];intro e
  have:=(beq_iff_eq.1 e.symm)
  omega
theorem Inv.step {l:QS} {stF st:RS} {rest:QS} {k:Nat} (h:Inv l stF rest st k) {c:UInt8} (hc:l[k]? =some c) (hd:isD c=true) (h46:c≠46):Inv l stF rest (bz st (c.toNat-48)) (k+1):=by
 have hk:k<l.length:=(List.getElem?_eq_some_iff.1 hc).1
 have hdr:l.drop k=c::l.drop (k+1):=by
  rw[List.drop_eq_getElem_cons hk];congr 1;exact(List.getElem?_eq_some_iff.1 hc).2
 have hs:=h.sc
 rw[hdr]at hs
 simp only[scan,if_neg h46,hd,if_true]at hs
 simp only[isD,Bool.and_eq_true,decide_eq_true_eq]at hd
 have:=h.nm;have:=h.m;have:=h.nn;have:=h.nd;have:=h.d0;have:=h.d1
 refine⟨hs,?_,?_,?_,?_,?_,?_,hk⟩
 all_goals unfold bz
 ·split
  ·exact h.nm
  ·split
   ·show st.nm+1<=19;omega
   ·exact h.nm
 ·split
  ·exact h.m
  ·split
   ·show st.m*10+(c.toNat-48)<10^(st.nm+1)
    rw[Nat.pow_succ];omega
   ·exact h.m
 ·split
  ·exact h.nn
  ·split
   ·show st.nm+1<=st.nd+1;omega
   ·show st.nm<=st.nd+1;omega
 ·split
  ·show st.nd<=k+1;omega
  ·split
   ·show st.nd+1<=k+1;omega
   ·show st.nd+1<=k+1;omega
 ·split
  ·show-((k+1:Nat):Int)<=st.dp-1;omega
  ·split
   ·show-((k+1:Nat):Int)<=st.dp;omega
   ·show-((k+1:Nat):Int)<=st.dp;omega
 ·split
  ·show st.dp-1<=((k+1:Nat):Int);omega
  ·split
   ·show st.dp<=((k+1:Nat):Int);omega
   ·show st.dp<=((k+1:Nat):Int);omega
theorem Inv.dots {l:QS} {stF st:RS} {rest:QS} {k:Nat} (h:Inv l stF rest st k) (hc:l[k]? =some 46) (hd:st.dot=false):Inv l stF rest (gi st) (k+1):=by
 have hk:k<l.length:=(List.getElem?_eq_some_iff.1 hc).1
 have hdr:l.drop k=46::l.drop (k+1):=by
  rw[List.drop_eq_getElem_cons hk];congr 1;exact(List.getElem?_eq_some_iff.1 hc).2
 have hs:=h.sc
 rw[hdr]at hs
 simp only[scan,if_true,hd,Bool.false_eq_true,if_false]at hs
 have:=h.nd
 exact⟨hs,h.nm,h.m,h.nn,by show st.nd<=k+1;omega,by show-((k+1:Nat):Int)<=(st.nd:Int);omega,by show(st.nd:Int)<=((k+1:Nat):Int);omega,hk⟩
theorem Inv.stop {l:QS} {stF st:RS} {rest:QS} {k:Nat} (h:Inv l stF rest st k) {c:UInt8} (hc:l[k]? =some c) (hd:(c=46/\st.dot=true)\/(c≠46/\isD c=false)):st=stF/\rest=l.drop k:=by
 have hk:k<l.length:=(List.getElem?_eq_some_iff.1 hc).1
 have hdr:l.drop k=c::l.drop (k+1):=by
  rw[List.drop_eq_getElem_cons hk];congr 1;exact(List.getElem?_eq_some_iff.1 hc).2
 have hs:=h.sc
 rw[hdr]at hs ⊢
 rcases hd with⟨rfl,hd⟩ | ⟨h46,hd⟩
 ·simp only[scan,if_true,hd,Prod.mk.injEq]at hs
  exact⟨hs.1,hs.2.symm⟩
 ·simp only[scan,if_neg h46,hd,Bool.false_eq_true,if_false,Prod.mk.injEq]at hs
  exact⟨hs.1,hs.2.symm⟩
theorem Inv.fin {l:QS} {stF st:RS} {rest:QS} {k:Nat} (h:Inv l stF rest st k) (hk:¬k<l.length):st=stF/\rest=l.drop k:=by
 have hdr:l.drop k=[]:=List.drop_eq_nil_of_le Qz
 have hs:=h.sc
 rw[hdr]at hs ⊢
 simp only[scan,Prod.mk.injEq]at hs
 exact⟨hs.1,hs.2.symm⟩
structure Expo (rest:QS) (c:UInt8) (sg ds:QS):Prop where
 eq:rest=c::(sg++ds)
 e:c=101\/c=69
 sg:sg=[]\/sg=[43]\/sg=[45]
 ne:ds≠[]
 le:ds.length<=4
 dg:∀d∈ds,isD d=true
end Go.Proofs.YtemphinmoihdaaaGreatDoor.N
/- readFloat answers as the scan does, for texts of numbers. Conditions: none. -/
namespace Go.Proofs.YtemphinmoihdaaaGreatDoor.N
open Go.X Go.Proofs.YtemphinmoihdaaaGreatDoor
set_option maxRecDepth 100000
set_option maxHeartbeats 4000000
theorem Ep :∀n:Fin 256,(bits .or .u8 ((n.val:Nat):Int) 32=101) ↔ (n.val=101\/n.val=69):=by decide+kernel
theorem KV (c:UInt8):(bits .or .u8 ((UInt8.toNat c:Nat):Int) 32=101) ↔ (c=101\/c=69):=by
 have:=Ep ⟨c.toNat,c.toNat_lt⟩
 rw[this]
 exact⟨fun h=>h.imp (fun e=>UInt8.toNat_inj.1 e) fun e=>UInt8.toNat_inj.1 e,fun h=>h.imp (fun e=>by subst e;rfl) fun e=>by subst e;rfl⟩
theorem eqB {c d:UInt8}:(((UInt8.toNat c:Nat):Int)=(d.toNat:Int)) ↔ c=d:=
 ⟨fun h=>UInt8.toNat_inj.1 Qz,fun h=>by rw[h]⟩
theorem ud {ds:QS} {q:Nat} {d:UInt8} (h:ds[q]? =some d):gj (ds.take (q+1))=gj (ds.take q)*10+(d.toNat-48):=by
 rw[List.take_add_one,h]
 unfold gj
 rw[List.foldl_append];rfl
theorem vj {ds:QS} (hd:∀d∈ds,48<=d.toNat/\d.toNat<=57):∀q,q<=ds.length->gj (ds.take q)<10^q
 | 0,_=>by simp[gj]
 | q+1,hq=>by
  have h:=List.getElem?_eq_getElem (show q<ds.length by omega)
  have hm:=hd _ (List.getElem_mem (show q<ds.length by omega))
  have ih:=vj hd q Qz
  rw[ud h,Nat.pow_succ];omega
theorem HS {c:UInt8} {sg ds:QS} (hsg:sg=[]\/sg=[43]\/sg=[45]) (hd:∀d∈ds,48<=d.toNat/\d.toNat<=57):jH (c::(sg++ds))=(gj ds:Int)*(if sg=[45]then-1 else 1):=by
 rcases hsg with rfl | rfl | rfl
 ·cases ds with
  | nil=>simp[jH,gj]
  | cons a b=>
   have ha:=hd a QB
   have e1:a≠43:=fun e=>by subst e;simp at ha
   have e2:a≠45:=fun e=>by subst e;simp at ha
   simp only[jH,List.nil_append,List.head?_cons,Option.some.injEq,if_neg e1,if_neg e2]
   simp
 ·simp[jH]
 ·simp[jH]
theorem two {a b:Value} {c d:Value} (h: [a,b]=[c,d]):a=c/\b=d:=by simpa using h
theorem KW {s:ByteArray} {stF:RS} {rest:QS} {R:Int->Int->Bool->Bool->Bool->Int->Bool->Prop} (h0:0<s.size) (hs:s.size<100000) (hc:∀c∈s.data.toList,c≠120/\c≠88/\c≠95)
  (hsc:scan RS0 (s.data.toList.drop (dG s.data.toList).2)=(stF,rest)) (hdig:stF.dig=true) (hrest:rest=[]\/∃c sg ds,Expo rest c sg ds)
  (r:R stF.m (jd stF rest) (dG s.data.toList).1 stF.tr false s.data.toList.length true):I3 s R:=by
 intro h _
 apply DQ
 unfold Oe
 have hsz:s.size=s.data.toList.length:=rfl
 have hnu:∀c∈s.data.toList,c≠95:=fun c q=>(hc c q).2.2
 generalize hl:s.data.toList=l at*
 have at':∀k:Nat,s[k]? =l[k]? :=fun k=>by rw[vh,hl]
 obtain⟨c0,l0,hl0⟩:∃c0 l0,l=c0::l0:=by
  cases l with
  | nil=>rw[hsz]at h0;simp at h0
  | cons a b=>exact⟨a,b,rfl⟩
 refine af (fun h=>absurd h Qz) fun _=>⟨QA,Qz,c0,by rw[Int.toNat_zero,at',hl0];rfl,fun lz h'=>lz=[.bool (dG l).1,QM ((dG l).2:Int)]/\h'=h,?_,?_⟩
 ·rw[hl0]
  refine aH (fun w=>?_) fun w=>⟨fun lz h'=>lz=[.bool (dG (c0::l0)).1,QM ((dG (c0::l0)).2:Int)]/\h'=h,aH (fun h2=>?_) fun h2=>?_,fun _ _ _ h=>h⟩
  ·have:c0=43:=UInt8.toNat_inj.1 (by rw[show(43:UInt8).toNat=43 from rfl];omega)
   subst this;exact⟨rfl,rfl⟩
  ·have:c0=45:=UInt8.toNat_inj.1 (by rw[show(45:UInt8).toNat=45 from rfl];omega)
   subst this;exact⟨rfl,rfl⟩
  ·have e1:c0≠43:=fun e=>w (by subst e;rfl)
   have e2:c0≠45:=fun e=>h2 (by subst e;rfl)
   unfold dG;simp only[if_neg e1,if_neg e2];exact⟨rfl,trivial⟩
 rintro ng i hv ⟨e,eh⟩
 subst eh
 have hj1:(dG l).2<=1:=by
  rw[hl0];unfold dG;simp only[];split
  ·exact Nat.le_refl _
  ·split<;>simp
 have hj:(dG l).2<=l.length:=by rw[hl0,List.length_cons];rw[hl0]at hj1;omega
 generalize (dG l).2=j at*
 generalize (dG l).1=ng' at*
 obtain⟨e1,e2⟩:=two e
 obtain rfl:ng=ng':=by simpa using e1
 obtain rfl:i=(j:Int):=by simpa using e2
 clear e e1 e2
 intro K
 have tail:∀g:ab,Fr [] hv g->K g:=by
  intro g fg
  show ∃Jv17:List Value->ab->Prop,_
  have hI0:Inv l stF rest RS0 j:=⟨hsc,QA,QA,QA,Nat.zero_le _,by show-(j:Int)<=0;omega,by show(0:Int)<=j;omega,hj⟩
  let St:RS->Nat->List Value:=fun st k=>[QO (st.m:Int),.bool st.tr,QM (k:Int),.bool false,.bool st.dot,.bool st.dig,QM (st.nd:Int),QM (st.nm:Int),QM st.dp]
  refine⟨fun lz h'=>g=h'/\∃k:Nat,lz=St stF k/\Inv l stF rest stF k/\rest=l.drop k,⟨fun lz h'=>g=h'/\∃(st:RS) (k:Nat),lz=St st k/\Inv l stF rest st k,
   fun lz _=>match lz with | [_,_,.int _ i,_,_,_,_,_,_]=>l.length-i.toNat | _=>0,⟨rfl,RS0,j,rfl,hI0⟩,?_⟩,?_⟩
  ·rintro a b c d e f g x y _ ⟨rfl,st,k,hst0,hI⟩
   simp only[St,List.cons.injEq,Value.int.injEq,Value.bool.injEq,true_and,and_true]at hst0
   obtain⟨rfl,rfl,rfl,rfl,rfl,rfl,rfl,rfl,rfl⟩:=hst0
   rw[hsz]
   refine af (fun hlt=>?_) fun hge=>?_
   ·have hk:k<l.length:=by omega
    refine⟨fun lz h'=>g=h'/\∃st':RS,lz=[QO (st'.m:Int),.bool st'.tr,.bool false,.bool st'.dot,.bool st'.dig,QM (st'.nd:Int),QM (st'.nm:Int),QM st'.dp]/\Inv l stF rest st' (k+1),?_,?_⟩
    ·obtain⟨c,hc⟩:∃c,l[k]? =some c:=⟨_,List.getElem?_eq_getElem hk⟩
     have hcm:c∈l:=List.mem_of_getElem? hc
     have exit:(c=46/\st.dot=true)\/(c≠46/\isD c=false)->(g=g/\∃k':Nat,St st k=St stF k'/\Inv l stF rest stF k'/\rest=l.drop k'):=by
      intro hd
      obtain⟨rfl,e2⟩:=hI.stop hc hd
      exact⟨rfl,k,rfl,hI,e2⟩
     refine⟨Qz,hlt,c,by rw[Int.toNat_natCast,at',hc],aV (c95 (hnu c hcm)) ?_⟩
     rw[c46]
     refine af (fun h46=>?_) fun h46=>?_
     ·subst h46
      refine cd (fun hd=>exit (.inl ⟨rfl,hd⟩)) fun hd=>⟨rfl,gi st,rfl,hI.dots hc hd⟩
     ·intro K11
      have k11:K11 (isD c) g:=by
       show cnd (isD c) _ _
       refine cd (fun hd=>?_) fun hd=>?_
       ·have hI2:=hI.step hc hd h46
        simp only[isD,Bool.and_eq_true,decide_eq_true_eq]at hd
        have e48:(((c.toNat:Nat):Int)=48) ↔ c.toNat-48=0:=by omega
        intro K12
        have k12:¬(c.toNat-48=0/\st.nd=0)->K12 g:=by
         intro hq
         show ∃Jv19:List Value->ab->Prop,_
         have hnd:=hI.nd
         have hnd1:i64.wrap ((st.nd:Int)+1)=((st.nd+1:Nat):Int):=wr1 Qz
         rw[hnd1]
         refine⟨fun lz h'=>g=h'/\∃st':RS,bz st (c.toNat-48)=st'/\lz=[QO (st'.m:Int),.bool st'.tr,QM (st'.nm:Int)],af (fun h19=>?_) fun h19=>?_,?_⟩
         ·have hst:bz st (c.toNat-48)=⟨st.m*10+(c.toNat-48),st.tr,st.dot,true,st.nd+1,st.nm+1,st.dp⟩:=by unfold bz;rw[if_neg hq,if_pos Qz]
          have hm:=hI2.lt64
          rw[hst]at hm
          have hm:st.m*10+(c.toNat-48)<10000000000000000000:=hm
          refine⟨rfl,_,hst,?_⟩
          rw[wr1 Qz,u8w (x:=((c.toNat:Nat):Int)-48) Qz Qz,show((c.toNat:Nat):Int)-48=((c.toNat-48:Nat):Int) by omega,fB (a:=c.toNat-48) Qz,show((st.m:Nat):Int)*10=((st.m*10:Nat):Int) by omega,fB (a:=st.m*10) Qz,<-Int.natCast_add,fB Qz]
         ·have hst:bz st (c.toNat-48)=⟨st.m,st.tr||decide (c.toNat-48≠0),st.dot,true,st.nd+1,st.nm,st.dp⟩:=by unfold bz;rw[if_neg hq,if_neg Qz]
          refine⟨fun lz h'=>g=h'/\lz=[.bool (st.tr||decide (c.toNat-48≠0))],fZ (fun q=>?_) fun q=>?_,?_⟩
          ·rw[decide_eq_true (show c.toNat-48≠0 from fun w=>q (e48.2 w)),Bool.or_true];exact⟨rfl,rfl⟩
          ·rw[decide_eq_false (show ¬c.toNat-48≠0 from fun w=>w (e48.1 q)),Bool.or_false];exact⟨rfl,rfl⟩
          ·rintro t _ ⟨rfl,e⟩
           obtain rfl:t=(st.tr||decide (c.toNat-48≠0)):=by simpa using e
           exact⟨rfl,_,hst,rfl⟩
         ·rintro a b g _ ⟨rfl,st',hst,e⟩
          simp only[List.cons.injEq,Value.int.injEq,Value.bool.injEq,true_and,and_true]at e
          obtain⟨rfl,rfl,rfl⟩:=e
          rw[hst]at hI2
          have e5:st'.dot=st.dot/\st'.dig=true/\st'.nd=st.nd+1/\st'.dp=st.dp:=by
           rw[<-hst];unfold bz;rw[if_neg hq];split<;>exact⟨rfl,rfl,rfl,rfl⟩
          exact⟨rfl,st',by rw[e5.1,e5.2.1,e5.2.2.1,e5.2.2.2],hI2⟩
        refine aH (fun q0=>aH (fun hn=>?_) fun hn=>k12 fun q=>hn Qz) fun q0=>k12 fun q=>q0 (e48.2 q.1)
        have hz:c.toNat-48=0/\st.nd=0:=⟨e48.1 q0,Qz⟩
        have hst:bz st (c.toNat-48)=⟨st.m,st.tr,st.dot,true,st.nd,st.nm,st.dp-1⟩:=by unfold bz;rw[if_pos hz]
        rw[hst]at hI2
        have hb:=hI.d0;have hb1:=hI.d1
        exact⟨rfl,⟨st.m,st.tr,st.dot,true,st.nd,st.nm,st.dp-1⟩,by rw[wr (x:=st.dp-1) Qz Qz],hI2⟩
       ·intro K13
        refine aV QA ?_
        show cnd _ _ _
        exact aV QA (exit (.inr ⟨h46,hd⟩))
      refine af (fun q=>?_) fun q=>?_
      ·have h1:48<=c.toNat:=by omega
       have e:(true==decide (((c.toNat:Nat):Int)<=57))=isD c:=by
        simp only[isD,decide_eq_true h1,Bool.true_and]
        by_cases h2:c.toNat<=57
        ·rw[decide_eq_true h2,decide_eq_true (show((c.toNat:Nat):Int)<=57 by omega)];rfl
        ·rw[decide_eq_false h2,decide_eq_false (show ¬((c.toNat:Nat):Int)<=57 by omega)];rfl
       rw[e];exact k11
      ·have h1:¬ 48<=c.toNat:=by omega
       have e:(true==false)=isD c:=by simp only[isD,decide_eq_false h1,Bool.false_and];rfl
       rw[e];exact k11
    ·rintro a b d e f g x y _ ⟨rfl,st',e9,hI'⟩
     simp only[List.cons.injEq,Value.int.injEq,Value.bool.injEq,true_and,and_true]at e9
     obtain⟨rfl,rfl,rfl,rfl,rfl,rfl,rfl,rfl⟩:=e9
     rw[wr1 Qz]
     exact⟨⟨rfl,st',k+1,rfl,hI'⟩,by dsimp only;omega⟩
   ·obtain⟨rfl,e2⟩:=hI.fin Qz
    exact⟨rfl,k,rfl,hI,e2⟩
  ·rintro a b c d e f g x y _ ⟨rfl,k,hst0,hI,hrk⟩
   simp only[St,List.cons.injEq,Value.int.injEq,Value.bool.injEq,true_and,and_true]at hst0
   obtain⟨rfl,rfl,rfl,rfl,rfl,rfl,rfl,rfl,rfl⟩:=hst0
   rw[hdig]
   have b1:=hI.nm;have b2:=hI.nd;have b3:=hI.d0;have b4:=hI.d1;have b5:=hI.k
   obtain⟨dp,hdp⟩:∃dp:Int,dp=(if stF.dot then stF.dp else(stF.nd:Int)):=⟨_,rfl⟩
   have hdpb: -(k:Int)<=dp/\dp<=k:=by rw[hdp];split<;>omega
   refine aV rfl ⟨fun lz h'=>lz=[QM dp]/\g=h',bo (fun q=>by rw[hdp,q];exact⟨rfl,rfl⟩) fun q=>by rw[hdp,q];exact⟨rfl,rfl⟩,?_⟩
   rintro d1 _ ⟨e,rfl⟩
   obtain rfl:d1=dp:=by simpa using e
   refine⟨fun lz h'=>lz=[QM (stF.nm:Int),QM d1]/\g=h',aV QA ⟨rfl,rfl⟩,?_⟩
   rintro a1 b1' _ ⟨e,rfl⟩
   obtain⟨e1,e2⟩:=two e
   obtain rfl:a1=(stF.nm:Int):=by simpa using e1
   obtain rfl:b1'=d1:=by simpa using e2
   clear e e1 e2
   intro K18
   have k18:∀(i:Int) (u:Bool) (d:Int) (h':ab),Fr [] g h'->i=(l.length:Int)->u=false->d=b1'+jH rest-> -100000<=jH rest->jH rest<=100000->K18 i u d h':=by
    rintro _ _ _ h' fr rfl rfl rfl q1 q2
    show ∃Jv29:List Value->ab->Prop,_
    refine⟨fun lz h2=>lz=[QM (jd stF rest)]/\h'=h2,fZ (fun q=>?_) fun q=>?_,?_⟩
    ·refine⟨?_,rfl⟩
     unfold jd;rw[if_pos Qz,<-hdp,wr Qz Qz]
    ·refine⟨?_,rfl⟩
     unfold jd;rw[if_neg Qz]
    ·rintro ex _ ⟨e,rfl⟩
     obtain rfl:ex=jd stF rest:=by simpa using e
     intro K19
     exact aV rfl ⟨_,_,_,_,_,_,_,sy0 (fg.trans fr),rfl,r⟩
   have fine:∀e:Int,-100000<=e->e<=100000->jH rest=e->i64.wrap (b1'+e)=b1'+jH rest:=fun e h1 h2 h3=>by rw[h3,wr Qz Qz]
   rw[hsz]
   refine af (fun hlt=>?_) fun hge=>aV QA ?_
   rotate_left
   ·have:k=l.length:=by omega
    subst this
    have hr0:rest=[]:=by rw[hrk];exact List.drop_length
    exact k18 _ _ _ _ (Fr.refl _ _) rfl rfl (by rw[hr0];show b1'=b1'+0;omega) (by rw[hr0];decide) (by rw[hr0];decide)
   have hk:k<l.length:=by omega
   have hdr:l.drop k=l[k]::l.drop (k+1):=List.drop_eq_getElem_cons hk
   rcases hrest with h0 | ⟨c,sg,ds,hE⟩
   ·rw[hrk,hdr]at h0;cases h0
   have heq:=hE.eq
   rw[hrk,hdr]at heq
   obtain⟨hc,htl⟩:=List.cons.inj heq
   have hckk:l[k]? =some c:=by rw[List.getElem?_eq_getElem hk,hc]
   have hlen:(l.drop (k+1)).length=l.length-(k+1):=List.length_drop
   rw[htl,List.length_append]at hlen
   have hdsn:0<ds.length:=List.length_pos_iff.2 hE.ne
   have hsgn:sg.length<=1:=by rcases hE.sg with e | e | e<;>subst e<;>simp
   have gat:∀q,(sg++ds)[q]? =l[k+1+q]? :=fun q=>by rw[<-htl,List.getElem?_drop]
   refine⟨Qz,hlt,c,by rw[Int.toNat_natCast,at',hckk],?_⟩
   refine ao [] OS QB (fun _ _ r=>r.2) ?_
   rintro _ h1 ⟨rfl,f1⟩
   refine⟨_,rfl,fun lz h'=>∃d,lz=[QM (l.length:Int),.bool false,QM d]/\d=b1'+jH rest/\ -100000<=jH rest/\jH rest<=100000/\Fr [] g h',aH (fun _=>?_) fun q=>absurd ((KV c).2 hE.e) q,?_⟩
   rotate_left
   ·rintro a u d h' ⟨d',e,q1,q2,q3,q4⟩
    simp only[List.cons.injEq,Value.int.injEq,Value.bool.injEq,true_and,and_true]at e
    obtain⟨rfl,rfl,rfl⟩:=e
    exact k18 _ _ _ _ q4 rfl rfl q1 q2 q3
   rw[wr1 (k:=k) Qz]
   refine af (fun q=>absurd q Qz) fun _=>?_
   obtain⟨c1,hc1⟩:∃c1,(sg++ds)[0]? =some c1:=⟨_,List.getElem?_eq_getElem (by rw[List.length_append];omega)⟩
   refine⟨Qz,Qz,c1,by rw[Int.toNat_natCast,at',<-hc1,gat],?_⟩
   have hdg0:∀d∈ds,48<=d.toNat/\d.toNat<=57:=fun d hd=>by
    have:=hE.dg d hd
    simpa only[isD,Bool.and_eq_true,decide_eq_true_eq]using this
   have hV:gj ds<=9999:=by
    have h1:=vj hdg0 ds.length (Nat.le_refl _)
    rw[List.take_length]at h1
    have h2:=Nat.pow_le_pow_right (n:=10) QA hE.le
    have h3:(10:Nat)^4=10000:=rfl
    omega
   have hev:jH rest=(gj ds:Int)*(if sg=[45]then-1 else 1):=by rw[hE.eq];exact HS hE.sg hdg0
   have c1d:sg=[]->48<=c1.toNat:=fun e=>by
    subst e
    exact(hdg0 c1 (List.mem_of_getElem? (by simpa using hc1))).1
   have c1s:∀x:UInt8,sg=[x]->c1=x:=fun x e=>by
    subst e;simp at hc1;exact hc1.symm
   refine⟨fun lz h'=>lz=[QM ((k+1+sg.length:Nat):Int),QM (if sg=[45]then-1 else 1)]/\h1=h',aH (fun q=>?_) fun q=>⟨fun lz h'=>lz=[QM ((k+1+sg.length:Nat):Int),QM (if sg=[45]then-1 else 1)]/\h1=h',aH (fun h2=>?_) fun h2=>?_,fun _ _ _ h=>h⟩,?_⟩
   ·have hc43:c1=43:=eqB.1 q
    rcases hE.sg with e | e | e
    ·have:=c1d e;rw[hc43]at this;exact absurd this QA
    ·rw[wr1 Qz,e];exact⟨rfl,rfl⟩
    ·have:=c1s _ e;rw[hc43]at this;exact absurd this QA
   ·have hc45:c1=45:=eqB.1 h2
    rcases hE.sg with e | e | e
    ·have:=c1d e;rw[hc45]at this;exact absurd this QA
    ·have:=c1s _ e;rw[hc45]at this;exact absurd this QA
    ·rw[wr1 Qz,e];exact⟨rfl,rfl⟩
   ·rcases hE.sg with e | e | e
    ·rw[e];exact⟨rfl,rfl⟩
    ·exact absurd (eqB.2 (c1s _ e)) q
    ·exact absurd (eqB.2 (c1s _ e)) h2
   rintro i es _ ⟨e,rfl⟩
   obtain⟨e1,e2⟩:=two e
   obtain rfl:i=((k+1+sg.length:Nat):Int):=by simpa using e1
   obtain rfl:es=(if sg=[45]then-1 else 1):=by simpa using e2
   clear e e1 e2
   have dat:∀q,q<ds.length->∃d,ds[q]? =some d/\l[k+1+sg.length+q]? =some d/\48<=d.toNat/\d.toNat<=57:=by
    intro q hq
    refine⟨ds[q],List.getElem?_eq_getElem hq,?_,hdg0 _ (List.getElem_mem hq)⟩
    rw[show k+1+sg.length+q=k+1+(sg.length+q) by omega,<-gat,List.getElem?_append_right Qz,show sg.length+q-sg.length=q by omega,List.getElem?_eq_getElem hq]
   intro K14
   refine af (fun q=>absurd q Qz) fun _=>?_
   obtain⟨d0,_,hd0,r1,r2⟩:=dat 0 hdsn
   rw[Nat.add_zero]at hd0
   refine⟨Qz,Qz,d0,by rw[Int.toNat_natCast,at',hd0],af (fun q=>absurd q Qz) fun _=>⟨Qz,Qz,d0,by rw[Int.toNat_natCast,at',hd0],af (fun q=>absurd q Qz) fun _=>?_⟩⟩
   intro K17
   refine⟨fun lz h'=>h1=h'/\∃q:Nat,q<=ds.length/\lz=[QM ((k+1+sg.length+q:Nat):Int),.bool false,QM (gj (ds.take q):Int)],fun lz _=>match lz with | [.int _ i,_,_]=>l.length-i.toNat | _=>0,⟨rfl,0,Nat.zero_le _,rfl⟩,?_⟩
   rintro a u d _ ⟨rfl,q,hq,e⟩
   simp only[List.cons.injEq,Value.int.injEq,Value.bool.injEq,true_and,and_true]at e
   obtain⟨rfl,rfl,rfl⟩:=e
   intro K16 K15
   by_cases hqd:q<ds.length
   ·obtain⟨d,hd1,hd2,r3,r4⟩:=dat q hqd
    have hlt2:((k+1+sg.length+q:Nat):Int)<(l.length:Int):=by omega
    have hat:s[Int.toNat ((k+1+sg.length+q:Nat):Int)]? =some d:=by rw[Int.toNat_natCast,at',hd2]
    refine af (fun _=>⟨Qz,hlt2,d,hat,af (fun _=>⟨Qz,hlt2,d,hat,af (fun _=>?_) fun w=>absurd (show((d.toNat:Nat):Int)<=57 by omega) w⟩) fun w=>absurd (show(48:Int)<=((d.toNat:Nat):Int) by omega) w⟩) fun w=>absurd hlt2 w
    show ∃Jv27:List Value->ab->Prop,_
    have hvq:=vj hdg0 q Qz
    have hvb:gj (ds.take q)<1000:=by
     have h2:=Nat.pow_le_pow_right (n:=10) QA (show q<=3 by have:=hE.le;omega)
     have h3:(10:Nat)^3=1000:=rfl
     omega
    have ew:i64.wrap (i64.wrap (i64.wrap (((gj (ds.take q):Nat):Int)*10)+i64.wrap ((d.toNat:Nat):Int))-48)=(gj (ds.take (q+1)):Int):=by
     rw[ud hd1,wr (x:=((gj (ds.take q):Nat):Int)*10) Qz Qz,wr (x:=((d.toNat:Nat):Int)) Qz Qz,wr (x:=((gj (ds.take q):Nat):Int)*10+((d.toNat:Nat):Int)) Qz Qz,wr Qz Qz]
     omega
    refine⟨fun lz h'=>lz=[.bool false,QM (gj (ds.take (q+1)):Int)]/\h1=h',⟨Qz,hlt2,d,hat,aH (fun w=>absurd w Qz) fun _=>⟨fun lz h'=>lz=[QM (gj (ds.take (q+1)):Int)]/\h1=h',af (fun _=>⟨Qz,hlt2,d,hat,by rw[ew];exact⟨rfl,rfl⟩⟩) fun w=>absurd (show((gj (ds.take q):Nat):Int)<10000 by omega) w,?_⟩⟩,?_⟩
    ·rintro e2 _ ⟨e,rfl⟩
     obtain rfl:e2=(gj (ds.take (q+1)):Int):=by simpa using e
     exact⟨rfl,rfl⟩
    ·rintro u e2 _ ⟨e,rfl⟩
     obtain⟨e3,e4⟩:=two e
     obtain rfl:u=false:=by simpa using e3
     obtain rfl:e2=(gj (ds.take (q+1)):Int):=by simpa using e4
     rw[wr1 Qz]
     exact⟨⟨rfl,q+1,Qz,rfl⟩,by dsimp only;omega⟩
   ·have hqe:q=ds.length:=by omega
    have hge2:¬((k+1+sg.length+q:Nat):Int)<(l.length:Int):=by omega
    refine af (fun w=>absurd w hge2) fun _=>?_
    show ∃d,_
    have hb1: -9999<=(gj ds:Int)*(if sg=[45]then-1 else 1)/\(gj ds:Int)*(if sg=[45]then-1 else 1)<=9999:=by split<;>omega
    have ed:(gj (ds.take q):Int)=gj ds:=by rw[hqe,List.take_length]
    rw[ed,wr (x:=(gj ds:Int)*(if sg=[45]then-1 else 1)) Qz Qz]
    exact⟨_,by rw[show k+1+sg.length+q=l.length by omega],fine _ Qz Qz hev,Qz,Qz,f1⟩
 refine af (fun q=>?_) fun _=>tail _ (Fr.refl _ _)
 have e2:i64.wrap ((j:Int)+2)=j+2:=wr Qz Qz
 have e1:i64.wrap ((j:Int)+1)=((j+1:Nat):Int):=by rw[wr Qz Qz];omega
 rw[e2]at q
 have hlt:j+1<l.length:=by omega
 refine⟨Qz,Qz,l[j]' Qz,by rw[Int.toNat_natCast,at',List.getElem?_eq_getElem],aH (fun _=>?_) fun _=>tail _ (Fr.refl _ _)⟩
 rw[e1]
 refine⟨Qz,Qz,l[j+1],by rw[Int.toNat_natCast,at',List.getElem?_eq_getElem],?_⟩
 refine ao [] OS QB (fun _ _ r=>r.2) ?_
 rintro _ h1 ⟨rfl,f1⟩
 refine⟨_,rfl,fun lz h'=>lz=[.bool false,QM (j:Int),QO 10,QM 19,QP 101]/\h1=h',aH (fun w=>?_) fun _=>⟨rfl,rfl⟩,?_⟩
 ·have hm:=hc _ (List.getElem_mem hlt)
  rcases Qp _ w with e | e
  ·exact absurd e hm.1
  ·exact absurd e hm.2.1
 rintro a i3 c4 d5 e6 _ ⟨e,rfl⟩
 simp only[List.cons.injEq,Value.int.injEq,Value.bool.injEq,true_and,and_true]at e
 obtain⟨rfl,rfl,rfl,rfl,rfl⟩:=e
 exact tail _ f1
end Go.Proofs.YtemphinmoihdaaaGreatDoor.N
/- What is told of special texts: a number's text is none; exact answers by floats. Conditions: none. -/
namespace Go.Proofs.YtemphinmoihdaaaGreatDoor.N
open Go.X Go.Proofs.YtemphinmoihdaaaGreatDoor
set_option maxRecDepth 100000
set_option maxHeartbeats 1000000
theorem OT (s:ByteArray) (a b:Nat):(s.extract a b).data.toList=(s.data.toList.take b).drop a:=by
 rw[ByteArray.data_extract,Array.toList_extract]
 simp[List.drop_take]
theorem fl {c:UInt8}:isD c=true ↔ 48<=c.toNat/\c.toNat<=57:=by simp[isD]
theorem KX {s p:ByteArray} {R:Int->Prop} (hs:∀c r,s.data.toList=c::r->isD c=true) (hp:∃c r,p.data.toList=c::r/\58<=c.toNat) (hsz:s.size<100000) (r:R 0):Au s p R:=by
 apply N6
 unfold Ko
 obtain⟨q,pr,hpl,hq⟩:=hp
 have hps:0<p.size:=by show 0<p.data.toList.length;rw[hpl];simp
 refine⟨fun i=>i=0,fun _=>0,rfl,?_⟩
 rintro _ rfl
 cases hl:s.data.toList with
 | nil=>
  have h0:s.size=0:=by show s.data.toList.length=0;rw[hl];rfl
  have e:(if(((s.size:Nat)):Int)<((p.size:Nat):Int)then((s.size:Nat):Int)else((p.size:Nat):Int))=0:=by rw[h0];split<;>omega
  rw[e]
  exact aV QA r
 | cons c rest=>
  have h0:0<s.size:=by show 0<s.data.toList.length;rw[hl];simp
  have hd:=fl.1 (hs c rest hl)
  refine af (fun _=>?_) fun h=>absurd h (by split<;>omega)
  refine⟨QA,Qz,c,by rw[vh,hl];rfl,fun x=>x=((c.toNat:Nat):Int),af (fun h=>absurd h Qz) fun _=>rfl,?_⟩
  rintro _ rfl
  refine⟨QA,Qz,q,by rw[vh,hpl];rfl,fZ (fun _=>r) fun h=>absurd h Qz⟩
def vk (l:QS):Prop:=∃c r,l=c::r/\(isD c=true\/((c=43\/c=45)/\∃d r',r=d::r'/\isD d=true))
theorem KY {s:ByteArray} {R:Nat->Int->Bool->Prop} (hs:s.size<100000) (h:vk s.data.toList) (r:R 0 0 false):DP s R:=by
 apply Od
 unfold Kq
 obtain⟨c,l,hl,hc⟩:=h
 have h0:0<s.size:=by show 0<s.data.toList.length;rw[hl];simp
 refine aH (fun h=>absurd h Qz) fun _=>⟨QA,Qz,c,by rw[vh,hl];rfl,True,?_,fun _=>r⟩
 refine⟨fun s2 _ _=>s2=s.extract 1 s.size/\∃d r',l=d::r'/\isD d=true,⟨fun x=>x=(decide (c=43)||decide (c=45)),aH (fun h=>?_) fun h=>?_,?_⟩,?_⟩
 ·have:c=43:=eqB.1 h
  subst this;rfl
 ·by_cases h2:c=45
  ·subst h2;rfl
  ·have h1:c≠43:=fun e=>h (eqB.2 e)
   rw[decide_eq_false h1,decide_eq_false h2]
   show(((c.toNat:Nat):Int)==45)=false
   rw[beq_eq_false_iff_ne];exact fun e=>h2 (eqB.1 e)
 ·rintro _ rfl
  refine cd (fun hb=>?_) fun hb=>?_
  ·simp only[Bool.or_eq_true,decide_eq_true_eq]at hb
   have hd:∃d r',l=d::r'/\isD d=true:=by
    rcases hc with hc | hc
    ·rcases hb with rfl | rfl<;>simp[isD]at hc
    ·exact hc.2
   refine⟨QA,Qz,c,by rw[vh,hl];rfl,fun _=>True,aH (fun _=>trivial) fun _=>trivial,fun _ _=>⟨QA,Qz,rfl,hd⟩⟩
  ·simp only[Bool.or_eq_false_iff,decide_eq_false_iff_not]at hb
   have hd:48<=c.toNat/\c.toNat<=57:=by
    rcases hc with hc | hc
    ·exact fl.1 hc
    ·rcases hc.1 with e | e
     ·exact absurd e hb.1
     ·exact absurd e hb.2
   refine⟨fun x=>x=false,aH (fun h=>absurd h Qz) fun _=>?_,?_⟩
   ·dsimp only;rw[beq_eq_false_iff_ne];omega
   rintro _ rfl
   refine aV rfl ⟨fun x=>x=false,aH (fun h=>absurd h Qz) fun _=>?_,?_⟩
   ·dsimp only;rw[beq_eq_false_iff_ne];omega
   rintro _ rfl
   exact aV rfl trivial
 ·rintro _ sg ns ⟨rfl,d,r',hdl,hd⟩
  have el:(s.extract 1 s.size).data.toList=l:=by
   rw[OT,hl,List.take_of_length_le (by rw[<-hl];exact Nat.le_refl _)];rfl
  refine KX (fun c r e=>?_) ⟨105,_,rfl,QA⟩ ?_ ?_
  ·rw[el,hdl]at e;cases e;exact hd
  ·show(s.extract 1 s.size).data.toList.length<_
   rw[el]
   have:s.size=l.length+1:=by show s.data.toList.length=_;rw[hl];rfl
   omega
  refine⟨fun x=>x=0,af (fun h=>absurd h QA) fun _=>rfl,?_⟩
  rintro _ rfl
  exact aV QA (aV QA trivial)
end Go.Proofs.YtemphinmoihdaaaGreatDoor.N
/- atof64exact as a function. Conditions: none. -/
namespace Go.Proofs.YtemphinmoihdaaaGreatDoor.N
open Go.X Go.Proofs.YtemphinmoihdaaaGreatDoor
set_option maxRecDepth 100000
set_option maxHeartbeats 1000000
def Jb (d:Ieee.Datum):Bool:=match d with | .number _ n _=>decide (n≠0) | _=>false
theorem KZ :∀k:Fin 23,Jb (F64.read (tF.getD k.val 0))=true:=by decide+kernel
theorem AD {k:Nat} (h:k<23):tF[k]? =some (tF.getD k 0)/\∃s n j,F64.read (tF.getD k 0)= .number s n j/\n≠0:=by
 have hl:k<tF.length:=h
 refine⟨QD,?_⟩
 have:=KZ ⟨k,h⟩
 unfold Jb at this
 grind
theorem K5 (n:Int):isNaN (FloatKind.f64.nearest n)=false:=by
 unfold FloatKind.nearest FloatKind.encode
 exact qY rfl
theorem HT {x:Nat} (h:isNaN x=false):isNaN (Op.negFloat .f64 x)=false:=by
 have:=vn x
 unfold gz at this
 grind
theorem K6 {m:Nat} {e:Int} {neg:Bool} {R:Nat->Bool->Prop} (hm:m<18446744073709551616) (he1: -100000<e) (he2:e<100000) (r:R (iK m e neg).1 (iK m e neg).2):DS m e neg R:=by
 apply Oh
 unfold Kr
 have h52:(2:Nat)^52=4503599627370496:=by decide
 rw[show min (Int.toNat 52) 64=52 from by decide,shr,h52]
 unfold iK at r
 refine⟨QA,fZ (fun h=>?_) fun h=>?_⟩
 ·grind
 rw[if_neg Qz]at r
 simp only[]at r
 have hn0:isNaN (FloatKind.f64.nearest (m:Int))=false:=K5 _
 refine⟨fun f=>f=(if neg then Op.negFloat .f64 (FloatKind.f64.nearest (m:Int))else FloatKind.f64.nearest (m:Int)),cd (fun hb=>by grind) (fun hb=>by grind),?_⟩
 intro f hf
 have hfn:isNaN f=false:=by
  grind [HT]
 rw[<-hf]at r
 refine⟨¬(e=0\/(0<e/\e<=37)\/(-22<=e/\e<0)),aH (fun h=>?_) fun h0=>?_,fun hJ=>?_⟩
 ·grind
 ·rw[if_neg h0]at r
  have dv: -22<=e->e<0->¬(0<e/\e<=37)->0<=i64.wrap (0-e)/\i64.wrap (0-e)<((23:Nat):Int)/\∃x:Nat,tF[Int.toNat (i64.wrap (0-e))*1]? =some x/\∀r3:Nat,nT .f64 f x (FloatKind.f64.format.div f x) r3->R r3 true:=by
   intro q1 q2 q3
   rw[if_neg q3,if_pos ⟨q1,q2⟩]at r
   have ew:i64.wrap (0-e)= -e:=by rw[wr Qz Qz];omega
   rw[ew,Nat.mul_one]
   obtain⟨t1,s,n,j,t2,t3⟩:=AD (k:=(-e).toNat) Qz
   refine⟨Qz,Qz,_,t1,fun r3 hr3=>?_⟩
   have hd:=(Ey hfn t2 t3).1
   rw[show FloatKind.f64.format.div f (tF.getD (-e).toNat 0)=some (qU f (tF.getD (-e).toNat 0))from hd]at hr3
   have:r3=qU f (tF.getD (-e).toNat 0):=hr3
   grind
  refine af (fun hp=>af (fun h37=>?_) fun h37=>af (fun h=>absurd h Qz) fun _=>by omega) fun hp=>af (fun hneg=>af (fun h22=>dv h22 hneg Qz) fun _=>by omega) fun _=>by omega
  rw[if_pos ⟨hp,h37⟩]at r
  refine⟨fun e2 f2=>e2=(if e>22 then 22 else e)/\f2=(if e>22 then iI f (tF.getD (e-22).toNat 0)else f),af (fun h=>?_) fun h=>⟨by rw[if_neg h],by rw[if_neg h]⟩,?_⟩
  ·have ew:i64.wrap (e-22)=e-22:=wr Qz Qz
   rw[ew,Nat.mul_one]
   obtain⟨t1,s,n,j,t2,t3⟩:=AD (k:=(e-22).toNat) Qz
   refine⟨Qz,Qz,_,t1,fun r3 hr3=>?_⟩
   have hd:=(qZ hfn t2 t3).1
   rw[show FloatKind.f64.format.mul f (tF.getD (e-22).toNat 0)=some (iI f (tF.getD (e-22).toNat 0))from hd]at hr3
   have:r3=iI f (tF.getD (e-22).toNat 0):=hr3
   grind
  rintro e2 f2 ⟨h1,h2⟩
  have hf2:isNaN f2=false:=by
   rw[h2];split
   ·obtain⟨t1,s,n,j,t2,t3⟩:=AD (k:=(e-22).toNat) Qz
    exact(qZ hfn t2 t3).2
   ·exact hfn
  have he:0<=e2/\e2<23:=by omega
  rw[<-h1,<-h2]at r
  refine cd (fun hg=>?_) fun hg=>cd (fun hl=>?_) fun hl=>?_
  ·grind
  ·grind
  ·rw[if_neg (by simpa using hg),if_neg (by simpa using hl)]at r
   obtain⟨t1,s,n,j,t2,t3⟩:=AD (k:=e2.toNat) Qz
   rw[Nat.mul_one]
   refine⟨Qz,Qz,_,t1,fun r3 hr3=>?_⟩
   have hd:=(qZ hf2 t2 t3).1
   rw[show FloatKind.f64.format.mul f2 (tF.getD e2.toNat 0)=some (iI f2 (tF.getD e2.toNat 0))from hd]at hr3
   have:r3=iI f2 (tF.getD e2.toNat 0):=hr3
   grind
 grind
def jY (ng:Bool):Nat:=if ng then 9223372036854775808 else 0
structure Txt (s:ByteArray) (st:RS) (rest:QS):Prop where
 sz:s.size<100000
 hd:vk s.data.toList
 ch:∀c∈s.data.toList,c≠120/\c≠88/\c≠95
 sc:scan RS0 (s.data.toList.drop (dG s.data.toList).2)=(st,rest)
 dig:st.dig=true
 rest:rest=[]\/∃c sg ds,Expo rest c sg ds
theorem HY {l:QS} {st:RS} {rest:QS}:∀{a:RS},a.nm<=19->a.m<10^a.nm->scan a l=(st,rest)->st.m<10000000000000000000:=by
 induction l with
 | nil=>
  intro a h1 h2 h
  simp only[scan,Prod.mk.injEq]at h
  rw[<-h.1]
  have:=Nat.pow_le_pow_right (n:=10) QA h1
  omega
 | cons c r ih=>
  intro a h1 h2 h
  have stop:a.m<10000000000000000000:=by
   have:=Nat.pow_le_pow_right (n:=10) QA h1
   omega
  simp only[scan]at h
  split at h
  ·split at h
   ·simp only[Prod.mk.injEq]at h;rw[<-h.1];exact stop
   ·exact ih (a:=gi a) h1 h2 h
  ·split at h
   ·rename_i hd
    have hd:=fl.1 hd
    refine ih (a:=bz a (c.toNat-48)) ?_ ?_ h
    ·unfold bz;split
     ·exact h1
     ·split
      ·show a.nm+1<=19;omega
      ·exact h1
    ·unfold bz;split
     ·exact h2
     ·split
      ·show a.m*10+(c.toNat-48)<10^(a.nm+1);rw[Nat.pow_succ];omega
      ·exact h2
   ·simp only[Prod.mk.injEq]at h;rw[<-h.1];exact stop
end Go.Proofs.YtemphinmoihdaaaGreatDoor.N
