/- Small facts of whole numbers and floats for the reading of numbers. Conditions: none. -/
import Derived.Test.YtmmmmjcfojhiaaaGreatDoorWFl
set_option linter.unusedVariables false
set_option linter.unusedSimpArgs false
set_option maxRecDepth 100000
set_option maxHeartbeats 4000000
open Go.IntKind (i64 u64 u8 i32)
namespace Go.Proofs.YtmmmmjcfojhiaaaGreatDoor.N
open Go.X Go.Proofs.YtmmmmjcfojhiaaaGreatDoor
theorem vG (k:Nat):((2:Int)^k)=((2^k:Nat):Int):=by rw[Int.natCast_pow];rfl
theorem shr (a k:Nat):Int.fdiv (a:Int) (2^k)=((a/2^k:Nat):Int):=by
 rw[vG,Int.fdiv_eq_ediv_of_nonneg _ (Rv _)];rfl
theorem Kv (a:Int) (k:Nat):Int.fdiv a (2^k)=a/2^k:=Int.fdiv_eq_ediv_of_nonneg _ (by rw[vG];exact Rv _)
theorem vH (a:Nat):u64.wrap (a:Int)=((a % 18446744073709551616:Nat):Int):=by rw[IntKind.wrap_u64];omega
theorem dz {a:Nat} (h:a<18446744073709551616):u64.wrap (a:Int)=(a:Int):=by rw[IntKind.wrap_u64];omega
theorem wr1 {k:Nat} (h:k<1000000):i64.wrap ((k:Int)+1)=((k+1:Nat):Int):=by rw[wr PA PA];omega
theorem pH {b:Bool} {R:Int->Prop} (r:R (((if b then 1 else 0:Nat)):Int)):uZ b R:=by
 apply Mr;unfold Jx
 cases b
 ·exact az rfl r
 ·exact aJ rfl r
theorem Kw (b:Nat):vU Tryz.prog 36 #[PS b] (· = PO b):=
 jv Tryz.func36 PD PD PD (e:=Extern.MathFloatBits.float64bits) PD rfl
theorem Hx (b:Nat):vU Tryz.prog 126 #[PS b] (· = PO b):=
 jv Tryz.func126 PD PD PD (e:=Extern.MathFloatBits.float64bits) PD rfl
theorem dT (n:Int):vU Tryz.prog 195 #[PO n] (· = PS n.toNat):=
 jv Tryz.func195 PD PD PD (e:=Extern.MathFloatBits.float64frombits) PD rfl
def cm (m:Nat) (e:Int) (neg:Bool):Nat × Bool:=
 if m/4503599627370496≠0 then(0,false)
 else
  let f:=if neg then Op.negFloat .f64 (FloatKind.f64.nearest (m:Int))else FloatKind.f64.nearest (m:Int)
  if e=0 then(f,true)
  else if 0<e/\e<=37 then
   let f2:=if e>22 then eQ f (tF.getD (e-22).toNat 0)else f
   let e2:=if e>22 then 22 else e
   if F64.order f2 4831355200913801216=some .gt then(f2,false)
   else if F64.order f2 14054727237768577024=some .lt then(f2,false)
   else(eQ f2 (tF.getD e2.toNat 0),true)
  else if-22<=e/\e<0 then(mP f (tF.getD (-e).toNat 0),true)
  else(f,false)
abbrev Hy :Nat:=9218868437227405311
def isInf (x:Nat):Bool:=F64.order x Hy==some .gt
theorem DW {r:Nat} (h:r<2^63):fh (F64.word false r)=F64.word true r:=by
 rw[kI]
 have e0:fh r=r ^^^ 2^63:=rfl
 have h1:(r ^^^ 2^63) % 2^63=r:=by
  rw[Sc,Nat.mod_self,Nat.xor_zero,Ra h]
 have h2:(r ^^^ 2^63)/2^63=1:=by
  rw[Nat.xor_div_two_pow,QJ h];decide
 have h3:=QC (r ^^^ 2^63) (2^63)
 rw[h1,h2]at h3
 rw[e0,<-h3]
 unfold Ieee.Format.word
 rw[jE]
 simp
theorem nC (u:Nat) (p:Int):fh (F64.nearest false u p)=F64.nearest true u p:=by
 rw[db,db]
 refine DW (Qf (mS u p) PB)
theorem pI (m:Nat):FloatKind.f64.nearest (m:Int)=F64.nearest false m 0:=by
 show F64.write (.number (decide ((m:Int)<0)) ((m:Int)).natAbs 0)=_
 rw[decide_eq_false PA,Sf];rfl
theorem qR (s:P0) (i:Nat):s[i]? =s.data.toList[i]? :=by
 rw[getElem?_def]
 by_cases h:i<s.size
 ·rw[dif_pos h]
  have h2:i<s.data.toList.length:=h
  rw[List.getElem?_eq_getElem h2];rfl
 ·rw[dif_neg h]
  exact(List.getElem?_eq_none (by exact Ri h)).symm
def av (l:PZ):Bool × Nat:=
 match l with
 | c::_=>if c=43 then(false,1)else if c=45 then(true,1)else(false,0)
 | []=>(false,0)
theorem NP :∀n:Fin 256,bits .or .u8 ((n.val:Nat):Int) 32=120->n.val=120\/n.val=88:=by decide+kernel
theorem Pq (c:UInt8) (h:bits .or .u8 ((UInt8.toNat c:Nat):Int) 32=120):c=120\/c=88:=
 (NP ⟨c.toNat,c.toNat_lt⟩ h).imp (fun e=>QE.1 e) fun e=>QE.1 e
theorem Dx {c:Int} {R:Int->Prop} (r:R (bits .or .u8 c 32)):H8 c R:=by
 apply MS;exact r
theorem NQ {c:Int} {h:ab}:PJ 146 #[PR c] h fun v h'=>v= PR (bits .or .u8 c 32)/\Fr [] h h':=
 (Dx (R:=fun r=>r=bits .or .u8 c 32) rfl h (Hp.nil h)).mono fun v h' ⟨r,Y,e,q⟩=>⟨by rw[e,q],Y.fr⟩
end Go.Proofs.YtmmmmjcfojhiaaaGreatDoor.N
/- readFloat as a function: digits scanned, the exponent read. Conditions: none. -/
namespace Go.Proofs.YtmmmmjcfojhiaaaGreatDoor.N
open Go.X Go.Proofs.YtmmmmjcfojhiaaaGreatDoor
structure RS where
 m:Nat
 tr:Bool
 dot:Bool
 dig:Bool
 nd:Nat
 nm:Nat
 dp:Int
def RS0 :RS:=⟨0,false,false,false,0,0,0⟩
def aN (st:RS) (d:Nat):RS:=
 if d=0/\st.nd=0 then⟨st.m,st.tr,st.dot,true,st.nd,st.nm,st.dp-1⟩
 else if st.nm<19 then⟨st.m*10+d,st.tr,st.dot,true,st.nd+1,st.nm+1,st.dp⟩
 else⟨st.m,st.tr||decide (d≠0),st.dot,true,st.nd+1,st.nm,st.dp⟩
def eO (st:RS):RS:=⟨st.m,st.tr,true,st.dig,st.nd,st.nm,st.nd⟩
def isD (c:UInt8):Bool:=decide (48<=c.toNat)&&decide (c.toNat<=57)
def scan :RS->PZ->RS × PZ
 | st,[]=>(st,[])
 | st,c::r=>if c=46 then(if st.dot then(st,c::r)else scan (eO st) r)else if isD c then scan (aN st (c.toNat-48)) r else(st,c::r)
def cy (ds:PZ):Nat:=ds.foldl (fun a c=>a*10+(c.toNat-48)) 0
def cZ :PZ->Int
 | []=>0
 | _::r=>if r.head? =some 43 then cy r.tail else if r.head? =some 45 then-(cy r.tail:Int)else cy r
def bx (st:RS) (rest:PZ):Int:=if st.m≠0 then(if st.dot then st.dp else(st.nd:Int))+cZ rest-st.nm else 0
structure Inv (l:PZ) (stF:RS) (rest:PZ) (st:RS) (k:Nat):Prop where
 sc:scan st (l.drop k)=(stF,rest)
 nm:st.nm<=19
 m:st.m<10^st.nm
 nn:st.nm<=st.nd
 nd:st.nd<=k
 d0: -(k:Int)<=st.dp
 d1:st.dp<=k
 k:k<=l.length
theorem Inv.lt64 {l:PZ} {stF st:RS} {rest:PZ} {k:Nat} (h:Inv l stF rest st k):st.m<10000000000000000000:=by
 have:=P7 (n:=10) PB h.nm
 have:=h.m
 omega
theorem c95 {c:UInt8} (h:c≠95):(true==(((UInt8.toNat c:Nat):Int)==95))=false:=by
 have:c.toNat≠95:=fun e=>h (QE.1 e)
 rw[beq_eq_false_iff_ne];intro e
 have:=(beq_iff_eq.1 e.symm)
 omega
theorem c46 (c:UInt8):(true==(((UInt8.toNat c:Nat):Int)==46))=decide (c=46):=by
 by_cases h:c=46
 ·subst h;rfl
 ·have:c.toNat≠46:=fun e=>h (QE.1 e)
  rw[decide_eq_false h,beq_eq_false_iff_ne];intro e
  have:=(beq_iff_eq.1 e.symm)
  omega
theorem Inv.step {l:PZ} {stF st:RS} {rest:PZ} {k:Nat} (h:Inv l stF rest st k) {c:UInt8} (hc:l[k]? =some c) (hd:isD c=true) (h46:c≠46):Inv l stF rest (aN st (c.toNat-48)) (k+1):=by
 have hk:k<l.length:=(List.getElem?_eq_some_iff.1 hc).1
 have hdr:l.drop k=c::l.drop (k+1):=by
  rw[Qz hk];congr 1;exact(List.getElem?_eq_some_iff.1 hc).2
 have hs:=h.sc
 rw[hdr]at hs
 simp only[scan,if_neg h46,hd,if_true]at hs
 simp only[isD,P6,decide_eq_true_eq]at hd
 have:=h.nm;have:=h.m;have:=h.nn;have:=h.nd;have:=h.d0;have:=h.d1
 refine⟨hs,?_,?_,?_,?_,?_,?_,hk⟩
 all_goals unfold aN
 ·split
  ·exact h.nm
  ·split
   ·show st.nm+1<=19;omega
   ·exact h.nm
 ·split
  ·exact h.m
  ·split
   ·show st.m*10+(c.toNat-48)<10^(st.nm+1)
    rw[QR];omega
   ·exact h.m
 ·split
  ·exact h.nn
  ·split
   ·show st.nm+1<=st.nd+1;omega
   ·show st.nm<=st.nd+1;omega
 ·split
  ·show st.nd<=k+1;omega
  ·split
   ·show st.nd+1<=k+1;omega
   ·show st.nd+1<=k+1;omega
 ·split
  ·show-((k+1:Nat):Int)<=st.dp-1;omega
  ·split
   ·show-((k+1:Nat):Int)<=st.dp;omega
   ·show-((k+1:Nat):Int)<=st.dp;omega
 ·split
  ·show st.dp-1<=((k+1:Nat):Int);omega
  ·split
   ·show st.dp<=((k+1:Nat):Int);omega
   ·show st.dp<=((k+1:Nat):Int);omega
theorem Inv.dots {l:PZ} {stF st:RS} {rest:PZ} {k:Nat} (h:Inv l stF rest st k) (hc:l[k]? =some 46) (hd:st.dot=false):Inv l stF rest (eO st) (k+1):=by
 have hk:k<l.length:=(List.getElem?_eq_some_iff.1 hc).1
 have hdr:l.drop k=46::l.drop (k+1):=by
  rw[Qz hk];congr 1;exact(List.getElem?_eq_some_iff.1 hc).2
 have hs:=h.sc
 rw[hdr]at hs
 simp only[scan,if_true,hd,Qq,if_false]at hs
 have:=h.nd
 exact⟨hs,h.nm,h.m,h.nn,by show st.nd<=k+1;omega,by show-((k+1:Nat):Int)<=(st.nd:Int);omega,by show(st.nd:Int)<=((k+1:Nat):Int);omega,hk⟩
theorem Inv.stop {l:PZ} {stF st:RS} {rest:PZ} {k:Nat} (h:Inv l stF rest st k) {c:UInt8} (hc:l[k]? =some c) (hd:(c=46/\st.dot=true)\/(c≠46/\isD c=false)):st=stF/\rest=l.drop k:=by
 have hk:k<l.length:=(List.getElem?_eq_some_iff.1 hc).1
 have hdr:l.drop k=c::l.drop (k+1):=by
  rw[Qz hk];congr 1;exact(List.getElem?_eq_some_iff.1 hc).2
 have hs:=h.sc
 rw[hdr]at hs ⊢
 rcases hd with⟨rfl,hd⟩ | ⟨h46,hd⟩
 ·simp only[scan,if_true,hd,Prod.mk.injEq]at hs
  exact⟨hs.1,hs.2.symm⟩
 ·simp only[scan,if_neg h46,hd,Qq,if_false,Prod.mk.injEq]at hs
  exact⟨hs.1,hs.2.symm⟩
theorem Inv.fin {l:PZ} {stF st:RS} {rest:PZ} {k:Nat} (h:Inv l stF rest st k) (hk:¬k<l.length):st=stF/\rest=l.drop k:=by
 have hdr:l.drop k=[]:=RF PA
 have hs:=h.sc
 rw[hdr]at hs ⊢
 simp only[scan,Prod.mk.injEq]at hs
 exact⟨hs.1,hs.2.symm⟩
structure Expo (rest:PZ) (c:UInt8) (sg ds:PZ):Prop where
 eq:rest=c::(sg++ds)
 e:c=101\/c=69
 sg:sg=[]\/sg=[43]\/sg=[45]
 ne:ds≠[]
 le:ds.length<=4
 dg:∀d∈ds,isD d=true
end Go.Proofs.YtmmmmjcfojhiaaaGreatDoor.N
/- readFloat answers as the scan does, for texts of numbers. Conditions: none. -/
namespace Go.Proofs.YtmmmmjcfojhiaaaGreatDoor.N
open Go.X Go.Proofs.YtmmmmjcfojhiaaaGreatDoor
theorem Dy :∀n:Fin 256,(bits .or .u8 ((n.val:Nat):Int) 32=101) ↔ (n.val=101\/n.val=69):=by decide+kernel
theorem Dz (c:UInt8):(bits .or .u8 ((UInt8.toNat c:Nat):Int) 32=101) ↔ (c=101\/c=69):=by
 have:=Dy ⟨c.toNat,c.toNat_lt⟩
 rw[this]
 exact⟨fun h=>h.imp (fun e=>QE.1 e) fun e=>QE.1 e,fun h=>h.imp (fun e=>by subst e;rfl) fun e=>by subst e;rfl⟩
theorem eqB {c d:UInt8}:(((UInt8.toNat c:Nat):Int)=(d.toNat:Int)) ↔ c=d:=
 ⟨fun h=>QE.1 PA,fun h=>by rw[h]⟩
theorem mN {ds:PZ} {q:Nat} {d:UInt8} (h:ds[q]? =some d):cy (ds.take (q+1))=cy (ds.take q)*10+(d.toNat-48):=by
 rw[Rf,h]
 unfold cy
 rw[List.foldl_append];rfl
theorem lI {ds:PZ} (hd:∀d∈ds,48<=d.toNat/\d.toNat<=57):∀q,q<=ds.length->cy (ds.take q)<10^q
 | 0,_=>by simp[cy]
 | q+1,hq=>by
  have h:=List.getElem?_eq_getElem (show q<ds.length by omega)
  have hm:=hd _ (RJ (show q<ds.length by omega))
  have ih:=lI hd q PA
  rw[mN h,QR];omega
theorem y9 {c:UInt8} {sg ds:PZ} (hsg:sg=[]\/sg=[43]\/sg=[45]) (hd:∀d∈ds,48<=d.toNat/\d.toNat<=57):cZ (c::(sg++ds))=(cy ds:Int)*(if sg=[45]then-1 else 1):=by
 rcases hsg with rfl | rfl | rfl
 ·cases ds with
  | nil=>simp[cZ,cy]
  | cons a b=>
   have ha:=hd a PC
   have e1:a≠43:=fun e=>by subst e;simp at ha
   have e2:a≠45:=fun e=>by subst e;simp at ha
   simp only[cZ,Rq,List.head?_cons,Option.some.injEq,if_neg e1,if_neg e2]
   simp
 ·simp[cZ]
 ·simp[cZ]
theorem two {a b:Value} {c d:Value} (h: [a,b]=[c,d]):a=c/\b=d:=by simpa using h
theorem xu {s:P0} {stF:RS} {rest:PZ} {R:Int->Int->Bool->Bool->Bool->Int->Bool->Prop} (h0:0<s.size) (hs:s.size<100000) (hc:∀c∈s.data.toList,c≠120/\c≠88/\c≠95)
  (hsc:scan RS0 (s.data.toList.drop (av s.data.toList).2)=(stF,rest)) (hdig:stF.dig=true) (hrest:rest=[]\/∃c sg ds,Expo rest c sg ds)
  (r:R stF.m (bx stF rest) (av s.data.toList).1 stF.tr false s.data.toList.length true):H9 s R:=by
 intro h _
 apply CL
 unfold MX
 have hsz:s.size=s.data.toList.length:=rfl
 have hnu:∀c∈s.data.toList,c≠95:=fun c q=>(hc c q).2.2
 generalize hl:s.data.toList=l at*
 have at':∀k:Nat,s[k]? =l[k]? :=fun k=>by rw[qR,hl]
 obtain⟨c0,l0,hl0⟩:∃c0 l0,l=c0::l0:=by
  cases l with
  | nil=>rw[hsz]at h0;simp at h0
  | cons a b=>exact⟨a,b,rfl⟩
 refine ae (fun h=>absurd h PA) fun _=>⟨PB,PA,c0,by rw[Int.toNat_zero,at',hl0];rfl,fun lz h'=>lz=[PV (av l).1,PN ((av l).2:Int)]/\h'=h,?_,?_⟩
 ·rw[hl0]
  refine au (fun w=>?_) fun w=>⟨fun lz h'=>lz=[PV (av (c0::l0)).1,PN ((av (c0::l0)).2:Int)]/\h'=h,au (fun h2=>?_) fun h2=>?_,fun _ _ _ h=>h⟩
  ·have:c0=43:=QE.1 (by rw[show(43:UInt8).toNat=43 from rfl];omega)
   subst this;exact⟨rfl,rfl⟩
  ·have:c0=45:=QE.1 (by rw[show(45:UInt8).toNat=45 from rfl];omega)
   subst this;exact⟨rfl,rfl⟩
  ·have e1:c0≠43:=fun e=>w (by subst e;rfl)
   have e2:c0≠45:=fun e=>h2 (by subst e;rfl)
   unfold av;simp only[if_neg e1,if_neg e2];exact⟨rfl,trivial⟩
 rintro ng i hv ⟨e,eh⟩
 subst eh
 have hj1:(av l).2<=1:=by
  rw[hl0];unfold av;simp only[];split
  ·exact P3 _
  ·split<;>simp
 have hj:(av l).2<=l.length:=by rw[hl0,Qk];rw[hl0]at hj1;omega
 generalize (av l).2=j at*
 generalize (av l).1=ng' at*
 obtain⟨e1,e2⟩:=two e
 obtain rfl:ng=ng':=by simpa using e1
 obtain rfl:i=(j:Int):=by simpa using e2
 clear e e1 e2
 intro K
 have tail:∀g:ab,Fr [] hv g->K g:=by
  intro g fg
  show ∃Jv17:List Value->ab->Prop,_
  have hI0:Inv l stF rest RS0 j:=⟨hsc,PB,PB,PB,QU _,by show-(j:Int)<=0;omega,by show(0:Int)<=j;omega,hj⟩
  let St:RS->Nat->List Value:=fun st k=>[PO (st.m:Int),PV st.tr,PN (k:Int),PV false,PV st.dot,PV st.dig,PN (st.nd:Int),PN (st.nm:Int),PN st.dp]
  refine⟨fun lz h'=>g=h'/\∃k:Nat,lz=St stF k/\Inv l stF rest stF k/\rest=l.drop k,⟨fun lz h'=>g=h'/\∃(st:RS) (k:Nat),lz=St st k/\Inv l stF rest st k,
   fun lz _=>match lz with | [_,_,.int _ i,_,_,_,_,_,_]=>l.length-i.toNat | _=>0,⟨rfl,RS0,j,rfl,hI0⟩,?_⟩,?_⟩
  ·rintro a b c d e f g x y _ ⟨rfl,st,k,hst0,hI⟩
   simp only[St,List.cons.injEq,Value.int.injEq,Value.bool.injEq,true_and,and_true]at hst0
   obtain⟨rfl,rfl,rfl,rfl,rfl,rfl,rfl,rfl,rfl⟩:=hst0
   rw[hsz]
   refine ae (fun hlt=>?_) fun hge=>?_
   ·have hk:k<l.length:=by omega
    refine⟨fun lz h'=>g=h'/\∃st':RS,lz=[PO (st'.m:Int),PV st'.tr,PV false,PV st'.dot,PV st'.dig,PN (st'.nd:Int),PN (st'.nm:Int),PN st'.dp]/\Inv l stF rest st' (k+1),?_,?_⟩
    ·obtain⟨c,hc⟩:∃c,l[k]? =some c:=⟨_,List.getElem?_eq_getElem hk⟩
     have hcm:c∈l:=Qa hc
     have exit:(c=46/\st.dot=true)\/(c≠46/\isD c=false)->(g=g/\∃k':Nat,St st k=St stF k'/\Inv l stF rest stF k'/\rest=l.drop k'):=by
      intro hd
      obtain⟨rfl,e2⟩:=hI.stop hc hd
      exact⟨rfl,k,rfl,hI,e2⟩
     refine⟨PA,hlt,c,by rw[P8,at',hc],az (c95 (hnu c hcm)) ?_⟩
     rw[c46]
     refine ae (fun h46=>?_) fun h46=>?_
     ·subst h46
      refine aU (fun hd=>exit (.inl ⟨rfl,hd⟩)) fun hd=>⟨rfl,eO st,rfl,hI.dots hc hd⟩
     ·intro K11
      have k11:K11 (isD c) g:=by
       show cnd (isD c) _ _
       refine aU (fun hd=>?_) fun hd=>?_
       ·have hI2:=hI.step hc hd h46
        simp only[isD,P6,decide_eq_true_eq]at hd
        have e48:(((c.toNat:Nat):Int)=48) ↔ c.toNat-48=0:=by omega
        intro K12
        have k12:¬(c.toNat-48=0/\st.nd=0)->K12 g:=by
         intro hq
         show ∃Jv19:List Value->ab->Prop,_
         have hnd:=hI.nd
         have hnd1:i64.wrap ((st.nd:Int)+1)=((st.nd+1:Nat):Int):=wr1 PA
         rw[hnd1]
         refine⟨fun lz h'=>g=h'/\∃st':RS,aN st (c.toNat-48)=st'/\lz=[PO (st'.m:Int),PV st'.tr,PN (st'.nm:Int)],ae (fun h19=>?_) fun h19=>?_,?_⟩
         ·have hst:aN st (c.toNat-48)=⟨st.m*10+(c.toNat-48),st.tr,st.dot,true,st.nd+1,st.nm+1,st.dp⟩:=by unfold aN;rw[if_neg hq,if_pos PA]
          have hm:=hI2.lt64
          rw[hst]at hm
          have hm:st.m*10+(c.toNat-48)<10000000000000000000:=hm
          refine⟨rfl,_,hst,?_⟩
          rw[wr1 PA,u8w (x:=((c.toNat:Nat):Int)-48) PA PA,show((c.toNat:Nat):Int)-48=((c.toNat-48:Nat):Int) by omega,dz (a:=c.toNat-48) PA,show((st.m:Nat):Int)*10=((st.m*10:Nat):Int) by omega,dz (a:=st.m*10) PA,<-RT,dz PA]
         ·have hst:aN st (c.toNat-48)=⟨st.m,st.tr||decide (c.toNat-48≠0),st.dot,true,st.nd+1,st.nm,st.dp⟩:=by unfold aN;rw[if_neg hq,if_neg PA]
          refine⟨fun lz h'=>g=h'/\lz=[PV (st.tr||decide (c.toNat-48≠0))],cn (fun q=>?_) fun q=>?_,?_⟩
          ·rw[decide_eq_true (show c.toNat-48≠0 from fun w=>q (e48.2 w)),Bool.or_true];exact⟨rfl,rfl⟩
          ·rw[decide_eq_false (show ¬c.toNat-48≠0 from fun w=>w (e48.1 q)),Bool.or_false];exact⟨rfl,rfl⟩
          ·rintro t _ ⟨rfl,e⟩
           obtain rfl:t=(st.tr||decide (c.toNat-48≠0)):=by simpa using e
           exact⟨rfl,_,hst,rfl⟩
         ·rintro a b g _ ⟨rfl,st',hst,e⟩
          simp only[List.cons.injEq,Value.int.injEq,Value.bool.injEq,true_and,and_true]at e
          obtain⟨rfl,rfl,rfl⟩:=e
          rw[hst]at hI2
          have e5:st'.dot=st.dot/\st'.dig=true/\st'.nd=st.nd+1/\st'.dp=st.dp:=by
           rw[<-hst];unfold aN;rw[if_neg hq];split<;>exact⟨rfl,rfl,rfl,rfl⟩
          exact⟨rfl,st',by rw[e5.1,e5.2.1,e5.2.2.1,e5.2.2.2],hI2⟩
        refine au (fun q0=>au (fun hn=>?_) fun hn=>k12 fun q=>hn PA) fun q0=>k12 fun q=>q0 (e48.2 q.1)
        have hz:c.toNat-48=0/\st.nd=0:=⟨e48.1 q0,PA⟩
        have hst:aN st (c.toNat-48)=⟨st.m,st.tr,st.dot,true,st.nd,st.nm,st.dp-1⟩:=by unfold aN;rw[if_pos hz]
        rw[hst]at hI2
        have hb:=hI.d0;have hb1:=hI.d1
        exact⟨rfl,⟨st.m,st.tr,st.dot,true,st.nd,st.nm,st.dp-1⟩,by rw[wr (x:=st.dp-1) PA PA],hI2⟩
       ·intro K13
        refine az PB ?_
        show cnd _ _ _
        exact az PB (exit (.inr ⟨h46,hd⟩))
      refine ae (fun q=>?_) fun q=>?_
      ·have h1:48<=c.toNat:=by omega
       have e:(true==decide (((c.toNat:Nat):Int)<=57))=isD c:=by
        simp only[isD,decide_eq_true h1,Rn]
        by_cases h2:c.toNat<=57
        ·rw[decide_eq_true h2,decide_eq_true (show((c.toNat:Nat):Int)<=57 by omega)];rfl
        ·rw[decide_eq_false h2,decide_eq_false (show ¬((c.toNat:Nat):Int)<=57 by omega)];rfl
       rw[e];exact k11
      ·have h1:¬ 48<=c.toNat:=by omega
       have e:(true==false)=isD c:=by simp only[isD,decide_eq_false h1,Bool.false_and];rfl
       rw[e];exact k11
    ·rintro a b d e f g x y _ ⟨rfl,st',e9,hI'⟩
     simp only[List.cons.injEq,Value.int.injEq,Value.bool.injEq,true_and,and_true]at e9
     obtain⟨rfl,rfl,rfl,rfl,rfl,rfl,rfl,rfl⟩:=e9
     rw[wr1 PA]
     exact⟨⟨rfl,st',k+1,rfl,hI'⟩,by dsimp only;omega⟩
   ·obtain⟨rfl,e2⟩:=hI.fin PA
    exact⟨rfl,k,rfl,hI,e2⟩
  ·rintro a b c d e f g x y _ ⟨rfl,k,hst0,hI,hrk⟩
   simp only[St,List.cons.injEq,Value.int.injEq,Value.bool.injEq,true_and,and_true]at hst0
   obtain⟨rfl,rfl,rfl,rfl,rfl,rfl,rfl,rfl,rfl⟩:=hst0
   rw[hdig]
   have b1:=hI.nm;have b2:=hI.nd;have b3:=hI.d0;have b4:=hI.d1;have b5:=hI.k
   obtain⟨dp,hdp⟩:∃dp:Int,dp=(if stF.dot then stF.dp else(stF.nd:Int)):=⟨_,rfl⟩
   have hdpb: -(k:Int)<=dp/\dp<=k:=by rw[hdp];split<;>omega
   refine az rfl ⟨fun lz h'=>lz=[PN dp]/\g=h',bj (fun q=>by rw[hdp,q];exact⟨rfl,rfl⟩) fun q=>by rw[hdp,q];exact⟨rfl,rfl⟩,?_⟩
   rintro d1 _ ⟨e,rfl⟩
   obtain rfl:d1=dp:=by simpa using e
   refine⟨fun lz h'=>lz=[PN (stF.nm:Int),PN d1]/\g=h',az PB ⟨rfl,rfl⟩,?_⟩
   rintro a1 b1' _ ⟨e,rfl⟩
   obtain⟨e1,e2⟩:=two e
   obtain rfl:a1=(stF.nm:Int):=by simpa using e1
   obtain rfl:b1'=d1:=by simpa using e2
   clear e e1 e2
   intro K18
   have k18:∀(i:Int) (u:Bool) (d:Int) (h':ab),Fr [] g h'->i=(l.length:Int)->u=false->d=b1'+cZ rest-> -100000<=cZ rest->cZ rest<=100000->K18 i u d h':=by
    rintro _ _ _ h' fr rfl rfl rfl q1 q2
    show ∃Jv29:List Value->ab->Prop,_
    refine⟨fun lz h2=>lz=[PN (bx stF rest)]/\h'=h2,cn (fun q=>?_) fun q=>?_,?_⟩
    ·refine⟨?_,rfl⟩
     unfold bx;rw[if_pos PA,<-hdp,wr PA PA]
    ·refine⟨?_,rfl⟩
     unfold bx;rw[if_neg PA]
    ·rintro ex _ ⟨e,rfl⟩
     obtain rfl:ex=bx stF rest:=by simpa using e
     intro K19
     exact az rfl ⟨_,_,_,_,_,_,_,sy0 (fg.trans fr),rfl,r⟩
   have fine:∀e:Int,-100000<=e->e<=100000->cZ rest=e->i64.wrap (b1'+e)=b1'+cZ rest:=fun e h1 h2 h3=>by rw[h3,wr PA PA]
   rw[hsz]
   refine ae (fun hlt=>?_) fun hge=>az PB ?_
   rotate_left
   ·have:k=l.length:=by omega
    subst this
    have hr0:rest=[]:=by rw[hrk];exact List.drop_length
    exact k18 _ _ _ _ (Fr.refl _ _) rfl rfl (by rw[hr0];show b1'=b1'+0;omega) (by rw[hr0];decide) (by rw[hr0];decide)
   have hk:k<l.length:=by omega
   have hdr:l.drop k=l[k]::l.drop (k+1):=Qz hk
   rcases hrest with h0 | ⟨c,sg,ds,hE⟩
   ·rw[hrk,hdr]at h0;cases h0
   have heq:=hE.eq
   rw[hrk,hdr]at heq
   obtain⟨hc,htl⟩:=List.cons.inj heq
   have hckk:l[k]? =some c:=by rw[List.getElem?_eq_getElem hk,hc]
   have hlen:(l.drop (k+1)).length=l.length-(k+1):=Ry
   rw[htl,P9]at hlen
   have hdsn:0<ds.length:=List.length_pos_iff.2 hE.ne
   have hsgn:sg.length<=1:=by rcases hE.sg with e | e | e<;>subst e<;>simp
   have gat:∀q,(sg++ds)[q]? =l[k+1+q]? :=fun q=>by rw[<-htl,List.getElem?_drop]
   refine⟨PA,hlt,c,by rw[P8,at',hckk],?_⟩
   refine ak [] NQ PC (fun _ _ r=>r.2) ?_
   rintro _ h1 ⟨rfl,f1⟩
   refine⟨_,rfl,fun lz h'=>∃d,lz=[PN (l.length:Int),PV false,PN d]/\d=b1'+cZ rest/\ -100000<=cZ rest/\cZ rest<=100000/\Fr [] g h',au (fun _=>?_) fun q=>absurd ((Dz c).2 hE.e) q,?_⟩
   rotate_left
   ·rintro a u d h' ⟨d',e,q1,q2,q3,q4⟩
    simp only[List.cons.injEq,Value.int.injEq,Value.bool.injEq,true_and,and_true]at e
    obtain⟨rfl,rfl,rfl⟩:=e
    exact k18 _ _ _ _ q4 rfl rfl q1 q2 q3
   rw[wr1 (k:=k) PA]
   refine ae (fun q=>absurd q PA) fun _=>?_
   obtain⟨c1,hc1⟩:∃c1,(sg++ds)[0]? =some c1:=⟨_,List.getElem?_eq_getElem (by rw[P9];omega)⟩
   refine⟨PA,PA,c1,by rw[P8,at',<-hc1,gat],?_⟩
   have hdg0:∀d∈ds,48<=d.toNat/\d.toNat<=57:=fun d hd=>by
    have:=hE.dg d hd
    simpa only[isD,P6,decide_eq_true_eq]using this
   have hV:cy ds<=9999:=by
    have h1:=lI hdg0 ds.length (P3 _)
    rw[RK]at h1
    have h2:=P7 (n:=10) PB hE.le
    have h3:(10:Nat)^4=10000:=rfl
    omega
   have hev:cZ rest=(cy ds:Int)*(if sg=[45]then-1 else 1):=by rw[hE.eq];exact y9 hE.sg hdg0
   have c1d:sg=[]->48<=c1.toNat:=fun e=>by
    subst e
    exact(hdg0 c1 (Qa (by simpa using hc1))).1
   have c1s:∀x:UInt8,sg=[x]->c1=x:=fun x e=>by
    subst e;simp at hc1;exact hc1.symm
   refine⟨fun lz h'=>lz=[PN ((k+1+sg.length:Nat):Int),PN (if sg=[45]then-1 else 1)]/\h1=h',au (fun q=>?_) fun q=>⟨fun lz h'=>lz=[PN ((k+1+sg.length:Nat):Int),PN (if sg=[45]then-1 else 1)]/\h1=h',au (fun h2=>?_) fun h2=>?_,fun _ _ _ h=>h⟩,?_⟩
   ·have hc43:c1=43:=eqB.1 q
    rcases hE.sg with e | e | e
    ·have:=c1d e;rw[hc43]at this;exact absurd this PB
    ·rw[wr1 PA,e];exact⟨rfl,rfl⟩
    ·have:=c1s _ e;rw[hc43]at this;exact absurd this PB
   ·have hc45:c1=45:=eqB.1 h2
    rcases hE.sg with e | e | e
    ·have:=c1d e;rw[hc45]at this;exact absurd this PB
    ·have:=c1s _ e;rw[hc45]at this;exact absurd this PB
    ·rw[wr1 PA,e];exact⟨rfl,rfl⟩
   ·rcases hE.sg with e | e | e
    ·rw[e];exact⟨rfl,rfl⟩
    ·exact absurd (eqB.2 (c1s _ e)) q
    ·exact absurd (eqB.2 (c1s _ e)) h2
   rintro i es _ ⟨e,rfl⟩
   obtain⟨e1,e2⟩:=two e
   obtain rfl:i=((k+1+sg.length:Nat):Int):=by simpa using e1
   obtain rfl:es=(if sg=[45]then-1 else 1):=by simpa using e2
   clear e e1 e2
   have dat:∀q,q<ds.length->∃d,ds[q]? =some d/\l[k+1+sg.length+q]? =some d/\48<=d.toNat/\d.toNat<=57:=by
    intro q hq
    refine⟨ds[q],List.getElem?_eq_getElem hq,?_,hdg0 _ (RJ hq)⟩
    rw[show k+1+sg.length+q=k+1+(sg.length+q) by omega,<-gat,List.getElem?_append_right PA,show sg.length+q-sg.length=q by omega,List.getElem?_eq_getElem hq]
   intro K14
   refine ae (fun q=>absurd q PA) fun _=>?_
   obtain⟨d0,_,hd0,r1,r2⟩:=dat 0 hdsn
   rw[RU]at hd0
   refine⟨PA,PA,d0,by rw[P8,at',hd0],ae (fun q=>absurd q PA) fun _=>⟨PA,PA,d0,by rw[P8,at',hd0],ae (fun q=>absurd q PA) fun _=>?_⟩⟩
   intro K17
   refine⟨fun lz h'=>h1=h'/\∃q:Nat,q<=ds.length/\lz=[PN ((k+1+sg.length+q:Nat):Int),PV false,PN (cy (ds.take q):Int)],fun lz _=>match lz with | [.int _ i,_,_]=>l.length-i.toNat | _=>0,⟨rfl,0,QU _,rfl⟩,?_⟩
   rintro a u d _ ⟨rfl,q,hq,e⟩
   simp only[List.cons.injEq,Value.int.injEq,Value.bool.injEq,true_and,and_true]at e
   obtain⟨rfl,rfl,rfl⟩:=e
   intro K16 K15
   by_cases hqd:q<ds.length
   ·obtain⟨d,hd1,hd2,r3,r4⟩:=dat q hqd
    have hlt2:((k+1+sg.length+q:Nat):Int)<(l.length:Int):=by omega
    have hat:s[Int.toNat ((k+1+sg.length+q:Nat):Int)]? =some d:=by rw[P8,at',hd2]
    refine ae (fun _=>⟨PA,hlt2,d,hat,ae (fun _=>⟨PA,hlt2,d,hat,ae (fun _=>?_) fun w=>absurd (show((d.toNat:Nat):Int)<=57 by omega) w⟩) fun w=>absurd (show(48:Int)<=((d.toNat:Nat):Int) by omega) w⟩) fun w=>absurd hlt2 w
    show ∃Jv27:List Value->ab->Prop,_
    have hvq:=lI hdg0 q PA
    have hvb:cy (ds.take q)<1000:=by
     have h2:=P7 (n:=10) PB (show q<=3 by have:=hE.le;omega)
     have h3:(10:Nat)^3=1000:=rfl
     omega
    have ew:i64.wrap (i64.wrap (i64.wrap (((cy (ds.take q):Nat):Int)*10)+i64.wrap ((d.toNat:Nat):Int))-48)=(cy (ds.take (q+1)):Int):=by
     rw[mN hd1,wr (x:=((cy (ds.take q):Nat):Int)*10) PA PA,wr (x:=((d.toNat:Nat):Int)) PA PA,wr (x:=((cy (ds.take q):Nat):Int)*10+((d.toNat:Nat):Int)) PA PA,wr PA PA]
     omega
    refine⟨fun lz h'=>lz=[PV false,PN (cy (ds.take (q+1)):Int)]/\h1=h',⟨PA,hlt2,d,hat,au (fun w=>absurd w PA) fun _=>⟨fun lz h'=>lz=[PN (cy (ds.take (q+1)):Int)]/\h1=h',ae (fun _=>⟨PA,hlt2,d,hat,by rw[ew];exact⟨rfl,rfl⟩⟩) fun w=>absurd (show((cy (ds.take q):Nat):Int)<10000 by omega) w,?_⟩⟩,?_⟩
    ·rintro e2 _ ⟨e,rfl⟩
     obtain rfl:e2=(cy (ds.take (q+1)):Int):=by simpa using e
     exact⟨rfl,rfl⟩
    ·rintro u e2 _ ⟨e,rfl⟩
     obtain⟨e3,e4⟩:=two e
     obtain rfl:u=false:=by simpa using e3
     obtain rfl:e2=(cy (ds.take (q+1)):Int):=by simpa using e4
     rw[wr1 PA]
     exact⟨⟨rfl,q+1,PA,rfl⟩,by dsimp only;omega⟩
   ·have hqe:q=ds.length:=by omega
    have hge2:¬((k+1+sg.length+q:Nat):Int)<(l.length:Int):=by omega
    refine ae (fun w=>absurd w hge2) fun _=>?_
    show ∃d,_
    have hb1: -9999<=(cy ds:Int)*(if sg=[45]then-1 else 1)/\(cy ds:Int)*(if sg=[45]then-1 else 1)<=9999:=by split<;>omega
    have ed:(cy (ds.take q):Int)=cy ds:=by rw[hqe,RK]
    rw[ed,wr (x:=(cy ds:Int)*(if sg=[45]then-1 else 1)) PA PA]
    exact⟨_,by rw[show k+1+sg.length+q=l.length by omega],fine _ PA PA hev,PA,PA,f1⟩
 refine ae (fun q=>?_) fun _=>tail _ (Fr.refl _ _)
 have e2:i64.wrap ((j:Int)+2)=j+2:=wr PA PA
 have e1:i64.wrap ((j:Int)+1)=((j+1:Nat):Int):=by rw[wr PA PA];omega
 rw[e2]at q
 have hlt:j+1<l.length:=by omega
 refine⟨PA,PA,l[j]' PA,by rw[P8,at',List.getElem?_eq_getElem],au (fun _=>?_) fun _=>tail _ (Fr.refl _ _)⟩
 rw[e1]
 refine⟨PA,PA,l[j+1],by rw[P8,at',List.getElem?_eq_getElem],?_⟩
 refine ak [] NQ PC (fun _ _ r=>r.2) ?_
 rintro _ h1 ⟨rfl,f1⟩
 refine⟨_,rfl,fun lz h'=>lz=[PV false,PN (j:Int),PO 10,PN 19,PR 101]/\h1=h',au (fun w=>?_) fun _=>⟨rfl,rfl⟩,?_⟩
 ·have hm:=hc _ (RJ hlt)
  rcases Pq _ w with e | e
  ·exact absurd e hm.1
  ·exact absurd e hm.2.1
 rintro a i3 c4 d5 e6 _ ⟨e,rfl⟩
 simp only[List.cons.injEq,Value.int.injEq,Value.bool.injEq,true_and,and_true]at e
 obtain⟨rfl,rfl,rfl,rfl,rfl⟩:=e
 exact tail _ f1
end Go.Proofs.YtmmmmjcfojhiaaaGreatDoor.N
/- What is told of special texts: a number's text is none; exact answers by floats. Conditions: none. -/
namespace Go.Proofs.YtmmmmjcfojhiaaaGreatDoor.N
open Go.X Go.Proofs.YtmmmmjcfojhiaaaGreatDoor
theorem Kj (s:P0) (a b:Nat):(s.extract a b).data.toList=(s.data.toList.take b).drop a:=by
 rw[Rk,RR]
 simp[List.drop_take]
theorem cb {c:UInt8}:isD c=true ↔ 48<=c.toNat/\c.toNat<=57:=by simp[isD]
theorem Kk {s p:P0} {R:Int->Prop} (hs:∀c r,s.data.toList=c::r->isD c=true) (hp:∃c r,p.data.toList=c::r/\58<=c.toNat) (hsz:s.size<100000) (r:R 0):yO s p R:=by
 apply MP
 unfold JH
 obtain⟨q,pr,hpl,hq⟩:=hp
 have hps:0<p.size:=by show 0<p.data.toList.length;rw[hpl];simp
 refine⟨fun i=>i=0,fun _=>0,rfl,?_⟩
 rintro _ rfl
 cases hl:s.data.toList with
 | nil=>
  have h0:s.size=0:=by show s.data.toList.length=0;rw[hl];rfl
  have e:(if(((s.size:Nat)):Int)<((p.size:Nat):Int)then((s.size:Nat):Int)else((p.size:Nat):Int))=0:=by rw[h0];split<;>omega
  rw[e]
  exact az PB r
 | cons c rest=>
  have h0:0<s.size:=by show 0<s.data.toList.length;rw[hl];simp
  have hd:=cb.1 (hs c rest hl)
  refine ae (fun _=>?_) fun h=>absurd h (by split<;>omega)
  refine⟨PB,PA,c,by rw[qR,hl];rfl,fun x=>x=((c.toNat:Nat):Int),ae (fun h=>absurd h PA) fun _=>rfl,?_⟩
  rintro _ rfl
  refine⟨PB,PA,q,by rw[qR,hpl];rfl,cn (fun _=>r) fun h=>absurd h PA⟩
def tH (l:PZ):Prop:=∃c r,l=c::r/\(isD c=true\/((c=43\/c=45)/\∃d r',r=d::r'/\isD d=true))
theorem xv {s:P0} {R:Nat->Int->Bool->Prop} (hs:s.size<100000) (h:tH s.data.toList) (r:R 0 0 false):CK s R:=by
 apply MW
 unfold JK
 obtain⟨c,l,hl,hc⟩:=h
 have h0:0<s.size:=by show 0<s.data.toList.length;rw[hl];simp
 refine au (fun h=>absurd h PA) fun _=>⟨PB,PA,c,by rw[qR,hl];rfl,True,?_,fun _=>r⟩
 refine⟨fun s2 _ _=>s2=s.extract 1 s.size/\∃d r',l=d::r'/\isD d=true,⟨fun x=>x=(decide (c=43)||decide (c=45)),au (fun h=>?_) fun h=>?_,?_⟩,?_⟩
 ·have:c=43:=eqB.1 h
  subst this;rfl
 ·by_cases h2:c=45
  ·subst h2;rfl
  ·have h1:c≠43:=fun e=>h (eqB.2 e)
   rw[decide_eq_false h1,decide_eq_false h2]
   show(((c.toNat:Nat):Int)==45)=false
   rw[beq_eq_false_iff_ne];exact fun e=>h2 (eqB.1 e)
 ·rintro _ rfl
  refine aU (fun hb=>?_) fun hb=>?_
  ·simp only[R2,decide_eq_true_eq]at hb
   have hd:∃d r',l=d::r'/\isD d=true:=by
    rcases hc with hc | hc
    ·rcases hb with rfl | rfl<;>simp[isD]at hc
    ·exact hc.2
   refine⟨PB,PA,c,by rw[qR,hl];rfl,fun _=>True,au (fun _=>trivial) fun _=>trivial,fun _ _=>⟨PB,PA,rfl,hd⟩⟩
  ·simp only[Bool.or_eq_false_iff,decide_eq_false_iff_not]at hb
   have hd:48<=c.toNat/\c.toNat<=57:=by
    rcases hc with hc | hc
    ·exact cb.1 hc
    ·rcases hc.1 with e | e
     ·exact absurd e hb.1
     ·exact absurd e hb.2
   refine⟨fun x=>x=false,au (fun h=>absurd h PA) fun _=>?_,?_⟩
   ·dsimp only;rw[beq_eq_false_iff_ne];omega
   rintro _ rfl
   refine az rfl ⟨fun x=>x=false,au (fun h=>absurd h PA) fun _=>?_,?_⟩
   ·dsimp only;rw[beq_eq_false_iff_ne];omega
   rintro _ rfl
   exact az rfl trivial
 ·rintro _ sg ns ⟨rfl,d,r',hdl,hd⟩
  have el:(s.extract 1 s.size).data.toList=l:=by
   rw[Kj,hl,QF (by rw[<-hl];exact P3 _)];rfl
  refine Kk (fun c r e=>?_) ⟨105,_,rfl,PB⟩ ?_ ?_
  ·rw[el,hdl]at e;cases e;exact hd
  ·show(s.extract 1 s.size).data.toList.length<_
   rw[el]
   have:s.size=l.length+1:=by show s.data.toList.length=_;rw[hl];rfl
   omega
  refine⟨fun x=>x=0,ae (fun h=>absurd h PB) fun _=>rfl,?_⟩
  rintro _ rfl
  exact az PB (az PB trivial)
end Go.Proofs.YtmmmmjcfojhiaaaGreatDoor.N
/- atof64exact as a function. Conditions: none. -/
namespace Go.Proofs.YtmmmmjcfojhiaaaGreatDoor.N
open Go.X Go.Proofs.YtmmmmjcfojhiaaaGreatDoor
def Ip (d:Ieee.Datum):Bool:=match d with | .number _ n _=>decide (n≠0) | _=>false
theorem Kl :∀k:Fin 23,Ip (F64.read (tF.getD k.val 0))=true:=by decide+kernel
theorem rU {k:Nat} (h:k<23):tF[k]? =some (tF.getD k 0)/\∃s n j,F64.read (tF.getD k 0)= .number s n j/\n≠0:=by
 have hl:k<tF.length:=h
 refine⟨PE,?_⟩
 have:=Kl ⟨k,h⟩
 unfold Ip at this
 grind
theorem xw (n:Int):isNaN (FloatKind.f64.nearest n)=false:=by
 unfold FloatKind.nearest FloatKind.encode
 exact pA rfl
theorem za {x:Nat} (h:isNaN x=false):isNaN (Op.negFloat .f64 x)=false:=by
 have:=ox x
 unfold fh at this
 grind
theorem DB {m:Nat} {e:Int} {neg:Bool} {R:Nat->Bool->Prop} (hm:m<18446744073709551616) (he1: -100000<e) (he2:e<100000) (r:R (cm m e neg).1 (cm m e neg).2):CN m e neg R:=by
 apply MZ
 unfold JL
 have h52:(2:Nat)^52=4503599627370496:=by decide
 rw[show min (Int.toNat 52) 64=52 from by decide,shr,h52]
 unfold cm at r
 refine⟨PB,cn (fun h=>?_) fun h=>?_⟩
 ·grind
 rw[if_neg PA]at r
 simp only[]at r
 have hn0:isNaN (FloatKind.f64.nearest (m:Int))=false:=xw _
 refine⟨fun f=>f=(if neg then Op.negFloat .f64 (FloatKind.f64.nearest (m:Int))else FloatKind.f64.nearest (m:Int)),aU (fun hb=>by grind) (fun hb=>by grind),?_⟩
 intro f hf
 have hfn:isNaN f=false:=by
  grind [za]
 rw[<-hf]at r
 refine⟨¬(e=0\/(0<e/\e<=37)\/(-22<=e/\e<0)),au (fun h=>?_) fun h0=>?_,fun hJ=>?_⟩
 ·grind
 ·rw[if_neg h0]at r
  have dv: -22<=e->e<0->¬(0<e/\e<=37)->0<=i64.wrap (0-e)/\i64.wrap (0-e)<((23:Nat):Int)/\∃x:Nat,tF[Int.toNat (i64.wrap (0-e))*1]? =some x/\∀r3:Nat,lU .f64 f x (FloatKind.f64.format.div f x) r3->R r3 true:=by
   intro q1 q2 q3
   rw[if_neg q3,if_pos ⟨q1,q2⟩]at r
   have ew:i64.wrap (0-e)= -e:=by rw[wr PA PA];omega
   rw[ew,Qy]
   obtain⟨t1,s,n,j,t2,t3⟩:=rU (k:=(-e).toNat) PA
   refine⟨PA,PA,_,t1,fun r3 hr3=>?_⟩
   have hd:=(DJ hfn t2 t3).1
   rw[show FloatKind.f64.format.div f (tF.getD (-e).toNat 0)=some (mP f (tF.getD (-e).toNat 0))from hd]at hr3
   have:r3=mP f (tF.getD (-e).toNat 0):=hr3
   grind
  refine ae (fun hp=>ae (fun h37=>?_) fun h37=>ae (fun h=>absurd h PA) fun _=>by omega) fun hp=>ae (fun hneg=>ae (fun h22=>dv h22 hneg PA) fun _=>by omega) fun _=>by omega
  rw[if_pos ⟨hp,h37⟩]at r
  refine⟨fun e2 f2=>e2=(if e>22 then 22 else e)/\f2=(if e>22 then eQ f (tF.getD (e-22).toNat 0)else f),ae (fun h=>?_) fun h=>⟨by rw[if_neg h],by rw[if_neg h]⟩,?_⟩
  ·have ew:i64.wrap (e-22)=e-22:=wr PA PA
   rw[ew,Qy]
   obtain⟨t1,s,n,j,t2,t3⟩:=rU (k:=(e-22).toNat) PA
   refine⟨PA,PA,_,t1,fun r3 hr3=>?_⟩
   have hd:=(lM hfn t2 t3).1
   rw[show FloatKind.f64.format.mul f (tF.getD (e-22).toNat 0)=some (eQ f (tF.getD (e-22).toNat 0))from hd]at hr3
   have:r3=eQ f (tF.getD (e-22).toNat 0):=hr3
   grind
  rintro e2 f2 ⟨h1,h2⟩
  have hf2:isNaN f2=false:=by
   rw[h2];split
   ·obtain⟨t1,s,n,j,t2,t3⟩:=rU (k:=(e-22).toNat) PA
    exact(lM hfn t2 t3).2
   ·exact hfn
  have he:0<=e2/\e2<23:=by omega
  rw[<-h1,<-h2]at r
  refine aU (fun hg=>?_) fun hg=>aU (fun hl=>?_) fun hl=>?_
  ·grind
  ·grind
  ·rw[if_neg (by simpa using hg),if_neg (by simpa using hl)]at r
   obtain⟨t1,s,n,j,t2,t3⟩:=rU (k:=e2.toNat) PA
   rw[Qy]
   refine⟨PA,PA,_,t1,fun r3 hr3=>?_⟩
   have hd:=(lM hf2 t2 t3).1
   rw[show FloatKind.f64.format.mul f2 (tF.getD e2.toNat 0)=some (eQ f2 (tF.getD e2.toNat 0))from hd]at hr3
   have:r3=eQ f2 (tF.getD e2.toNat 0):=hr3
   grind
 grind
def cd (ng:Bool):Nat:=if ng then 9223372036854775808 else 0
structure Txt (s:P0) (st:RS) (rest:PZ):Prop where
 sz:s.size<100000
 hd:tH s.data.toList
 ch:∀c∈s.data.toList,c≠120/\c≠88/\c≠95
 sc:scan RS0 (s.data.toList.drop (av s.data.toList).2)=(st,rest)
 dig:st.dig=true
 rest:rest=[]\/∃c sg ds,Expo rest c sg ds
theorem tI {l:PZ} {st:RS} {rest:PZ}:∀{a:RS},a.nm<=19->a.m<10^a.nm->scan a l=(st,rest)->st.m<10000000000000000000:=by
 induction l with
 | nil=>
  intro a h1 h2 h
  simp only[scan,Prod.mk.injEq]at h
  rw[<-h.1]
  have:=P7 (n:=10) PB h1
  omega
 | cons c r ih=>
  intro a h1 h2 h
  have stop:a.m<10000000000000000000:=by
   have:=P7 (n:=10) PB h1
   omega
  simp only[scan]at h
  split at h
  ·split at h
   ·simp only[Prod.mk.injEq]at h;rw[<-h.1];exact stop
   ·exact ih (a:=eO a) h1 h2 h
  ·split at h
   ·rename_i hd
    have hd:=cb.1 hd
    refine ih (a:=aN a (c.toNat-48)) ?_ ?_ h
    ·unfold aN;split
     ·exact h1
     ·split
      ·show a.nm+1<=19;omega
      ·exact h1
    ·unfold aN;split
     ·exact h2
     ·split
      ·show a.m*10+(c.toNat-48)<10^(a.nm+1);rw[QR];omega
      ·exact h2
   ·simp only[Prod.mk.injEq]at h;rw[<-h.1];exact stop
def pv (m:Nat) (e:Int) (ng:Bool):Nat:=if m=0 then(bits .or .u64 (cd ng:Int) 0).toNat else(cm m e ng).1
theorem Kp {s:P0} {st:RS} {rest:PZ} {R:Nat->Int->Option Int->Prop} (h:Txt s st rest) (ht:st.tr=false) (h1: -345<=bx st rest) (h2:bx st rest<=310)
  (hx:st.m≠0->(cm st.m (bx st rest) (av s.data.toList).1).2=true) (r:R (pv st.m (bx st rest) (av s.data.toList).1) s.size none):vb s R:=by
 apply Ia
 unfold GB
 have h0:0<s.size:=by
  obtain⟨c,l,hl,_⟩:=h.hd
  show 0<s.data.toList.length
  rw[hl];simp
 refine xv h.sz h.hd (az rfl (xu h0 h.sz h.ch h.sc h.dig h.rest ?_))
 have hm:=tI (a:=RS0) PB PB h.sc
 rw[ht]
 generalize bx st rest=e at*
 generalize (av s.data.toList).1=ng at*
 have esz:((s.data.toList.length:Nat):Int)=(s.size:Int):=rfl
 rw[esz]
 refine az rfl (az rfl ⟨False,aJ rfl (pH ?_),fun h=>h⟩)
 have esg:u64.wrap (((if ng=true then 1 else 0:Nat):Int)*2^min (Int.toNat 63) 64)=(cd ng:Int):=by
  cases ng<;>decide
 rw[esg]
 unfold pv at r
 refine⟨PB,au (fun hz=>?_) fun hz=>?_⟩
 ·rw[if_pos PA]at r
  exact bh (dT _) ⟨_,rfl,r⟩
 rw[if_neg PA]at r
 have hx:=hx PA
 refine ae (fun hb=>absurd hb PA) fun hb=>ae (fun hc=>absurd hc PA) fun hc=>?_
 exact⟨(cm st.m e ng).2=false,aJ rfl (DB PA PA PA (aU (fun _=>r) fun q=>q)),fun q=>by rw[hx]at q;cases q⟩
theorem Kq {s:P0} {st:RS} {rest:PZ} {R:Nat->Option Int->Prop} (h:Txt s st rest) (ht:st.tr=false) (h1: -345<=bx st rest) (h2:bx st rest<=310)
  (hx:st.m≠0->(cm st.m (bx st rest) (av s.data.toList).1).2=true) (r:R (pv st.m (bx st rest) (av s.data.toList).1) none):vc s 64 R:=by
 apply CV
 unfold CU
 apply CS
 unfold CR
 refine az PB (Kp h ht h1 h2 hx ?_)
 generalize pv st.m (bx st rest) (av s.data.toList).1=v at*
 refine⟨fun _=>⟨fun _=>az PC r,fun c hc=>by cases hc⟩,fun c he=>by cases he⟩
end Go.Proofs.YtmmmmjcfojhiaaaGreatDoor.N
