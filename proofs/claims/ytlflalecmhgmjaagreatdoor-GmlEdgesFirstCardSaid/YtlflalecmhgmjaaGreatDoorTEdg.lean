/- What short texts of numbers read as: whole numbers, one and a half. Conditions: none. -/
import Derived.Test.YtlflalecmhgmjaaGreatDoorGFirst
import Derived.Test.YtlflalecmhgmjaaGreatDoorHRead
import Derived.Test.YtlflalecmhgmjaaGreatDoorWEnv
import Derived.Test.YtlflalecmhgmjaaGreatDoorYGl
import Derived.Test.YtlflalecmhgmjaaGreatDoorHClean
import Derived.Test.YtlflalecmhgmjaaGreatDoorTLib
set_option linter.unusedVariables false
set_option linter.unusedSimpArgs false
namespace Go.Proofs.YtlflalecmhgmjaaGreatDoor.N
open Go.X Go.Proofs.YtlflalecmhgmjaaGreatDoor
set_option maxRecDepth 100000
set_option maxHeartbeats 1000000
structure Fast (b:ByteArray) (st:RS) (rest:List UInt8):Prop where
 t:Txt b st rest
 tr:st.tr=false
 e1: -345<=expV st rest
 e2:expV st rest<=310
 x:st.m≠0->(exactF st.m (expV st rest) (sgnOf b.data.toList).1).2=true
def scB (b:ByteArray):RS × List UInt8:=scan RS0 (b.data.toList.drop (sgnOf b.data.toList).2)
def fsV (b:ByteArray):Nat:=fastV (scB b).1.m (expV (scB b).1 (scB b).2) (sgnOf b.data.toList).1
open Classical in
noncomputable def rdF (b : ByteArray) : Option (Nat × Nat) :=
 if b.size<=262144/\(numF b.data.toList=true->b.size<=64->Fast b (scB b).1 (scB b).2)then some ((readV b.data.toList (fsV b)).1,(readV b.data.toList (fsV b)).2.toNat)else none
theorem readV_nn (l:List UInt8) (V:Nat):0<=(readV l V).2:=by
 unfold readV
 split
 ·decide
 split
 ·decide
 split
 ·decide
 split
 ·decide
 split
 ·decide
 split<;>simp
theorem rdF_ok (gl:GL):RdOK rdF gl:=by
 intro t x e ht h g
 unfold rdF at ht
 split at ht
 ·rename_i hc
  obtain⟨h1,h2⟩:=hc
  simp only[Option.some.injEq,Prod.mk.injEq]at ht
  obtain⟨rfl,rfl⟩:=ht
  rw[Int.toNat_of_nonneg (readV_nn _ _)]
  refine ok260' (V:=fsV t) g (by omega) fun q1 q2=>?_
  have f:=h2 q1 q2
  exact⟨none,.inl rfl,fun R r=>ok323f f.t f.tr f.e1 f.e2 f.x r⟩
 ·cases ht
def fDg (D:List UInt8):RS:=D.foldl (fun s c=>stepD s (dgt c)) RS0
theorem fDg_ok :∀(D:List UInt8) (s:RS),(∀c∈D,isD c=true)->s.nm+D.length<=19->s.nd=s.nm->s.m<10^s.nm->s.tr=false->s.dot=false->
  (fun q:RS=>q.nd=q.nm/\q.nm<=s.nm+D.length/\q.m<10^q.nm/\q.tr=false/\q.dot=false) (D.foldl (fun s c=>stepD s (dgt c)) s)
 | [],s,_,_,h1,h2,h3,h4=>⟨h1,by simp,h2,h3,h4⟩
 | c::D,s,hD,hl,h1,h2,h3,h4=>by
  have hc:=isD_iff.1 (hD c (by simp))
  have hd:dgt c<=9:=by unfold dgt;omega
  simp only[List.length_cons]at hl
  rw[List.foldl_cons]
  have hs:(fun q:RS=>q.nd=q.nm/\q.nm<=s.nm+1/\q.m<10^q.nm/\q.tr=false/\q.dot=false) (stepD s (dgt c)):=by
   unfold stepD
   split
   ·exact ⟨h1,by simp,h2,h3,h4⟩
   ·rw [if_pos (by omega)]
    refine⟨by show s.nd+1=s.nm+1;omega,Nat.le_refl _,?_,h3,h4⟩
    show s.m*10+dgt c<10^(s.nm+1)
    rw[Nat.pow_succ];omega
  obtain⟨k1,k2,k3,k4,k5⟩:=hs
  obtain⟨j1,j2,j3,j4,j5⟩:=fDg_ok D (stepD s (dgt c)) (fun d hd=>hD d (by simp[hd])) (by omega) k1 k3 k4 k5
  exact⟨j1,by simp only[List.length_cons];omega,j3,j4,j5⟩
theorem le_shift (k:Nat) {m n:Nat} (h:m<=n):m*2^k<=n*2^k:=Nat.mul_le_mul_right _ h
theorem le_mulpow (a:Nat) {i j:Nat} (h:i<=j):a*2^i<=a*2^j:=Nat.mul_le_mul_left _ (Nat.pow_le_pow_right (by decide) h)
theorem near_fin {m:Nat} (ng:Bool) (hm:m<2^53):isInf (absM (if ng then Op.negFloat .f64 (FloatKind.f64.nearest (m:Int))else FloatKind.f64.nearest (m:Int)))=false:=by
 have hk:=key_exact (s:=false) (m:=m) (k:=0) (i:=0) hm (by decide) (by decide)
 rw[Nat.pow_zero,Nat.mul_one,show((0:Int)-((0:Nat):Int))=0 by decide,<-int_near]at hk
 obtain⟨hk,hn⟩:=hk
 generalize hx:(if ng then Op.negFloat .f64 (FloatKind.f64.nearest (m:Int))else FloatKind.f64.nearest (m:Int))=x
 have hxk:(key x).natAbs=(Ieee.signed false m (0+1074:Int).toNat).natAbs/\isNaN x=false:=by
  rw[<-hx]
  cases ng
  ·rw [if_neg (by decide)];exact⟨by rw[hk],hn⟩
  ·rw [if_pos rfl]
   exact⟨by rw[show Op.negFloat .f64 (FloatKind.f64.nearest (m:Int))=negM (FloatKind.f64.nearest (m:Int))from rfl,key_neg,Int.natAbs_neg,hk],by rw[<-hn];exact nan_neg _⟩
 unfold isInf
 rw[order_gt (by rw[absM_nan];exact hxk.2) (by decide),key_abs,hxk.1]
 refine decide_eq_false ?_
 rw[signed_shift]
 have hmax:key MAXF=((9007199254740991*2^2045:Nat):Int):=by decide+kernel
 rw[hmax]
 have h1:=le_shift 1074 (show m<=9007199254740991 by omega)
 have h2:=le_mulpow 9007199254740991 (show 1074<=2045 by decide)
 have e:(0+1074:Int).toNat=1074:=by decide
 rw[e,if_neg (by decide),Int.natAbs_natCast]
 generalize m*2^1074=a at*
 generalize 9007199254740991*2^1074=b at*
 generalize 9007199254740991*2^2045=c at*
 omega
theorem dgN_all :∀D:List UInt8,(∀c∈D,isD c=true)->dgN D=D.length
 | [],_=>rfl
 | c::D,h=>by
  have ih:=dgN_all D fun d hd=>h d (by simp[hd])
  unfold dgN at ih ⊢
  rw[List.takeWhile_cons,if_pos (h c (by simp)),List.length_cons,List.length_cons,ih]
theorem int_num {D:List UInt8} (ng:Bool) (hD:∀c∈D,isD c=true) (h0:D≠[]) (hl:D.length<=15) {b:ByteArray} (hb:b.data.toList=(if ng then [45]else [])++D):∃v,rdF b=some (v,0):=by
 obtain⟨a,r,hDr⟩:=List.exists_cons_of_ne_nil h0
 have ha:isD a=true:=hD a (by rw[hDr];simp)
 have ha2:=isD_iff.1 ha
 have na43:a≠43:=fun e=>by subst e;exact absurd ha2 (by decide)
 have na45:a≠45:=fun e=>by subst e;exact absurd ha2 (by decide)
 have hsg:(sgnOf b.data.toList)=(ng,if ng then 1 else 0):=by
  rw[hb,hDr]
  cases ng
  ·simp [sgnOf,na43,na45]
  ·simp [sgnOf]
 have hdr:dropS b.data.toList=D:=by
  rw[hb]
  cases ng
  ·rw [hDr];simp[dropS,na43,na45]
  ·simp [dropS]
 have hdn:dgN D=D.length:=by
  exact dgN_all D hD
 have hnum:numF b.data.toList=true:=by
  unfold numF
  rw[hdr,hdn,if_neg (by rw[hDr];simp),List.drop_length]
  rfl
 have hsz:b.size=b.data.toList.length:=rfl
 have hlen:b.data.toList.length<=16:=by
  rw[hb,List.length_append]
  cases ng<;>simp<;>omega
 have hsc:scB b=(fDg D,[]):=by
  unfold scB
  rw[drop_sgn,hdr]
  have:=scan_app D RS0 [] hD
  rw[List.append_nil]at this
  rw[this];rfl
 obtain⟨q1,q2,q3,q4,q5⟩:=fDg_ok D RS0 hD (by show 0+D.length<=19;omega) rfl (by decide) rfl rfl
 change (fDg D).nd=(fDg D).nm at q1
 change (fDg D).nm<=0+D.length at q2
 change (fDg D).m<10^(fDg D).nm at q3
 change (fDg D).tr=false at q4
 change (fDg D).dot=false at q5
 have hm:(fDg D).m<1000000000000000:=by
  have:=Nat.pow_le_pow_right (n:=10) (by decide) (show(fDg D).nm<=15 by omega)
  omega
 have hex:expV (fDg D) []=0:=by
  unfold expV
  split
  ·rw [q5,if_neg (by decide)];simp[eVal];omega
  ·rfl
 have hxF:exactF (fDg D).m 0 ng=(if ng then Op.negFloat .f64 (FloatKind.f64.nearest ((fDg D).m:Int))else FloatKind.f64.nearest ((fDg D).m:Int),true):=by
  unfold exactF
  rw[if_neg (by omega)]
  simp
 obtain⟨st,rest,T⟩:=txt_of_num (s:=b) (by omega) hnum
 have hst:(st,rest)=(fDg D,[]):=by rw[<-hsc];exact T.sc.symm
 obtain⟨rfl,rfl⟩:=Prod.mk.inj hst
 have F:Fast b (fDg D) []:=⟨T,q4,by rw[hex];decide,by rw[hex];decide,fun _=>by rw[hex,hsg,hxF]⟩
 have hV:fsV b=if(fDg D).m=0 then(bits .or .u64 (sgnN ng:Int) 0).toNat else(if ng then Op.negFloat .f64 (FloatKind.f64.nearest ((fDg D).m:Int))else FloatKind.f64.nearest ((fDg D).m:Int)):=by
  unfold fsV fastV
  rw[hsc]
  show(if(fDg D).m=0 then _ else(exactF (fDg D).m (expV (fDg D) []) _).1)=_
  rw[hex,hsg,hxF]
 have hfin:isInf (absM (fsV b))=false:=by
  rw[hV]
  split
  ·cases ng<;>decide+kernel
  ·exact near_fin ng (by omega)
 have n1:b.data.toList≠[78,97,78]/\b.data.toList≠[73,78,70]/\b.data.toList≠[45,73,78,70]:=by
  rw[hb,hDr]
  cases ng
  ·refine ⟨fun e=>?_,fun e=>?_,fun e=>?_⟩
   ·have:a=78:=(List.cons.inj e).1
    rw[this]at ha2;exact absurd ha2 (by decide)
   ·have:a=73:=(List.cons.inj e).1
    rw[this]at ha2;exact absurd ha2 (by decide)
   ·have:a=45:=(List.cons.inj e).1
    rw[this]at ha2;exact absurd ha2 (by decide)
  ·refine ⟨fun e=>?_,fun e=>?_,fun e=>?_⟩
   ·have:(45:UInt8)=78:=(List.cons.inj e).1
    exact absurd this (by decide)
   ·have:(45:UInt8)=73:=(List.cons.inj e).1
    exact absurd this (by decide)
   ·have:a=73:=(List.cons.inj (List.cons.inj e).2).1
    rw[this]at ha2;exact absurd ha2 (by decide)
 have hr:readV b.data.toList (fsV b)=(fsV b,0):=by
  unfold readV
  rw[if_neg n1.1,if_neg n1.2.1,if_neg n1.2.2,if_neg (by rw[hnum];decide),if_neg (by omega),if_neg (by rw[hfin];decide)]
 refine⟨fsV b,?_⟩
 unfold rdF
 rw[if_pos ⟨by omega,fun _ _=>by rw[hsc];exact F⟩,hr]
 rfl
theorem dig_isD {c:UInt8} (h:G.digt c.toNat=true):isD c=true:=isD_iff.2 (by simpa[G.digt]using h)
theorem idt_read (x:Int) (hx:x.natAbs<=2147483648):∃v,G.NumT rdF (G.idt x) v:=by
 have hd:∀c∈G.dec x.natAbs,isD c=true:=fun c hc=>dig_isD (G.dec_all _ c hc)
 have hl:=G.dec_len 9 x.natAbs (by omega)
 have e:G.idt x=(if decide (x<0)then [45]else [])++G.dec x.natAbs:=by
  unfold G.idt;split<;>simp[*]
 obtain⟨v,hv⟩:=int_num (decide (x<0)) hd (G.dec_ne _) (by omega) (b:=G.mkB (G.idt x)) (by rw[<-e];simp[G.mkB])
 refine⟨v,.inl (G.idt_num x),fun b hb=>?_⟩
 have:b=G.mkB (G.idt x):=by
  apply ByteArray.ext;apply Array.ext';rw[hb];simp[G.mkB]
 rw[this];exact hv
theorem dec_read (n:Nat) (hn:n<=2147483648):∃v,G.NumT rdF (G.dec n) v:=by
 have:=idt_read (n:Int) (by omega)
 have e:G.idt (n:Int)=G.dec n:=by unfold G.idt;rw[if_neg (by omega)];rfl
 rwa[e]at this
theorem half_read :∃v,G.NumT rdF [49,46,53] v:=by
 have hb:∀b:ByteArray,b.data.toList=[49,46,53]->b=G.mkB [49,46,53]:=fun b hb=>by
  apply ByteArray.ext;apply Array.ext';rw[hb];rfl
 obtain⟨b,hbb⟩:∃b,b=G.mkB [49,46,53]:=⟨_,rfl⟩
 have hl:b.data.toList=[49,46,53]:=by rw[hbb];rfl
 have hsz:b.size=3:=by rw[hbb];rfl
 have hnum:numF b.data.toList=true:=by rw[hl];decide
 have hsg:sgnOf b.data.toList=(false,0):=by rw[hl];decide
 have hsc:scB b=(⟨15,false,true,true,2,2,1⟩,[]):=by
  unfold scB
  rw[hsg,hl]
  simp[scan,isD,stepD,dotS,RS0]
 obtain⟨st,rest,T⟩:=txt_of_num (s:=b) (by omega) hnum
 have hst:(st,rest)=(⟨15,false,true,true,2,2,1⟩,[]):=by rw[<-hsc];exact T.sc.symm
 obtain⟨rfl,rfl⟩:=Prod.mk.inj hst
 have hex:expV ⟨15,false,true,true,2,2,1⟩ []= -1:=by decide
 have hx:(exactF 15 (-1) false).2=true:=by decide+kernel
 have F:Fast b ⟨15,false,true,true,2,2,1⟩ []:=⟨T,rfl,by rw[hex];decide,by rw[hex];decide,fun _=>by rw[hex,hsg];exact hx⟩
 have hV:fsV b=(exactF 15 (-1) false).1:=by
  unfold fsV fastV
  rw[hsc,hsg]
  show(if 15=0 then _ else(exactF 15 (expV ⟨15,false,true,true,2,2,1⟩ []) false).1)=_
  rw[hex];rfl
 have hfin:isInf (absM (fsV b))=false:=by rw[hV];decide+kernel
 have hr:readV b.data.toList (fsV b)=(fsV b,0):=by
  unfold readV
  rw[if_neg (by rw[hl];decide),if_neg (by rw[hl];decide),if_neg (by rw[hl];decide),if_neg (by rw[hnum];decide),if_neg (by rw[hl];decide),if_neg (by rw[hfin];decide)]
 refine⟨fsV b,.inl ⟨⟨49,[46,53],rfl,by decide⟩,by decide⟩,fun b' hb'=>?_⟩
 rw[hb b' hb',<-hbb]
 unfold rdF
 rw[if_pos ⟨by omega,fun _ _=>by rw[hsc];exact F⟩,hr]
 rfl
end Go.Proofs.YtlflalecmhgmjaaGreatDoor.N
namespace Go.Proofs.YtlflalecmhgmjaaGreatDoor.G
def begA :List UInt8:=[103,114,97,112,104,32,91,32,110,111,100,101,32,91,32,105,100,32,53,32,93,32,101,100,103,101,32,91,32,115,111,117,114,99,101,32,53,32,116,97,114,103,101,116,32,53,32,93,32,93]
def begB2 :List UInt8:=[103,114,97,112,104,32,91,32,110,111,100,101,32,91,32,93,32,93]
section
variable {s:ByteArray} {rd:ByteArray->Option (Nat × Nat)} {cl:Nat->Nat}
theorem whole5 :whole [53]=some 5:=by decide
theorem read_begA {x:Nat} (h5:NumT rd [53] x) (ht:s.data.toList=begA):read rd cl s= .ok ⟨1,false,[(0,0)],[],[],[]⟩:=by
 have hsz:s.size=50:=by rw[size_len,ht];rfl
 have a0:At s 0 ([]++(kGraph++([32]++91::([32]++(kNode++([32]++91::([32]++(kId++([32]++([53]++([32]++93::([32]++(kEdge++([32]++91::([32]++(kSource++([32]++([53]++([32]++(kTarget++([32]++([53]++([32]++93::([32]++93::[])))))))))))))))))))))))):=by
  have:=At.start s;rw[ht]at this;exact this
 let z:Tok:=⟨0,0,noB,0⟩
 have key0:BigP s rd cl .top 0 start fun e l r=>∃(u u':Tok) (i:Nat),u.l=[53]/\u'.l=[53]/\r=⟨i,1,false,true,[(5,0)],[noB],[(0,0)],[one64],false,false,false,[u,u']⟩:=by
  refine any_open (σ:=start) (σ1:=fun j=>{start with i:=j,graph:=true}) (l2:=some (.graph false)) (l':=.top) a0 .nil (wdGraph _ (sep32 _)) bl1 (by decide) (fun t j e=>by simp[key,e,start,must]) (fun j=>rfl) fun j0 j1 lt1 a=>?_
  let σ1:Nat->Rd:=fun j=>⟨j,1,false,true,[],[noB],[(0,0)],[],false,false,false,[]⟩
  refine any_open (σ1:=σ1) (l2:=some (.node 0 false false false)) (l':=.graph false) a bl1 (wdNode _ (sep32 _)) bl1 (by decide) (fun t j e=>(key_node e (by show 0<1024;omega)).trans rfl) (fun j=>rfl) fun j0 j2 lt2 a=>?_
  refine any_num (x:=.id 0) (l':=.node 0 true false false) (σ1:=σ1) a bl1 (wdId _ (sep32 _)) bl1 h5 (sep32 _).numb (sep32 _).word (fun t j e=>by simp[key,e,must];rfl) (fun j=>rfl) (.inr rfl) fun u j0 j3 u1 u2 u3 lt3 a=>?_
  let σ2:Nat->Rd:=fun j=>⟨j,1,false,true,[(5,0)],[noB],[(0,0)],[],false,false,false,[]⟩
  refine⟨σ2 j3,by simp only[take,u1,whole5];rfl,rfl,?_⟩
  refine any_close a bl1 rfl fun e j4 lt4 a=>⟨σ2 j4,rfl,?_,a.1,?_⟩
  ·have q3:j2<j3:=lt3
   have q4:j3<j4:=lt4
   show j2<j4
   omega
  let σ3:List Tok->Nat->Rd:=fun l j=>⟨j,1,false,true,[(5,0)],[noB],[(0,0)],[one64],false,false,false,l⟩
  have a:At s (σ2 j4).i ([32]++(kEdge++([32]++91::([32]++(kSource++([32]++([53]++([32]++(kTarget++([32]++([53]++([32]++93::([32]++93::[]))))))))))))):=a
  refine any_open (σ1:=σ3 [z,z]) (l2:=some (.edge 0 false false false)) (l':=.graph false) a bl1 (wdEdge _ (sep32 _)) bl1 (by decide) (fun t j e=>(key_edge e (by show 0/2<3072;omega)).trans rfl) (fun j=>rfl) fun j0 j5 lt5 a=>?_
  refine any_num (x:=.fin 0) (l':=.edge 0 true false false) (σ1:=σ3 [z,z]) a bl1 (wdSource _ (sep32 _)) bl1 h5 (sep32 _).numb (sep32 _).word (fun t j e=>by simp[key,e,must];rfl) (fun j=>rfl) (.inr rfl) fun u j0 j6 v1 v2 v3 lt6 a=>?_
  refine⟨σ3 [u,z] j6,by simp only[take,v1,whole5];rfl,rfl,?_⟩
  refine any_num (x:=.fin 1) (l':=.edge 0 true true false) (σ1:=σ3 [u,z]) a bl1 (wdTarget _ (sep32 _)) bl1 h5 (sep32 _).numb (sep32 _).word (fun t j e=>by simp[key,e,kSource,kTarget,must];rfl) (fun j=>rfl) (.inr rfl) fun u' j0 j7 w1 w2 w3 lt7 a=>?_
  refine⟨σ3 [u,u'] j7,by simp only[take,w1,whole5];rfl,rfl,?_⟩
  refine any_close a bl1 rfl fun e j8 lt8 a=>⟨σ3 [u,u'] j8,rfl,?_,a.1,?_⟩
  ·have q6:j5<j6:=lt6
   have q7:j6<j7:=lt7
   have q8:j7<j8:=lt8
   show j5<j8
   omega
  have a:At s (σ3 [u,u'] j8).i ([32]++93::[]):=a
  refine any_close a bl1 rfl fun e j9 lt9 a=>⟨σ3 [u,u'] j9,rfl,?_,a.1,?_⟩
  ·have q2:j1<j2:=lt2
   have q3:j2<j3:=lt3
   have q4:j3<j4:=lt4
   have q5:j4<j5:=lt5
   have q6:j5<j6:=lt6
   have q7:j6<j7:=lt7
   have q8:j7<j8:=lt8
   have q9:j8<j9:=lt9
   show j1<j9
   omega
  exact⟨_,_,_,big_top .nil a,u,u',s.size,v1,w1,rfl⟩
 obtain⟨e,l,r,hb,u,u',i,e1,e2,rfl⟩:=key0
 unfold read
 rw[must_t (decide_eq_true (by omega)),hb (s.size+1) (by simp[start])]
 simp only[must,Er.bind]
 have f5:∀t:Tok,t.l=[53]->endOf [(5,0)] t= .ok 0:=by
  intro t ht
  unfold endOf
  rw[ht,whole5];rfl
 simp only[edges,f5 u e1,f5 u' e2,Er.bind]
 rfl
theorem read_begB (ht:s.data.toList=begB2):read rd cl s= .no (15,14):=by
 have hsz:s.size=18:=by rw[size_len,ht];rfl
 have a0:At s 0 ([]++(kGraph++([32]++91::([32]++(kNode++([32]++91::([32]++93::([32]++93::[])))))))):=by
  have:=At.start s;rw[ht]at this;exact this
 obtain⟨t1,n1,k1,l1,a1⟩:=next_word .nil (wdGraph _ (sep32 _)) a0
 obtain⟨n2,a2⟩:=next_open bl1 a1
 obtain⟨t3,n3,k3,l3,a3⟩:=next_word bl1 (wdNode _ (sep32 _)) a2
 obtain⟨n4,a4⟩:=next_open bl1 a3
 obtain⟨n5,a5⟩:=next_close bl1 a4
 simp only[List.length_nil,List.length_singleton,Nat.add_zero,Nat.zero_add,show kGraph.length=5 from rfl,show kNode.length=4 from rfl]at n1 n2 n3 n4 n5
 have k1':∀r:Rd,r.graph=false->key .top t1 r= .ok (.list (.graph false),.top,{r with graph:=true}):=by
  intro r hr
  simp[key,l1,hr,must]
 have in3:∀n (r:Rd),r.i=14->list s rd cl (n+1) (.node 0 false false false) 2 r= .ok (15,.node 0 false false false,{r with i:=16}):=by
  intro n r hr
  rw[list,hr,n5]
  simp[Er.bind,isTop]
 have in2:∀n (r:Rd),r.i=7->r.n=0->list s rd cl (n+2) (.graph false) 1 r= .no (15,14):=by
  intro n r hr hn
  rw[list,hr,n3]
  simp only[Er.bind,k3,isTop]
  rw[if_neg (by simp),must_t (by simp),key_node l3 (by show r.n<1024;omega)]
  simp only[]
  unfold value
  simp only[n4,Er.bind]
  simp only[valued,Tk.kind]
  rw[if_neg (by simp),if_neg (by simp),if_neg (by simp)]
  simp only[]
  rw[must_t (by simp),must_t (by simp),if_pos trivial,hn,in3 n _ rfl]
  simp[Er.bind,behind,must]
 unfold read
 rw[must_t (decide_eq_true (by omega)),hsz,list]
 have i0:start.i=0:=rfl
 rw[i0,n1]
 simp only[Er.bind,k1,isTop]
 rw[if_neg (by simp),must_t (by simp),k1' _ rfl]
 simp only[]
 unfold value
 simp only[n2,Er.bind]
 simp only[valued,Tk.kind]
 rw[if_neg (by simp),if_neg (by simp),if_neg (by simp)]
 simp only[]
 rw[must_t (by simp),must_t (by simp),if_pos trivial,in2 16 _ rfl rfl]
end
end Go.Proofs.YtlflalecmhgmjaaGreatDoor.G
namespace Go.Proofs.YtlflalecmhgmjaaGreatDoor.N
open Go.Proofs.YtlflalecmhgmjaaGreatDoor
open Go.X
set_option maxRecDepth 100000
set_option maxHeartbeats 2000000
def S26 (h:Heap) (R:Value->Heap->Prop):Prop:=
 callX Tryz.prog 23 #[.string (⟨#[103,114,97,112,104,32,91,32,110,111,100,101,32,91,32,105,100,32,53,32,93,32,101,100,103,101,32,91,32,115,111,117,114,99,101,32,53,32,116,97,114,103,101,116,32,53,32,93,32,93]⟩:ByteArray)] h [] fun X a=>
 ∃e:Int,∃(i:Option Addr) (f m:Nat),∃g:Bool,∃(j:Option Addr) (q n:Nat),∃(k:Option Addr) (r o:Nat),∃(l:Option Addr) (s p:Nat),∃L:Int,∃O:Int,X= .tuple #[.agg #[.int .i64 e,.slice i f m,.bool g,.slice j q n,.slice k r o,.slice l s p],.int .i64 L,.int .i64 O]/\
 let S:Heap:=a.push (.cells #[.int .i64 0,.slice none 0 0,.bool false,.slice none 0 0,.slice none 0 0,.slice none 0 0] 29)
 let T:Heap:=hset (hset (hset (hset (hset (hset S a.size 0 (.int .i64 e)) a.size (0+1) (.slice i f m)) a.size ((0+1)+1) (.bool g)) a.size (((0+1)+1)+1) (.slice j q n)) a.size ((((0+1)+1)+1)+1) (.slice k r o)) a.size (((((0+1)+1)+1)+1)+1) (.slice l s p)
 callX Tryz.prog 23 #[.string (⟨#[103,114,97,112,104,32,91,32,110,111,100,101,32,91,32,93,32,93]⟩:ByteArray)] T [a.size] fun Y b=>
 ∃w:Int,∃(z:Option Addr) (H D:Nat),∃x:Bool,∃(A:Option Addr) (I E:Nat),∃(B:Option Addr) (J F:Nat),∃(C:Option Addr) (K G:Nat),∃M:Int,∃P:Int,Y= .tuple #[.agg #[.int .i64 w,.slice z H D,.bool x,.slice A I E,.slice B J F,.slice C K G],.int .i64 M,.int .i64 P]/\
 let U:Heap:=b.push (.cells #[.int .i64 0,.slice none 0 0,.bool false,.slice none 0 0,.slice none 0 0,.slice none 0 0] 29)
 let V:Heap:=hset (hset (hset (hset (hset (hset U b.size 0 (.int .i64 w)) b.size (0+1) (.slice z H D)) b.size ((0+1)+1) (.bool x)) b.size (((0+1)+1)+1) (.slice A I E)) b.size ((((0+1)+1)+1)+1) (.slice B J F)) b.size (((((0+1)+1)+1)+1)+1) (.slice C K G)
 callX Tryz.prog 22 #[.agg #[.int .i64 e,.slice i f m,.bool g,.slice j q n,.slice k r o,.slice l s p]] V [b.size,a.size] fun Z d=>
 ∃y:ByteArray,∃N:Int,Z= .tuple #[.string y,.int .i64 N]/\
 let c:=fun(Q:Heap)=>
  (R (.bool false) Q)
 cnd (e==(1:Int))
  (cnd (((f:Nat):Int)==(1:Int))
   (cnd (L==(0:Int))
    (cnd (O==(0:Int))
     (cnd (M==(15:Int))
      (cnd (P==(14:Int))
       (cnd (decide (((y.size:Nat):Int)>(40:Int)))
        (cnd (N==(0:Int))
         (callX Tryz.prog 25 #[.agg #[.int .i64 e,.slice i f m,.bool g,.slice j q n,.slice k r o,.slice l s p]] d [b.size,a.size] fun a0 t=>
         ∃u:Bool,a0= .bool u/\
         cnd u
          (callX Tryz.prog 24 #[.agg #[.int .i64 e,.slice i f m,.bool g,.slice j q n,.slice k r o,.slice l s p],.agg #[.int .i64 e,.slice i f m,.bool g,.slice j q n,.slice k r o,.slice l s p]] t [b.size,a.size] fun a1 W=>
          ∃v:Bool,a1= .bool v/\
          R (.bool v) W)
          (c t))
         (c d))
        (c d))
       (c d))
      (c d))
     (c d))
    (c d))
   (c d))
  (c d)
theorem calls26 {h:Heap} {R:Value->Heap->Prop} (H:S26 h R):CallsH Tryz.prog 26 #[] h R:=by
 have e:S26 h R=FX (envX [1,4] 69) {loops:=[],joins:=[],blocks:=[],draws:=[]} Tryz.f26 (Tryz.f26.body.getD .skip) [] h R:=by kernel_rfl
 exact calls_of_FX (envX_ok _ _) Tryz.func26 (by kernel_rfl) (by kernel_rfl) (by kernel_rfl) (e▸H)
end Go.Proofs.YtlflalecmhgmjaaGreatDoor.N
namespace Go.Proofs.YtlflalecmhgmjaaGreatDoor.N
open Go.Proofs.YtlflalecmhgmjaaGreatDoor
open Go.X
open Go.Proofs
set_option maxRecDepth 100000
def mdR (dc:G.Dc):MD:=⟨(dc.n:Int),dc.dir,dc.edges.map pr,dc.labels,dc.spots,dc.weights⟩
theorem dec5 :G.dec 5=[53]:=by rw[G.dec];rfl
theorem dec0 :G.dec 0=[48]:=by rw[G.dec];rfl
def tx0 :Nat->List UInt8:=fun _=>[]
def dc5 :G.Dc:=⟨1,false,[(0,0)],[],[],[]⟩
theorem wr5 :(G.wr tx0 dc5).length=84:=by
 simp[G.wr,G.linesT,G.docL,dc5,G.nodesL,G.nodeL,G.edgesL,G.edgeL,G.opn,G.kv,G.cls,G.ind,dec0,G.kGraph,G.kDirected,G.kNode,G.kId,G.kEdge,G.kSource,G.kTarget]
theorem hd1 {gl:GL} {h:Heap} (g:Gl gl h):CallsH Tryz.prog 26 #[] h fun v h'=>v= .bool true/\Fr [] h h':=by
 apply calls26
 unfold S26
 obtain⟨x5,h5⟩:=dec_read 5 (by decide)
 rw[dec5]at h5
 have rA:G.read rdF cleanM (G.mkB G.begA)= .ok dc5:=G.read_begA h5 (mkBl _)
 have rB:G.read rdF cleanM (G.mkB G.begB2)= .no (15,14):=G.read_begB (mkBl _)
 refine callX_ofR (R:=rdR gl (G.mkB G.begA) rdF cleanM h) [] (ok23 (s:=G.mkB G.begA) (rdF_ok gl) ok_clean ok269 g (by decide) (by rw[rA];simp)) (by simp) ?_ ?_
 ·rintro v h' (⟨dc,aD,aL,aS,aW,nD,cD,nL,cL,nS,cS,nW,cW,_,_,q⟩ | ⟨f,_,_,q⟩)
  ·exact q.fr
  ·exact q
 rintro v h1 (⟨dc,aD,aL,aS,aW,nD,cD,nL,cL,nS,cS,nW,cW,e,rfl,q⟩ | ⟨f,e,_,q⟩)
 rotate_left
 ·rw [rA]at e
  cases e
 rw[rA]at e
 obtain rfl:dc5=dc:=by injection e
 refine⟨1,aD,nD,cD,false,aL,nL,cL,aS,nS,cS,aW,nW,cW,0,0,rfl,?_⟩
 intro h2 h3
 have f3:Fr [] h1 h3:=((((((Fr.push h1 _).hsetL (Nat.le_refl _)).hsetL (Nat.le_refl _)).hsetL (Nat.le_refl _)).hsetL (Nat.le_refl _)).hsetL (Nat.le_refl _)).hsetL (Nat.le_refl _)
 have s3:h1.size<h3.size:=by simp[h3,h2]
 clear_value h3
 have Q3:Sq h [Ck.glob gl] h3 (dC gl dc5 aD aL aS aW nD cD nL cL nS cS nW cW):=q.gr f3
 have g3:Gl gl h3:=Q3.sy.ok (k:=4) (c:=Ck.glob gl) rfl
 refine callX_ofR (R:=rdR gl (G.mkB G.begB2) rdF cleanM h3) [] (ok23 (s:=G.mkB G.begB2) (rdF_ok gl) ok_clean ok269 g3 (by decide) (by rw[rB];simp)) (by simp) ?_ ?_
 ·rintro v h' (⟨dc,aD,aL,aS,aW,nD,cD,nL,cL,nS,cS,nW,cW,_,_,q⟩ | ⟨f,_,_,q⟩)
  ·exact q.fr
  ·exact q
 rintro v h4 (⟨dc,_,_,_,_,_,_,_,_,_,_,_,_,e,rfl,q⟩ | ⟨f,e,rfl,f4⟩)
 ·rw [rB]at e;cases e
 rw[rB]at e
 obtain rfl:((15,14):G.F)=f:=by injection e
 refine⟨0,none,0,0,false,none,0,0,none,0,0,none,0,0,15,14,rfl,?_⟩
 intro h5 h6
 have f6:Fr [] h4 h6:=((((((Fr.push h4 _).hsetL (Nat.le_refl _)).hsetL (Nat.le_refl _)).hsetL (Nat.le_refl _)).hsetL (Nat.le_refl _)).hsetL (Nat.le_refl _)).hsetL (Nat.le_refl _)
 clear_value h6
 have Q6:=(Q3.gr f4).gr f6
 have l0:=Q6.sy.lenS 0 rfl
 have Q7:Sq h [Ck.glob gl] h6 (dV gl aD nD cD (dc5.edges.map pr) aL nL cL dc5.labels aS nS cS dc5.spots aW nW cW dc5.weights):=by
  have Y:=((((Q6.sy.turn 0 rfl To.slvw).turn 1 rfl To.slvw).turn 2 rfl To.slvw).turn 3 rfl To.slvw).pick [4,0,1,2,3] rfl
  refine⟨Y,fun x hx=>?_⟩
  have hx:x∈glB gl++(rdOf aD nD++(rdOf aL nL++(rdOf aS nS++rdOf aW nW))):=by simpa[rds,dV,Ck.vw,Ck.glob]using hx
  simp only[List.mem_append]at hx
  rcases hx with hx | hx | hx | hx | hx
  ·exact .inl (by simpa[rds,Ck.glob]using hx)
  ·exact .inr (Q6.sy.ow 0 _ rfl x (rdOf_sub hx))
  ·exact .inr (Q6.sy.ow 1 _ rfl x (rdOf_sub hx))
  ·exact .inr (Q6.sy.ow 2 _ rfl x (rdOf_sub hx))
  ·exact .inr (Q6.sy.ow 3 _ rfl x (rdOf_sub hx))
 have eD:toDc 1 false (dc5.edges.map pr) dc5.labels dc5.spots dc5.weights=dc5:=rfl
 have eB:docB 1 (dc5.edges.map pr) dc5.labels dc5.spots dc5.weights=true:=by decide
 have eW:wrV tx0 1 false (dc5.edges.map pr) dc5.labels dc5.spots dc5.weights=(G.wr tx0 dc5,0):=by
  unfold wrV
  rw[eB,if_neg (by decide),eD,wr5,if_neg (by decide)]
 refine callX_ofR (R:=fun v h'=>v= .tuple #[.string (G.mkB (G.wr tx0 dc5)),.int .i64 0]/\Fr [] h6 h') [] ?_ (by simp) (fun _ _ r=>r.2) ?_
 ·have:=ok22 (tx:=tx0) (n:=1) (dir:=false) Q7.hp (by simp[dc5]) (by decide) (by simp[dc5]) (by simp[dc5])
  rw[eW]at this;exact this
 rintro v h7 ⟨rfl,f7⟩
 refine⟨_,0,rfl,?_⟩
 intro K
 have nD1:nD=1:=l0
 subst nD1
 have F7:Fr [] h h7:=Q7.fr.trans f7
 have Q8:=Q7.gr f7
 refine cnd_t rfl (cnd_t rfl (cnd_t rfl (cnd_t rfl (cnd_t rfl (cnd_t rfl (cnd_t ?_ (cnd_t rfl ?_)))))))
 ·rw [mkB_sz,wr5];decide
 refine callX_ofR (R:=fun v h'=>v= .bool true/\Fr [] h7 h') [] ?_ (by simp) (fun _ _ r=>r.2) ?_
 ·refine (okDoc (n:=1) (es:=dc5.edges.map pr) (dr:=false) (ls:=dc5.labels) (ss:=dc5.spots) (ws:=dc5.weights) (R:=fun r=>r=true) (by simp[dc5]) (by decide) eB h7 _ _ _ _ _ _ _ _ _ _ _ _ (Q8.pick [1,2,3,4] rfl).hp).mono ?_
  rintro v h' ⟨r,Y,rfl,rfl⟩
  exact⟨rfl,Y.fr⟩
 rintro v h8 ⟨rfl,f8⟩
 have Q9:=Q8.gr f8
 refine⟨true,rfl,cnd_t rfl ?_⟩
 let t:MDs:=⟨aD,1,cD,aL,nL,cL,aS,nS,cS,aW,nW,cW⟩
 have Hd:Hp h8 ((mdR dc5).vw t++(mdR dc5).vw t):=by
  have P:=(Q9.pick [1,2,3,4] rfl).hp
  refine⟨fun k c hk=>?_,fun i j c d _ hi hj x hx=>?_⟩
  ·rcases app_or hk with hk | ⟨_,hk⟩
   ·exact P.ok k c hk
   ·exact P.ok _ c hk
  ·have:c.own=[]:=by
    have hm:c∈(mdR dc5).vw t++(mdR dc5).vw t:=List.mem_of_getElem? hi
    simp only[MD.vw,List.mem_append,List.mem_cons,List.not_mem_nil,or_false]at hm
    rcases hm with(rfl | rfl | rfl | rfl) | rfl | rfl | rfl | rfl<;>rfl
   rw[this]at hx;cases hx
 refine callX_ofR (R:=fun v h'=>v= .bool true/\Fr [] h8 h') [] ?_ (by simp) (fun _ _ r=>r.2) ?_
 ·have:=ok24 Hd (by decide)
  have es:sameB (mdR dc5) (mdR dc5)=true:=by decide
  rw[es]at this;exact this
 rintro v h9 ⟨rfl,f9⟩
 exact⟨true,rfl,rfl,(F7.trans f8).trans f9⟩
end Go.Proofs.YtlflalecmhgmjaaGreatDoor.N
namespace Go.Proofs.YtlflalecmhgmjaaGreatDoor.N
open Go.Proofs.YtlflalecmhgmjaaGreatDoor
open Go.X
set_option maxRecDepth 100000
set_option maxHeartbeats 2000000
def S38 (n:Int) (h:Heap) (R:Value->Heap->Prop):Prop:=
 cnd (decide (n<(10:Int)))
  (let m:Heap:=h.push (.cells #[.int .u8 (IntKind.u8.wrap (IntKind.i64.wrap ((48:Int)+n)))] 5)
  ∃p:List Int,Reads m 1 (some (⟨h.size,0,none⟩:Addr)) 1 (List.map (Value.int IntKind.u8) p)/\R (.string (strOf p)) m)
  (let d:=fun(u:ByteArray) (q:Heap)=>
   (R (.string u) q)
  (10:Int)≠0/\(10:Int)≠0/\(callX Tryz.prog 38 #[.int .i64 (IntKind.i64.wrap (Int.tdiv n (10:Int)))] h [] fun r e=>
  ∃f:ByteArray,r= .string f/\
  Fr [] h e/\
  let b:Heap:=e.push (.cells #[.int .u8 (IntKind.u8.wrap (IntKind.i64.wrap ((48:Int)+(Int.tmod n (10:Int)))))] 5)
  Fr [] h b/\
  ∃j:List Int,Reads b 1 (some (⟨e.size,0,none⟩:Addr)) 1 (List.map (Value.int IntKind.u8) j)/\Fr [] h b/\
  (((f.size+(strOf j).size:Nat)):Int)<=9223372036854775807/\d (f++(strOf j)) b)
  /\(let a:Heap:=h.push (.cells #[.int .u8 (IntKind.u8.wrap (IntKind.i64.wrap ((48:Int)+(Int.tmod n (10:Int)))))] 5)
   Fr [] h a/\
   (callX Tryz.prog 38 #[.int .i64 (IntKind.i64.wrap (Int.tdiv n (10:Int)))] a [] fun s c=>
   ∃g:ByteArray,s= .string g/\
   Fr [] h c/\
   ∃k:List Int,Reads c 1 (some (⟨h.size,0,none⟩:Addr)) 1 (List.map (Value.int IntKind.u8) k)/\Fr [] h c/\
   (((g.size+(strOf k).size:Nat)):Int)<=9223372036854775807/\d (g++(strOf k)) c)
   /\(∃l:List Int,Reads a 1 (some (⟨h.size,0,none⟩:Addr)) 1 (List.map (Value.int IntKind.u8) l)/\Fr [] h a/\
   callX Tryz.prog 38 #[.int .i64 (IntKind.i64.wrap (Int.tdiv n (10:Int)))] a [] fun t o=>
   ∃i:ByteArray,t= .string i/\
   Fr [] h o/\
   (((i.size+(strOf l).size:Nat)):Int)<=9223372036854775807/\d (i++(strOf l)) o)))
theorem calls38 {h:Heap} {R:Value->Heap->Prop} (n:Int) (H:S38 n h R):CallsH Tryz.prog 38 #[.int .i64 n] h R:=by
 have e:S38 n h R=FX (envX [] 20) {loops:=[],joins:=[],blocks:=[],draws:=[(3,⟨11,false⟩)]} Tryz.f38 (Tryz.f38.body.getD .skip) [.int .i64 n] h R:=by kernel_rfl
 exact calls_of_FX (envX_ok _ _) Tryz.func38 (by kernel_rfl) (by kernel_rfl) (by kernel_rfl) (e▸H)
def Ok38 (n:Int) (R:ByteArray->Prop):Prop:=
 ∀(h:Heap),Hp h []->CallsH Tryz.prog 38 #[.int .i64 n] h fun v h'=>∃(rV:ByteArray),Sy h [] h' []/\v= .string rV/\R rV
def T38 (n:Int) (R:ByteArray->Prop):Prop:=
 cnd (decide (n<(10:Int)))
  (R (strOf ([(IntKind.u8.wrap (IntKind.i64.wrap ((48:Int)+n)))]:List Int)))
  (∃a:ByteArray->Prop,
  ((10:Int)≠0/\(10:Int)≠0/\Ok38 (IntKind.i64.wrap (Int.tdiv n (10:Int))) (fun b=>
   (((b.size+(strOf ([(IntKind.u8.wrap (IntKind.i64.wrap ((48:Int)+(Int.tmod n (10:Int)))))]:List Int)).size:Nat)):Int)<=9223372036854775807/\a (b++(strOf ([(IntKind.u8.wrap (IntKind.i64.wrap ((48:Int)+(Int.tmod n (10:Int)))))]:List Int)))))/\
  ∀c:ByteArray,a c->
  R c)
theorem ok38 {n} {R:ByteArray->Prop} (T:T38 n R):Ok38 n R:=by
 intro h H
 have Y:Sy h [] h _:=Sy.startM H rfl
 apply calls38
 unfold S38
 unfold T38 at T
 refine cnd_imp T (fun T=>?_) (fun T=>?_)
 ·intro hv
  have Y:Sy _ _ hv [_]:=Y.litS (E:=(eK .u8)) (ty:=5) ([(IntKind.u8.wrap (IntKind.i64.wrap ((48:Int)+n)))]:List Int) rfl (by simp[maxLen])
  clear_value hv
  refine⟨_,reads8 (Y.readsS 0 rfl),?_⟩
  exact⟨_,Y.pick [] rfl,rfl,T⟩
 ·obtain ⟨Jv,T0,T1⟩:=T
  obtain⟨B,hB,_⟩:=Y.cut [] [] rfl
  intro K
  have hK:∀(x:ByteArray) (hv7:Heap),(Sy h [] hv7 ([]++B)/\Jv x)->K x hv7:=by
   subst hB
   clear T0 Y
   rintro x hv7 ⟨Y,T⟩
   replace T:=T1 x T
   have Y:Sy _ _ _ []:=Y
   unfold K
   exact⟨_,Y.pick [] rfl,rfl,T⟩
  subst hB
  replace T:=T0
  clear T0 T1
  have Y0:=Y
  have F:Fr [] h h:=Fr.refl _ _
  obtain⟨q_5,T⟩:=T
  refine⟨q_5,?_⟩
  obtain⟨q_4,T⟩:=T
  refine⟨q_4,?_⟩
  refine⟨?_,?_⟩
  ·refine callX_sy (T _ (Hp.nil _)) (fun _ _ ⟨_,p,_⟩=>p.fr) alln ?_
   rintro v hv2 ⟨r,PP,rfl,T⟩
   have F:Fr _ _ hv2:=F.trans PP.fr.nil
   have fshv2:=F.size
   have Y:Sy _ _ hv2 []:=Y.gr PP.fr
   clear PP
   refine⟨r,rfl,?_⟩
   refine⟨F,?_⟩
   intro hv3
   have Y:Sy _ _ hv3 [_]:=Y.litS (E:=(eK .u8)) (ty:=5) ([(IntKind.u8.wrap (IntKind.i64.wrap ((48:Int)+(Int.tmod n (10:Int)))))]:List Int) rfl (by simp[maxLen])
   have F:Fr _ _ hv3:=F.pushr _
   have fshv3:=F.size
   clear_value hv3
   refine⟨F,?_⟩
   refine⟨_,reads8 (Y.readsS 0 rfl),?_⟩
   refine⟨F,?_⟩
   obtain⟨q,T⟩:=T
   refine⟨q,?_⟩
   exact hK _ _ ⟨Y.pick [] rfl,T⟩
  ·intro hv4
   have Y:Sy _ _ hv4 [_]:=Y.litS (E:=(eK .u8)) (ty:=5) ([(IntKind.u8.wrap (IntKind.i64.wrap ((48:Int)+(Int.tmod n (10:Int)))))]:List Int) rfl (by simp[maxLen])
   have F:Fr _ _ hv4:=F.pushr _
   have fshv4:=F.size
   clear_value hv4
   refine⟨F,?_⟩
   refine⟨?_,?_⟩
   ·refine callX_sy (T _ (Hp.nil _)) (fun _ _ ⟨_,p,_⟩=>p.fr) alln ?_
    rintro v2 hv5 ⟨r2,PP,rfl,T⟩
    have F:Fr _ _ hv5:=F.trans PP.fr.nil
    have fshv5:=F.size
    have Y:Sy _ _ hv5 [_]:=Y.gr PP.fr
    clear PP
    refine⟨r2,rfl,?_⟩
    refine⟨F,?_⟩
    refine⟨_,reads8 (Y.readsS 0 rfl),?_⟩
    refine⟨F,?_⟩
    obtain⟨q_2,T⟩:=T
    refine⟨q_2,?_⟩
    exact hK _ _ ⟨Y.pick [] rfl,T⟩
   ·refine ⟨_,reads8 (Y.readsS 0 rfl),?_⟩
    refine⟨F,?_⟩
    refine callX_sy (T _ (Hp.nil _)) (fun _ _ ⟨_,p,_⟩=>p.fr) alln ?_
    rintro v3 hv6 ⟨r3,PP,rfl,T⟩
    have F:Fr _ _ hv6:=F.trans PP.fr.nil
    have fshv6:=F.size
    have Y:Sy _ _ hv6 [_]:=Y.gr PP.fr
    clear PP
    refine⟨r3,rfl,?_⟩
    refine⟨F,?_⟩
    obtain⟨q_3,T⟩:=T
    refine⟨q_3,?_⟩
    exact hK _ _ ⟨Y.pick [] rfl,T⟩
def S34 (x:Int) (x2:Bool) (v:Int) (h:Heap) (R:Value->Heap->Prop):Prop:=
 let e:Heap:=h.push (.cells #[.int .i64 x,.bool x2] 46)
 ∃b:List Value->Heap->Prop,
 (cnd x2
   (b [.int .i64 (IntKind.i64.wrap (x+(IntKind.i64.wrap ((7:Int)*v))))] e)
   (b [.int .i64 (IntKind.i64.wrap (x-(IntKind.i64.wrap ((7:Int)*v))))] e))/\
 ∀a:Int,∀c,b [.int .i64 a] c->
 cnd (decide (a<(0:Int)))
  (callX Tryz.prog 38 #[.int .i64 (IntKind.i64.wrap (0-a))] c [] fun j g=>
  ∃d:ByteArray,j= .string d/\
  ((((⟨#[45]⟩:ByteArray).size+d.size:Nat)):Int)<=9223372036854775807/\R (.string ((⟨#[45]⟩:ByteArray)++d)) g)
  (callX Tryz.prog 38 #[.int .i64 a] c [] fun k i=>
  ∃f:ByteArray,k= .string f/\
  R (.string f) i)
theorem calls34 {h:Heap} {R:Value->Heap->Prop} (x:Int) (x2:Bool) (v:Int) (H:S34 x x2 v h R):CallsH Tryz.prog 34 #[.agg #[.int .i64 x,.bool x2],.int .i64 v] h R:=by
 have e:S34 x x2 v h R=FX (envX [2] 26) {loops:=[],joins:=[(12,⟨[],[5],[],[]⟩)],blocks:=[],draws:=[]} Tryz.f34 (Tryz.f34.body.getD .skip) [.agg #[.int .i64 x,.bool x2],.int .i64 v] h R:=by kernel_rfl
 exact calls_of_FX (envX_ok _ _) Tryz.func34 (by kernel_rfl) (by kernel_rfl) (by kernel_rfl) (e▸H)
def Ok34 (x:Int) (x2:Bool) (v:Int) (R:ByteArray->Prop):Prop:=
 ∀(h:Heap),Hp h []->CallsH Tryz.prog 34 #[.agg #[.int .i64 x,.bool x2],.int .i64 v] h fun v h'=>∃(rV:ByteArray),Sy h [] h' []/\v= .string rV/\R rV
def T34 (x:Int) (x2:Bool) (v:Int) (R:ByteArray->Prop):Prop:=
 ∃b:Int->Prop,
 (cnd x2
   (b (IntKind.i64.wrap (x+(IntKind.i64.wrap ((7:Int)*v)))))
   (b (IntKind.i64.wrap (x-(IntKind.i64.wrap ((7:Int)*v))))))/\
 ∀a:Int,b a->
 cnd (decide (a<(0:Int)))
  (Ok38 (IntKind.i64.wrap (0-a)) (fun c=>
  ((((⟨#[45]⟩:ByteArray).size+c.size:Nat)):Int)<=9223372036854775807/\R ((⟨#[45]⟩:ByteArray)++c)))
  (Ok38 a (fun d=>
  R d))
theorem ok34 {x x2 v} {R:ByteArray->Prop} (T:T34 x x2 v R):Ok34 x x2 v R:=by
 intro h H
 have Y:Sy h [] h _:=Sy.startM H rfl
 apply calls34
 unfold S34
 unfold T34 at T
 intro hv
 have Y:Sy _ _ hv [_]:=Y.junk _
 clear_value hv
 obtain⟨Jv,T0,T1⟩:=T
 obtain⟨B,hB,_⟩:=Y.cut [] [0] rfl
 refine⟨fun lz h'=>∃(n:Int),lz=[.int .i64 n]/\Sy h [] h' ([]++B)/\Jv n,?_,?_⟩
 ·subst hB
  replace T:=T0
  clear T0 T1
  refine cnd_imp T (fun T=>?_) (fun T=>?_)
  ·exact ⟨_,rfl,Y.pick [0] rfl,T⟩
  ·exact ⟨_,rfl,Y.pick [0] rfl,T⟩
 ·subst hB
  clear T0 Y
  rintro n hv2 ⟨n,e,Y,T⟩
  cases e
  replace T:=T1 n T
  have Y:Sy _ _ _ [_]:=Y
  refine cnd_imp T (fun T=>?_) (fun T=>?_)
  ·refine callX_sy (T _ (Hp.nil _)) (fun _ _ ⟨_,p,_⟩=>p.fr) alln ?_
   rintro v2 hv3 ⟨r,PP,rfl,T⟩
   have Y:Sy _ _ hv3 [_]:=Y.gr PP.fr
   clear PP
   refine⟨r,rfl,?_⟩
   obtain⟨q,T⟩:=T
   refine⟨q,?_⟩
   exact⟨_,Y.pick [] rfl,rfl,T⟩
  ·refine callX_sy (T _ (Hp.nil _)) (fun _ _ ⟨_,p,_⟩=>p.fr) alln ?_
   rintro v3 hv4 ⟨r2,PP,rfl,T⟩
   have Y:Sy _ _ hv4 [_]:=Y.gr PP.fr
   clear PP
   refine⟨r2,rfl,?_⟩
   exact⟨_,Y.pick [] rfl,rfl,T⟩
def S11 (g:Int) (gA:Option Addr) (gL gC:Nat) (byv:Int) (up:Bool) (h:Heap) (R:Value->Heap->Prop):Prop:=
 let b9:Heap:=h.push (.cells #[.int .i64 g,.slice gA gL gC] 24)
 callX Tryz.prog 26 #[] b9 [h.size] fun c5 M=>
 ∃a2:Bool,c5= .bool a2/\
 cnd (!a2)
  (R (.bool false) M)
  (let x:=fun(c2:Heap)=>
   (R (.bool true) c2)
  callX Tryz.prog 33 #[.agg #[.int .i64 g,.slice gA gL gC]] M [h.size] fun c6 d=>
  ∃a3:Bool,c6= .bool a3/\
  cnd (!a3)
   (x d)
   (cnd (decide (g>(60:Int)))
    (x d)
    (cnd (decide (((gL:Nat):Int)>(60:Int)))
     (x d)
     (cnd (decide (byv>(1073741824:Int)))
      (x d)
      (cnd (decide (byv<((-1073741824):Int)))
       (R (.bool true) d)
       (let c3:Heap:=d.push (.cells #[.int .i64 0,.bool false] 46)
       let O:Heap:=hset (hset c3 d.size 0 (.int .i64 (IntKind.i64.wrap byv))) d.size (0+1) (.bool up)
       let P:Heap:=O.push (.cells #[.int .u8 35,.int .u8 32,.int .u8 119,.int .u8 114,.int .u8 105,.int .u8 116,.int .u8 116,.int .u8 101,.int .u8 110,.int .u8 32,.int .u8 98,.int .u8 121,.int .u8 32,.int .u8 104,.int .u8 97,.int .u8 110,.int .u8 100,.int .u8 10,.int .u8 103,.int .u8 114,.int .u8 97,.int .u8 112,.int .u8 104,.int .u8 32,.int .u8 91,.int .u8 32] 5)
       ∃b q,(some (⟨O.size,0,none⟩:Addr))=some ⟨b,q,none⟩/\b≠d.size/\b≠h.size/\∃cs f,P[b]? =some (.cells cs 5 f)/\let c4:Heap:=hmark P b
       ∃(B:List Value->Heap->Prop) (Q:List Value->Heap->Nat),B [.slice (some ⟨b,q,none⟩) 26 26,.int .i64 0] c4/\
       ∀(r:Option Addr) (a t:Nat),∀k:Int,∀s,B [.slice r a t,.int .i64 k] s->
       cnd (decide (k<((gL:Nat):Int)))
        (∃T,Ownd s 5 1 r a t T/\(∀b∈([h.size,d.size]:List Nat),b∉blkOf r)/\(a+(⟨#[101,100,103,101,32,91,32,116,97,114,103,101,116,32]⟩:ByteArray).size)*1<=140737488355328/\(a+(⟨#[101,100,103,101,32,91,32,116,97,114,103,101,116,32]⟩:ByteArray).size)<=maxLen/\
        ∀sA sC hv10,Ownd hv10 5 1 sA (a+(⟨#[101,100,103,101,32,91,32,116,97,114,103,101,116,32]⟩:ByteArray).size) sC (T++(Lib.strCells (⟨#[101,100,103,101,32,91,32,116,97,114,103,101,116,32]⟩:ByteArray)))->Fr (blkOf r) s hv10->((sA=r/\sC=t)\/∃g,sA=some ⟨g,0,none⟩/\s.size<=g)->(t<(a+(⟨#[101,100,103,101,32,91,32,116,97,114,103,101,116,32]⟩:ByteArray).size)->Fr [] s hv10)->
        ∃y:List Nat,(∀b∈([h.size,d.size]:List Nat),b∉y)/\
        ∃b2 o,gA=some ⟨b2,o,none⟩/\0<=k/\k<(gL:Nat)/\b2∉y/\∃b6:Int,hcell hv10 b2 ((o+(Int.toNat k)*2)+1)=some (.int .i64 b6)/\callX Tryz.prog 34 #[.agg #[.int .i64 (IntKind.i64.wrap byv),.bool up],.int .i64 b6] hv10 [h.size,d.size] fun c7 v=>
        ∃e:ByteArray,c7= .string e/\
        Fr y hv10 v/\
        ∃U,Ownd v 5 1 sA (a+(⟨#[101,100,103,101,32,91,32,116,97,114,103,101,116,32]⟩:ByteArray).size) sC U/\(∀b∈([h.size,d.size]:List Nat),b∉blkOf sA)/\((a+(⟨#[101,100,103,101,32,91,32,116,97,114,103,101,116,32]⟩:ByteArray).size)+e.size)*1<=140737488355328/\((a+(⟨#[101,100,103,101,32,91,32,116,97,114,103,101,116,32]⟩:ByteArray).size)+e.size)<=maxLen/\
        ∀sA2 sC2 hv12,Ownd hv12 5 1 sA2 ((a+(⟨#[101,100,103,101,32,91,32,116,97,114,103,101,116,32]⟩:ByteArray).size)+e.size) sC2 (U++(Lib.strCells e))->Fr (blkOf sA) v hv12->((sA2=sA/\sC2=sC)\/∃g,sA2=some ⟨g,0,none⟩/\v.size<=g)->(sC<((a+(⟨#[101,100,103,101,32,91,32,116,97,114,103,101,116,32]⟩:ByteArray).size)+e.size)->Fr [] v hv12)->
        Fr y hv10 hv12/\
        ∃V,Ownd hv12 5 1 sA2 ((a+(⟨#[101,100,103,101,32,91,32,116,97,114,103,101,116,32]⟩:ByteArray).size)+e.size) sC2 V/\(∀b∈([h.size,d.size]:List Nat),b∉blkOf sA2)/\(((a+(⟨#[101,100,103,101,32,91,32,116,97,114,103,101,116,32]⟩:ByteArray).size)+e.size)+(⟨#[32,111,116,104,101,114,32,91,32,97,32,91,32,98,32,49,32,93,32,93,32,115,111,117,114,99,101,32]⟩:ByteArray).size)*1<=140737488355328/\(((a+(⟨#[101,100,103,101,32,91,32,116,97,114,103,101,116,32]⟩:ByteArray).size)+e.size)+(⟨#[32,111,116,104,101,114,32,91,32,97,32,91,32,98,32,49,32,93,32,93,32,115,111,117,114,99,101,32]⟩:ByteArray).size)<=maxLen/\
        ∀sA3 sC3 hv13,Ownd hv13 5 1 sA3 (((a+(⟨#[101,100,103,101,32,91,32,116,97,114,103,101,116,32]⟩:ByteArray).size)+e.size)+(⟨#[32,111,116,104,101,114,32,91,32,97,32,91,32,98,32,49,32,93,32,93,32,115,111,117,114,99,101,32]⟩:ByteArray).size) sC3 (V++(Lib.strCells (⟨#[32,111,116,104,101,114,32,91,32,97,32,91,32,98,32,49,32,93,32,93,32,115,111,117,114,99,101,32]⟩:ByteArray)))->Fr (blkOf sA2) hv12 hv13->((sA3=sA2/\sC3=sC2)\/∃g,sA3=some ⟨g,0,none⟩/\hv12.size<=g)->(sC2<(((a+(⟨#[101,100,103,101,32,91,32,116,97,114,103,101,116,32]⟩:ByteArray).size)+e.size)+(⟨#[32,111,116,104,101,114,32,91,32,97,32,91,32,98,32,49,32,93,32,93,32,115,111,117,114,99,101,32]⟩:ByteArray).size)->Fr [] hv12 hv13)->
        ∃z:List Nat,(∀b∈([h.size,d.size]:List Nat),b∉z)/\
        ∃b3 o2,gA=some ⟨b3,o2,none⟩/\0<=k/\k<(gL:Nat)/\b3∉z/\∃b7:Int,hcell hv13 b3 ((o2+(Int.toNat k)*2)+0)=some (.int .i64 b7)/\callX Tryz.prog 34 #[.agg #[.int .i64 (IntKind.i64.wrap byv),.bool up],.int .i64 b7] hv13 [h.size,d.size] fun c8 w=>
        ∃i:ByteArray,c8= .string i/\
        Fr z hv13 w/\
        ∃W,Ownd w 5 1 sA3 (((a+(⟨#[101,100,103,101,32,91,32,116,97,114,103,101,116,32]⟩:ByteArray).size)+e.size)+(⟨#[32,111,116,104,101,114,32,91,32,97,32,91,32,98,32,49,32,93,32,93,32,115,111,117,114,99,101,32]⟩:ByteArray).size) sC3 W/\(∀b∈([h.size,d.size]:List Nat),b∉blkOf sA3)/\((((a+(⟨#[101,100,103,101,32,91,32,116,97,114,103,101,116,32]⟩:ByteArray).size)+e.size)+(⟨#[32,111,116,104,101,114,32,91,32,97,32,91,32,98,32,49,32,93,32,93,32,115,111,117,114,99,101,32]⟩:ByteArray).size)+i.size)*1<=140737488355328/\((((a+(⟨#[101,100,103,101,32,91,32,116,97,114,103,101,116,32]⟩:ByteArray).size)+e.size)+(⟨#[32,111,116,104,101,114,32,91,32,97,32,91,32,98,32,49,32,93,32,93,32,115,111,117,114,99,101,32]⟩:ByteArray).size)+i.size)<=maxLen/\
        ∀sA4 sC4 hv15,Ownd hv15 5 1 sA4 ((((a+(⟨#[101,100,103,101,32,91,32,116,97,114,103,101,116,32]⟩:ByteArray).size)+e.size)+(⟨#[32,111,116,104,101,114,32,91,32,97,32,91,32,98,32,49,32,93,32,93,32,115,111,117,114,99,101,32]⟩:ByteArray).size)+i.size) sC4 (W++(Lib.strCells i))->Fr (blkOf sA3) w hv15->((sA4=sA3/\sC4=sC3)\/∃g,sA4=some ⟨g,0,none⟩/\w.size<=g)->(sC3<((((a+(⟨#[101,100,103,101,32,91,32,116,97,114,103,101,116,32]⟩:ByteArray).size)+e.size)+(⟨#[32,111,116,104,101,114,32,91,32,97,32,91,32,98,32,49,32,93,32,93,32,115,111,117,114,99,101,32]⟩:ByteArray).size)+i.size)->Fr [] w hv15)->
        Fr z hv13 hv15/\
        ∃X,Ownd hv15 5 1 sA4 ((((a+(⟨#[101,100,103,101,32,91,32,116,97,114,103,101,116,32]⟩:ByteArray).size)+e.size)+(⟨#[32,111,116,104,101,114,32,91,32,97,32,91,32,98,32,49,32,93,32,93,32,115,111,117,114,99,101,32]⟩:ByteArray).size)+i.size) sC4 X/\(∀b∈([h.size,d.size]:List Nat),b∉blkOf sA4)/\(((((a+(⟨#[101,100,103,101,32,91,32,116,97,114,103,101,116,32]⟩:ByteArray).size)+e.size)+(⟨#[32,111,116,104,101,114,32,91,32,97,32,91,32,98,32,49,32,93,32,93,32,115,111,117,114,99,101,32]⟩:ByteArray).size)+i.size)+(⟨#[32,93,10]⟩:ByteArray).size)*1<=140737488355328/\(((((a+(⟨#[101,100,103,101,32,91,32,116,97,114,103,101,116,32]⟩:ByteArray).size)+e.size)+(⟨#[32,111,116,104,101,114,32,91,32,97,32,91,32,98,32,49,32,93,32,93,32,115,111,117,114,99,101,32]⟩:ByteArray).size)+i.size)+(⟨#[32,93,10]⟩:ByteArray).size)<=maxLen/\
        ∀sA5 sC5 hv16,Ownd hv16 5 1 sA5 (((((a+(⟨#[101,100,103,101,32,91,32,116,97,114,103,101,116,32]⟩:ByteArray).size)+e.size)+(⟨#[32,111,116,104,101,114,32,91,32,97,32,91,32,98,32,49,32,93,32,93,32,115,111,117,114,99,101,32]⟩:ByteArray).size)+i.size)+(⟨#[32,93,10]⟩:ByteArray).size) sC5 (X++(Lib.strCells (⟨#[32,93,10]⟩:ByteArray)))->Fr (blkOf sA4) hv15 hv16->((sA5=sA4/\sC5=sC4)\/∃g,sA5=some ⟨g,0,none⟩/\hv15.size<=g)->(sC4<(((((a+(⟨#[101,100,103,101,32,91,32,116,97,114,103,101,116,32]⟩:ByteArray).size)+e.size)+(⟨#[32,111,116,104,101,114,32,91,32,97,32,91,32,98,32,49,32,93,32,93,32,115,111,117,114,99,101,32]⟩:ByteArray).size)+i.size)+(⟨#[32,93,10]⟩:ByteArray).size)->Fr [] hv15 hv16)->
        B [.slice sA5 (((((a+(⟨#[101,100,103,101,32,91,32,116,97,114,103,101,116,32]⟩:ByteArray).size)+e.size)+(⟨#[32,111,116,104,101,114,32,91,32,97,32,91,32,98,32,49,32,93,32,93,32,115,111,117,114,99,101,32]⟩:ByteArray).size)+i.size)+(⟨#[32,93,10]⟩:ByteArray).size) sC5,.int .i64 (IntKind.i64.wrap (k+(1:Int)))] hv16/\Q [.slice sA5 (((((a+(⟨#[101,100,103,101,32,91,32,116,97,114,103,101,116,32]⟩:ByteArray).size)+e.size)+(⟨#[32,111,116,104,101,114,32,91,32,97,32,91,32,98,32,49,32,93,32,93,32,115,111,117,114,99,101,32]⟩:ByteArray).size)+i.size)+(⟨#[32,93,10]⟩:ByteArray).size) sC5,.int .i64 (IntKind.i64.wrap (k+(1:Int)))] hv16<Q [.slice r a t,.int .i64 k] s)
        (∃(C:List Value->Heap->Prop) (S:List Value->Heap->Nat),C [.slice r a t,.int .i64 0] s/\
        ∀(l:Option Addr) (c n:Nat),∀u:Int,∀m,C [.slice l c n,.int .i64 u] m->
        cnd (decide (u<g))
         (∃Y,Ownd m 5 1 l c n Y/\(∀b∈([h.size,d.size]:List Nat),b∉blkOf l)/\(c+(⟨#[110,111,100,101,91,105,100,32]⟩:ByteArray).size)*1<=140737488355328/\(c+(⟨#[110,111,100,101,91,105,100,32]⟩:ByteArray).size)<=maxLen/\
         ∀sA6 sC6 hv18,Ownd hv18 5 1 sA6 (c+(⟨#[110,111,100,101,91,105,100,32]⟩:ByteArray).size) sC6 (Y++(Lib.strCells (⟨#[110,111,100,101,91,105,100,32]⟩:ByteArray)))->Fr (blkOf l) m hv18->((sA6=l/\sC6=n)\/∃g,sA6=some ⟨g,0,none⟩/\m.size<=g)->(n<(c+(⟨#[110,111,100,101,91,105,100,32]⟩:ByteArray).size)->Fr [] m hv18)->
         callX Tryz.prog 34 #[.agg #[.int .i64 (IntKind.i64.wrap byv),.bool up],.int .i64 u] hv18 [h.size,d.size] fun c9 A=>
         ∃j:ByteArray,c9= .string j/\
         ∃Z,Ownd A 5 1 sA6 (c+(⟨#[110,111,100,101,91,105,100,32]⟩:ByteArray).size) sC6 Z/\(∀b∈([h.size,d.size]:List Nat),b∉blkOf sA6)/\((c+(⟨#[110,111,100,101,91,105,100,32]⟩:ByteArray).size)+j.size)*1<=140737488355328/\((c+(⟨#[110,111,100,101,91,105,100,32]⟩:ByteArray).size)+j.size)<=maxLen/\
         ∀sA7 sC7 hv20,Ownd hv20 5 1 sA7 ((c+(⟨#[110,111,100,101,91,105,100,32]⟩:ByteArray).size)+j.size) sC7 (Z++(Lib.strCells j))->Fr (blkOf sA6) A hv20->((sA7=sA6/\sC7=sC6)\/∃g,sA7=some ⟨g,0,none⟩/\A.size<=g)->(sC6<((c+(⟨#[110,111,100,101,91,105,100,32]⟩:ByteArray).size)+j.size)->Fr [] A hv20)->
         ∃a0,Ownd hv20 5 1 sA7 ((c+(⟨#[110,111,100,101,91,105,100,32]⟩:ByteArray).size)+j.size) sC7 a0/\(∀b∈([h.size,d.size]:List Nat),b∉blkOf sA7)/\(((c+(⟨#[110,111,100,101,91,105,100,32]⟩:ByteArray).size)+j.size)+(⟨#[93]⟩:ByteArray).size)*1<=140737488355328/\(((c+(⟨#[110,111,100,101,91,105,100,32]⟩:ByteArray).size)+j.size)+(⟨#[93]⟩:ByteArray).size)<=maxLen/\
         ∀sA8 sC8 hv21,Ownd hv21 5 1 sA8 (((c+(⟨#[110,111,100,101,91,105,100,32]⟩:ByteArray).size)+j.size)+(⟨#[93]⟩:ByteArray).size) sC8 (a0++(Lib.strCells (⟨#[93]⟩:ByteArray)))->Fr (blkOf sA7) hv20 hv21->((sA8=sA7/\sC8=sC7)\/∃g,sA8=some ⟨g,0,none⟩/\hv20.size<=g)->(sC7<(((c+(⟨#[110,111,100,101,91,105,100,32]⟩:ByteArray).size)+j.size)+(⟨#[93]⟩:ByteArray).size)->Fr [] hv20 hv21)->
         C [.slice sA8 (((c+(⟨#[110,111,100,101,91,105,100,32]⟩:ByteArray).size)+j.size)+(⟨#[93]⟩:ByteArray).size) sC8,.int .i64 (IntKind.i64.wrap (u+(1:Int)))] hv21/\S [.slice sA8 (((c+(⟨#[110,111,100,101,91,105,100,32]⟩:ByteArray).size)+j.size)+(⟨#[93]⟩:ByteArray).size) sC8,.int .i64 (IntKind.i64.wrap (u+(1:Int)))] hv21<S [.slice l c n,.int .i64 u] m)
         (∃a1,Ownd m 5 1 l c n a1/\(∀b∈([h.size,d.size]:List Nat),b∉blkOf l)/\(c+(⟨#[32,93,32,101,110,100,32,49,46,53]⟩:ByteArray).size)*1<=140737488355328/\(c+(⟨#[32,93,32,101,110,100,32,49,46,53]⟩:ByteArray).size)<=maxLen/\
         ∀sA9 sC9 hv22,Ownd hv22 5 1 sA9 (c+(⟨#[32,93,32,101,110,100,32,49,46,53]⟩:ByteArray).size) sC9 (a1++(Lib.strCells (⟨#[32,93,32,101,110,100,32,49,46,53]⟩:ByteArray)))->Fr (blkOf l) m hv22->((sA9=l/\sC9=n)\/∃g,sA9=some ⟨g,0,none⟩/\m.size<=g)->(n<(c+(⟨#[32,93,32,101,110,100,32,49,46,53]⟩:ByteArray).size)->Fr [] m hv22)->
         ∃b8:List Int,Reads hv22 1 sA9 (c+(⟨#[32,93,32,101,110,100,32,49,46,53]⟩:ByteArray).size) (List.map (Value.int IntKind.u8) b8)/\callX Tryz.prog 23 #[.string (strOf b8)] hv22 [h.size,d.size] fun d0 p=>
         ∃F:Int,∃(G:Option Addr) (I H:Nat),∃a5:Bool,∃(a6:Option Addr) (J a9:Nat),∃(a7:Option Addr) (K b0:Nat),∃(a8:Option Addr) (L b1:Nat),∃b4:Int,∃b5:Int,d0= .tuple #[.agg #[.int .i64 F,.slice G I H,.bool a5,.slice a6 J a9,.slice a7 K b0,.slice a8 L b1],.int .i64 b4,.int .i64 b5]/\
         let c0:Heap:=p.push (.cells #[.int .i64 0,.slice none 0 0,.bool false,.slice none 0 0,.slice none 0 0,.slice none 0 0] 29)
         let E:Heap:=hset (hset (hset (hset (hset (hset c0 p.size 0 (.int .i64 F)) p.size (0+1) (.slice G I H)) p.size ((0+1)+1) (.bool a5)) p.size (((0+1)+1)+1) (.slice a6 J a9)) p.size ((((0+1)+1)+1)+1) (.slice a7 K b0)) p.size (((((0+1)+1)+1)+1)+1) (.slice a8 L b1)
         let D:=fun(c1:Heap)=>
          (R (.bool false) c1)
         cnd (b4==(0:Int))
          (cnd (b5==(0:Int))
           (callX Tryz.prog 35 #[.agg #[.int .i64 F,.slice G I H],.agg #[.int .i64 g,.slice gA gL gC]] E [p.size,h.size,d.size] fun d1 N=>
           ∃a4:Bool,d1= .bool a4/\
           cnd a4
            (R (.bool ((IntKind.i64.wrap ((IntKind.i64.wrap (((J:Nat):Int)+((K:Nat):Int)))+((L:Nat):Int)))==(0:Int))) N)
            (D N))
           (D E))
          (D E)))))))))
theorem calls11 {h:Heap} {R:Value->Heap->Prop} (g:Int) (gA:Option Addr) (gL gC:Nat) (byv:Int) (up:Bool) (H:S11 g gA gL gC byv up h R):CallsH Tryz.prog 11 #[.agg #[.int .i64 g,.slice gA gL gC],.int .i32 byv,.bool up] h R:=by
 have e:S11 g gA gL gC byv up h R=FX (envX [3,7,11] 127) {loops:=[(0,⟨[3,7],[8,9],[3,7],[]⟩),(2,⟨[3,7],[8,10],[3,7],[]⟩)],joins:=[],blocks:=[],draws:=[(11,⟨11,true⟩),(13,⟨11,true⟩)]} Tryz.f11 (Tryz.f11.body.getD .skip) [.agg #[.int .i64 g,.slice gA gL gC],.int .i32 byv,.bool up] h R:=by kernel_rfl
 exact calls_of_FX (envX_ok _ _) Tryz.func11 (by kernel_rfl) (by kernel_rfl) (by kernel_rfl) (e▸H)
end Go.Proofs.YtlflalecmhgmjaaGreatDoor.N
