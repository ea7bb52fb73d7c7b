/- weigh's and the document's texts of a number are one function of it. Conditions: none. -/
import Derived.Test.YtmmmmjcfojhiaaaGreatDoorWTxt
import Derived.Test.YtmmmmjcfojhiaaaGreatDoorKDoc
set_option linter.unusedVariables false
set_option linter.unusedSimpArgs false
set_option maxRecDepth 100000
set_option maxHeartbeats 2000000
open Go.IntKind (i64 u64 u8 i32)
namespace Go.Proofs.YtmmmmjcfojhiaaaGreatDoor.N
open Go.X Go.Proofs.YtmmmmjcfojhiaaaGreatDoor
theorem Oc {x:Nat} {R:Bool->Prop} (r:R (isInf x)):Ad x 1 R:=by
 apply JP;unfold T44
 refine⟨fun y=>y=x,az PB ⟨fun y=>y=x,az PB rfl,fun _ h=>h⟩,?_⟩
 rintro _ rfl;exact r
theorem Od {x:Nat} {R:Bool->Prop} (r:R (isInf (fh x))):Ad x (-1) R:=by
 apply JP;unfold T44
 refine⟨fun y=>y=fh x,az PB ⟨fun y=>y=fh x,aJ PB rfl,fun _ h=>h⟩,?_⟩
 rintro _ rfl;exact r
theorem xE {x:Nat} (hn:isNaN x=false) (hp:isInf x=false) (hm:isInf (fh x)=false):hO x≠2047:=by
 intro h
 have hr:x % 2^63>=2047*2^52:=by
  have a1:(2:Nat)^63=9223372036854775808:=by decide
  have a2:2047*(2:Nat)^52=9218868437227405312:=by decide
  rw[a1,a2];unfold hO at h;omega
 have key:∀y:Nat,F64.read y= .infinity false->isInf y=true:=by
  intro y hy
  unfold isInf Ieee.Format.order
  rw[hy];decide
 have hnr:=pz x
 rcases dZ hn with⟨s,e⟩ | ⟨s,m,i,e⟩
 ·cases s
  ·rw[key x e]at hp;cases hp
  ·rw[e]at hnr
   rw[key (fh x) hnr]at hm;cases hm
 ·unfold Ieee.Format.read at e
  simp only[jE,fR,ky]at e
  rw[if_neg PA,if_neg PA]at e
  split at e<;>cases e
theorem kM (xs:List Int):(strOf xs).data.toList=xs.map fun n=>UInt8.ofNat n.toNat:=by
 have gen:∀(xs:List Int) (b:P0),(xs.foldl (fun r n=>r.push (UInt8.ofNat n.toNat)) b).data.toList=b.data.toList++xs.map fun n=>UInt8.ofNat n.toNat:=by
  intro xs
  induction xs with
  | nil=>intro b;simp
  | cons x xs ih=>intro b;rw[List.foldl_cons,ih];simp[ByteArray.push]
 have:=gen xs ByteArray.empty
 unfold strOf
 rw[this];rfl
def okC (v:Int):Prop:=0<=v/\v<128
instance decC (v:Int):Decidable (okC v):=by unfold okC;infer_instance
theorem KF (d n:Nat):∀v∈dgL d n,okC v:=by
 intro v hv
 simp only[dgL,Rj,RB]at hv
 obtain⟨t,_,rfl⟩:=hv
 unfold okC;omega
theorem Ea {x:Int} (h:x.natAbs<1000):(∀v∈fu x,okC v)/\(fu x).length<=4:=by
 unfold fu
 simp only[]
 refine⟨fun v hv=>?_,?_⟩
 ·simp only[Qd]at hv
  rcases hv with rfl | hv
  ·unfold okC;split<;>decide
  ·split at hv
   ·simp at hv;unfold okC;omega
   ·split at hv
    ·simp at hv;unfold okC;omega
    ·simp at hv;unfold okC;omega
 ·simp only[Qk]
  split
  ·simp
  ·split<;>simp
theorem zi {neg:Bool} {L:List Int} {dp:Int} (hL:∀v∈L,okC v) (hl:L.length<=20) (hd:(dp-1).natAbs<1000):(∀v∈fmtG neg L dp,okC v)/\(fmtG neg L dp).length<=95:=by
 have hs:(∀v∈iK neg,okC v)/\(iK neg).length<=1:=by cases neg<;>simp[iK,okC]
 have he:(∀v∈fu (if L=[]then 0 else dp-1),okC v)/\(fu (if L=[]then 0 else dp-1)).length<=4:=Ea (by split<;>omega)
 have c48:okC 48:=by decide
 unfold fmtG
 have main:(∀v∈(if dp-1< -4\/6<=dp-1 then jH L dp else dJ L dp),okC v)/\(if dp-1< -4\/6<=dp-1 then jH L dp else dJ L dp).length<=90:=by
  split
  ·unfold jH
   refine⟨fun v hv=>?_,?_⟩
   ·simp only[Qe]at hv
    rcases hv with((hv | hv) | hv) | hv
    ·split at hv
     ·simp at hv;subst hv;decide
     ·exact hL v (R8 hv)
    ·split at hv
     ·simp only[Qd]at hv
      rcases hv with rfl | hv
      ·decide
      ·exact hL v (List.mem_of_mem_drop hv)
     ·simp at hv
    ·simp at hv;subst hv;decide
    ·exact he.1 v hv
   ·have a1:(if L=[]then [48]else List.take 1 L).length<=1:=by split<;>simp<;>omega
    have a2:(if 1<L.length then 46::List.drop 1 L else []).length<=21:=by split<;>simp<;>omega
    have a3:=he.2
    simp only[P9,Qk,List.length_nil]
    omega
  ·rename_i hE
   unfold dJ
   refine⟨fun v hv=>?_,?_⟩
   ·simp only[Qe]at hv
    rcases hv with hv | hv
    ·split at hv
     ·simp only[Qe]at hv
      rcases hv with hv | hv
      ·exact hL v (R8 hv)
      ·rw[List.eq_of_mem_replicate hv];exact c48
     ·simp at hv;subst hv;decide
    ·split at hv
     ·simp only[Qd,Qe]at hv
      rcases hv with rfl | hv | hv
      ·decide
      ·rw[List.eq_of_mem_replicate hv];exact c48
      ·exact hL v (List.mem_of_mem_drop hv)
     ·simp at hv
   ·have a1:(if 0<dp then List.take dp.toNat L++List.replicate (dp.toNat-L.length) 48 else [48]).length<=40:=by
     split
     ·simp only[P9,List.length_take,QA];omega
     ·simp
    have a2:(if dp<(L.length:Int)then 46::(List.replicate (-dp).toNat 48++List.drop dp.toNat L)else []).length<=50:=by
     split
     ·simp only[Qk,P9,Ry,QA];omega
     ·simp
    rw[P9];omega
 refine⟨fun v hv=>?_,?_⟩
 ·rcases Qe.1 hv with hv | hv
  ·exact hs.1 v hv
  ·exact main.1 v hv
 ·rw[P9];have:=main.2;have:=hs.2;omega
theorem KG (f:Nat):(∀v∈LOf f,okC v)/\(LOf f).length<=20:=by
 refine⟨fun v hv=>KF _ _ v (R8 hv),?_⟩
 have:=xI (pR (nZ f) (jc f))
 unfold LOf
 rw[List.length_take,ij]
 show min _ (ndg (short (nZ f) (jc f)).1)<=20
 omega
theorem HG {f:Nat} (hx:hO f≠2047):(∀v∈eC f,okC v)/\(eC f).length<=95:=by
 unfold eC
 split
 ·exact zi PC PC PB
 ·rename_i h0
  obtain⟨h1,h2⟩:=KG f
  have hp:=Oo (El hx h0).1
  have hn:=xI (pR (nZ f) (jc f))
  have hn2:ndg (dOf f)<=20:=hn
  refine zi h1 h2 ?_
  unfold lT pOf;omega
def dH (l:PZ):Bool:=Lib.containsAny l [46,101]
def bZ (x:Nat):P0:=
 if isNaN x then⟨#[78,97,78]⟩else if isInf x then⟨#[73,78,70]⟩else if isInf (fh x)then⟨#[45,73,78,70]⟩
 else if dH (strOf (eC x)).data.toList then strOf (eC x)else strOf (eC x)++⟨#[46,48]⟩
theorem su {f:Nat} (hx:hO f≠2047):(strOf (eC f)).size<=95/\∀(j:Nat) b,(strOf (eC f)).data.toList[j]? =some b->b.toNat<128:=by
 obtain⟨h1,h2⟩:=HG hx
 have e:(strOf (eC f)).size=(eC f).length:=by
  show(strOf (eC f)).data.toList.length=_
  rw[kM,Rg]
 refine⟨PA,fun j b hb=>?_⟩
 rw[kM,List.getElem?_map]at hb
 cases hv:(eC f)[j]? with
 | none=>rw[hv]at hb;cases hb
 | some v=>
  rw[hv]at hb
  simp only[QL,Option.some.injEq]at hb
  have:=h1 v (Qa hv)
  unfold okC at this
  subst hb
  rw[Sg]
  omega
theorem Oe {x:Nat} {R:P0->Prop} (hx:x<18446744073709551616) (r:R (bZ x)):Np x R:=by
 apply Po;unfold T23
 rw[iC]
 unfold bZ at r
 refine aU (fun h=>?_) fun h=>Oc (aU (fun h2=>?_) fun h2=>Od (aU (fun h3=>?_) fun h3=>?_))
 ·rw[if_pos h]at r;exact r
 ·rw[if_neg (by rw[h];decide),if_pos h2]at r;exact r
 ·rw[if_neg (by rw[h];decide),if_neg (by rw[h2];decide),if_pos h3]at r;exact r
 rw[if_neg (by rw[h];decide),if_neg (by rw[h2];decide),if_neg (by rw[h3];decide)]at r
 have hf:=xE h h2 h3
 obtain⟨b1,b2⟩:=su hf
 refine Ou hx hf (Oh PA PB b2 (by intro j b hb;match j,hb with | 0,hb=>simp at hb;subst hb;decide | 1,hb=>simp at hb;subst hb;decide | j+2,hb=>simp at hb) ?_)
 refine⟨fun t=>t=(if dH (strOf (eC x)).data.toList then strOf (eC x)else strOf (eC x)++⟨#[46,48]⟩),bj (fun hh=>⟨?_,?_⟩) fun hh=>?_,?_⟩
 ·have:(⟨#[46,48]⟩:P0).size=2:=rfl
  omega
 ·have hh:dH (strOf (eC x)).data.toList=false:=hh
  rw[hh];rfl
 ·have hh:dH (strOf (eC x)).data.toList=true:=hh
  rw[hh];rfl
 ·rintro _ rfl;exact r
theorem Eb {l:PZ} (h:Lib.NoAny l [46,101] l.length):dH l=false:=by
 unfold dH Lib.containsAny;rw[Lib.indexAny_none h];rfl
theorem HH {l:PZ} {i:Nat} {x:UInt8} (h:l[i]? =some x) (hx:x=46\/x=101):dH l=true:=by
 cases hh:dH l with
 | true=>rfl
 | false=>
  exfalso
  have hn:Lib.indexAny l [46,101] <0:=by unfold dH Lib.containsAny at hh;exact Int.not_le.1 (of_decide_eq_false hh)
  have gen:∀(l:PZ) (i:Nat),l[i]? =some x->0<=Lib.indexAny l [46,101]:=by
   intro l
   induction l with
   | nil=>intro i h;simp at h
   | cons b l ih=>
    intro i h
    unfold Lib.indexAny
    cases i with
    | zero=>
     simp at h;subst h
     rw[if_pos (by rcases hx with rfl | rfl<;>decide)];decide
    | succ i=>
     have:=ih i (by simpa using h)
     split
     ·decide
     ·rw[if_neg PH];omega
  have:=gen l i h
  omega
open Go.Proofs
def txM (x:Nat):PZ:=(bZ x).data.toList
theorem Ab (x:Nat) (hx:x<18446744073709551616):(txM x).length<=100:=by
 unfold txM bZ
 split
 ·decide
 split
 ·decide
 split
 ·decide
 rename_i a b c
 have hf:=xE (by simpa using a) (by simpa using b) (by simpa using c)
 have h1:(strOf (eC x)).data.toList.length<=95:=(su hf).1
 split
 ·omega
 ·have e:(strOf (eC x)++(⟨#[46,48]⟩:P0)).data.toList.length=(strOf (eC x)).data.toList.length+2:=by simp
  omega
theorem xh {gl:GL} {x:Nat} (hx:x<18446744073709551616):tj gl txM x:=
 ⟨fun h g=>(Oe (R:=fun s=>s=bZ x) hx rfl h gl (Hp.view (c:=Ck.glob gl) g rfl (Hp.nil _) (fun _ _ hd=>by simp at hd))).mono fun v h' ⟨s,Y,e1,q⟩=>⟨by rw[e1,q,show G.mkB (txM x)=bZ x from Bw _],Y.fr⟩,Ab x hx⟩
section
variable {gl:GL} {h:ab} {tx:Nat->PZ} {aE aL aS aW:PY} {nE cE nL cL nS cS nW cW:Nat} {n:Int} {es:Es} {ls:List ByteArray} {ss:List (Nat × Nat)} {ws:List Nat} {dir:Bool}
end
def uex (N D:Nat):Nat:=N/D||| (if N % D=0 then 0 else 1)
theorem pD {X D q r:Nat} (h:X=q*D+r) (h1:0<r) (h2:r<D):uex X D=q||| 1:=by
 have e1:X/D=q:=by
  rw[h,Qo,Nat.mul_add_div PA,QJ h2,RU]
 have e2:X % D=r:=by grind [Nat.mul_comm,Nat.mul_add_mod,Nat.mod_eq_of_lt]
 unfold uex;grind
theorem DM {X D q:Nat} (h:X=q*D) (hD:0<D):uex X D=q||| 0:=by
 unfold uex;simp_all
theorem sj {x hi lo s a b:Nat} (hx:x<18446744073709551616) (hlo:lo<18446744073709551616) (hhi:hi<18446744073709551616) (hb:0<b) (hl:lo<=hi*18446744073709551616)
  (t1:a<=(hi*18446744073709551616-lo)*b) (t2:(hi*18446744073709551616-lo)*b<a+b)
  (nc:∀q,q*(18446744073709551616*2^s*(18446744073709551616*b))<x*a+2*(18446744073709551616*b)->x*a<q*(18446744073709551616*2^s*(18446744073709551616*b))+2*(18446744073709551616*b)->x*a=q*(18446744073709551616*2^s*(18446744073709551616*b))):
  usc x hi lo s=uex (x*a) (18446744073709551616*2^s*(18446744073709551616*b)):=by
 obtain⟨δ,hδ⟩:∃δ,(hi*18446744073709551616-lo)*b=a+δ:=⟨(hi*18446744073709551616-lo)*b-a,PA⟩
 have hδb:δ<b:=by omega
 have hm2:x*lo/18446744073709551616<=18446744073709551614:=by
  have h1:x*lo<=18446744073709551615*18446744073709551615:=RN PA PA
  omega
 have hPM:=QC (x*hi) 18446744073709551616
 have hQR:=QC (x*lo) 18446744073709551616
 have hM:x*hi % 18446744073709551616<18446744073709551616:=QG _ PB
 have hr:x*lo % 18446744073709551616<18446744073709551616:=QG _ PB
 have hH:x*hi/18446744073709551616<18446744073709551616:=jG hx hhi
 have main:x*a+(x*lo % 18446744073709551616*b+x*δ)+x*lo/18446744073709551616*(18446744073709551616*b)=(x*hi/18446744073709551616*18446744073709551616+x*hi % 18446744073709551616)*(18446744073709551616*b):=by
  have e1:x*((hi*18446744073709551616-lo)*b)=x*a+x*δ:=by grind
  have e2:x*((hi*18446744073709551616-lo)*b)+x*lo*b=x*hi*18446744073709551616*b:=by
   have:(hi*18446744073709551616-lo)*b+lo*b=hi*18446744073709551616*b:=by rw[<-Qn];congr 1;omega
   grind
  grind
 have hρ:x*lo % 18446744073709551616*b+x*δ<2*(18446744073709551616*b):=by
  have h1:x*lo % 18446744073709551616*b<=18446744073709551615*b:=P1 _ PA
  have h2:x*δ<=18446744073709551615*b:=RN PA PA
  omega
 generalize x*lo % 18446744073709551616*b+x*δ=ρ at*
 unfold usc
 simp only[]
 generalize x*hi/18446744073709551616=H at*
 generalize x*hi % 18446744073709551616=M at*
 generalize x*lo/18446744073709551616=m2 at*
 have hB:0<18446744073709551616*b:=by omega
 generalize hBz:18446744073709551616*b=B at*
 generalize x*a=X at*
 clear hPM hQR hδ t1 t2 hl
 have hS:0<2^s:=QD s
 have hHq:=QC H (2^s)
 have hh:=QG H hS
 generalize hq:H/2^s=q at*
 generalize H % 2^s=h at*
 have eK:(H*18446744073709551616+M)*B=q*(18446744073709551616*2^s*B)+(h*18446744073709551616+M)*B:=by
  grind
 rw[eK]at main
 generalize hD:18446744073709551616*2^s*B=D at*
 have hDB:D=18446744073709551616*2^s*B:=hD.symm
 by_cases h0:h=0
 ·subst h0
  rw[if_pos PE]
  have hMm:(0*18446744073709551616+M)*B=M*B:=by grind
  rw[hMm]at main
  by_cases c1:M<m2
  ·--below
   have hMB:m2*B=M*B+(m2-M)*B:=by rw[<-Qn];congr 1;omega
   have hge:B<=(m2-M)*B:=Nat.le_mul_of_pos_left _ PA
   have hle:(m2-M)*B+2*B<=18446744073709551616*B:=by rw[<-Qn];exact P1 _ PA
   have hDge:18446744073709551616*B<=D:=by rw[hDB];exact P1 _ (Qw _ hS)
   have hq0:q≠0:=by
    grind
   obtain⟨q',rfl⟩:=Nat.exists_eq_succ_of_ne_zero hq0
   have hX:X=q'*D+(D-(m2-M)*B-ρ):=by
    grind
   rw[pD hX PA PA]
   have hH1:H=2^s*(q'+1):=by grind
   have e5:(H+18446744073709551616-1) % 18446744073709551616/2^s=q':=by
    have:(H+18446744073709551616-1) % 18446744073709551616=H-1:=by
     grind
    rw[this,hH1,Nat.mul_add,Qy,Nat.add_sub_assoc PA,Nat.mul_add_div hS,QJ PA,RU]
   rw[if_pos c1,e5,if_pos PA]
  ·rw[if_neg c1]
   have e5:(H+18446744073709551616-0) % 18446744073709551616/2^s=q:=by
    grind
   rw[e5]
   have hMB:M*B=m2*B+(M-m2)*B:=by rw[<-Qn];congr 1;omega
   by_cases c2:2<=M-m2
   ·have hge:2*B<=(M-m2)*B:=P1 _ c2
    have hlt:(M-m2)*B<18446744073709551616*B:=P5 PA hB
    have hDge:18446744073709551616*B<=D:=by rw[hDB];exact P1 _ (Qw _ hS)
    have hX:X=q*D+((M-m2)*B-ρ):=by omega
    rw[pD hX PA PA,if_pos PA]
   ·have hle:(M-m2)*B<=1*B:=P1 _ PA
    have hX:=nc q PA PA
    rw[DM hX (by simp_all),if_neg PA]
 ·rw[if_neg PE]
  have hMB:(h*18446744073709551616+M)*B=m2*B+(h*18446744073709551616+M-m2)*B:=by rw[<-Qn];congr 1;omega
  have hge:2*B<=(h*18446744073709551616+M-m2)*B:=P1 _ PA
  have hle:(h*18446744073709551616+M-m2)*B+B<=D:=by
   have:(h*18446744073709551616+M-m2)*B+B=(h*18446744073709551616+M-m2+1)*B:=by grind
   rw[this,hDB]
   refine P1 _ ?_
   omega
  have hX:X=q*D+((h*18446744073709551616+M-m2)*B-ρ):=by omega
  rw[pD hX PA PA]
end Go.Proofs.YtmmmmjcfojhiaaaGreatDoor.N
/- The table of powers of ten is right, and no product of it with a number of few bits comes near to a whole number without being one (neighbours among fractions, each power by itself). Conditions: none. -/
namespace Go.Proofs.YtmmmmjcfojhiaaaGreatDoor.N
open Go.X Go.Proofs.YtmmmmjcfojhiaaaGreatDoor
def ta (p:Int):Nat:=if 0<=p then 10^p.toNat*2^(127-l2 p).toNat else 2^(127-l2 p).toNat
def tb (p:Int):Nat:=if 0<=p then 2^(l2 p-127).toNat else 10^(-p).toNat
def ckT (h l:Nat) (p:Int):Bool:=decide (l<=h*18446744073709551616)&&decide (ta p<=(h*18446744073709551616-l)*tb p)&&decide ((h*18446744073709551616-l)*tb p<ta p+tb p)&&decide (ta p<340282365653287863235145205935065006080*tb p)&&decide (170141183460469231731687303715884105728*tb p<=ta p)
def far (X:Nat):Nat->Nat->Nat->Nat->Nat->Nat->Nat->Nat × Nat × Nat × Nat
 | 0,n1,d1,n2,d2,_,_=>(n1,d1,n2,d2)
 | f+1,n1,d1,n2,d2,u,v=>
  if d1+d2<=X then
   if v<=u then
    let k:=if d2=0 then u/v else if v=0 then(X-d1)/d2 else min (u/v) ((X-d1)/d2)
    far X f (n1+k*n2) (d1+k*d2) n2 d2 (u-k*v) v
   else
    let k:=if u=0 then(X-d2)/d1 else min (v/u) ((X-d2)/d1)
    far X f n1 d1 (n2+k*n1) (d2+k*d1) u (v-k*u)
  else(n1,d1,n2,d2)
def okF (a be t X:Nat) (q:Nat × Nat × Nat × Nat):Bool:=
 let (n1,d1,n2,d2):=q
 decide (n2*d1=n1*d2+1)&&decide (n1*be<=a*d1)&&decide (a*d2<=n2*be)&&decide (X<d1+d2)&&
  (decide (a*d1=n1*be)||decide (n1*be+t<=a*d1))&&(decide (n2*be=a*d2)||decide (a*d2+t<=n2*be))
def ckN (X mo tol:Nat) (p:Int):Bool:=okF (ta p) (2^mo*tb p) (2^tol*tb p) X (far X 100 0 1 1 0 (ta p) (2^mo*tb p))
def ckL (f:Nat->Nat->Int->Bool):List (Nat × Nat)->Nat->Bool
 | [],_=>true
 | x::r,k=>f x.1 x.2 ((k:Int)-348)&&ckL f r (k+1)
theorem DN {f:Nat->Nat->Int->Bool}:∀{l:List (Nat × Nat)} {k:Nat},ckL f l k=true->∀(i:Nat) (x:Nat × Nat),l[i]? =some x->f x.1 x.2 (((k+i:Nat):Int)-348)=true
 | y::l,k,h,i,x,hi=>by
  simp only[ckL,P6]at h
  cases i with
  | zero=>simp at hi;subst hi;exact h.1
  | succ i=>
   have:=DN h.2 i x (by simpa using hi)
   rwa[show k+1+i=k+(i+1) by omega]at this
theorem vu :∀(l:List (Nat × Nat)) (i:Nat) (x:Nat × Nat),l[i]? =some x->(l.flatMap fun x=>[(x.1:Int),(x.2:Int)])[i*2]? =some (x.1:Int)/\(l.flatMap fun x=>[(x.1:Int),(x.2:Int)])[i*2+1]? =some (x.2:Int)
 | y::l,0,x,h=>by simp at h;subst h;exact⟨rfl,rfl⟩
 | y::l,i+1,x,h=>by
  obtain⟨a,b⟩:=vu l i x (by simpa using h)
  rw[show(i+1)*2=i*2+1+1 by omega]
  simp only[QM,QB,Rq,List.getElem?_cons_succ]
  exact⟨a,b⟩
theorem DP :Go.Pinned.pow10Rows.length=696:=by kernel_rfl
theorem pE {f:Nat->Nat->Int->Bool} (h:ckL f Go.Pinned.pow10Rows 0=true) {p:Int} (h1: -348<=p) (h2:p<=347):f (hiP p) (loP p) p=true:=by
 obtain⟨x,hx⟩:∃x,Go.Pinned.pow10Rows[(p+348).toNat]? =some x:=⟨_,List.getElem?_eq_getElem (by rw[DP];omega)⟩
 have k:=DN h _ x hx
 obtain⟨a,b⟩:=vu _ _ _ hx
 have e1:hiP p=x.1:=by
  unfold hiP tT;rw[List.getD_eq_getElem?_getD,a];rfl
 have e2:loP p=x.2:=by
  unfold loP tT;rw[List.getD_eq_getElem?_getD,b];rfl
 rw[e1,e2]
 rwa[show(((0+(p+348).toNat:Nat):Int))-348=p by omega]at k
theorem Hr :ckL (fun _ _ p=>ckN 18014398509481984 123 55 p) Go.Pinned.pow10Rows 0=true:=by kernel_rfl
theorem Hs :ckL (fun _ _ p=>ckN 144115188075855871 129 58 p) Go.Pinned.pow10Rows 0=true:=by kernel_rfl
theorem Ht :ckL ckT Go.Pinned.pow10Rows 0=true:=by kernel_rfl
end Go.Proofs.YtmmmmjcfojhiaaaGreatDoor.N
/- What the neighbours say. Conditions: none. -/
namespace Go.Proofs.YtmmmmjcfojhiaaaGreatDoor.N
open Go.X Go.Proofs.YtmmmmjcfojhiaaaGreatDoor
theorem DQ {a be n1 d1 n2 d2 x q t X:Int} (hdet:n2*d1=n1*d2+1) (hu:n1*be<=a*d1) (hv:a*d2<=n2*be) (hX:X<d1+d2) (hd1:0<=d1) (hd2:0<=d2)
  (cu:a*d1=n1*be\/n1*be+t<=a*d1) (cv:n2*be=a*d2\/a*d2+t<=n2*be) (x0:0<x) (x1:x<=X) (c1:q*be<x*a+t) (c2:x*a<q*be+t):x*a=q*be:=by
 obtain⟨i,hi⟩:∃i,i=x*n2-q*d2:=⟨_,rfl⟩
 obtain⟨j,hj⟩:∃j,j=q*d1-x*n1:=⟨_,rfl⟩
 obtain⟨u,hu'⟩:∃u,u=a*d1-n1*be:=⟨_,rfl⟩
 obtain⟨v,hv'⟩:∃v,v=n2*be-a*d2:=⟨_,rfl⟩
 have ex:x=i*d1+j*d2:=by
  have:x*(n2*d1)=x*(n1*d2+1):=by rw[hdet]
  rw[hi,hj];grind
 have eq:q=i*n1+j*n2:=by
  have:q*(n2*d1)=q*(n1*d2+1):=by rw[hdet]
  rw[hi,hj];grind
 have em:x*a-q*be=i*u-j*v:=by
  rw[hu',hv',ex,eq];grind
 have u0:0<=u:=by omega
 have v0:0<=v:=by omega
 have ct:0<t:=by omega
 have cu':u=0\/t<=u:=by omega
 have cv':v=0\/t<=v:=by omega
 clear hi hj hu' hv' hu hv cu cv
 by_cases hi1:1<=i
 ·by_cases hj1:1<=j
  ·have a1:1*d1<=i*d1:=Qp hi1 hd1
   have a2:1*d2<=j*d2:=Qp hj1 hd2
   omega
  ·--value>=u
   have a1:1*u<=i*u:=Qp hi1 u0
   have a2:j*v<=0*v:=Qp PA v0
   rcases cu' with h | h
   ·subst h
    rw[Int.mul_zero]at em
    by_cases hj0:j=0
    ·subst hj0;rw[Int.zero_mul]at em;omega
    ·have a3:j*v<=(-1)*v:=Qp PA v0
     rcases cv' with k | k
     ·subst k;rw[Int.mul_zero]at em;omega
     ·omega
   ·omega
 ·by_cases hj1:1<=j
  ·have a1:1*v<=j*v:=Qp hj1 v0
   have a2:i*u<=0*u:=Qp PA u0
   rcases cv' with h | h
   ·subst h
    rw[Int.mul_zero]at em
    by_cases hi0:i=0
    ·subst hi0;rw[Int.zero_mul]at em;omega
    ·have a3:i*u<=(-1)*u:=Qp PA u0
     rcases cu' with k | k
     ·subst k;rw[Int.mul_zero]at em;omega
     ·omega
   ·omega
  ·have a1:i*d1<=0*d1:=Qp PA hd1
   have a2:j*d2<=0*d2:=Qp PA hd2
   omega
theorem N0 {a be t X:Nat} {q:Nat × Nat × Nat × Nat} (h:okF a be t X q=true) {x k:Nat} (x0:0<x) (x1:x<=X) (c1:k*be<x*a+t) (c2:x*a<k*be+t):x*a=k*be:=by
 obtain⟨n1,d1,n2,d2⟩:=q
 simp only[okF,P6,R2,decide_eq_true_eq]at h
 obtain⟨⟨⟨⟨⟨h1,h2⟩,h3⟩,h4⟩,h5⟩,h6⟩:=h
 have:=DQ (a:=a) (be:=be) (n1:=n1) (d1:=d1) (n2:=n2) (d2:=d2) (x:=x) (q:=k) (t:=t) (X:=X) (by exact_mod_cast h1) (by exact_mod_cast h2) (by exact_mod_cast h3) (by exact_mod_cast h4) PA PA
  (h5.elim (fun h=>.inl (by exact_mod_cast h)) fun h=>.inr (by exact_mod_cast h)) (h6.elim (fun h=>.inl (by exact_mod_cast h)) fun h=>.inr (by exact_mod_cast h)) (by exact_mod_cast x0) (by exact_mod_cast x1) (by exact_mod_cast c1) (by exact_mod_cast c2)
 exact_mod_cast this
end Go.Proofs.YtmmmmjcfojhiaaaGreatDoor.N
/- A number lies where it is rounded to a float; there is one such float at most. Conditions: none. -/
namespace Go.Proofs.YtmmmmjcfojhiaaaGreatDoor.N
open Go.X Go.Proofs.YtmmmmjcfojhiaaaGreatDoor
def W (e:Int):Nat:=2^(e+1074).toNat
theorem fj (e:Int):0<W e:=QD _
structure In (Y d M:Nat) (e:Int):Prop where
 e0: -1074<=e
 mx:M<9007199254740992
 mn:e= -1074\/4503599627370496<=M
 up:Y<=(4*M+2)*(W e*d)
 ups:M % 2=1->Y<(4*M+2)*(W e*d)
 dn:4*M*(W e*d)<=Y+2*(W e*d)
 dns:M % 2=1->4*M*(W e*d)<Y+2*(W e*d)
 dnq:M=4503599627370496->e≠ -1074->4*M*(W e*d)<=Y+W e*d
theorem In.lt {Y d M M':Nat} {e e':Int} (hd:0<d) (a:In Y d M e) (b:In Y d M' e'):¬e<e':=by
 intro h
 have he:=a.e0
 have hW:2*(W e*d)<=W e'*d:=by
  rw[<-Qm]
  refine P1 _ ?_
  unfold W
  rw[Qo,<-QR]
  exact P7 PB PA
 have hB:0<W e*d:=QI (fj e) hd
 have up:=a.up;have ups:=a.ups;have mx:=a.mx
 have hM':4503599627370496<=M':=by rcases b.mn with h | h<;>omega
 have dn:=b.dn;have dnq:=b.dnq
 generalize W e*d=B at*
 generalize W e'*d=B' at*
 have u1:(4*M+2)*B<=(4*9007199254740991+2)*B:=P1 _ PA
 by_cases h52:M'=4503599627370496
 ·subst h52
  have:=dnq rfl PA
  by_cases hm:M=9007199254740991
  ·omega
  ·have u2:(4*M+2)*B<=(4*9007199254740990+2)*B:=P1 _ PA
   omega
 ·have u2:4*4503599627370497*B'<=4*M'*B':=P1 _ PA
  omega
theorem In.leM {Y d M M':Nat} {e:Int} (hd:0<d) (a:In Y d M e) (b:In Y d M' e):¬M<M':=by
 intro h
 have hB:0<W e*d:=QI (fj e) hd
 have up:=a.up;have ups:=a.ups
 have dn:=b.dn;have dns:=b.dns
 generalize W e*d=B at*
 by_cases h1:M'=M+1
 ·subst h1
  grind
 ·have e1:(4*M+8)*B<=4*M'*B:=P1 _ PA
  grind
theorem In.uniq {Y d M M':Nat} {e e':Int} (hd:0<d) (a:In Y d M e) (b:In Y d M' e'):M=M'/\e=e':=by
 have he:e=e':=by
  have h1:=a.lt hd b
  have h2:=b.lt hd a
  omega
 subst he
 have h1:=a.leM hd b
 have h2:=b.leM hd a
 omega
theorem tN (n:Nat):n||| 1=n/2*2+1:=by
 have h1:=Nat.or_mod_two_pow (a:=n) (b:=1) (n:=1)
 have h2:=Nat.or_div_two_pow (a:=n) (b:=1) (n:=1)
 grind
theorem fE {N D:Nat} (hD:0<D):(uex N D*D=N)\/(uex N D % 2=1/\(uex N D-1)*D<N/\N<(uex N D+1)*D):=by
 have h:=QC N D
 have hlt:=QG N hD
 have hc:D*(N/D)=N/D*D:=Qo _ _
 unfold uex
 by_cases h0:N % D=0
 ·grind
 ·rw[if_neg h0,tN]
  right
  generalize N/D=q at*
  have e1:(q/2*2+1-1)*D<=q*D:=P1 _ PA
  have e2:(q+1)*D<=(q/2*2+1+1)*D:=P1 _ PA
  grind
theorem sk {N D c:Nat} (hc:0<c):uex (N*c) (D*c)=uex N D:=by
 unfold uex
 rw[RM _ _ hc,Nat.mul_mod_mul_right]
 congr 1
 by_cases h:N % D=0
 ·grind
 ·rw[if_neg h,if_neg]
  have:=QI (R0 h) hc
  omega
theorem DR {N D N' D':Nat} (hD:0<D) (hD':0<D') (h:N*D'=N'*D):uex N D=uex N' D':=by
 rw[<-sk (N:=N) (D:=D) hD',<-sk (N:=N') (D:=D') hD,h,Qo D D']
theorem vz {N D:Nat} (hD:0<D):uex N (2*D)=(uex N D/2)||| (uex N D % 2):=by
 have e1:N/(2*D)=N/D/2:=by rw[Qo,Qt]
 have e2:N % (2*D)=N % D+D*(N/D % 2):=by rw[Qo 2 D,Nat.mod_mul]
 unfold uex
 rw[e1,e2]
 generalize N/D=q
 by_cases h:N % D=0
 ·rw[h,if_pos rfl,Nat.or_zero,Qu]
  rcases RG q with h2 | h2
  ·grind
  grind
 ·rw[if_neg PA,if_neg h,tN q]
  grind
theorem pF {N D u:Nat} (hD:0<D) (hu:u=uex N D) (hl:u<18446744073709551610):
  N<=(4*rnd u+2)*D/\(rnd u % 2=1->N<(4*rnd u+2)*D)/\4*rnd u*D<=N+2*D/\(rnd u % 2=1->4*rnd u*D<N+2*D):=by
 have hr:rnd u=(u+1+u/4 % 2)/4:=by grind [rnd]
 rcases fE (N:=N) hD with h | ⟨h1,h2,h3⟩
 ·rw[<-hu]at h
  obtain⟨k,hk⟩:∃k,k=rnd u:=⟨_,rfl⟩
  rw[<-hk]at hr ⊢
  have b1:u<=4*k+2:=by omega
  have b2:4*k<=u+2:=by omega
  have e1:u*D<=(4*k+2)*D:=P1 _ b1
  have e2:4*k*D<=(u+2)*D:=P1 _ b2
  have e3:(u+2)*D=u*D+2*D:=Qn _ _ _
  refine⟨PA,fun ho=>?_,PA,fun ho=>?_⟩
  ·have:u*D<(4*k+2)*D:=P5 PA hD
   omega
  ·have:4*k*D<(u+2)*D:=P5 PA hD
   omega
 ·rw[<-hu]at h1 h2 h3
  obtain⟨k,hk⟩:∃k,k=rnd u:=⟨_,rfl⟩
  rw[<-hk]at hr ⊢
  have e1:(u+1)*D<=(4*k+2)*D:=P1 _ PA
  have e2:4*k*D<=(u-1+2)*D:=P1 _ PA
  grind
def pk (m:Int) (e:Int):Nat × Option Int:=
 if bits .and .u64 m 4503599627370496=0 then(m.toNat,none)
 else if e>=972 then((bits .or .u64 (bits .and .u64 m 9223372036854775808) 9218868437227405312).toNat,some 1)
 else((bits .or .u64 (bits .andNot .u64 m 4503599627370496) (u64.wrap ((u64.wrap (i64.wrap (1075+e)))*2^52))).toNat,none)
theorem Ks {m e:Int} {R:Nat->Option Int->Prop} (r:R (pk m e).1 (pk m e).2):CI m e R:=by
 apply MU
 unfold JI
 unfold pk at r
 refine au (fun h=>?_) fun h=>?_
 ·rw[if_pos h]at r;exact bh (dT _) ⟨_,rfl,r⟩
 ·rw[if_neg h]at r
  refine ae (fun h2=>?_) fun h2=>?_
  ·rw[if_pos h2]at r;exact bh (dT _) ⟨_,rfl,r⟩
  ·rw[if_neg h2]at r;exact⟨PB,bh (dT _) ⟨_,rfl,r⟩⟩
def pfE (d:Nat) (p:Int):Int:=min 1074 (53-Lib.bitLen d-l2 p)
def pfS (d:Nat) (p:Int):Int:= -(pfE d p-(64-Lib.bitLen d)+l2 p+3)
def pfU (d:Nat) (p:Int):Nat:=usc (d*2^(64-Lib.bitLen d)) (hiP p) (loP p) (pfS d p % 64).toNat
def pfC (d:Nat) (p:Int):Nat:=if 36028797018963966<=pfU d p then 1 else 0
def pfR (d:Nat) (p:Int):Nat:=rnd ((pfU d p/2^pfC d p)||| (pfU d p % 2))
def bc (d:Nat) (p:Int) (sign:Nat):Nat × Option Int:=
 if pfS d p>=64 then((bits .or .u64 (sign:Int) 0).toNat,none)
 else pk (bits .or .u64 (sign:Int) (pfR d p:Int)) (-(pfE d p-pfC d p))
theorem Kt {R:Int->Prop} (r:R 36028797018963966):Cu 9007199254740992 R:=by
 apply Mu;unfold Jy
 refine⟨PB,?_⟩
 have:u64.wrap (u64.wrap ((9007199254740992:Int)*2^min (Int.toNat 2) 64)-2)=36028797018963966:=by decide
 grind
theorem Ku {R:Nat->Option Int->Prop} {a:Nat} {e:Option Int} (r:R a e):(e=none->R a none)/\∀c:Int,e=some c->R a (some c):=
 ⟨fun h=>h▸r,fun _ h=>h▸r⟩
theorem DV {d sign:Nat} {p:Int} {R:Nat->Option Int->Prop} (hd0:d≠0) (hd:d<18446744073709551616) (h1: -348<=p) (h2:p<=347) (r:R (bc d p sign).1 (bc d p sign).2):va d p sign R:=by
 apply M5
 unfold JM
 obtain⟨b1,b2,b3⟩:=jd hd0 hd
 have b64:Lib.bitLen d<=64:=Lib.bitLen_le _ 64 PB hd
 refine xF PA PA (Ef PA PA ?_)
 have eb:bl (d:Int)=((Lib.bitLen d:Nat):Int):=rfl
 have hl2: -1200<=l2 p/\l2 p<=1200:=by unfold l2;omega
 rw[eb]
 have e1:i64.wrap (i64.wrap (53-((Lib.bitLen d:Nat):Int))-l2 p)=53-Lib.bitLen d-l2 p:=by
  grind [wr]
 have e2:(if(53-(Lib.bitLen d:Int)-l2 p)<1074 then(53-(Lib.bitLen d:Int)-l2 p)else 1074)=pfE d p:=by unfold pfE;split<;>omega
 have e3:i64.wrap (64-((Lib.bitLen d:Nat):Int))=((64-Lib.bitLen d:Nat):Int):=by rw[wr PA PA];omega
 have hpe: -1300<=pfE d p/\pfE d p<=1300:=by omega
 have e4:i64.wrap (pfE d p-((64-Lib.bitLen d:Nat):Int))=pfE d p-(64-Lib.bitLen d):=by rw[wr PA PA];omega
 rw[e1,e2,e3,e4]
 refine Ee h1 h2 PA PA PA PA ?_
 show cnd (decide (pfS d p>=64)) _ _
 unfold bc at r
 refine ae (fun h=>?_) fun h=>?_
 ·rw[if_pos h]at r
  exact bh (dT _) ⟨_,rfl,r⟩
 rw[if_neg h]at r
 have hx:d*2^(64-Lib.bitLen d)<18446744073709551616:=by
  have:2^Lib.bitLen d*2^(64-Lib.bitLen d)=2^64:=by rw[<-Qc];congr 1;omega
  have h2:=P5 b3 (QD (64-Lib.bitLen d))
  omega
 have hh:=pP h1 h2
 refine⟨PA,?_⟩
 rw[P8,QY (show 64-Lib.bitLen d<=64 by omega),vG,<-R3,dz hx]
 refine tX hx hh (tY h1 h2) (Kt (Ec ?_))
 have hu:pfU d p<18446744073709551616:=Ed hx hh
 show 0<=_/\_
 have eu:usc (d*2^(64-Lib.bitLen d)) (hiP p) (loP p) (-(pfE d p-(64-(Lib.bitLen d:Int))+l2 p+3) % 64).toNat=pfU d p:=rfl
 rw[eu]
 have ec:((if decide ((pfU d p:Int)>=36028797018963966)=true then 1 else 0:Nat):Int)=(pfC d p:Int):=by
  unfold pfC;grind
 rw[ec,P8]
 have hc:pfC d p<=1:=by grind
 rw[QY (show pfC d p<=64 by omega),shr,Iz _ hu]
 have hq:pfU d p/2^pfC d p<18446744073709551616:=Qf (R4 _ _) hu
 rw[bits_or_u64_nat _ _ hq PA]
 have hor:(pfU d p/2^pfC d p)||| (pfU d p % 2)<18446744073709551616:=R6 (n:=64) hq PA
 refine⟨PA,Eh hor (Ks (Ku ?_))⟩
 have e5:i64.wrap (0-i64.wrap (pfE d p-(pfC d p:Int)))= -(pfE d p-pfC d p):=by
  grind [wr]
 rw[e5]
 exact r
def fp (m:Nat) (e:Int) (ng:Bool):Nat × Option Int:=
 if m=0 then((bits .or .u64 (cd ng:Int) 0).toNat,none)
 else if e>310 then((bits .or .u64 (cd ng:Int) 9218868437227405312).toNat,some 1)
 else if e< -345 then((bits .or .u64 (cd ng:Int) 0).toNat,none)
 else if(cm m e ng).2 then((cm m e ng).1,none)
 else bc m e (cd ng)
theorem JW {s:P0} {st:RS} {rest:PZ} {R:Nat->Int->Option Int->Prop} (h:Txt s st rest) (ht:st.tr=false)
  (r:R (fp st.m (bx st rest) (av s.data.toList).1).1 s.size (fp st.m (bx st rest) (av s.data.toList).1).2):vb s R:=by
 apply Ia
 unfold GB
 have h0:0<s.size:=by
  obtain⟨c,l,hl,_⟩:=h.hd
  show 0<s.data.toList.length
  rw[hl];simp
 refine xv h.sz h.hd (az rfl (xu h0 h.sz h.ch h.sc h.dig h.rest ?_))
 have hm:=tI (a:=RS0) PB PB h.sc
 rw[ht]
 generalize bx st rest=e at*
 generalize (av s.data.toList).1=ng at*
 have esz:((s.data.toList.length:Nat):Int)=(s.size:Int):=rfl
 rw[esz]
 refine az rfl (az rfl ⟨False,aJ rfl (pH ?_),fun h=>h⟩)
 have esg:u64.wrap (((if ng=true then 1 else 0:Nat):Int)*2^min (Int.toNat 63) 64)=(cd ng:Int):=by
  cases ng<;>decide
 rw[esg]
 unfold fp at r
 refine⟨PB,au (fun hz=>?_) fun hz=>?_⟩
 ·rw[if_pos PA]at r
  exact bh (dT _) ⟨_,rfl,r⟩
 rw[if_neg PA]at r
 refine ae (fun hb=>?_) fun hb=>?_
 ·rw[if_pos hb]at r
  exact bh (dT _) ⟨_,rfl,r⟩
 rw[if_neg hb]at r
 refine ae (fun hc=>?_) fun hc=>?_
 ·rw[if_pos hc]at r
  exact bh (dT _) ⟨_,rfl,r⟩
 rw[if_neg hc]at r
 refine⟨(cm st.m e ng).2=false,aJ rfl (DB PA PA PA (aU (fun hx=>?_) fun hx=>hx)),fun hx=>?_⟩
 ·grind
 ·rw[if_neg (by rw[hx];decide)]at r
  grind [DV,aJ]
theorem JX {s:P0} {st:RS} {rest:PZ} {R:Nat->Option Int->Prop} (h:Txt s st rest) (ht:st.tr=false)
  (r:R (fp st.m (bx st rest) (av s.data.toList).1).1 (fp st.m (bx st rest) (av s.data.toList).1).2):vc s 64 R:=by
 apply CV
 grind [CU,CS,CR,az,JW]
theorem Ae (m:Nat) (e:Int) (ng:Bool):(fp m e ng).2=none\/(fp m e ng).2=some 1:=by
 grind [fp,bc,pk]
theorem P37.of {s:P0} {st:RS} {rest:PZ} (h:Txt s st rest) (ht:st.tr=false):P37 s (fp st.m (bx st rest) (av s.data.toList).1).1:=
 ⟨_,Ae _ _ _,fun _ r=>JX h ht r⟩
theorem vB (s:Bool) (m d:Nat):2*(Ieee.Toward.even.cut s m d*2^d)<=2*m+2^d/\2*m<=2*(Ieee.Toward.even.cut s m d*2^d)+2^d:=by
 unfold Ieee.Toward.cut
 dsimp only
 by_cases hd:d<=m.log2+2
 ·rw[QY hd,QW,Rz]
  have hg:0<2^d:=Ql PB
  have hdm:=QC m (2^d)
  have hlt:=QG m hg
  generalize 2^d=g at*
  generalize m/g=q at*
  generalize m % g=r at*
  have:(q+1)*g=g*q+g:=by grind
  have h0:q*g=g*q:=Qo _ _
  cases hb:(decide (g<2*r)||g==2*r&&q % 2==1)
  ·grind
  grind
 ·have hd2:min d (m.log2+2)=m.log2+2:=by omega
  rw[hd2,QW,Rz]
  have h1:2*m<2^(m.log2+2):=by
   grind [Nat.lt_log2_self,Nat.pow_succ]
  have h2:2^(m.log2+2)<=2^d:=P7 PB PA
  generalize 2^(m.log2+2)=g at*
  rw[QJ PA,Ra PA]
  grind
theorem DS {M:Nat} {p:Int} (hM:M≠0) (hp: -1074<=p):
  ∃K a:Nat,fZ M p=min (a*2^52+K) (2047*2^52)/\gu (a*2^52+K)=K*2^a/\K<=2^53/\(0<a->2^52<=K)/\2*(K*2^a)<=2*(M*2^(p+1074).toNat)+2^a/\2*(M*2^(p+1074).toNat)<=2*(K*2^a)+2^a:=by
 have hl2:=(RE hM).1 rfl
 obtain⟨la,hla⟩:∃la:Int,la=max (p+(M.log2:Int)-F64.fractionBits) F64.leastPlace:=⟨_,rfl⟩
 have hla2:la=max (p+(M.log2:Int)-52) (-1074):=by rw[hla,gq,show F64.fractionBits=52 from rfl];omega
 obtain⟨K,hK⟩:∃K,K=Ieee.Toward.even.cut false (M <<< (p-la).toNat) (la-p).toNat:=⟨_,rfl⟩
 have er:fZ M p=min ((la+1074).toNat*2^52+K) (2047*2^52):=by
  unfold fZ
  rw[if_neg hM,<-hla,<-hK,ky,fR,gq,show(la- -1074).toNat=(la+1074).toNat by omega]
 have ch:=vB false (M <<< (p-la).toNat) (la-p).toNat
 rw[<-hK,QW]at ch
 have hg:0<2^(la-p).toNat:=Ql PB
 have hup:M*2^(p-la).toNat<2^53*2^(la-p).toNat:=by
  rw[<-Qc]
  calc M*2^(p-la).toNat<2^(M.log2+1)*2^(p-la).toNat:=P5 hl2.2 (Ql PB)
   _=2^(M.log2+1+(p-la).toNat):=(Qc _ _ _).symm
   _<=2^(53+(la-p).toNat):=P7 PB PA
 have hdn: -1074<la->2^52*2^(la-p).toNat<=M*2^(p-la).toNat:=fun q=>by
  rw[<-Qc]
  calc 2^(52+(la-p).toNat)<=2^(M.log2+(p-la).toNat):=P7 PB PA
   _=2^M.log2*2^(p-la).toNat:=Qc _ _ _
   _<=M*2^(p-la).toNat:=P1 _ hl2.1
 have hK1:K<=2^53:=by
  generalize 2^(la-p).toNat=g at*
  generalize M*2^(p-la).toNat=n at*
  rcases Nat.lt_or_ge (2^53) K with q | q
  ·have:=P1 g (show 2^53+1<=K from q)
   omega
  ·exact q
 have hK2: -1074<la->2^52<=K:=fun q=>by
  have:=hdn q
  generalize 2^(la-p).toNat=g at*
  generalize M*2^(p-la).toNat=n at*
  rcases Nat.lt_or_ge K (2^52)with q | q
  ·have:=P1 g (show K+1<=2^52 from q)
   grind
  ·exact q
 obtain⟨c,hc⟩:∃c:Nat,c=(min p la+1074).toNat:=⟨_,rfl⟩
 obtain⟨a,ha⟩:∃a:Nat,a=(la+1074).toNat:=⟨_,rfl⟩
 have e1:(p-la).toNat+c=(p+1074).toNat:=by omega
 have e2:(la-p).toNat+c=a:=by omega
 have ha2:0<a->2^52<=K:=fun q=>hK2 PA
 rw[<-ha]at er
 clear hdn hup hK2
 have hv:gu (a*2^52+K)=K*2^a:=by
  unfold gu
  by_cases q:0<a
  ·have:=ha2 q
   rw[if_neg PA]
   by_cases q2:K=2^53
   ·rw[show(a*2^52+K) % 2^52=0 by omega,show(a*2^52+K)/2^52-1=a+1 by omega,q2,RU,QR 2 a,Qo (2^a) 2,<-Qm]
   ·rw[show(a*2^52+K) % 2^52=K-2^52 by omega,show(a*2^52+K)/2^52-1=a by omega,show 2^52+(K-2^52)=K by omega]
  ·rw[show a=0 by omega]
   simp only[RL,Qu,RA,Qy]
   split
   ·rfl
   ·by_cases q2:K=2^53
    ·rw[q2]
    ·rw[show K/2^52-1=0 by omega,RA,Qy];omega
 refine⟨K,a,er,hv,hK1,ha2,?_,?_⟩
 ·have:=P1 (2^c) ch.1
  grind [Nat.add_mul,Nat.mul_assoc]
 ·have:=P1 (2^c) ch.2
  grind [Nat.add_mul,Nat.mul_assoc]
theorem Hu :key (F64.word false (2047*2^52))=2^jl:=by
 have:F64.read (F64.word false (2047*2^52))= .infinity false:=by decide
 unfold key;rw[this];rfl
theorem vC {M m:Nat} {p i:Int} {x:Nat} (hM:M≠0) (hp: -1074<=p) (hx:F64.read x= .number false m i) (h:m*2^(i+1074).toNat<=M*2^(p+1074).toNat):key x<=key (F64.nearest false M p):=by
 obtain⟨K,a,h1,h2,h3,h4,h5,h6⟩:=DS hM hp
 have hm:=iH hx
 obtain⟨i1,i2⟩:=fC hx
 have hkx:key x=((m*2^(i+1074).toNat:Nat):Int):=by
  unfold key;rw[hx]
  show Ieee.signed false m _=_
  rw[bS];rfl
 rw[db,h1]
 by_cases hr:a*2^52+K<2047*2^52
 ·rw[QY (RV hr),(lJ hr).1,h2,hkx]
  have:m*2^(i+1074).toNat<=K*2^a:=by
   by_cases hi:a<=(i+1074).toNat
   ·obtain⟨d,hd⟩:∃d,(i+1074).toNat=d+a:=⟨(i+1074).toNat-a,PA⟩
    rw[hd,Qc,<-Qm]at h ⊢
    have hg:0<2^a:=QD a
    generalize m*2^d=q at*
    generalize M*2^(p+1074).toNat=V at*
    generalize 2^a=g at*
    rcases Nat.lt_or_ge K q with hlt | hge
    ·have h7:=P1 g hlt
     grind
    ·exact P1 g hge
   ·have hK:=h4 PA
    have h7:m*2^(i+1074).toNat<=2^53*2^(i+1074).toNat:=P1 _ (RV hm)
    have h8:2^53*2^(i+1074).toNat<=2^52*2^a:=by
     rw[<-Qc,<-Qc]
     exact P7 PB PA
    exact Qg h7 (Qg h8 (P1 _ hK))
  grind
 ·rw[Nat.min_eq_right PA,Hu]
  have:=(mR hx).2
  unfold key;rw[hx]
  exact Int.le_of_lt this
end Go.Proofs.YtmmmmjcfojhiaaaGreatDoor.N
