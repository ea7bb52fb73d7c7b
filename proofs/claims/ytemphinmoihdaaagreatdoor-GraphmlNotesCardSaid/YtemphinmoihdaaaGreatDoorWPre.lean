/- gml.Write. Conditions: what the texts of numbers are. -/
import Derived.Test.YtemphinmoihdaaaGreatDoorQWrite
import Derived.Test.YtemphinmoihdaaaGreatDoorWEnv
import Derived.Test.YtemphinmoihdaaaGreatDoorGTell
import Derived.Test.YtemphinmoihdaaaGreatDoorHRead
import Derived.Test.YtemphinmoihdaaaGreatDoorSXw
import Derived.Test.YtemphinmoihdaaaGreatDoorTPar
import Derived.Test.YtemphinmoihdaaaGreatDoorTTxt
set_option linter.unusedVariables false
set_option linter.unusedSimpArgs false
open Go.IntKind (i64 u64 u8 i32)
namespace Go.Proofs.YtemphinmoihdaaaGreatDoor.N
open Go.Proofs.YtemphinmoihdaaaGreatDoor
open Go.X
open Go.Proofs
set_option maxRecDepth 100000
def sN (n:Int) (dir:Bool) (es:Es) (ls:List ByteArray) (ss:List (Nat × Nat)) (ws:List Nat):G.Dc:=⟨n.toNat,dir,es.map fun e=>(e.1.toNat,e.2.toNat),ls,ss,ws⟩
section
variable {gl:GL} {h:ab} {tx:Nat->QS} {aE aL aS aW:QR} {nE cE nL cL nS cS nW cW:Nat} {n:Int} {es:Es} {ls:List ByteArray} {ss:List (Nat × Nat)} {ws:List Nat} {dir:Bool}
end
set_option maxHeartbeats 2000000
def MZ (x:Nat) (h:ab) (R:VP):Prop:=cnd ((FloatKind.f64).format.order x x != some .eq) (QL 68 #[QO 9221120237041090561] fun b=>∃a:Nat,b= QQ a/\R (QQ a) h) (cnd ((FloatKind.f64).format.order x 0==some .eq) (R (QQ 0) h) (R (QQ x) h))
theorem CY {h:ab} {R:VP} (x:Nat) (H:MZ x h R):QH 151 #[QQ x] h R:=aN [] 10 [] [] [] [] Tryz.func151 QC QC H
def isNaN (x:Nat):Bool:=(FloatKind.f64.format.read x).isNaN
abbrev F64 :Ieee.Format:=FloatKind.f64.format
theorem yD (x:Nat):F64.order x x=if isNaN x then none else some .eq:=by
 unfold Ieee.Format.order isNaN Ieee.Datum.order Ieee.Datum.isNaN
 cases F64.read x with
 | nan s t=>simp
 | infinity s=>simp[Std.compare_self]<;>cases s<;>rfl
 | number s m i=>simp[Std.compare_self]
theorem kH (x:Nat):(F64.order x x != some .eq)=isNaN x:=by
 rw[yD];cases isNaN x<;>rfl
def bF (x:Nat):Nat:=if isNaN x then 9221120237041090561 else if F64.order x 0==some .eq then 0 else x
theorem FE {P:Program} {f:FuncId} {fn:Func} {e:Array Value->Sem Value} {args:Array Value} (hf:P.funcs[f]? =some fn) (hname:(fn.name== "runtime.NumGoroutine")=false) (hb:fn.body.isNone=true)
  (hn:Extern.findNext fn=none) (he:Extern.find fn=some e) (w:World):(callFunc f args).run P w=((e args).run P w).andThen fun v w'=>.ok (.value v) w':=by
 have h1:¬fn.name= "runtime.NumGoroutine" :=by simpa using hname
 have h2:fn.body=none:=by simpa using hb
 simp[callFunc,hf,hn,he,h1,h2]
theorem kI {P:Program} {f:FuncId} {fn:Func} {e:Array Value->Sem Value} {args:Array Value} {v:Value} (hf:P.funcs[f]? =some fn) (hname:(fn.name== "runtime.NumGoroutine")=false) (hb:fn.body.isNone=true)
  (hn:Extern.findNext fn=none) (he:Extern.find fn=some e) (hv:e args=pure v):xD P f args (· =v):=by
 intro w
 refine⟨v,w,?_,rfl,Rest.refl w,rfl⟩
 rw[FE hf hname hb hn he,hv];simp
theorem oE (n:Int):xD Tryz.prog 68 #[QO n] (· = QQ n.toNat):=
 kI Tryz.func68 QC QC QC (e:=Extern.MathFloatBits.float64frombits) QC rfl
theorem bM {f:FuncId} {args:Array Value} {v:Value} {K:Value->Prop} (h:xD Tryz.prog f args (· =v)) (k:K v):QL f args K:=⟨_,h,fun _ e=>e▸k⟩
theorem Md :Mg bF:=by
 intro x h
 apply CY
 unfold MZ
 rw[kH]
 refine cd (fun hx=>bM (oE _) ⟨_,rfl,?_⟩) fun hx=>cd (fun h0=>?_) fun h0=>?_
 ·exact⟨by simp[bF,hx],Fr.refl _ _⟩
 ·have h0:(F64.order x 0==some .eq)=true:=h0
  exact⟨by simp[bF,hx,h0],Fr.refl _ _⟩
 ·have h0:(F64.order x 0==some .eq)=false:=h0
  exact⟨by simp[bF,hx,h0],Fr.refl _ _⟩
theorem zY (b:Nat):xD Tryz.prog 46 #[QQ b] (· = QO b):=
 kI Tryz.func46 QC QC QC (e:=Extern.MathFloatBits.float64bits) QC rfl
def fe (x y:Nat):Bool:=(isNaN x&&isNaN y)||x==y
def fe2 (p q:Nat × Nat):Bool:=fe p.1 q.1&&fe p.2 q.2
def eqL {α:Type} (f:α->α->Bool) (xs ys:List α):Bool:=decide (xs.length=ys.length)&&(xs.zip ys).all fun p=>f p.1 p.2
theorem pZ {α:Type} {f:α->α->Bool} {xs ys:List α} (h:xs.length≠ys.length):eqL f xs ys=false:=by unfold eqL;grind
theorem qx {α:Type} {f:α->α->Bool} {xs ys:List α} {k:Nat} {x y:α} (hx:xs[k]? =some x) (hy:ys[k]? =some y) (h:f x y=false):eqL f xs ys=false:=by
 unfold eqL
 have:((xs.zip ys).all fun p=>f p.1 p.2)=false:=by
  rw[List.all_eq_false]
  refine⟨(x,y),List.mem_of_getElem? (i:=k) ?_,by simp[h]⟩
  grind
 grind
theorem nu {α:Type} {f:α->α->Bool} {xs ys:List α} {k:Nat} {x y:α} (hx:xs[k]? =some x) (hy:ys[k]? =some y) (h:f x y=true) (ha:((xs.zip ys).take k).all (fun p=>f p.1 p.2)=true):
  ((xs.zip ys).take (k+1)).all (fun p=>f p.1 p.2)=true:=by
 have:(xs.zip ys)[k]? =some (x,y):=by grind
 rw[List.take_add_one,this]
 grind
theorem qb {α:Type} {f:α->α->Bool} {xs ys:List α} {k:Nat} (hl:xs.length=ys.length) (hk:xs.length<=k) (ha:((xs.zip ys).take k).all (fun p=>f p.1 p.2)=true):eqL f xs ys=true:=by
 unfold eqL
 rw[decide_eq_true hl,Bool.true_and]
 grind [List.take_of_length_le]
theorem Cq {α:Type} [DecidableEq α] (xs ys:List α):eqL (fun x y=>decide (x=y)) xs ys=decide (xs=ys):=by
 by_cases hl:xs.length=ys.length
 ·by_cases he:xs=ys
  ·grind [eqL,List.mem_iff_getElem]
  ·rw[decide_eq_false he]
   rw[<-Bool.not_eq_true]
   intro h
   unfold eqL at h
   simp only[Bool.and_eq_true,List.all_eq_true,decide_eq_true_eq]at h
   refine he (List.ext_getElem? fun i=>?_)
   by_cases hi:i<xs.length
   ·have h1:xs[i]? =some xs[i]:=List.getElem?_eq_getElem hi
    have h2:ys[i]? =some ys[i]:=List.getElem?_eq_getElem Qz
    have:=h.2 (xs[i],ys[i]) (List.mem_of_getElem? (i:=i) QD)
    grind
   grind
 grind [pZ]
theorem yJ (s t:ByteArray):(s.toList==t.toList)=decide (s=t):=by
 grind [Lib.toList_data,ByteArray.ext,Array.ext']
section
variable {h:ab} {aX aY:QR} {nX cX nY cY:Nat}
end
structure MD where
 n:Int
 dir:Bool
 es:List (Int × Int)
 ls:List ByteArray
 ss:List (Nat × Nat)
 ws:List Nat
def jw (a b:MD):Bool:=(decide (a.n=b.n)&&decide (a.es=b.es))&&((a.dir==b.dir)&&(decide (a.ls=b.ls)&&(eqL fe2 a.ss b.ss&&eqL fe a.ws b.ws)))
structure MDs where
 aE:QR
 nE:Nat
 cE:Nat
 aL:QR
 nL:Nat
 cL:Nat
 aS:QR
 nS:Nat
 cS:Nat
 aW:QR
 nW:Nat
 cW:Nat
def MD.vw (d:MD) (s:MDs):List Ck:=[Ck.vw eP s.aE s.nE s.cE d.es,Ck.vw eS s.aL s.nL s.cL d.ls,Ck.vw eFF s.aS s.nS s.cS d.ss,Ck.vw eF s.aW s.nW s.cW d.ws]
def MD.v (d:MD) (s:MDs):Value:=.agg #[QM d.n,.slice s.aE s.nE s.cE,.bool d.dir,.slice s.aL s.nL s.cL,.slice s.aS s.nS s.cS,.slice s.aW s.nW s.cW]
def Qq :Nat:=9221120237041090561
def fop (r:Option Nat):Nat:=r.getD Qq
def iI (a b:Nat):Nat:=fop (F64.mul a b)
def qU (a b:Nat):Nat:=fop (F64.div a b)
def qV (x:Nat):Nat:=(bits .andNot .u64 (x:Int) (9223372036854775808:Int)).toNat
theorem ik :F64.leastPlace= -1074:=by decide
theorem gT :F64.binade=2^52:=by decide
theorem nM :F64.infRung=2047*2^52:=by decide
theorem mD :F64.signWeight=2^63:=by decide
theorem HZ (x:Nat):qV x=x % 2^63:=by
 unfold qV bits
 have hk:IntKind.u64.bits=64:=rfl
 have e1:(BitVec.ofInt IntKind.u64.bits (x:Int)&&& ~~~(BitVec.ofInt IntKind.u64.bits (9223372036854775808:Int))).toNat=x % 2^63:=by
  rw[BitVec.toNat_and]
  have h1:(BitVec.ofInt IntKind.u64.bits (x:Int)).toNat=x % 2^64:=by
   grind
  have h2:(~~~(BitVec.ofInt IntKind.u64.bits (9223372036854775808:Int))).toNat=2^63-1:=by decide
  rw[h1,h2,Nat.and_two_pow_sub_one_eq_mod]
  omega
 grind [IntKind.wrap]
theorem jI {x:Nat} {s:Bool} {m:Nat} {i:Int} (h:F64.read x= .number s m i):m<2^53:=by
 have hb:F64.binade=2^52:=by decide
 have hs:F64.signWeight=2^63:=by decide
 unfold Ieee.Format.read at h
 grind
theorem gy {x:Nat} {s:Bool} {m:Nat} {i:Int} (h:F64.read x= .number s m i): -1074<=i/\i<=971:=by
 unfold Ieee.Format.read at h
 grind [gT,ik,nM]
def kA :Nat:=3000
theorem H0 :2100<=kA:=by decide
def vl :Ieee.Datum->Int
 | .number s m i=>Ieee.signed s m (i+1074).toNat
 | .infinity s=>if s then-(2^kA)else 2^kA
 | .nan _ _=>0
def key (x:Nat):Int:=vl (F64.read x)
theorem qW (s:Bool) (m a b:Nat):Ieee.signed s m (a+b)=Ieee.signed s m a*((2^b:Nat):Int):=by
 unfold Ieee.signed
 grind [Nat.shiftLeft_eq,Int.neg_mul]
theorem xe (x y:Int) (p:Nat) (hp:0<p):compare (x*p) (y*p)=compare x y:=by
 have hp':(0:Int)<p:=by omega
 rcases Int.lt_trichotomy x y with h | h | h
 ·rw[Std.compare_eq_lt.2 h,Std.compare_eq_lt.2 (Int.mul_lt_mul_of_pos_right h hp')]
 ·grind
 ·rw[Std.compare_eq_gt.2 h,Std.compare_eq_gt.2 (Int.mul_lt_mul_of_pos_right h hp')]
theorem xf {m a:Nat} (h1:m<2^53) (h2:a<=2045):m*2^a<2^kA:=by
 have h3:m*2^a<2^53*2^a:=Nat.mul_lt_mul_of_pos_right h1 (Nat.pow_pos QA)
 rw[<-Nat.pow_add]at h3
 exact Nat.lt_of_lt_of_le h3 (Nat.pow_le_pow_right QA (by have:=H0;omega))
theorem oW {x:Nat} {s:Bool} {m:Nat} {i:Int} (h:F64.read x= .number s m i): -(2^kA)<Ieee.signed s m (i+1074).toNat/\Ieee.signed s m (i+1074).toNat<2^kA:=by
 have h1:=jI h
 have h2:=gy h
 have h3:m <<< (i+1074).toNat<2^kA:=by
  rw[Nat.shiftLeft_eq]
  exact xf h1 (Nat.le_of_lt_succ Qz)
 have h5:((m <<< (i+1074).toNat:Nat):Int)<2^kA:=by
  grind
 have h6:(0:Int)<=((m <<< (i+1074).toNat:Nat):Int):=Int.natCast_nonneg _
 unfold Ieee.signed
 omega
theorem AE :(0:Int)<2^kA:=Int.pow_pos QA
theorem ug {a b:Nat} (ha:isNaN a=false) (hb:isNaN b=false):F64.order a b=some (compare (key a) (key b)):=by
 have ha':(F64.read a).isNaN=false:=ha
 have hb':(F64.read b).isNaN=false:=hb
 have hP:=AE
 unfold Ieee.Format.order key
 cases hra:F64.read a with
 | nan s t=>rw[hra]at ha';simp[Ieee.Datum.isNaN]at ha'
 | infinity s=>
  cases hrb:F64.read b with
  | nan t u=>rw[hrb]at hb';simp[Ieee.Datum.isNaN]at hb'
  | infinity t=>
   simp only[Ieee.Datum.order,vl]
   generalize (2:Int)^kA=w at*
   cases s<;>cases t
   ·grind
   ·simp only[Bool.false_eq_true,if_false,if_true];rw[Std.compare_eq_gt.2 (show-w<w by omega)];rfl
   ·simp only[Bool.false_eq_true,if_false,if_true];rw[Std.compare_eq_lt.2 (show-w<w by omega)];rfl
   grind
  | number t n j=>
   have kb:=oW hrb
   simp only[Ieee.Datum.order,vl]
   generalize (2:Int)^kA=w at*
   cases s
   ·simp only[Bool.false_eq_true,if_false];rw[Std.compare_eq_gt.2 kb.2]
   ·simp only[if_true];rw[Std.compare_eq_lt.2 kb.1]
 | number s m i=>
  have ka:=oW hra
  have pa:=gy hra
  cases hrb:F64.read b with
  | nan t u=>rw[hrb]at hb';simp[Ieee.Datum.isNaN]at hb'
  | infinity t=>
   simp only[Ieee.Datum.order,vl]
   generalize (2:Int)^kA=w at*
   cases t
   ·simp only[Bool.false_eq_true,if_false];rw[Std.compare_eq_lt.2 ka.2]
   ·simp only[if_true];rw[Std.compare_eq_gt.2 ka.1]
  | number t n j=>
   have pb:=gy hrb
   simp only[Ieee.Datum.order,vl]
   have e1:(i+1074).toNat=(i-min i j).toNat+(min i j+1074).toNat:=by omega
   have e2:(j+1074).toNat=(j-min i j).toNat+(min i j+1074).toNat:=by omega
   rw[e1,e2,qW,qW,xe _ _ _ (Nat.pow_pos QA)]
theorem Ev {a b:Nat} (ha:isNaN a=false) (hb:isNaN b=false):(F64.order a b==some .lt)=decide (key a<key b):=by
 rw[ug ha hb]
 rcases Int.lt_trichotomy (key a) (key b)with h | h | h
 ·rw[Std.compare_eq_lt.2 h];simp[h]
 ·grind
 grind
theorem xg {a b:Nat} (ha:isNaN a=false) (hb:isNaN b=false):(F64.order a b==some .gt)=decide (key b<key a):=by
 rw[ug ha hb]
 rcases Int.lt_trichotomy (key a) (key b)with h | h | h
 ·grind
 ·grind
 ·rw[Std.compare_eq_gt.2 h];simp[h]
theorem Ew (s:Bool) (n d:Nat):Ieee.Toward.even.cut s n d=Ieee.Toward.even.cut false n d:=rfl
def ia (m:Nat) (i:Int):Nat:=
 if m=0 then 0 else
 min ((max (i+m.log2-F64.fractionBits) F64.leastPlace-F64.leastPlace).toNat*F64.binade+Ieee.Toward.even.cut false (m <<< (i-max (i+m.log2-F64.fractionBits) F64.leastPlace).toNat) (max (i+m.log2-F64.fractionBits) F64.leastPlace-i).toNat) F64.infRung
theorem fw (s:Bool) (m:Nat) (i:Int):F64.nearest s m i=F64.word s (ia m i):=by
 unfold Ieee.Format.nearest ia
 grind [Ew]
theorem uh (m:Nat) (i:Int):ia m i<=2047*2^52:=by
 unfold ia
 rw[nM]
 split
 ·omega
 omega
theorem mE (r:Nat):F64.word false r=r:=by
 unfold Ieee.Format.word;simp
theorem vm (s:Bool) (m:Nat) (i:Int):∃r,r<=2047*2^52/\F64.nearest s m i=F64.word s r/\F64.nearest false m i=r:=
 ⟨_,uh m i,fw s m i,(fw false m i).trans (mE _)⟩
theorem cF (s:Bool) (m a:Nat):Ieee.signed s m a=if s then-((m*2^a:Nat):Int)else((m*2^a:Nat):Int):=by
 unfold Ieee.signed;rw[Nat.shiftLeft_eq]
def im (r:Nat):Nat:=if r<2^52 then r else(2^52+r % 2^52)*2^(r/2^52-1)
theorem BC {s:Bool} {r:Nat} (h:r<2047*2^52):F64.read (F64.word s r)=if r<2^52 then .number s r (-1074)else .number s (2^52+r % 2^52) (-1074+(r/2^52-1:Nat)):=by
 have e1:F64.word s r/2^63 % 2=(if s then 1 else 0)/\F64.word s r % 2^63=r:=by
  unfold Ieee.Format.word
  rw[mD]
  grind
 unfold Ieee.Format.read
 simp only[mD,gT,ik,nM]
 rw[e1.1,e1.2,if_pos h]
 cases s<;>rfl
theorem nN {s:Bool} {r:Nat} (h:r<2047*2^52):key (F64.word s r)=(if s then-((im r:Nat):Int)else((im r:Nat):Int))/\isNaN (F64.word s r)=false:=by
 have hN:isNaN (F64.word s r)=(F64.read (F64.word s r)).isNaN:=rfl
 unfold key
 rw[hN,BC h]
 unfold im
 split
 ·refine⟨?_,rfl⟩
  simp only[vl,cF]
  simp
 ·refine⟨?_,rfl⟩
  grind [vl,cF]
theorem nP {m k:Nat} (h:m≠0):(m*2^k).log2=m.log2+k:=by
 have h1:m*2^k≠0:=Nat.ne_of_gt (Nat.mul_pos Qz (Nat.pow_pos QA))
 apply (Nat.log2_eq_iff h1).2
 have h2:=(Nat.log2_eq_iff h).1 rfl
 rw[Nat.pow_add,show m.log2+k+1=(m.log2+1)+k by omega,Nat.pow_add]
 exact⟨Nat.mul_le_mul_right _ h2.1,Nat.mul_lt_mul_of_pos_right h2.2 (Nat.pow_pos QA)⟩
theorem ui (w:Ieee.Toward) (s:Bool) (K d:Nat):w.cut s (K*2^d) d=K:=by
 unfold Ieee.Toward.cut
 by_cases hK:K=0
 ·subst hK
  simp only[Nat.zero_mul,Nat.zero_div,Nat.zero_mod]
  grind
 ·rw[nP hK,show min d (K.log2+d+2)=d by omega,Nat.shiftLeft_eq,Nat.one_mul]
  grind [Nat.mul_div_cancel,Nat.mul_mod_left]
theorem BD {s:Bool} {m k:Nat} {i:Int} (hm:m<2^53) (hi: -1074<=i) (hi2:i<=971):key (F64.nearest s (m*2^k) (i-k))=Ieee.signed s m (i+1074).toNat/\isNaN (F64.nearest s (m*2^k) (i-k))=false:=by
 rw[fw]
 by_cases hm0:m=0
 ·grind [ia,nN,cF,im]
 have hM:m*2^k≠0:=Nat.ne_of_gt (Nat.mul_pos Qz (Nat.pow_pos QA))
 have hlog:=nP (k:=k) hm0
 have hl2:=(Nat.log2_eq_iff hm0).1 rfl
 have hl53:m.log2<53:=(Nat.log2_lt hm0).2 hm
 obtain⟨la,hla⟩:∃la:Int,la=max (i-k+((m*2^k).log2:Int)-F64.fractionBits) F64.leastPlace:=⟨_,rfl⟩
 have hla2:la=max (i+(m.log2:Int)-52) (-1074):=by
  rw[hla,hlog,ik,show F64.fractionBits=52 from rfl];omega
 have hle:la<=i:=by omega
 have kept:Ieee.Toward.even.cut false ((m*2^k) <<< (i-k-la).toNat) (la-(i-k)).toNat=m*2^(i-la).toNat:=by
  rw[Nat.shiftLeft_eq,Nat.mul_assoc,<-Nat.pow_add]
  have e:k+(i-k-la).toNat=(i-la).toNat+(la-(i-k)).toNat:=by omega
  rw[e,Nat.pow_add,<-Nat.mul_assoc]
  exact ui _ _ _ _
 have er:ia (m*2^k) (i-k)=min ((la+1074).toNat*2^52+m*2^(i-la).toNat) (2047*2^52):=by
  unfold ia
  rw[if_neg hM,<-hla,kept,nM,gT,ik]
  grind
 have hK1:m*2^(i-la).toNat<2^53:=by
  calc m*2^(i-la).toNat<2^(m.log2+1)*2^(i-la).toNat:=Nat.mul_lt_mul_of_pos_right hl2.2 (Nat.pow_pos QA)
   _=2^(m.log2+1+(i-la).toNat):=(Nat.pow_add _ _ _).symm
   _<=2^53:=Nat.pow_le_pow_right QA Qz
 have hK2: -1074<la->2^52<=m*2^(i-la).toNat:=fun q=>by
  calc 2^52<=2^(m.log2+(i-la).toNat):=Nat.pow_le_pow_right QA Qz
   _=2^m.log2*2^(i-la).toNat:=Nat.pow_add _ _ _
   _<=m*2^(i-la).toNat:=Nat.mul_le_mul_right _ hl2.1
 have ev:m*2^(i+1074).toNat=m*2^(i-la).toNat*2^(la+1074).toNat:=by
  rw[Nat.mul_assoc,<-Nat.pow_add,show(i-la).toNat+(la+1074).toNat=(i+1074).toNat by omega]
 have hl3:(la+1074).toNat<=2045:=by omega
 have hl4: -1074<=la:=by omega
 clear kept hla hla2
 generalize m*2^(i-la).toNat=K at*
 have hr:(la+1074).toNat*2^52+K<2047*2^52:=by omega
 rw[er,Nat.min_eq_left Qz]
 have hk:=nN (s:=s) hr
 refine⟨hk.1.trans ?_,hk.2⟩
 rw[cF,ev]
 have hv:im ((la+1074).toNat*2^52+K)=K*2^(la+1074).toNat:=by
  unfold im
  grind
 rw[hv]
def gz (x:Nat):Nat:=Op.negFloat .f64 x
theorem H3 (q:Nat):((q ^^^ 1) % 2==1)= !(q % 2==1):=by
 have:=Nat.xor_mod_two_pow (a:=q) (b:=1) (n:=1)
 rw[Nat.pow_one]at this
 grind [Nat.mod_two_eq_zero_or_one]
theorem qX (x:Nat):F64.read (gz x)=(F64.read x).opposite:=by
 have e0:gz x=x ^^^ 2^63:=rfl
 have h1:(x ^^^ 2^63) % 2^63=x % 2^63:=by
  rw[Nat.xor_mod_two_pow,Nat.mod_self,Nat.xor_zero]
 have h2:(x ^^^ 2^63)/2^63=x/2^63 ^^^ 1:=by
  rw[Nat.xor_div_two_pow]
 rw[e0]
 unfold Ieee.Format.read
 simp only[gT,mD,ik,nM]
 rw[h1,h2,H3]
 split
 ·rfl
 ·split
  ·rfl
  ·split<;>rfl
theorem y9 (s:Bool) (m a:Nat):Ieee.signed (!s) m a= -Ieee.signed s m a:=by cases s<;>simp[Ieee.signed]
theorem H4 (x:Nat):key (gz x)= -key x:=by
 unfold key
 rw[qX]
 cases F64.read x with
 | nan s t=>rfl
 | infinity s=>cases s<;>simp[Ieee.Datum.opposite,vl]
 | number s m i=>exact y9 s m _
theorem vn (x:Nat):isNaN (gz x)=isNaN x:=by
 have a:isNaN (gz x)=(F64.read (gz x)).isNaN:=rfl
 have b:isNaN x=(F64.read x).isNaN:=rfl
 rw[a,b,qX]
 cases F64.read x<;>rfl
theorem H5 {s:Bool} {r:Nat} (h:r<=2047*2^52):isNaN (F64.word s r)=false:=by
 by_cases hr:r<2047*2^52
 ·exact(nN hr).2
 ·have:r=2047*2^52:=by omega
  subst this
  cases s<;>decide
theorem mG (s:Bool) (m:Nat) (i:Int):isNaN (F64.nearest s m i)=false:=by
 obtain⟨r,hr,e,_⟩:=vm s m i
 rw[e];exact H5 hr
theorem qY {d:Ieee.Datum} (h:d.isNaN=false):isNaN (F64.write d)=false:=by
 cases d with
 | nan s t=>simp[Ieee.Datum.isNaN]at h
 | infinity s=>cases s<;>decide
 | number s m i=>exact mG s m i
theorem iJ {a:Nat} (h:isNaN a=false):(∃s,F64.read a= .infinity s)\/∃s m i,F64.read a= .number s m i:=by
 unfold isNaN at h
 cases hr:F64.read a with
 | nan s t=>rw[show FloatKind.f64.format.read a= .nan s t from hr]at h;simp[Ieee.Datum.isNaN]at h
 | infinity s=>grind
 | number s m i=>grind
theorem qZ {a b n:Nat} {t:Bool} {j:Int} (ha:isNaN a=false) (hb:F64.read b= .number t n j) (hn:n≠0):F64.mul a b=some (iI a b)/\isNaN (iI a b)=false:=by
 have:∃d,(F64.read a).product (F64.read b)=some d/\d.isNaN=false:=by
  rcases iJ ha with⟨s,e⟩ | ⟨s,m,i,e⟩
  ·rw[e,hb];exact⟨_,if_neg hn,rfl⟩
  ·rw[e,hb];exact⟨_,rfl,rfl⟩
 obtain⟨d,e,hd⟩:=this
 have e2:F64.mul a b=some (F64.write d):=by unfold Ieee.Format.mul;rw[e];rfl
 unfold iI;rw[e2]
 exact⟨rfl,qY hd⟩
theorem Ey {a b n:Nat} {t:Bool} {j:Int} (ha:isNaN a=false) (hb:F64.read b= .number t n j) (hn:n≠0):F64.div a b=some (qU a b)/\isNaN (qU a b)=false:=by
 have:∃d,Ieee.Datum.quotient (F64.fractionBits+2) (F64.read a) (F64.read b)=some d/\d.isNaN=false:=by
  rcases iJ ha with⟨s,e⟩ | ⟨s,m,i,e⟩
  ·rw[e,hb];exact⟨_,rfl,rfl⟩
  ·rw[e,hb];exact⟨_,if_neg hn,rfl⟩
 obtain⟨d,e,hd⟩:=this
 have e2:F64.div a b=some (F64.write d):=by unfold Ieee.Format.div;rw[e];rfl
 unfold qU;rw[e2]
 exact⟨rfl,qY hd⟩
set_option maxHeartbeats 1000000
theorem xp (k:Nat):((2:Int)^k)=((2^k:Nat):Int):=by rw[Int.natCast_pow];rfl
theorem shr (a k:Nat):Int.fdiv (a:Int) (2^k)=((a/2^k:Nat):Int):=by
 rw[xp,Int.fdiv_eq_ediv_of_nonneg _ (Int.natCast_nonneg _)];rfl
theorem Le (a:Int) (k:Nat):Int.fdiv a (2^k)=a/2^k:=Int.fdiv_eq_ediv_of_nonneg _ (by rw[xp];exact Int.natCast_nonneg _)
theorem xq (a:Nat):u64.wrap (a:Int)=((a % 18446744073709551616:Nat):Int):=by rw[IntKind.wrap_u64];omega
theorem fB {a:Nat} (h:a<18446744073709551616):u64.wrap (a:Int)=(a:Int):=by rw[IntKind.wrap_u64];omega
theorem wr1 {k:Nat} (h:k<1000000):i64.wrap ((k:Int)+1)=((k+1:Nat):Int):=by rw[wr Qz Qz];omega
theorem zb {b:Bool} {R:Int->Prop} (r:R (((if b then 1 else 0:Nat)):Int)):wS b R:=by
 apply NL;unfold Kg
 cases b
 ·exact aV rfl r
 ·exact br rfl r
theorem Lf (b:Nat):xD Tryz.prog 46 #[QQ b] (· = QO b):=
 kI Tryz.func46 QC QC QC (e:=Extern.MathFloatBits.float64bits) QC rfl
theorem Ie (b:Nat):xD Tryz.prog 125 #[QQ b] (· = QO b):=
 kI Tryz.func125 QC QC QC (e:=Extern.MathFloatBits.float64bits) QC rfl
theorem kg (n:Int):xD Tryz.prog 235 #[QO n] (· = QQ n.toNat):=
 kI Tryz.func235 QC QC QC (e:=Extern.MathFloatBits.float64frombits) QC rfl
def iK (m:Nat) (e:Int) (neg:Bool):Nat × Bool:=
 if m/4503599627370496≠0 then(0,false)
 else
  let f:=if neg then Op.negFloat .f64 (FloatKind.f64.nearest (m:Int))else FloatKind.f64.nearest (m:Int)
  if e=0 then(f,true)
  else if 0<e/\e<=37 then
   let f2:=if e>22 then iI f (tF.getD (e-22).toNat 0)else f
   let e2:=if e>22 then 22 else e
   if F64.order f2 4831355200913801216=some .gt then(f2,false)
   else if F64.order f2 14054727237768577024=some .lt then(f2,false)
   else(iI f2 (tF.getD e2.toNat 0),true)
  else if-22<=e/\e<0 then(qU f (tF.getD (-e).toNat 0),true)
  else(f,false)
abbrev Lg :Nat:=9218868437227405311
def isInf (x:Nat):Bool:=F64.order x Lg==some .gt
theorem EJ {r:Nat} (h:r<2^63):gz (F64.word false r)=F64.word true r:=by
 rw[mE]
 have e0:gz r=r ^^^ 2^63:=rfl
 have h1:(r ^^^ 2^63) % 2^63=r:=by
  rw[Nat.xor_mod_two_pow,Nat.mod_self,Nat.xor_zero,Nat.mod_eq_of_lt h]
 have h2:(r ^^^ 2^63)/2^63=1:=by
  rw[Nat.xor_div_two_pow,Nat.div_eq_of_lt h];decide
 have h3:=Nat.div_add_mod (r ^^^ 2^63) (2^63)
 rw[h1,h2]at h3
 rw[e0,<-h3]
 unfold Ieee.Format.word
 rw[mD]
 simp
theorem pF (u:Nat) (p:Int):gz (F64.nearest false u p)=F64.nearest true u p:=by
 rw[fw,fw]
 refine EJ (Nat.lt_of_le_of_lt (uh u p) QA)
theorem xu (m:Nat):FloatKind.f64.nearest (m:Int)=F64.nearest false m 0:=by
 show F64.write (.number (decide ((m:Int)<0)) ((m:Int)).natAbs 0)=_
 rw[decide_eq_false Qz,Int.natAbs_natCast];rfl
end Go.Proofs.YtemphinmoihdaaaGreatDoor.N
