/- weigh's and the document's texts of a number are one function of it. Conditions: none. -/
import Derived.Test.YtemphinmoihdaaaGreatDoorWTxt
import Derived.Test.YtemphinmoihdaaaGreatDoorTTxt
import Derived.Test.YtemphinmoihdaaaGreatDoorWFast
import Derived.Test.YtemphinmoihdaaaGreatDoorQEscL
import Derived.Test.YtemphinmoihdaaaGreatDoorWPre
import Derived.Test.YtemphinmoihdaaaGreatDoorQWrite
import Derived.Test.YtemphinmoihdaaaGreatDoorWEnv
import Derived.Test.YtemphinmoihdaaaGreatDoorGTell
import Derived.Test.YtemphinmoihdaaaGreatDoorTPar
set_option linter.unusedVariables false
set_option linter.unusedSimpArgs false
open Go.IntKind (i64 u64 u8 i32)
namespace Go.Proofs.YtemphinmoihdaaaGreatDoor.N
open Go.X Go.Proofs.YtemphinmoihdaaaGreatDoor
set_option maxRecDepth 100000
set_option maxHeartbeats 2000000
theorem O8 {x:Nat} {R:Bool->Prop} (r:R (isInf x)):Bt x 1 R:=by
 apply Ky;unfold T55
 refine⟨fun y=>y=x,aV QA ⟨fun y=>y=x,aV QA rfl,fun _ h=>h⟩,?_⟩
 rintro _ rfl;exact r
theorem O9 {x:Nat} {R:Bool->Prop} (r:R (isInf (gz x))):Bt x (-1) R:=by
 apply Ky;unfold T55
 refine⟨fun y=>y=gz x,aV QA ⟨fun y=>y=gz x,br QA rfl,fun _ h=>h⟩,?_⟩
 rintro _ rfl;exact r
theorem zi {x:Nat} (hn:isNaN x=false) (hp:isInf x=false) (hm:isInf (gz x)=false):je x≠2047:=by
 intro h
 have hr:x % 2^63>=2047*2^52:=by
  have a1:(2:Nat)^63=9223372036854775808:=by decide
  have a2:2047*(2:Nat)^52=9218868437227405312:=by decide
  rw[a1,a2];unfold je at h;omega
 have key:∀y:Nat,F64.read y= .infinity false->isInf y=true:=by
  intro y hy
  unfold isInf Ieee.Format.order
  rw[hy];decide
 have hnr:=qX x
 rcases iJ hn with⟨s,e⟩ | ⟨s,m,i,e⟩
 ·cases s
  ·rw[key x e]at hp;cases hp
  ·rw[e]at hnr
   rw[key (gz x) hnr]at hm;cases hm
 ·unfold Ieee.Format.read at e
  simp only[mD,gT,nM]at e
  rw[if_neg Qz,if_neg Qz]at e
  split at e<;>cases e
theorem mH (xs:List Int):(strOf xs).data.toList=xs.map fun n=>UInt8.ofNat n.toNat:=by
 have gen:∀(xs:List Int) (b:ByteArray),(xs.foldl (fun r n=>r.push (UInt8.ofNat n.toNat)) b).data.toList=b.data.toList++xs.map fun n=>UInt8.ofNat n.toNat:=by
  intro xs
  induction xs with
  | nil=>intro b;simp
  | cons x xs ih=>intro b;rw[List.foldl_cons,ih];simp[ByteArray.push]
 have:=gen xs ByteArray.empty
 unfold strOf
 rw[this];rfl
def okC (v:Int):Prop:=0<=v/\v<128
instance decC (v:Int):Decidable (okC v):=by unfold okC;infer_instance
theorem Lr (d n:Nat):∀v∈dgL d n,okC v:=by
 intro v hv
 simp only[dgL,List.mem_map,List.mem_range]at hv
 obtain⟨t,_,rfl⟩:=hv
 unfold okC;omega
theorem EQ {x:Int} (h:x.natAbs<1000):(∀v∈gp x,okC v)/\(gp x).length<=4:=by
 unfold gp
 simp only[]
 refine⟨fun v hv=>?_,?_⟩
 ·simp only[List.mem_cons]at hv
  rcases hv with rfl | hv
  ·unfold okC;split<;>decide
  ·split at hv
   ·simp at hv;unfold okC;omega
   ·split at hv
    ·simp at hv;unfold okC;omega
    ·simp at hv;unfold okC;omega
 ·simp only[List.length_cons]
  split
  ·simp
  ·split<;>simp
theorem AI {neg:Bool} {L:List Int} {dp:Int} (hL:∀v∈L,okC v) (hl:L.length<=20) (hd:(dp-1).natAbs<1000):(∀v∈fmtG neg L dp,okC v)/\(fmtG neg L dp).length<=95:=by
 have hs:(∀v∈jK neg,okC v)/\(jK neg).length<=1:=by cases neg<;>simp[jK,okC]
 have he:(∀v∈gp (if L=[]then 0 else dp-1),okC v)/\(gp (if L=[]then 0 else dp-1)).length<=4:=EQ (by split<;>omega)
 have c48:okC 48:=by decide
 unfold fmtG
 have main:(∀v∈(if dp-1< -4\/6<=dp-1 then lr L dp else eQ L dp),okC v)/\(if dp-1< -4\/6<=dp-1 then lr L dp else eQ L dp).length<=90:=by
  split
  ·unfold lr
   refine⟨fun v hv=>?_,?_⟩
   ·simp only[List.mem_append]at hv
    rcases hv with((hv | hv) | hv) | hv
    ·split at hv
     ·simp at hv;subst hv;decide
     ·exact hL v (List.mem_of_mem_take hv)
    ·split at hv
     ·simp only[List.mem_cons]at hv
      rcases hv with rfl | hv
      ·decide
      ·exact hL v (List.mem_of_mem_drop hv)
     ·simp at hv
    ·simp at hv;subst hv;decide
    ·exact he.1 v hv
   ·have a1:(if L=[]then [48]else List.take 1 L).length<=1:=by split<;>simp<;>omega
    have a2:(if 1<L.length then 46::List.drop 1 L else []).length<=21:=by split<;>simp<;>omega
    have a3:=he.2
    simp only[List.length_append,List.length_cons,List.length_nil]
    omega
  ·rename_i hE
   unfold eQ
   refine⟨fun v hv=>?_,?_⟩
   ·simp only[List.mem_append]at hv
    rcases hv with hv | hv
    ·split at hv
     ·simp only[List.mem_append]at hv
      rcases hv with hv | hv
      ·exact hL v (List.mem_of_mem_take hv)
      ·rw[List.eq_of_mem_replicate hv];exact c48
     ·simp at hv;subst hv;decide
    ·split at hv
     ·simp only[List.mem_cons,List.mem_append]at hv
      rcases hv with rfl | hv | hv
      ·decide
      ·rw[List.eq_of_mem_replicate hv];exact c48
      ·exact hL v (List.mem_of_mem_drop hv)
     ·simp at hv
   ·have a1:(if 0<dp then List.take dp.toNat L++List.replicate (dp.toNat-L.length) 48 else [48]).length<=40:=by
     split
     ·simp only[List.length_append,List.length_take,List.length_replicate];omega
     ·simp
    have a2:(if dp<(L.length:Int)then 46::(List.replicate (-dp).toNat 48++List.drop dp.toNat L)else []).length<=50:=by
     split
     ·simp only[List.length_cons,List.length_append,List.length_drop,List.length_replicate];omega
     ·simp
    rw[List.length_append];omega
 refine⟨fun v hv=>?_,?_⟩
 ·rcases List.mem_append.1 hv with hv | hv
  ·exact hs.1 v hv
  ·exact main.1 v hv
 ·rw[List.length_append];have:=main.2;have:=hs.2;omega
theorem Ls (f:Nat):(∀v∈LOf f,okC v)/\(LOf f).length<=20:=by
 refine⟨fun v hv=>Lr _ _ v (List.mem_of_mem_take hv),?_⟩
 have:=zo (ry (pR f) (kj f))
 unfold LOf
 rw[List.length_take,jm]
 show min _ (ndg (short (pR f) (kj f)).1)<=20
 omega
theorem Ig {f:Nat} (hx:je f≠2047):(∀v∈fC f,okC v)/\(fC f).length<=95:=by
 unfold fC
 split
 ·exact AI QB QB QA
 ·rename_i h0
  obtain⟨h1,h2⟩:=Ls f
  have hp:=Ph (E1 hx h0).1
  have hn:=zo (ry (pR f) (kj f))
  have hn2:ndg (dOf f)<=20:=hn
  refine AI h1 h2 ?_
  unfold nR pOf;omega
def eO (l:QS):Bool:=Lib.containsAny l [46,101]
def cp (x:Nat):ByteArray:=
 if isNaN x then⟨#[78,97,78]⟩else if isInf x then⟨#[73,78,70]⟩else if isInf (gz x)then⟨#[45,73,78,70]⟩
 else if eO (strOf (fC x)).data.toList then strOf (fC x)else strOf (fC x)++⟨#[46,48]⟩
theorem uo {f:Nat} (hx:je f≠2047):(strOf (fC f)).size<=95/\∀(j:Nat) b,(strOf (fC f)).data.toList[j]? =some b->b.toNat<128:=by
 obtain⟨h1,h2⟩:=Ig hx
 have e:(strOf (fC f)).size=(fC f).length:=by
  show(strOf (fC f)).data.toList.length=_
  rw[mH,List.length_map]
 refine⟨Qz,fun j b hb=>?_⟩
 rw[mH,List.getElem?_map]at hb
 cases hv:(fC f)[j]? with
 | none=>rw[hv]at hb;cases hb
 | some v=>
  rw[hv]at hb
  simp only[Option.map_some,Option.some.injEq]at hb
  have:=h1 v (List.mem_of_getElem? hv)
  unfold okC at this
  subst hb
  rw[UInt8.toNat_ofNat']
  omega
theorem Pa {x:Nat} {R:ByteArray->Prop} (hx:x<18446744073709551616) (r:R (cp x)):OC x R:=by
 apply Qn;unfold T32
 rw[kH]
 unfold cp at r
 refine cd (fun h=>?_) fun h=>O8 (cd (fun h2=>?_) fun h2=>O9 (cd (fun h3=>?_) fun h3=>?_))
 ·rw[if_pos h]at r;exact r
 ·rw[if_neg (by rw[h];decide),if_pos h2]at r;exact r
 ·rw[if_neg (by rw[h];decide),if_neg (by rw[h2];decide),if_pos h3]at r;exact r
 rw[if_neg (by rw[h];decide),if_neg (by rw[h2];decide),if_neg (by rw[h3];decide)]at r
 have hf:=zi h h2 h3
 obtain⟨b1,b2⟩:=uo hf
 refine Pk hx hf (Pc Qz QA b2 (by intro j b hb;match j,hb with | 0,hb=>simp at hb;subst hb;decide | 1,hb=>simp at hb;subst hb;decide | j+2,hb=>simp at hb) ?_)
 refine⟨fun t=>t=(if eO (strOf (fC x)).data.toList then strOf (fC x)else strOf (fC x)++⟨#[46,48]⟩),bo (fun hh=>⟨?_,?_⟩) fun hh=>?_,?_⟩
 ·have:(⟨#[46,48]⟩:ByteArray).size=2:=rfl
  omega
 ·have hh:eO (strOf (fC x)).data.toList=false:=hh
  rw[hh];rfl
 ·have hh:eO (strOf (fC x)).data.toList=true:=hh
  rw[hh];rfl
 ·rintro _ rfl;exact r
theorem ER {l:QS} (h:Lib.NoAny l [46,101] l.length):eO l=false:=by
 unfold eO Lib.containsAny;rw[Lib.indexAny_none h];rfl
theorem Ih {l:QS} {i:Nat} {x:UInt8} (h:l[i]? =some x) (hx:x=46\/x=101):eO l=true:=by
 cases hh:eO l with
 | true=>rfl
 | false=>
  exfalso
  have hn:Lib.indexAny l [46,101] <0:=by unfold eO Lib.containsAny at hh;exact Int.not_le.1 (of_decide_eq_false hh)
  have gen:∀(l:QS) (i:Nat),l[i]? =some x->0<=Lib.indexAny l [46,101]:=by
   intro l
   induction l with
   | nil=>intro i h;simp at h
   | cons b l ih=>
    intro i h
    unfold Lib.indexAny
    cases i with
    | zero=>
     simp at h;subst h
     rw[if_pos (by rcases hx with rfl | rfl<;>decide)];decide
    | succ i=>
     have:=ih i (by simpa using h)
     split
     ·decide
     ·rw[if_neg QF];omega
  have:=gen l i h
  omega
open Go.Proofs
def txM (x:Nat):QS:=(cp x).data.toList
theorem Bg (x:Nat) (hx:x<18446744073709551616):(txM x).length<=100:=by
 unfold txM cp
 split
 ·decide
 split
 ·decide
 split
 ·decide
 rename_i a b c
 have hf:=zi (by simpa using a) (by simpa using b) (by simpa using c)
 have h1:(strOf (fC x)).data.toList.length<=95:=(uo hf).1
 split
 ·omega
 ·have e:(strOf (fC x)++(⟨#[46,48]⟩:ByteArray)).data.toList.length=(strOf (fC x)).data.toList.length+2:=by simp
  omega
theorem yI {gl:GL} {x:Nat} (hx:x<18446744073709551616):sM gl txM x:=
 ⟨fun h g=>(Pa (R:=fun s=>s=cp x) hx rfl h gl (Hp.view (c:=Ck.glob gl) g rfl (Hp.nil _) (fun _ _ hd=>by simp at hd))).mono fun v h' ⟨s,Y,e1,q⟩=>⟨by rw[e1,q,show G.mkB (txM x)=cp x from zR _],Y.fr⟩,Bg x hx⟩
section
variable {gl:GL} {h:ab} {tx:Nat->QS} {aE aL aS aW:QR} {nE cE nL cL nS cS nW cW:Nat} {n:Int} {es:Es} {ls:List ByteArray} {ss:List (Nat × Nat)} {ws:List Nat} {dir:Bool}
end
def pQ (x:ByteArray):QS:=bp x.data.toList
section
variable {gl:GL} {h:ab} {tx:Nat->QS} {aE aL aS aW:QR} {nE cE nL cL nS cS nW cW:Nat} {n:Int} {es:Es} {ls:List ByteArray} {ss:List (Nat × Nat)} {ws:List Nat} {dir:Bool}
end
def S8 (a:Int) (aA:QR) (aL aC:Nat) (a2:Bool) (aA2:QR) (aL2 aC2:Nat) (aA3:QR) (aL3 aC3:Nat) (aA4:QR) (aL4 aC4:Nat) (b:Int) (bA:QR) (bL bC:Nat) (b2:Bool) (bA2:QR) (bL2 bC2:Nat) (bA3:QR) (bL3 bC3:Nat) (bA4:QR) (bL4 bC4:Nat) (h:ab) (R:VP):Prop:=let g:ab:=h.push (.cells #[QM a,.slice aA aL aC,.bool a2,.slice aA2 aL2 aC2,.slice aA3 aL3 aC3,.slice aA4 aL4 aC4] 29);let B:ab:=g.push (.cells #[QM b,.slice bA bL bC,.bool b2,.slice bA2 bL2 bC2,.slice bA3 bL3 bC3,.slice bA4 bL4 bC4] 29);QG 20 #[.agg #[QM a,.slice aA aL aC,.bool a2,.slice aA2 aL2 aC2,.slice aA3 aL3 aC3,.slice aA4 aL4 aC4],.agg #[QM b,.slice bA bL bC,.bool b2,.slice bA2 bL2 bC2,.slice bA3 bL3 bC3,.slice bA4 bL4 bC4]] B [g.size,h.size] fun C n=>∃r:Bool,C= .bool r/\cnd (!r) (R (.bool false) n) (∃(l:LP) (p:List Value->ab->Nat),l [QM 0] n/\∀c:Int,∀d,l [QM c] d->cnd (decide (c<(aL3:Int))) (∃b3 o,aA3=some ⟨b3,o,none⟩/\0<=c/\c<(aL3:Nat)/\∃v:Nat,ac d b3 (o+(Int.toNat c)*2)=some (QQ v)/\∃b4 o2,bA3=some ⟨b4,o2,none⟩/\0<=c/\c<(bL3:Nat)/\∃w:Nat,ac d b4 (o2+(Int.toNat c)*2)=some (QQ w)/\QG 21 #[QQ v,QQ w] d [h.size,g.size] fun D i=>∃s:Bool,D= .bool s/\Fr [] d i/\cnd (!s) (Fr [] d i/\R (.bool false) i) (∃b5 o3,aA3=some ⟨b5,o3,none⟩/\0<=c/\c<(aL3:Nat)/\∃x:Nat,ac d b5 ((o3+(Int.toNat c)*2)+1)=some (QQ x)/\∃b6 o4,bA3=some ⟨b6,o4,none⟩/\0<=c/\c<(bL3:Nat)/\∃y:Nat,ac d b6 ((o4+(Int.toNat c)*2)+1)=some (QQ y)/\QG 21 #[QQ x,QQ y] i [h.size,g.size] fun E j=>∃t:Bool,E= .bool t/\Fr [] d j/\cnd (!t) (R (.bool false) j) (l [QM (i64.wrap (c+1))] j/\p [QM (i64.wrap (c+1))] j<p [QM c] d))) (∃(m:LP) (q:List Value->ab->Nat),m [QM 0] d/\∀e:Int,∀f,m [QM e] f->cnd (decide (e<(aL4:Int))) (∃b7 o5,aA4=some ⟨b7,o5,none⟩/\0<=e/\e<(aL4:Nat)/\∃z:Nat,ac f b7 (o5+(Int.toNat e)*1)=some (QQ z)/\∃b8 o6,bA4=some ⟨b8,o6,none⟩/\0<=e/\e<(bL4:Nat)/\∃A:Nat,ac f b8 (o6+(Int.toNat e)*1)=some (QQ A)/\QG 21 #[QQ z,QQ A] f [h.size,g.size] fun F k=>∃u:Bool,F= .bool u/\Fr [] f k/\cnd (!u) (R (.bool false) k) (m [QM (i64.wrap (e+1))] k/\q [QM (i64.wrap (e+1))] k<q [QM e] f)) (R (.bool true) f)))
theorem JV {h:ab} {R:VP} (a:Int) (aA:QR) (aL aC:Nat) (a2:Bool) (aA2:QR) (aL2 aC2:Nat) (aA3:QR) (aL3 aC3:Nat) (aA4:QR) (aL4 aC4:Nat) (b:Int) (bA:QR) (bL bC:Nat) (b2:Bool) (bA2:QR) (bL2 bC2:Nat) (bA3:QR) (bL3 bC3:Nat) (bA4:QR) (bL4 bC4:Nat) (H:S8 a aA aL aC a2 aA2 aL2 aC2 aA3 aL3 aC3 aA4 aL4 aC4 b bA bL bC b2 bA2 bL2 bC2 bA3 bL3 bC3 bA4 bL4 bC4 h R):QH 8 #[.agg #[QM a,.slice aA aL aC,.bool a2,.slice aA2 aL2 aC2,.slice aA3 aL3 aC3,.slice aA4 aL4 aC4],.agg #[QM b,.slice bA bL bC,.bool b2,.slice bA2 bL2 bC2,.slice bA3 bL3 bC3,.slice bA4 bL4 bC4]] h R:=aN [2,3] 67 [(0,⟨[2,3],[5],[2,3],[]⟩),(2,⟨[2,3],[6],[2,3],[]⟩)] [] [] [(6,⟨30,false⟩),(11,⟨12,false⟩)] Tryz.func8 QC QC H
def uex (N D:Nat):Nat:=N/D||| (if N % D=0 then 0 else 1)
theorem rk {X D q r:Nat} (h:X=q*D+r) (h1:0<r) (h2:r<D):uex X D=q||| 1:=by
 have e1:X/D=q:=by
  rw[h,Nat.mul_comm,Nat.mul_add_div Qz,Nat.div_eq_of_lt h2,Nat.add_zero]
 have e2:X % D=r:=by grind [Nat.mul_comm,Nat.mul_add_mod,Nat.mod_eq_of_lt]
 unfold uex;grind
theorem EB {X D q:Nat} (h:X=q*D) (hD:0<D):uex X D=q||| 0:=by
 unfold uex;simp_all
theorem uj {x hi lo s a b:Nat} (hx:x<18446744073709551616) (hlo:lo<18446744073709551616) (hhi:hi<18446744073709551616) (hb:0<b) (hl:lo<=hi*18446744073709551616)
  (t1:a<=(hi*18446744073709551616-lo)*b) (t2:(hi*18446744073709551616-lo)*b<a+b)
  (nc:∀q,q*(18446744073709551616*2^s*(18446744073709551616*b))<x*a+2*(18446744073709551616*b)->x*a<q*(18446744073709551616*2^s*(18446744073709551616*b))+2*(18446744073709551616*b)->x*a=q*(18446744073709551616*2^s*(18446744073709551616*b))):
  usc x hi lo s=uex (x*a) (18446744073709551616*2^s*(18446744073709551616*b)):=by
 obtain⟨δ,hδ⟩:∃δ,(hi*18446744073709551616-lo)*b=a+δ:=⟨(hi*18446744073709551616-lo)*b-a,Qz⟩
 have hδb:δ<b:=by omega
 have hm2:x*lo/18446744073709551616<=18446744073709551614:=by
  have h1:x*lo<=18446744073709551615*18446744073709551615:=Nat.mul_le_mul Qz Qz
  omega
 have hPM:=Nat.div_add_mod (x*hi) 18446744073709551616
 have hQR:=Nat.div_add_mod (x*lo) 18446744073709551616
 have hM:x*hi % 18446744073709551616<18446744073709551616:=Nat.mod_lt _ QA
 have hr:x*lo % 18446744073709551616<18446744073709551616:=Nat.mod_lt _ QA
 have hH:x*hi/18446744073709551616<18446744073709551616:=lq hx hhi
 have main:x*a+(x*lo % 18446744073709551616*b+x*δ)+x*lo/18446744073709551616*(18446744073709551616*b)=(x*hi/18446744073709551616*18446744073709551616+x*hi % 18446744073709551616)*(18446744073709551616*b):=by
  have e1:x*((hi*18446744073709551616-lo)*b)=x*a+x*δ:=by grind
  have e2:x*((hi*18446744073709551616-lo)*b)+x*lo*b=x*hi*18446744073709551616*b:=by
   have:(hi*18446744073709551616-lo)*b+lo*b=hi*18446744073709551616*b:=by rw[<-Nat.add_mul];congr 1;omega
   grind
  grind
 have hρ:x*lo % 18446744073709551616*b+x*δ<2*(18446744073709551616*b):=by
  have h1:x*lo % 18446744073709551616*b<=18446744073709551615*b:=Nat.mul_le_mul_right _ Qz
  have h2:x*δ<=18446744073709551615*b:=Nat.mul_le_mul Qz Qz
  omega
 generalize x*lo % 18446744073709551616*b+x*δ=ρ at*
 unfold usc
 simp only[]
 generalize x*hi/18446744073709551616=H at*
 generalize x*hi % 18446744073709551616=M at*
 generalize x*lo/18446744073709551616=m2 at*
 have hB:0<18446744073709551616*b:=by omega
 generalize hBz:18446744073709551616*b=B at*
 generalize x*a=X at*
 clear hPM hQR hδ t1 t2 hl
 have hS:0<2^s:=Nat.two_pow_pos s
 have hHq:=Nat.div_add_mod H (2^s)
 have hh:=Nat.mod_lt H hS
 generalize hq:H/2^s=q at*
 generalize H % 2^s=h at*
 have eK:(H*18446744073709551616+M)*B=q*(18446744073709551616*2^s*B)+(h*18446744073709551616+M)*B:=by
  grind
 rw[eK]at main
 generalize hD:18446744073709551616*2^s*B=D at*
 have hDB:D=18446744073709551616*2^s*B:=hD.symm
 by_cases h0:h=0
 ·subst h0
  rw[if_pos QD]
  have hMm:(0*18446744073709551616+M)*B=M*B:=by grind
  rw[hMm]at main
  by_cases c1:M<m2
  ·--below
   have hMB:m2*B=M*B+(m2-M)*B:=by rw[<-Nat.add_mul];congr 1;omega
   have hge:B<=(m2-M)*B:=Nat.le_mul_of_pos_left _ Qz
   have hle:(m2-M)*B+2*B<=18446744073709551616*B:=by rw[<-Nat.add_mul];exact Nat.mul_le_mul_right _ Qz
   have hDge:18446744073709551616*B<=D:=by rw[hDB];exact Nat.mul_le_mul_right _ (Nat.le_mul_of_pos_right _ hS)
   have hq0:q≠0:=by
    grind
   obtain⟨q',rfl⟩:=Nat.exists_eq_succ_of_ne_zero hq0
   have hX:X=q'*D+(D-(m2-M)*B-ρ):=by
    grind
   rw[rk hX Qz Qz]
   have hH1:H=2^s*(q'+1):=by grind
   have e5:(H+18446744073709551616-1) % 18446744073709551616/2^s=q':=by
    have:(H+18446744073709551616-1) % 18446744073709551616=H-1:=by
     grind
    rw[this,hH1,Nat.mul_add,Nat.mul_one,Nat.add_sub_assoc Qz,Nat.mul_add_div hS,Nat.div_eq_of_lt Qz,Nat.add_zero]
   rw[if_pos c1,e5,if_pos Qz]
  ·rw[if_neg c1]
   have e5:(H+18446744073709551616-0) % 18446744073709551616/2^s=q:=by
    grind
   rw[e5]
   have hMB:M*B=m2*B+(M-m2)*B:=by rw[<-Nat.add_mul];congr 1;omega
   by_cases c2:2<=M-m2
   ·have hge:2*B<=(M-m2)*B:=Nat.mul_le_mul_right _ c2
    have hlt:(M-m2)*B<18446744073709551616*B:=Nat.mul_lt_mul_of_pos_right Qz hB
    have hDge:18446744073709551616*B<=D:=by rw[hDB];exact Nat.mul_le_mul_right _ (Nat.le_mul_of_pos_right _ hS)
    have hX:X=q*D+((M-m2)*B-ρ):=by omega
    rw[rk hX Qz Qz,if_pos Qz]
   ·have hle:(M-m2)*B<=1*B:=Nat.mul_le_mul_right _ Qz
    have hX:=nc q Qz Qz
    rw[EB hX (by simp_all),if_neg Qz]
 ·rw[if_neg QD]
  have hMB:(h*18446744073709551616+M)*B=m2*B+(h*18446744073709551616+M-m2)*B:=by rw[<-Nat.add_mul];congr 1;omega
  have hge:2*B<=(h*18446744073709551616+M-m2)*B:=Nat.mul_le_mul_right _ Qz
  have hle:(h*18446744073709551616+M-m2)*B+B<=D:=by
   have:(h*18446744073709551616+M-m2)*B+B=(h*18446744073709551616+M-m2+1)*B:=by grind
   rw[this,hDB]
   refine Nat.mul_le_mul_right _ ?_
   omega
  have hX:X=q*D+((h*18446744073709551616+M-m2)*B-ρ):=by omega
  rw[rk hX Qz Qz]
end Go.Proofs.YtemphinmoihdaaaGreatDoor.N
/- The table of powers of ten is right, and no product of it with a number of few bits comes near to a whole number without being one (neighbours among fractions, each power by itself). Conditions: none. -/
namespace Go.Proofs.YtemphinmoihdaaaGreatDoor.N
open Go.X Go.Proofs.YtemphinmoihdaaaGreatDoor
set_option maxRecDepth 100000
def ta (p:Int):Nat:=if 0<=p then 10^p.toNat*2^(127-l2 p).toNat else 2^(127-l2 p).toNat
def tb (p:Int):Nat:=if 0<=p then 2^(l2 p-127).toNat else 10^(-p).toNat
def ckT (h l:Nat) (p:Int):Bool:=decide (l<=h*18446744073709551616)&&decide (ta p<=(h*18446744073709551616-l)*tb p)&&decide ((h*18446744073709551616-l)*tb p<ta p+tb p)&&decide (ta p<340282365653287863235145205935065006080*tb p)&&decide (170141183460469231731687303715884105728*tb p<=ta p)
def far (X:Nat):Nat->Nat->Nat->Nat->Nat->Nat->Nat->Nat × Nat × Nat × Nat
 | 0,n1,d1,n2,d2,_,_=>(n1,d1,n2,d2)
 | f+1,n1,d1,n2,d2,u,v=>
  if d1+d2<=X then
   if v<=u then
    let k:=if d2=0 then u/v else if v=0 then(X-d1)/d2 else min (u/v) ((X-d1)/d2)
    far X f (n1+k*n2) (d1+k*d2) n2 d2 (u-k*v) v
   else
    let k:=if u=0 then(X-d2)/d1 else min (v/u) ((X-d2)/d1)
    far X f n1 d1 (n2+k*n1) (d2+k*d1) u (v-k*u)
  else(n1,d1,n2,d2)
def okF (a be t X:Nat) (q:Nat × Nat × Nat × Nat):Bool:=
 let (n1,d1,n2,d2):=q
 decide (n2*d1=n1*d2+1)&&decide (n1*be<=a*d1)&&decide (a*d2<=n2*be)&&decide (X<d1+d2)&&
  (decide (a*d1=n1*be)||decide (n1*be+t<=a*d1))&&(decide (n2*be=a*d2)||decide (a*d2+t<=n2*be))
def ckN (X mo tol:Nat) (p:Int):Bool:=okF (ta p) (2^mo*tb p) (2^tol*tb p) X (far X 100 0 1 1 0 (ta p) (2^mo*tb p))
def ckL (f:Nat->Nat->Int->Bool):List (Nat × Nat)->Nat->Bool
 | [],_=>true
 | x::r,k=>f x.1 x.2 ((k:Int)-348)&&ckL f r (k+1)
theorem EC {f:Nat->Nat->Int->Bool}:∀{l:List (Nat × Nat)} {k:Nat},ckL f l k=true->∀(i:Nat) (x:Nat × Nat),l[i]? =some x->f x.1 x.2 (((k+i:Nat):Int)-348)=true
 | y::l,k,h,i,x,hi=>by
  simp only[ckL,Bool.and_eq_true]at h
  cases i with
  | zero=>simp at hi;subst hi;exact h.1
  | succ i=>
   have:=EC h.2 i x (by simpa using hi)
   rwa[show k+1+i=k+(i+1) by omega]at this
theorem xh :∀(l:List (Nat × Nat)) (i:Nat) (x:Nat × Nat),l[i]? =some x->(l.flatMap fun x=>[(x.1:Int),(x.2:Int)])[i*2]? =some (x.1:Int)/\(l.flatMap fun x=>[(x.1:Int),(x.2:Int)])[i*2+1]? =some (x.2:Int)
 | y::l,0,x,h=>by simp at h;subst h;exact⟨rfl,rfl⟩
 | y::l,i+1,x,h=>by
  obtain⟨a,b⟩:=xh l i x (by simpa using h)
  rw[show(i+1)*2=i*2+1+1 by omega]
  simp only[List.flatMap_cons,List.cons_append,List.nil_append,List.getElem?_cons_succ]
  exact⟨a,b⟩
theorem ED :Go.Pinned.pow10Rows.length=696:=by kernel_rfl
theorem rl {f:Nat->Nat->Int->Bool} (h:ckL f Go.Pinned.pow10Rows 0=true) {p:Int} (h1: -348<=p) (h2:p<=347):f (hiP p) (loP p) p=true:=by
 obtain⟨x,hx⟩:∃x,Go.Pinned.pow10Rows[(p+348).toNat]? =some x:=⟨_,List.getElem?_eq_getElem (by rw[ED];omega)⟩
 have k:=EC h _ x hx
 obtain⟨a,b⟩:=xh _ _ _ hx
 have e1:hiP p=x.1:=by
  unfold hiP tT;rw[List.getD_eq_getElem?_getD,a];rfl
 have e2:loP p=x.2:=by
  unfold loP tT;rw[List.getD_eq_getElem?_getD,b];rfl
 rw[e1,e2]
 rwa[show(((0+(p+348).toNat:Nat):Int))-348=p by omega]at k
theorem H8 :ckL (fun _ _ p=>ckN 18014398509481984 123 55 p) Go.Pinned.pow10Rows 0=true:=by kernel_rfl
theorem H9 :ckL (fun _ _ p=>ckN 144115188075855871 129 58 p) Go.Pinned.pow10Rows 0=true:=by kernel_rfl
theorem Ia :ckL ckT Go.Pinned.pow10Rows 0=true:=by kernel_rfl
end Go.Proofs.YtemphinmoihdaaaGreatDoor.N
/- What the neighbours say. Conditions: none. -/
namespace Go.Proofs.YtemphinmoihdaaaGreatDoor.N
open Go.X Go.Proofs.YtemphinmoihdaaaGreatDoor
set_option maxRecDepth 100000
theorem EE {a be n1 d1 n2 d2 x q t X:Int} (hdet:n2*d1=n1*d2+1) (hu:n1*be<=a*d1) (hv:a*d2<=n2*be) (hX:X<d1+d2) (hd1:0<=d1) (hd2:0<=d2)
  (cu:a*d1=n1*be\/n1*be+t<=a*d1) (cv:n2*be=a*d2\/a*d2+t<=n2*be) (x0:0<x) (x1:x<=X) (c1:q*be<x*a+t) (c2:x*a<q*be+t):x*a=q*be:=by
 obtain⟨i,hi⟩:∃i,i=x*n2-q*d2:=⟨_,rfl⟩
 obtain⟨j,hj⟩:∃j,j=q*d1-x*n1:=⟨_,rfl⟩
 obtain⟨u,hu'⟩:∃u,u=a*d1-n1*be:=⟨_,rfl⟩
 obtain⟨v,hv'⟩:∃v,v=n2*be-a*d2:=⟨_,rfl⟩
 have ex:x=i*d1+j*d2:=by
  have:x*(n2*d1)=x*(n1*d2+1):=by rw[hdet]
  rw[hi,hj];grind
 have eq:q=i*n1+j*n2:=by
  have:q*(n2*d1)=q*(n1*d2+1):=by rw[hdet]
  rw[hi,hj];grind
 have em:x*a-q*be=i*u-j*v:=by
  rw[hu',hv',ex,eq];grind
 have u0:0<=u:=by omega
 have v0:0<=v:=by omega
 have ct:0<t:=by omega
 have cu':u=0\/t<=u:=by omega
 have cv':v=0\/t<=v:=by omega
 clear hi hj hu' hv' hu hv cu cv
 by_cases hi1:1<=i
 ·by_cases hj1:1<=j
  ·have a1:1*d1<=i*d1:=Int.mul_le_mul_of_nonneg_right hi1 hd1
   have a2:1*d2<=j*d2:=Int.mul_le_mul_of_nonneg_right hj1 hd2
   omega
  ·--value>=u
   have a1:1*u<=i*u:=Int.mul_le_mul_of_nonneg_right hi1 u0
   have a2:j*v<=0*v:=Int.mul_le_mul_of_nonneg_right Qz v0
   rcases cu' with h | h
   ·subst h
    rw[Int.mul_zero]at em
    by_cases hj0:j=0
    ·subst hj0;rw[Int.zero_mul]at em;omega
    ·have a3:j*v<=(-1)*v:=Int.mul_le_mul_of_nonneg_right Qz v0
     rcases cv' with k | k
     ·subst k;rw[Int.mul_zero]at em;omega
     ·omega
   ·omega
 ·by_cases hj1:1<=j
  ·have a1:1*v<=j*v:=Int.mul_le_mul_of_nonneg_right hj1 v0
   have a2:i*u<=0*u:=Int.mul_le_mul_of_nonneg_right Qz u0
   rcases cv' with h | h
   ·subst h
    rw[Int.mul_zero]at em
    by_cases hi0:i=0
    ·subst hi0;rw[Int.zero_mul]at em;omega
    ·have a3:i*u<=(-1)*u:=Int.mul_le_mul_of_nonneg_right Qz u0
     rcases cu' with k | k
     ·subst k;rw[Int.mul_zero]at em;omega
     ·omega
   ·omega
  ·have a1:i*d1<=0*d1:=Int.mul_le_mul_of_nonneg_right Qz hd1
   have a2:j*d2<=0*d2:=Int.mul_le_mul_of_nonneg_right Qz hd2
   omega
theorem O3 {a be t X:Nat} {q:Nat × Nat × Nat × Nat} (h:okF a be t X q=true) {x k:Nat} (x0:0<x) (x1:x<=X) (c1:k*be<x*a+t) (c2:x*a<k*be+t):x*a=k*be:=by
 obtain⟨n1,d1,n2,d2⟩:=q
 simp only[okF,Bool.and_eq_true,Bool.or_eq_true,decide_eq_true_eq]at h
 obtain⟨⟨⟨⟨⟨h1,h2⟩,h3⟩,h4⟩,h5⟩,h6⟩:=h
 have:=EE (a:=a) (be:=be) (n1:=n1) (d1:=d1) (n2:=n2) (d2:=d2) (x:=x) (q:=k) (t:=t) (X:=X) (by exact_mod_cast h1) (by exact_mod_cast h2) (by exact_mod_cast h3) (by exact_mod_cast h4) Qz Qz
  (h5.elim (fun h=>.inl (by exact_mod_cast h)) fun h=>.inr (by exact_mod_cast h)) (h6.elim (fun h=>.inl (by exact_mod_cast h)) fun h=>.inr (by exact_mod_cast h)) (by exact_mod_cast x0) (by exact_mod_cast x1) (by exact_mod_cast c1) (by exact_mod_cast c2)
 exact_mod_cast this
end Go.Proofs.YtemphinmoihdaaaGreatDoor.N
/- A number lies where it is rounded to a float; there is one such float at most. Conditions: none. -/
namespace Go.Proofs.YtemphinmoihdaaaGreatDoor.N
open Go.X Go.Proofs.YtemphinmoihdaaaGreatDoor
set_option maxRecDepth 100000
def W (e:Int):Nat:=2^(e+1074).toNat
theorem fT (e:Int):0<W e:=Nat.two_pow_pos _
structure In (Y d M:Nat) (e:Int):Prop where
 e0: -1074<=e
 mx:M<9007199254740992
 mn:e= -1074\/4503599627370496<=M
 up:Y<=(4*M+2)*(W e*d)
 ups:M % 2=1->Y<(4*M+2)*(W e*d)
 dn:4*M*(W e*d)<=Y+2*(W e*d)
 dns:M % 2=1->4*M*(W e*d)<Y+2*(W e*d)
 dnq:M=4503599627370496->e≠ -1074->4*M*(W e*d)<=Y+W e*d
theorem In.lt {Y d M M':Nat} {e e':Int} (hd:0<d) (a:In Y d M e) (b:In Y d M' e'):¬e<e':=by
 intro h
 have he:=a.e0
 have hW:2*(W e*d)<=W e'*d:=by
  rw[<-Nat.mul_assoc]
  refine Nat.mul_le_mul_right _ ?_
  unfold W
  rw[Nat.mul_comm,<-Nat.pow_succ]
  exact Nat.pow_le_pow_right QA Qz
 have hB:0<W e*d:=Nat.mul_pos (fT e) hd
 have up:=a.up;have ups:=a.ups;have mx:=a.mx
 have hM':4503599627370496<=M':=by rcases b.mn with h | h<;>omega
 have dn:=b.dn;have dnq:=b.dnq
 generalize W e*d=B at*
 generalize W e'*d=B' at*
 have u1:(4*M+2)*B<=(4*9007199254740991+2)*B:=Nat.mul_le_mul_right _ Qz
 by_cases h52:M'=4503599627370496
 ·subst h52
  have:=dnq rfl Qz
  by_cases hm:M=9007199254740991
  ·omega
  ·have u2:(4*M+2)*B<=(4*9007199254740990+2)*B:=Nat.mul_le_mul_right _ Qz
   omega
 ·have u2:4*4503599627370497*B'<=4*M'*B':=Nat.mul_le_mul_right _ Qz
  omega
theorem In.leM {Y d M M':Nat} {e:Int} (hd:0<d) (a:In Y d M e) (b:In Y d M' e):¬M<M':=by
 intro h
 have hB:0<W e*d:=Nat.mul_pos (fT e) hd
 have up:=a.up;have ups:=a.ups
 have dn:=b.dn;have dns:=b.dns
 generalize W e*d=B at*
 by_cases h1:M'=M+1
 ·subst h1
  grind
 ·have e1:(4*M+8)*B<=4*M'*B:=Nat.mul_le_mul_right _ Qz
  grind
theorem In.uniq {Y d M M':Nat} {e e':Int} (hd:0<d) (a:In Y d M e) (b:In Y d M' e'):M=M'/\e=e':=by
 have he:e=e':=by
  have h1:=a.lt hd b
  have h2:=b.lt hd a
  omega
 subst he
 have h1:=a.leM hd b
 have h2:=b.leM hd a
 omega
theorem vq (n:Nat):n||| 1=n/2*2+1:=by
 have h1:=Nat.or_mod_two_pow (a:=n) (b:=1) (n:=1)
 have h2:=Nat.or_div_two_pow (a:=n) (b:=1) (n:=1)
 grind
theorem gD {N D:Nat} (hD:0<D):(uex N D*D=N)\/(uex N D % 2=1/\(uex N D-1)*D<N/\N<(uex N D+1)*D):=by
 have h:=Nat.div_add_mod N D
 have hlt:=Nat.mod_lt N hD
 have hc:D*(N/D)=N/D*D:=Nat.mul_comm _ _
 unfold uex
 by_cases h0:N % D=0
 ·grind
 ·rw[if_neg h0,vq]
  right
  generalize N/D=q at*
  have e1:(q/2*2+1-1)*D<=q*D:=Nat.mul_le_mul_right _ Qz
  have e2:(q+1)*D<=(q/2*2+1+1)*D:=Nat.mul_le_mul_right _ Qz
  grind
theorem uk {N D c:Nat} (hc:0<c):uex (N*c) (D*c)=uex N D:=by
 unfold uex
 rw[Nat.mul_div_mul_right _ _ hc,Nat.mul_mod_mul_right]
 congr 1
 by_cases h:N % D=0
 ·grind
 ·rw[if_neg h,if_neg]
  have:=Nat.mul_pos (Nat.pos_of_ne_zero h) hc
  omega
theorem EF {N D N' D':Nat} (hD:0<D) (hD':0<D') (h:N*D'=N'*D):uex N D=uex N' D':=by
 rw[<-uk (N:=N) (D:=D) hD',<-uk (N:=N') (D:=D') hD,h,Nat.mul_comm D D']
theorem xi {N D:Nat} (hD:0<D):uex N (2*D)=(uex N D/2)||| (uex N D % 2):=by
 have e1:N/(2*D)=N/D/2:=by rw[Nat.mul_comm,Nat.div_div_eq_div_mul]
 have e2:N % (2*D)=N % D+D*(N/D % 2):=by rw[Nat.mul_comm 2 D,Nat.mod_mul]
 unfold uex
 rw[e1,e2]
 generalize N/D=q
 by_cases h:N % D=0
 ·rw[h,if_pos rfl,Nat.or_zero,Nat.zero_add]
  rcases Nat.mod_two_eq_zero_or_one q with h2 | h2
  ·grind
  grind
 ·rw[if_neg Qz,if_neg h,vq q]
  grind
theorem rm {N D u:Nat} (hD:0<D) (hu:u=uex N D) (hl:u<18446744073709551610):
  N<=(4*rnd u+2)*D/\(rnd u % 2=1->N<(4*rnd u+2)*D)/\4*rnd u*D<=N+2*D/\(rnd u % 2=1->4*rnd u*D<N+2*D):=by
 have hr:rnd u=(u+1+u/4 % 2)/4:=by grind [rnd]
 rcases gD (N:=N) hD with h | ⟨h1,h2,h3⟩
 ·rw[<-hu]at h
  obtain⟨k,hk⟩:∃k,k=rnd u:=⟨_,rfl⟩
  rw[<-hk]at hr ⊢
  have b1:u<=4*k+2:=by omega
  have b2:4*k<=u+2:=by omega
  have e1:u*D<=(4*k+2)*D:=Nat.mul_le_mul_right _ b1
  have e2:4*k*D<=(u+2)*D:=Nat.mul_le_mul_right _ b2
  have e3:(u+2)*D=u*D+2*D:=Nat.add_mul _ _ _
  refine⟨Qz,fun ho=>?_,Qz,fun ho=>?_⟩
  ·have:u*D<(4*k+2)*D:=Nat.mul_lt_mul_of_pos_right Qz hD
   omega
  ·have:4*k*D<(u+2)*D:=Nat.mul_lt_mul_of_pos_right Qz hD
   omega
 ·rw[<-hu]at h1 h2 h3
  obtain⟨k,hk⟩:∃k,k=rnd u:=⟨_,rfl⟩
  rw[<-hk]at hr ⊢
  have e1:(u+1)*D<=(4*k+2)*D:=Nat.mul_le_mul_right _ Qz
  have e2:4*k*D<=(u-1+2)*D:=Nat.mul_le_mul_right _ Qz
  grind
set_option maxHeartbeats 1000000
def pk (m:Int) (e:Int):Nat × Option Int:=
 if bits .and .u64 m 4503599627370496=0 then(m.toNat,none)
 else if e>=972 then((bits .or .u64 (bits .and .u64 m 9223372036854775808) 9218868437227405312).toNat,some 1)
 else((bits .or .u64 (bits .andNot .u64 m 4503599627370496) (u64.wrap ((u64.wrap (i64.wrap (1075+e)))*2^52))).toNat,none)
theorem La {m e:Int} {R:Nat->Option Int->Prop} (r:R (pk m e).1 (pk m e).2):DM m e R:=by
 apply Ob
 unfold Kp
 unfold pk at r
 refine aH (fun h=>?_) fun h=>?_
 ·rw[if_pos h]at r;exact bM (kg _) ⟨_,rfl,r⟩
 ·rw[if_neg h]at r
  refine af (fun h2=>?_) fun h2=>?_
  ·rw[if_pos h2]at r;exact bM (kg _) ⟨_,rfl,r⟩
  ·rw[if_neg h2]at r;exact⟨QA,bM (kg _) ⟨_,rfl,r⟩⟩
def pfE (d:Nat) (p:Int):Int:=min 1074 (53-Lib.bitLen d-l2 p)
def pfS (d:Nat) (p:Int):Int:= -(pfE d p-(64-Lib.bitLen d)+l2 p+3)
def pfU (d:Nat) (p:Int):Nat:=usc (d*2^(64-Lib.bitLen d)) (hiP p) (loP p) (pfS d p % 64).toNat
def pfC (d:Nat) (p:Int):Nat:=if 36028797018963966<=pfU d p then 1 else 0
def pfR (d:Nat) (p:Int):Nat:=rnd ((pfU d p/2^pfC d p)||| (pfU d p % 2))
def ke (d:Nat) (p:Int) (sign:Nat):Nat × Option Int:=
 if pfS d p>=64 then((bits .or .u64 (sign:Int) 0).toNat,none)
 else pk (bits .or .u64 (sign:Int) (pfR d p:Int)) (-(pfE d p-pfC d p))
theorem Lb {R:Int->Prop} (r:R 36028797018963966):Dy 9007199254740992 R:=by
 apply NN;unfold Kh
 refine⟨QA,?_⟩
 have:u64.wrap (u64.wrap ((9007199254740992:Int)*2^min (Int.toNat 2) 64)-2)=36028797018963966:=by decide
 grind
theorem Lc {R:Nat->Option Int->Prop} {a:Nat} {e:Option Int} (r:R a e):(e=none->R a none)/\∀c:Int,e=some c->R a (some c):=
 ⟨fun h=>h▸r,fun _ h=>h▸r⟩
theorem Ld {d sign:Nat} {p:Int} {R:Nat->Option Int->Prop} (hd0:d≠0) (hd:d<18446744073709551616) (h1: -348<=p) (h2:p<=347) (r:R (ke d p sign).1 (ke d p sign).2):wT d p sign R:=by
 apply Oj
 unfold Ks
 obtain⟨b1,b2,b3⟩:=kp hd0 hd
 have b64:Lib.bitLen d<=64:=Lib.bitLen_le _ 64 QA hd
 refine zj Qz Qz (EV Qz Qz ?_)
 have eb:bl (d:Int)=((Lib.bitLen d:Nat):Int):=rfl
 have hl2: -1200<=l2 p/\l2 p<=1200:=by unfold l2;omega
 rw[eb]
 have e1:i64.wrap (i64.wrap (53-((Lib.bitLen d:Nat):Int))-l2 p)=53-Lib.bitLen d-l2 p:=by
  grind [wr]
 have e2:(if(53-(Lib.bitLen d:Int)-l2 p)<1074 then(53-(Lib.bitLen d:Int)-l2 p)else 1074)=pfE d p:=by unfold pfE;split<;>omega
 have e3:i64.wrap (64-((Lib.bitLen d:Nat):Int))=((64-Lib.bitLen d:Nat):Int):=by rw[wr Qz Qz];omega
 have hpe: -1300<=pfE d p/\pfE d p<=1300:=by omega
 have e4:i64.wrap (pfE d p-((64-Lib.bitLen d:Nat):Int))=pfE d p-(64-Lib.bitLen d):=by rw[wr Qz Qz];omega
 rw[e1,e2,e3,e4]
 refine EU h1 h2 Qz Qz Qz Qz ?_
 show cnd (decide (pfS d p>=64)) _ _
 unfold ke at r
 refine af (fun h=>?_) fun h=>?_
 ·rw[if_pos h]at r
  exact bM (kg _) ⟨_,rfl,r⟩
 rw[if_neg h]at r
 have hx:d*2^(64-Lib.bitLen d)<18446744073709551616:=by
  have:2^Lib.bitLen d*2^(64-Lib.bitLen d)=2^64:=by rw[<-Nat.pow_add];congr 1;omega
  have h2:=Nat.mul_lt_mul_of_pos_right b3 (Nat.two_pow_pos (64-Lib.bitLen d))
  omega
 have hh:=ru h1 h2
 refine⟨Qz,?_⟩
 rw[Int.toNat_natCast,Nat.min_eq_left (show 64-Lib.bitLen d<=64 by omega),xp,<-Int.natCast_mul,fB hx]
 refine vu hx hh (vv h1 h2) (Lb (ES ?_))
 have hu:pfU d p<18446744073709551616:=ET hx hh
 show 0<=_/\_
 have eu:usc (d*2^(64-Lib.bitLen d)) (hiP p) (loP p) (-(pfE d p-(64-(Lib.bitLen d:Int))+l2 p+3) % 64).toNat=pfU d p:=rfl
 rw[eu]
 have ec:((if decide ((pfU d p:Int)>=36028797018963966)=true then 1 else 0:Nat):Int)=(pfC d p:Int):=by
  unfold pfC;grind
 rw[ec,Int.toNat_natCast]
 have hc:pfC d p<=1:=by grind
 rw[Nat.min_eq_left (show pfC d p<=64 by omega),shr,Ji _ hu]
 have hq:pfU d p/2^pfC d p<18446744073709551616:=Nat.lt_of_le_of_lt (Nat.div_le_self _ _) hu
 rw[bits_or_u64_nat _ _ hq Qz]
 have hor:(pfU d p/2^pfC d p)||| (pfU d p % 2)<18446744073709551616:=Nat.or_lt_two_pow (n:=64) hq Qz
 refine⟨Qz,EX hor (La (Lc ?_))⟩
 have e5:i64.wrap (0-i64.wrap (pfE d p-(pfC d p:Int)))= -(pfE d p-pfC d p):=by
  grind [wr]
 rw[e5]
 exact r
def iD (m:Nat) (e:Int) (ng:Bool):Nat × Option Int:=
 if m=0 then((bits .or .u64 (jY ng:Int) 0).toNat,none)
 else if e>310 then((bits .or .u64 (jY ng:Int) 9218868437227405312).toNat,some 1)
 else if e< -345 then((bits .or .u64 (jY ng:Int) 0).toNat,none)
 else if(iK m e ng).2 then((iK m e ng).1,none)
 else ke m e (jY ng)
theorem KE {s:ByteArray} {st:RS} {rest:QS} {R:Nat->Int->Option Int->Prop} (h:Txt s st rest) (ht:st.tr=false)
  (r:R (iD st.m (jd st rest) (dG s.data.toList).1).1 s.size (iD st.m (jd st rest) (dG s.data.toList).1).2):DV s R:=by
 apply Ol
 unfold Ku
 have h0:0<s.size:=by
  obtain⟨c,l,hl,_⟩:=h.hd
  show 0<s.data.toList.length
  rw[hl];simp
 refine KY h.sz h.hd (aV rfl (KW h0 h.sz h.ch h.sc h.dig h.rest ?_))
 have hm:=HY (a:=RS0) QA QA h.sc
 rw[ht]
 generalize jd st rest=e at*
 generalize (dG s.data.toList).1=ng at*
 have esz:((s.data.toList.length:Nat):Int)=(s.size:Int):=rfl
 rw[esz]
 refine aV rfl (aV rfl ⟨False,br rfl (zb ?_),fun h=>h⟩)
 have esg:u64.wrap (((if ng=true then 1 else 0:Nat):Int)*2^min (Int.toNat 63) 64)=(jY ng:Int):=by
  cases ng<;>decide
 rw[esg]
 unfold iD at r
 refine⟨QA,aH (fun hz=>?_) fun hz=>?_⟩
 ·rw[if_pos Qz]at r
  exact bM (kg _) ⟨_,rfl,r⟩
 rw[if_neg Qz]at r
 refine af (fun hb=>?_) fun hb=>?_
 ·rw[if_pos hb]at r
  exact bM (kg _) ⟨_,rfl,r⟩
 rw[if_neg hb]at r
 refine af (fun hc=>?_) fun hc=>?_
 ·rw[if_pos hc]at r
  exact bM (kg _) ⟨_,rfl,r⟩
 rw[if_neg hc]at r
 refine⟨(iK st.m e ng).2=false,br rfl (K6 Qz Qz Qz (cd (fun hx=>?_) fun hx=>hx)),fun hx=>?_⟩
 ·grind
 ·rw[if_neg (by rw[hx];decide)]at r
  grind [Ld,br]
theorem KF {s:ByteArray} {st:RS} {rest:QS} {R:Nat->Option Int->Prop} (h:Txt s st rest) (ht:st.tr=false)
  (r:R (iD st.m (jd st rest) (dG s.data.toList).1).1 (iD st.m (jd st rest) (dG s.data.toList).1).2):DY s 64 R:=by
 apply Oq
 grind [Kw,On,Kv,aV,KE]
theorem Bu (m:Nat) (e:Int) (ng:Bool):(iD m e ng).2=none\/(iD m e ng).2=some 1:=by
 grind [iD,ke,pk]
theorem P37.of {s:ByteArray} {st:RS} {rest:QS} (h:Txt s st rest) (ht:st.tr=false):P37 s (iD st.m (jd st rest) (dG s.data.toList).1).1:=
 ⟨_,Bu _ _ _,fun _ r=>KF h ht r⟩
theorem xj (s:Bool) (m d:Nat):2*(Ieee.Toward.even.cut s m d*2^d)<=2*m+2^d/\2*m<=2*(Ieee.Toward.even.cut s m d*2^d)+2^d:=by
 unfold Ieee.Toward.cut
 dsimp only
 by_cases hd:d<=m.log2+2
 ·rw[Nat.min_eq_left hd,Nat.shiftLeft_eq,Nat.one_mul]
  have hg:0<2^d:=Nat.pow_pos QA
  have hdm:=Nat.div_add_mod m (2^d)
  have hlt:=Nat.mod_lt m hg
  generalize 2^d=g at*
  generalize m/g=q at*
  generalize m % g=r at*
  have:(q+1)*g=g*q+g:=by grind
  have h0:q*g=g*q:=Nat.mul_comm _ _
  cases hb:(decide (g<2*r)||g==2*r&&q % 2==1)
  ·grind
  grind
 ·have hd2:min d (m.log2+2)=m.log2+2:=by omega
  rw[hd2,Nat.shiftLeft_eq,Nat.one_mul]
  have h1:2*m<2^(m.log2+2):=by
   grind [Nat.lt_log2_self,Nat.pow_succ]
  have h2:2^(m.log2+2)<=2^d:=Nat.pow_le_pow_right QA Qz
  generalize 2^(m.log2+2)=g at*
  rw[Nat.div_eq_of_lt Qz,Nat.mod_eq_of_lt Qz]
  grind
theorem EG {M:Nat} {p:Int} (hM:M≠0) (hp: -1074<=p):
  ∃K a:Nat,ia M p=min (a*2^52+K) (2047*2^52)/\im (a*2^52+K)=K*2^a/\K<=2^53/\(0<a->2^52<=K)/\2*(K*2^a)<=2*(M*2^(p+1074).toNat)+2^a/\2*(M*2^(p+1074).toNat)<=2*(K*2^a)+2^a:=by
 have hl2:=(Nat.log2_eq_iff hM).1 rfl
 obtain⟨la,hla⟩:∃la:Int,la=max (p+(M.log2:Int)-F64.fractionBits) F64.leastPlace:=⟨_,rfl⟩
 have hla2:la=max (p+(M.log2:Int)-52) (-1074):=by rw[hla,ik,show F64.fractionBits=52 from rfl];omega
 obtain⟨K,hK⟩:∃K,K=Ieee.Toward.even.cut false (M <<< (p-la).toNat) (la-p).toNat:=⟨_,rfl⟩
 have er:ia M p=min ((la+1074).toNat*2^52+K) (2047*2^52):=by
  unfold ia
  rw[if_neg hM,<-hla,<-hK,nM,gT,ik,show(la- -1074).toNat=(la+1074).toNat by omega]
 have ch:=xj false (M <<< (p-la).toNat) (la-p).toNat
 rw[<-hK,Nat.shiftLeft_eq]at ch
 have hg:0<2^(la-p).toNat:=Nat.pow_pos QA
 have hup:M*2^(p-la).toNat<2^53*2^(la-p).toNat:=by
  rw[<-Nat.pow_add]
  calc M*2^(p-la).toNat<2^(M.log2+1)*2^(p-la).toNat:=Nat.mul_lt_mul_of_pos_right hl2.2 (Nat.pow_pos QA)
   _=2^(M.log2+1+(p-la).toNat):=(Nat.pow_add _ _ _).symm
   _<=2^(53+(la-p).toNat):=Nat.pow_le_pow_right QA Qz
 have hdn: -1074<la->2^52*2^(la-p).toNat<=M*2^(p-la).toNat:=fun q=>by
  rw[<-Nat.pow_add]
  calc 2^(52+(la-p).toNat)<=2^(M.log2+(p-la).toNat):=Nat.pow_le_pow_right QA Qz
   _=2^M.log2*2^(p-la).toNat:=Nat.pow_add _ _ _
   _<=M*2^(p-la).toNat:=Nat.mul_le_mul_right _ hl2.1
 have hK1:K<=2^53:=by
  generalize 2^(la-p).toNat=g at*
  generalize M*2^(p-la).toNat=n at*
  rcases Nat.lt_or_ge (2^53) K with q | q
  ·have:=Nat.mul_le_mul_right g (show 2^53+1<=K from q)
   omega
  ·exact q
 have hK2: -1074<la->2^52<=K:=fun q=>by
  have:=hdn q
  generalize 2^(la-p).toNat=g at*
  generalize M*2^(p-la).toNat=n at*
  rcases Nat.lt_or_ge K (2^52)with q | q
  ·have:=Nat.mul_le_mul_right g (show K+1<=2^52 from q)
   grind
  ·exact q
 obtain⟨c,hc⟩:∃c:Nat,c=(min p la+1074).toNat:=⟨_,rfl⟩
 obtain⟨a,ha⟩:∃a:Nat,a=(la+1074).toNat:=⟨_,rfl⟩
 have e1:(p-la).toNat+c=(p+1074).toNat:=by omega
 have e2:(la-p).toNat+c=a:=by omega
 have ha2:0<a->2^52<=K:=fun q=>hK2 Qz
 rw[<-ha]at er
 clear hdn hup hK2
 have hv:im (a*2^52+K)=K*2^a:=by
  unfold im
  by_cases q:0<a
  ·have:=ha2 q
   rw[if_neg Qz]
   by_cases q2:K=2^53
   ·rw[show(a*2^52+K) % 2^52=0 by omega,show(a*2^52+K)/2^52-1=a+1 by omega,q2,Nat.add_zero,Nat.pow_succ 2 a,Nat.mul_comm (2^a) 2,<-Nat.mul_assoc]
   ·rw[show(a*2^52+K) % 2^52=K-2^52 by omega,show(a*2^52+K)/2^52-1=a by omega,show 2^52+(K-2^52)=K by omega]
  ·rw[show a=0 by omega]
   simp only[Nat.zero_mul,Nat.zero_add,Nat.pow_zero,Nat.mul_one]
   split
   ·rfl
   ·by_cases q2:K=2^53
    ·rw[q2]
    ·rw[show K/2^52-1=0 by omega,Nat.pow_zero,Nat.mul_one];omega
 refine⟨K,a,er,hv,hK1,ha2,?_,?_⟩
 ·have:=Nat.mul_le_mul_right (2^c) ch.1
  grind [Nat.add_mul,Nat.mul_assoc]
 ·have:=Nat.mul_le_mul_right (2^c) ch.2
  grind [Nat.add_mul,Nat.mul_assoc]
theorem Ib :key (F64.word false (2047*2^52))=2^kA:=by
 have:F64.read (F64.word false (2047*2^52))= .infinity false:=by decide
 unfold key;rw[this];rfl
theorem xl {M m:Nat} {p i:Int} {x:Nat} (hM:M≠0) (hp: -1074<=p) (hx:F64.read x= .number false m i) (h:m*2^(i+1074).toNat<=M*2^(p+1074).toNat):key x<=key (F64.nearest false M p):=by
 obtain⟨K,a,h1,h2,h3,h4,h5,h6⟩:=EG hM hp
 have hm:=jI hx
 obtain⟨i1,i2⟩:=gy hx
 have hkx:key x=((m*2^(i+1074).toNat:Nat):Int):=by
  unfold key;rw[hx]
  show Ieee.signed false m _=_
  rw[cF];rfl
 rw[fw,h1]
 by_cases hr:a*2^52+K<2047*2^52
 ·rw[Nat.min_eq_left (Nat.le_of_lt hr),(nN hr).1,h2,hkx]
  have:m*2^(i+1074).toNat<=K*2^a:=by
   by_cases hi:a<=(i+1074).toNat
   ·obtain⟨d,hd⟩:∃d,(i+1074).toNat=d+a:=⟨(i+1074).toNat-a,Qz⟩
    rw[hd,Nat.pow_add,<-Nat.mul_assoc]at h ⊢
    have hg:0<2^a:=Nat.two_pow_pos a
    generalize m*2^d=q at*
    generalize M*2^(p+1074).toNat=V at*
    generalize 2^a=g at*
    rcases Nat.lt_or_ge K q with hlt | hge
    ·have h7:=Nat.mul_le_mul_right g hlt
     grind
    ·exact Nat.mul_le_mul_right g hge
   ·have hK:=h4 Qz
    have h7:m*2^(i+1074).toNat<=2^53*2^(i+1074).toNat:=Nat.mul_le_mul_right _ (Nat.le_of_lt hm)
    have h8:2^53*2^(i+1074).toNat<=2^52*2^a:=by
     rw[<-Nat.pow_add,<-Nat.pow_add]
     exact Nat.pow_le_pow_right QA Qz
    exact Nat.le_trans h7 (Nat.le_trans h8 (Nat.mul_le_mul_right _ hK))
  grind
 ·rw[Nat.min_eq_right Qz,Ib]
  have:=(oW hx).2
  unfold key;rw[hx]
  exact Int.le_of_lt this
end Go.Proofs.YtemphinmoihdaaaGreatDoor.N
