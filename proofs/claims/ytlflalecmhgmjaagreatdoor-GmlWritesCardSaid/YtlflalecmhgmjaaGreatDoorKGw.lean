/- weigh's and the document's texts of a number are one function of it. Conditions: none. -/
import Derived.Test.YtlflalecmhgmjaaGreatDoorWTxt
import Derived.Test.YtlflalecmhgmjaaGreatDoorSLex
import Derived.Test.YtlflalecmhgmjaaGreatDoorWFast
import Derived.Test.YtlflalecmhgmjaaGreatDoorSRw
import Derived.Test.YtlflalecmhgmjaaGreatDoorWPre
import Derived.Test.YtlflalecmhgmjaaGreatDoorKEdg
set_option linter.unusedVariables false
set_option linter.unusedSimpArgs false
open Go.IntKind (i64 u64 u8 i32)
namespace Go.Proofs.YtlflalecmhgmjaaGreatDoor.N
open Go.X Go.Proofs.YtlflalecmhgmjaaGreatDoor
set_option maxRecDepth 100000
set_option maxHeartbeats 2000000
theorem zH {x:Nat} {R:Bool->Prop} (r:R (isInf x)):kw x 1 R:=by
 apply y5;unfold yZ
 refine⟨fun y=>y=x,aM (by decide) ⟨fun y=>y=x,aM (by decide) rfl,fun _ h=>h⟩,?_⟩
 rintro _ rfl;exact r
theorem zI {x:Nat} {R:Bool->Prop} (r:R (isInf (jo x))):kw x (-1) R:=by
 apply y5;unfold yZ
 refine⟨fun y=>y=jo x,aM (by decide) ⟨fun y=>y=jo x,aO (by decide) rfl,fun _ h=>h⟩,?_⟩
 rintro _ rfl;exact r
theorem sq {x:Nat} (hn:isNaN x=false) (hp:isInf x=false) (hm:isInf (jo x)=false):gz x≠2047:=by
 intro h
 have hr:x % 2^63>=2047*2^52:=by
  have a1:(2:Nat)^63=9223372036854775808:=by decide
  have a2:2047*(2:Nat)^52=9218868437227405312:=by decide
  rw[a1,a2];unfold gz at h;omega
 have key:∀y:Nat,F64.read y= .infinity false->isInf y=true:=by
  intro y hy
  unfold isInf Ieee.Format.order
  rw[hy];decide
 have hnr:=lN x
 rcases iP hn with⟨s,e⟩ | ⟨s,m,i,e⟩
 ·cases s
  ·rw[key x e]at hp;cases hp
  ·rw[e]at hnr
   rw[key (jo x) hnr]at hm;cases hm
 ·unfold Ieee.Format.read at e
  simp only[pf,gR,nZ]at e
  rw[if_neg (by omega),if_neg (by omega)]at e
  split at e<;>cases e
theorem lZ (xs:List Int):(strOf xs).data.toList=xs.map fun n=>UInt8.ofNat n.toNat:=by
 have gen:∀(xs:List Int) (b:ByteArray),(xs.foldl (fun r n=>r.push (UInt8.ofNat n.toNat)) b).data.toList=b.data.toList++xs.map fun n=>UInt8.ofNat n.toNat:=by
  intro xs
  induction xs with
  | nil=>intro b;simp
  | cons x xs ih=>intro b;rw[List.foldl_cons,ih];simp[ByteArray.push]
 have:=gen xs ByteArray.empty
 unfold strOf
 rw[this];rfl
def okC (v:Int):Prop:=0<=v/\v<128
instance decC (v:Int):Decidable (okC v):=by unfold okC;infer_instance
theorem EL (d n:Nat):∀v∈dgL d n,okC v:=by
 intro v hv
 simp only[dgL,List.mem_map,List.mem_range]at hv
 obtain⟨t,_,rfl⟩:=hv
 unfold okC;omega
theorem zJ {x:Int} (h:x.natAbs<1000):(∀v∈gu x,okC v)/\(gu x).length<=4:=by
 unfold gu
 simp only[]
 refine⟨fun v hv=>?_,?_⟩
 ·simp only[List.mem_cons]at hv
  rcases hv with rfl | hv
  ·unfold okC;split<;>decide
  ·split at hv
   ·simp at hv;unfold okC;omega
   ·split at hv
    ·simp at hv;unfold okC;omega
    ·simp at hv;unfold okC;omega
 ·simp only[List.length_cons]
  split
  ·simp
  ·split<;>simp
theorem uf {neg:Bool} {L:List Int} {dp:Int} (hL:∀v∈L,okC v) (hl:L.length<=20) (hd:(dp-1).natAbs<1000):(∀v∈fmtG neg L dp,okC v)/\(fmtG neg L dp).length<=95:=by
 have hs:(∀v∈gq neg,okC v)/\(gq neg).length<=1:=by cases neg<;>simp[gq,okC]
 have he:(∀v∈gu (if L=[]then 0 else dp-1),okC v)/\(gu (if L=[]then 0 else dp-1)).length<=4:=zJ (by split<;>omega)
 have c48:okC 48:=by decide
 unfold fmtG
 have main:(∀v∈(if dp-1< -4\/6<=dp-1 then od L dp else oe L dp),okC v)/\(if dp-1< -4\/6<=dp-1 then od L dp else oe L dp).length<=90:=by
  split
  ·unfold od
   refine⟨fun v hv=>?_,?_⟩
   ·simp only[List.mem_append]at hv
    rcases hv with((hv | hv) | hv) | hv
    ·split at hv
     ·simp at hv;subst hv;decide
     ·exact hL v (List.mem_of_mem_take hv)
    ·split at hv
     ·simp only[List.mem_cons]at hv
      rcases hv with rfl | hv
      ·decide
      ·exact hL v (List.mem_of_mem_drop hv)
     ·simp at hv
    ·simp at hv;subst hv;decide
    ·exact he.1 v hv
   ·have a1:(if L=[]then [48]else List.take 1 L).length<=1:=by split<;>simp<;>omega
    have a2:(if 1<L.length then 46::List.drop 1 L else []).length<=21:=by split<;>simp<;>omega
    have a3:=he.2
    simp only[List.length_append,List.length_cons,List.length_nil]
    omega
  ·rename_i hE
   unfold oe
   refine⟨fun v hv=>?_,?_⟩
   ·simp only[List.mem_append]at hv
    rcases hv with hv | hv
    ·split at hv
     ·simp only[List.mem_append]at hv
      rcases hv with hv | hv
      ·exact hL v (List.mem_of_mem_take hv)
      ·rw[List.eq_of_mem_replicate hv];exact c48
     ·simp at hv;subst hv;decide
    ·split at hv
     ·simp only[List.mem_cons,List.mem_append]at hv
      rcases hv with rfl | hv | hv
      ·decide
      ·rw[List.eq_of_mem_replicate hv];exact c48
      ·exact hL v (List.mem_of_mem_drop hv)
     ·simp at hv
   ·have a1:(if 0<dp then List.take dp.toNat L++List.replicate (dp.toNat-L.length) 48 else [48]).length<=40:=by
     split
     ·simp only[List.length_append,List.length_take,List.length_replicate];omega
     ·simp
    have a2:(if dp<(L.length:Int)then 46::(List.replicate (-dp).toNat 48++List.drop dp.toNat L)else []).length<=50:=by
     split
     ·simp only[List.length_cons,List.length_append,List.length_drop,List.length_replicate];omega
     ·simp
    rw[List.length_append];omega
 refine⟨fun v hv=>?_,?_⟩
 ·rcases List.mem_append.1 hv with hv | hv
  ·exact hs.1 v hv
  ·exact main.1 v hv
 ·rw[List.length_append];have:=main.2;have:=hs.2;omega
theorem EM (f:Nat):(∀v∈LOf f,okC v)/\(LOf f).length<=20:=by
 refine⟨fun v hv=>EL _ _ v (List.mem_of_mem_take hv),?_⟩
 have:=sw (mb (nj f) (jV f))
 unfold LOf
 rw[List.length_take,gk]
 show min _ (ndg (short (nj f) (jV f)).1)<=20
 omega
theorem B9 {f:Nat} (hx:gz f≠2047):(∀v∈dJ f,okC v)/\(dJ f).length<=95:=by
 unfold dJ
 split
 ·exact uf (by simp) (by simp) (by decide)
 ·rename_i h0
  obtain⟨h1,h2⟩:=EM f
  have hp:=IQ (De hx h0).1
  have hn:=sw (mb (nj f) (jV f))
  have hn2:ndg (dOf f)<=20:=hn
  refine uf h1 h2 ?_
  unfold vn pOf;omega
def jq (l:List UInt8):Bool:=Lib.containsAny l [46,101]
def jr (x:Nat):ByteArray:=
 if isNaN x then⟨#[78,97,78]⟩else if isInf x then⟨#[73,78,70]⟩else if isInf (jo x)then⟨#[45,73,78,70]⟩
 else if jq (strOf (dJ x)).data.toList then strOf (dJ x)else strOf (dJ x)++⟨#[46,48]⟩
theorem jU {f:Nat} (hx:gz f≠2047):(strOf (dJ f)).size<=95/\∀(j:Nat) b,(strOf (dJ f)).data.toList[j]? =some b->b.toNat<128:=by
 obtain⟨h1,h2⟩:=B9 hx
 have e:(strOf (dJ f)).size=(dJ f).length:=by
  show(strOf (dJ f)).data.toList.length=_
  rw[lZ,List.length_map]
 refine⟨by omega,fun j b hb=>?_⟩
 rw[lZ,List.getElem?_map]at hb
 cases hv:(dJ f)[j]? with
 | none=>rw[hv]at hb;cases hb
 | some v=>
  rw[hv]at hb
  simp only[Option.map_some,Option.some.injEq]at hb
  have:=h1 v (List.mem_of_getElem? hv)
  unfold okC at this
  subst hb
  rw[UInt8.toNat_ofNat']
  omega
theorem IG {x:Nat} {R:ByteArray->Prop} (hx:x<18446744073709551616) (r:R (jr x)):Ij x R:=by
 apply JB;unfold T55
 rw[dD]
 unfold jr at r
 refine aV (fun h=>?_) fun h=>zH (aV (fun h2=>?_) fun h2=>zI (aV (fun h3=>?_) fun h3=>?_))
 ·rw[if_pos h]at r;exact r
 ·rw[if_neg (by rw[h];decide),if_pos h2]at r;exact r
 ·rw[if_neg (by rw[h];decide),if_neg (by rw[h2];decide),if_pos h3]at r;exact r
 rw[if_neg (by rw[h];decide),if_neg (by rw[h2];decide),if_neg (by rw[h3];decide)]at r
 have hf:=sq h h2 h3
 obtain⟨b1,b2⟩:=jU hf
 refine zQ hx hf (EP (by omega) (by decide) b2 (by intro j b hb;match j,hb with | 0,hb=>simp at hb;subst hb;decide | 1,hb=>simp at hb;subst hb;decide | j+2,hb=>simp at hb) ?_)
 refine⟨fun t=>t=(if jq (strOf (dJ x)).data.toList then strOf (dJ x)else strOf (dJ x)++⟨#[46,48]⟩),aK (fun hh=>⟨?_,?_⟩) fun hh=>?_,?_⟩
 ·have:(⟨#[46,48]⟩:ByteArray).size=2:=rfl
  omega
 ·have hh:jq (strOf (dJ x)).data.toList=false:=hh
  rw[hh];rfl
 ·have hh:jq (strOf (dJ x)).data.toList=true:=hh
  rw[hh];rfl
 ·rintro _ rfl;exact r
theorem ug {i:Int} (h0:0<=i) (h1:i<1000000000000):i64.wrap (i+(1:Int))=i+1:=wr (by omega) (by omega)
theorem EN {l:List UInt8} (h:Lib.NoAny l [46,101] l.length):jq l=false:=by
 unfold jq Lib.containsAny;rw[Lib.indexAny_none h];rfl
theorem uh {l:List UInt8} {i:Nat} {x:UInt8} (h:l[i]? =some x) (hx:x=46\/x=101):jq l=true:=by
 cases hh:jq l with
 | true=>rfl
 | false=>
  exfalso
  have hn:Lib.indexAny l [46,101] <0:=by unfold jq Lib.containsAny at hh;exact Int.not_le.1 (of_decide_eq_false hh)
  have gen:∀(l:List UInt8) (i:Nat),l[i]? =some x->0<=Lib.indexAny l [46,101]:=by
   intro l
   induction l with
   | nil=>intro i h;simp at h
   | cons b l ih=>
    intro i h
    unfold Lib.indexAny
    cases i with
    | zero=>
     simp at h;subst h
     rw[if_pos (by rcases hx with rfl | rfl<;>decide)];decide
    | succ i=>
     have:=ih i (by simpa using h)
     split
     ·decide
     ·rw[if_neg (by simp;omega)];omega
  have:=gen l i h
  omega
theorem II {x:Nat} {R:ByteArray->Prop} (hx:x<18446744073709551616) (r:R (jr x)):Ik x R:=by
 apply JC;unfold T70
 rw[dD]
 unfold jr at r
 refine aV (fun h=>?_) fun h=>zH (aV (fun h2=>?_) fun h2=>zI (aV (fun h3=>?_) fun h3=>?_))
 ·rw[if_pos h]at r;exact r
 ·rw[if_neg (by rw[h];decide),if_pos h2]at r;exact r
 ·rw[if_neg (by rw[h];decide),if_neg (by rw[h2];decide),if_pos h3]at r;exact r
 rw[if_neg (by rw[h];decide),if_neg (by rw[h2];decide),if_neg (by rw[h3];decide)]at r
 have hf:=sq h h2 h3
 obtain⟨b1,b2⟩:=jU hf
 refine zQ hx hf ?_
 generalize strOf (dJ x)=w at*
 have hsz:w.size=w.data.toList.length:=rfl
 refine⟨fun i=>0<=i/\i<=w.size/\Lib.NoAny w.data.toList [46,101] i.toNat,fun i=>w.size-i.toNat,⟨by omega,by omega,Lib.NoAny.zero _ _⟩,?_⟩
 rintro i ⟨h0,h1,hN⟩
 refine ag (fun hi=>?_) fun hi=>⟨?_,?_⟩
 ·have hil:i.toNat<w.data.toList.length:=by omega
  obtain⟨c,hc⟩:∃c,w.data.toList[i.toNat]? =some c:=⟨_,List.getElem?_eq_getElem hil⟩
  have hcw:w[i.toNat]? =some c:=by rw[kD];exact hc
  refine⟨h0,hi,c,hcw,au (fun e=>?_) fun n1=>⟨h0,hi,c,hcw,au (fun e=>?_) fun n2=>⟨⟨?_,?_,?_⟩,?_⟩⟩⟩
  ·rw[if_pos (uh hc (.inl (eqB.1 e)))]at r;exact r
  ·rw[if_pos (uh hc (.inr (eqB.1 e)))]at r;exact r
  ·rw[ug h0 (by omega)];(try dsimp only);omega
  ·rw[ug h0 (by omega)];(try dsimp only);omega
  ·rw[ug h0 (by omega),show(i+1).toNat=i.toNat+1 by omega]
   refine hN.succ hc ?_
   have m1:c≠46:=fun e=>n1 (eqB.2 e)
   have m2:c≠101:=fun e=>n2 (eqB.2 e)
   simp[m1,m2]
  ·rw[ug h0 (by omega)];(try dsimp only);omega
 ·have:(⟨#[46,48]⟩:ByteArray).size=2:=rfl
  omega
 ·have e:i.toNat=w.data.toList.length:=by omega
  rw[e]at hN
  rw[if_neg (by rw[EN hN];decide)]at r;exact r
open Go.Proofs
def txM (x:Nat):List UInt8:=(jr x).data.toList
def TxB (gl:GL) (tx:Nat->List UInt8) (x:Nat):Prop:=uV gl tx x/\∀h:ab,Gl gl h->af Tryz.prog 70 #[.float .f64 x] h fun v h'=>v= .string (G.mkB (tx x))/\Fr [] h h'
theorem uW (x:Nat) (hx:x<18446744073709551616):(txM x).length<=100:=by
 unfold txM jr
 split
 ·decide
 split
 ·decide
 split
 ·decide
 rename_i a b c
 have hf:=sq (by simpa using a) (by simpa using b) (by simpa using c)
 have h1:(strOf (dJ x)).data.toList.length<=95:=(jU hf).1
 split
 ·omega
 ·have e:(strOf (dJ x)++(⟨#[46,48]⟩:ByteArray)).data.toList.length=(strOf (dJ x)).data.toList.length+2:=by simp
  omega
theorem rX {gl:GL} {x:Nat} (hx:x<18446744073709551616):TxB gl txM x:=by
 have e:G.mkB (txM x)=jr x:=pY _
 refine⟨⟨fun h g=>?_,uW x hx⟩,fun h g=>?_⟩
 ·exact(IG (R:=fun s=>s=jr x) hx rfl h gl (Hp.view (c:=Ck.glob gl) g rfl (Hp.nil _) (fun _ _ hd=>by simp at hd))).mono fun v h' ⟨s,Y,e1,q⟩=>⟨by rw[e1,q,e],Y.fr⟩
 ·exact(II (R:=fun s=>s=jr x) hx rfl h gl (Hp.view (c:=Ck.glob gl) g rfl (Hp.nil _) (fun _ _ hd=>by simp at hd))).mono fun v h' ⟨s,Y,e1,q⟩=>⟨by rw[e1,q,e],Y.fr⟩
def pD (d:Bool):List UInt8:=if d then [103,114,97,112,104,32,91,10,32,32,100,105,114,101,99,116,101,100,32,49,10]else [103,114,97,112,104,32,91,10,32,32,100,105,114,101,99,116,101,100,32,48,10]
def nd1 (v:Nat):List UInt8:=[32,32,110,111,100,101,32,91,10,32,32,32,32,105,100,32]++G.dec v++[10]
def nd2 :Option ByteArray->List UInt8
 | none=>[]
 | some s=>[32,32,32,32,108,97,98,101,108,32]++G.quo s.data.toList++[10]
def nd3 (tx:Nat->List UInt8):Option (Nat × Nat)->List UInt8
 | none=>[]
 | some p=>[32,32,32,32,103,114,97,112,104,105,99,115,32,91,10,32,32,32,32,32,32,120,32]++tx p.1++[10,32,32,32,32,32,32,121,32]++tx p.2++[10,32,32,32,32,93,10]
theorem Dy (tx:Nat->List UInt8) (lab:Option ByteArray) (sp:Option (Nat × Nat)) (v:Nat):G.aw (G.kq tx lab sp v)=nd1 v++(nd2 lab++(nd3 tx sp++[32,32,93,10])):=by
 cases lab<;>cases sp<;>simp[G.aw,G.kq,G.nB,G.opn,G.kv,G.cls,G.ind,nd1,nd2,nd3,G.eR,G.kId,G.eU,G.bh,G.kX,G.kY,List.replicate]
def ed1 (a b:Nat):List UInt8:=[32,32,101,100,103,101,32,91,10,32,32,32,32,115,111,117,114,99,101,32]++G.dec a++[10,32,32,32,32,116,97,114,103,101,116,32]++G.dec b++[10]
def ed2 (tx:Nat->List UInt8):Option Nat->List UInt8
 | none=>[]
 | some x=>[32,32,32,32,119,101,105,103,104,116,32]++tx x++[10]
theorem Dz (tx:Nat->List UInt8) (w:Option Nat) (e:Nat × Nat):G.aw (G.nC tx w e)=ed1 e.1 e.2++(ed2 tx w++[32,32,93,10]):=by
 cases w<;>simp[G.aw,G.nC,G.opn,G.kv,G.cls,G.ind,ed1,ed2,G.dj,G.bd,G.bj,G.cr,List.replicate]
theorem Gb (tx:Nat->List UInt8) (D:G.Dc):G.wr tx D=pD D.dir++(G.aw (G.dq tx D D.n 0)++(G.aw (G.cQ tx D.edges D.weights)++[93,10])):=by
 unfold G.wr G.vU
 rw[G.bB,G.bB,G.bK,G.bK]
 cases D.dir<;>simp[G.aw,G.opn,G.kv,G.cls,G.ind,pD,G.eQ,G.cq,List.replicate]
theorem cZ (a:Array UInt8):(⟨a⟩:ByteArray).size=a.size:=rfl
theorem DA (a b:List UInt8) (r:List UInt8):((⟨⟨a⟩⟩:ByteArray)++G.mkB r)++(⟨⟨b⟩⟩:ByteArray)=G.mkB (a++r++b):=by
 apply ByteArray.ext;apply Array.ext';simp[G.mkB]
theorem Gc (a b c:List UInt8) (r s:List UInt8):((((⟨⟨a⟩⟩:ByteArray)++G.mkB r)++(⟨⟨b⟩⟩:ByteArray))++G.mkB s)++(⟨⟨c⟩⟩:ByteArray)=G.mkB (a++r++b++s++c):=by
 apply ByteArray.ext;apply Array.ext';simp[G.mkB]
section
variable {gl:GL} {h:ab} {tx:Nat->List UInt8} {aE aL aS aW:Option Addr} {nE cE nL cL nS cS nW cW:Nat} {n:Int} {es:Es} {ls:List ByteArray} {ss:List (Nat × Nat)} {ws:List Nat} {dir:Bool}
set_option maxHeartbeats 4000000 in
theorem I8 (Hm:Hp h (dV gl aE nE cE es aL nL cL ls aS nS cS ss aW nW cW ws)) (hll:ls.length<=9223372036854775806) (ht:∀p∈ss,TxB gl tx p.1/\TxB gl tx p.2) (htw:∀x∈ws,TxB gl tx x):
  af Tryz.prog 27 #[.agg #[.int .i64 n,.slice aE nE cE,.bool dir,.slice aL nL cL,.slice aS nS cS,.slice aW nW cW]] h fun w h'=>w= .tuple #[.string (G.mkB (wrV tx n dir es ls ss ws).1),.int .i64 (wrV tx n dir es ls ss ws).2]/\Fr [] h h':=by
 apply AY
 unfold S27
 intro h1
 have Q1:Sq h (dV gl aE nE cE es aL nL cL ls aS nS cS ss aW nW cW ws) h1 (dB gl aE nE cE es aL nL cL ls aS nS cS ss aW nW cW ws h.size):=⟨(Sy.start Hm).junk _,fun x hx=>.inl (by simpa[rds,dB,Ck.junk]using hx)⟩
 clear_value h1
 refine ai (R:=fun v h'=>v= .bool (cU n es ls ss ws)/\Fr [] h1 h') [] ?_ (by simp) (fun _ _ r=>r.2) ?_
 ·refine(CN (n:=n) (es:=es) (dr:=dir) (ls:=ls) (ss:=ss) (ws:=ws) (R:=fun r=>r=cU n es ls ss ws) hll rfl h1 aE nE cE aL nL cL aS nS cS aW nW cW (Q1.pick [1,2,3,4] rfl).hp).mono ?_
  rintro v h' ⟨r,Y,rfl,rfl⟩
  exact⟨rfl,Y.fr⟩
 rintro v h2 ⟨rfl,f2⟩
 have Q2:=Q1.gr f2
 refine⟨_,rfl,aK (fun q=>⟨?_,Q2.fr⟩) fun q=>?_⟩
 ·unfold wrV;rw[if_pos q];rfl
 have hm:=q
 unfold cU at hm
 simp only[Bool.and_eq_true]at hm
 obtain⟨m1,m2,m3,m4,m5⟩:=hm
 obtain⟨g0,g1,gm,ge⟩:=F6 m1
 obtain⟨N,rfl⟩:∃N:Nat,n=(N:Int):=⟨n.toNat,by omega⟩
 have hN:N<=1024:=by omega
 have non:∀{a b:Nat},bf (a:Int) (b:Int)=true->a=0\/a=b:=fun{a b} h=>by unfold bf at h;grind
 have hL:=non m2
 have hS:=non m3
 have hW:=non m4
 have lE:=Q2.sy.lenV 1 rfl
 have lL:=Q2.sy.lenV 2 rfl
 have lS:=Q2.sy.lenV 3 rfl
 have lW:=Q2.sy.lenV 4 rfl
 have hlp:∀s∈ls,s.size<=256:=fun s hs=>by
  have:=List.all_eq_true.1 m5 s hs
  unfold iH at this
  grind
 obtain⟨D,hD⟩:∃D,D=wZ (N:Int) dir es ls ss ws:=⟨_,rfl⟩
 have dN:D.n=N:=by rw[hD];exact Int.toNat_natCast N
 have dL:D.labels=ls:=by rw[hD];rfl
 have dS:D.spots=ss:=by rw[hD];rfl
 have dW:D.weights=ws:=by rw[hD];rfl
 have dE:D.edges=es.map fun e=>(e.1.toNat,e.2.toNat):=by rw[hD];rfl
 have dd:D.dir=dir:=by rw[hD];rfl
 obtain⟨C,hC⟩:∃C,C=dV gl aE nE cE es aL nL cL ls aS nS cS ss aW nW cW ws:=⟨_,rfl⟩
 rw[<-hC]at Q2
 have lit:∀(b:Bool) {h':ab} {vs:Array Value},Sq h C h' (dB gl aE nE cE es aL nL cL ls aS nS cS ss aW nW cW ws h.size)->((eK .u8).l (bI (pD b))).toArray=vs->
   Sq h C (h'.push (.cells vs 5)) (sT (some ⟨h'.size,0,none⟩) 21 21 (pD b)++dB gl aE nE cE es aL nL cL ls aS nS cS ss aW nW cW ws h.size):=by
  intro b h' vs Q hv
  have Y:=(Q.sy.litS (E:=eK .u8) (ty:=5) (bI (pD b)) hv (by cases b<;>decide)).pick [6,0,1,2,3,4,5] rfl
  have e21:(bI (pD b)).length=21:=by cases b<;>rfl
  rw[e21]at Y
  exact⟨Y,fun x hx=>Q.ri x (by simpa[rds,sT,Ck.sl,dB,dV,pk,Ck.junk,Ck.vw,Ck.glob]using hx)⟩
 obtain⟨B,hB⟩:∃B,B=dB gl aE nE cE es aL nL cL ls aS nS cS ss aW nW cW ws h.size:=⟨_,rfl⟩
 rw[<-hB]at Q2 lit
 intro h3
 have Q3:=lit false (vs:=#[.int .u8 103,.int .u8 114,.int .u8 97,.int .u8 112,.int .u8 104,.int .u8 32,.int .u8 91,.int .u8 10,.int .u8 32,.int .u8 32,.int .u8 100,.int .u8 105,.int .u8 114,.int .u8 101,.int .u8 99,.int .u8 116,.int .u8 101,.int .u8 100,.int .u8 32,.int .u8 48,.int .u8 10]) Q2 rfl
 change Sq h C h3 _ at Q3
 have hd:Hd [h.size] B:=by
  intro x hx
  obtain rfl:x=h.size:=by simpa using hx
  exact⟨5,by rw[hB];rfl⟩
 have hlt:=(hd.apart (D:=[]) Q2 h.size (by simp)).1
 refine⟨h2.size,0,rfl,by omega,_,_,cw,?_⟩
 intro h4
 have Q4:Sq h C h4 (sT (some ⟨h2.size,0,none⟩) 21 21 (pD false)++B):=Sq.mark Q3
 have s4:h2.size<h4.size:=by grind [dY]
 clear_value h4 h3
 clear Q3
 have Q4':Sq h C h4 B:=by
  have:=Q4.pick [1,2,3,4,5,6] (by rw[hB];rfl)
  rw[hB]at this ⊢
  exact this
 refine⟨fun lz h'=>∃A,lz=[.slice A 21 21]/\Sq h C h' (sT A 21 21 (pD dir)++B),aV (fun e=>?_) fun e=>⟨_,rfl,by grind⟩,?_⟩
 ·intro h5
  have Q5:=lit true (vs:=#[.int .u8 103,.int .u8 114,.int .u8 97,.int .u8 112,.int .u8 104,.int .u8 32,.int .u8 91,.int .u8 10,.int .u8 32,.int .u8 32,.int .u8 100,.int .u8 105,.int .u8 114,.int .u8 101,.int .u8 99,.int .u8 116,.int .u8 101,.int .u8 100,.int .u8 32,.int .u8 49,.int .u8 10]) Q4' rfl
  change Sq h C h5 _ at Q5
  refine⟨h4.size,0,rfl,by omega,_,_,cw,?_⟩
  intro h6
  exact⟨_,rfl,by rw[e];exact Sq.mark Q5⟩
 rintro bA bL bC h7 ⟨A,hlz,Q7⟩
 simp only[List.cons.injEq,Value.slice.injEq,and_true]at hlz
 obtain⟨rfl,rfl,rfl⟩:=hlz
 clear Q4 Q4'
 obtain⟨T,hT⟩:∃T,T=G.aw (G.cQ tx D.edges D.weights)++[93,10]:=⟨_,rfl⟩
 have eW:G.wr tx D=pD dir++(G.aw (G.dq tx D N 0)++T):=by rw[Gb,dd,dN,hT]
 refine⟨fun lz h'=>∃(v:Nat) (A:Option Addr) (m c:Nat) (l:List UInt8),[.slice A m c,.int .i64 (v:Int)]=lz/\v<=N/\Sq h C h' (sT A m c l++B)/\l++(G.aw (G.dq tx D (N-v) v)++T)=G.wr tx D/\m<=100+2000*v,
  fun lz _=>match lz with | [_,.int _ i]=>((N:Int)-i).toNat | _=>0,⟨0,bA,21,21,pD dir,rfl,by omega,Q7,eW.symm,by omega⟩,?_⟩
 rintro bA bL bC i h9 ⟨v,A,m,c,l,hlz,hv,Q9,hl,hm⟩
 simp only[List.cons.injEq,Value.slice.injEq,Value.int.injEq,true_and,and_true]at hlz
 obtain⟨⟨rfl,rfl,rfl⟩,rfl⟩:=hlz
 have k2:∀{A:Option Addr} {m c:Nat} {l:List UInt8},(sT A m c l++B)[2]? =some (Ck.vw eP aE nE cE es):=by intros;rw[hB];rfl
 have k3:∀{A:Option Addr} {m c:Nat} {l:List UInt8},(sT A m c l++B)[3]? =some (Ck.vw eS aL nL cL ls):=by intros;rw[hB];rfl
 have k4:∀{A:Option Addr} {m c:Nat} {l:List UInt8},(sT A m c l++B)[4]? =some (Ck.vw eFF aS nS cS ss):=by intros;rw[hB];rfl
 have k5:∀{A:Option Addr} {m c:Nat} {l:List UInt8},(sT A m c l++B)[5]? =some (Ck.vw eF aW nW cW ws):=by intros;rw[hB];rfl
 have gG:=fun{A' n' c' l' h'} (Q:Sq h C h' (sT A' n' c' l'++B))=>(Q.sy.ok (k:=1) (c:=Ck.glob gl) (by rw[hB];rfl):Gl gl h')
 have apV:∀{A':Option Addr} {n' c':Nat} {l':List UInt8} {h':ab},Sq h C h' (sT A' n' c' l'++B)->∀{p:Nat},p∈gE aS nS->p∉am A':=fun{_ _ _ _ _} Q {p} hp hq=>(Q.sy.hp.ap 0 4 _ _ (by decide) rfl (by rw[hB];rfl) p hq).2 hp
 have apE:∀{A':Option Addr} {n' c':Nat} {l':List UInt8} {h':ab},Sq h C h' (sT A' n' c' l'++B)->∀{p:Nat},p∈gE aE nE->p∉am A':=fun{_ _ _ _ _} Q {p} hp hq=>(Q.sy.hp.ap 0 2 _ _ (by decide) rfl (by rw[hB];rfl) p hq).2 hp
 refine ag (fun hlt=>?_) fun hlt=>?_
 ·have hvN:v<N:=by omega
  have lD:=fU (n:=v) (by omega)
  refine ai (R:=fun w h'=>w= .string (G.mkB (G.dec v))/\Fr [] h9 h') [] ?_ (by simp) (fun _ _ r=>r.2) ?_
  ·exact(CP v (by omega) (R:=fun s=>s.data.toList=G.dec v) (fun s hs=>hs) h9 (Hp.nil _)).mono fun w h' ⟨s,Y,e,q⟩=>⟨by rw[e,<-q,pY],Y.fr⟩
  rintro w h10 ⟨rfl,f10⟩
  have Q10:=Q9.gr f10
  refine⟨_,rfl,?_,?_,?_⟩
  ·grind [aP,cZ,List.size_toArray,List.length_cons,List.length_nil]
  ·grind [aP,cZ,List.size_toArray,List.length_cons,List.length_nil]
  rw[DA,show([32,32,110,111,100,101,32,91,10,32,32,32,32,105,100,32]++G.dec v++[10]:List UInt8)=nd1 v from rfl]
  have l1:(nd1 v).length=17+(G.dec v).length:=by simp[nd1];omega
  refine qe Q10 hd (by rw[aP];omega) fun A1 c1 h11 Q11 f11=>?_
  rw[jQ,aP]at Q11
  rw[aP]
  refine⟨fun lz h'=>∃A c m',lz=[.slice A m' c]/\m'<=m+1600/\Sq h C h' (sT A m' c (l++nd1 v++nd2 ls[v]?)++B),ag (fun hp=>?_) fun hp=>⟨A1,c1,_,rfl,by omega,?_⟩,?_⟩
  ·have hx:ls[v]? =some ls[v]:=List.getElem?_eq_getElem (by omega)
   generalize ls[v]=x at hx
   have hxs:=hlp x (List.mem_of_getElem? hx)
   obtain⟨b3,o,ea,_⟩:=Q11.sy.atV 3 k3 (i:=(v:Int)) (by omega) (by omega)
   refine⟨b3,o,ea,by omega,by omega,x,Q11.sy.cellV 3 k3 ea (i:=v) (t:=0) hx rfl,?_⟩
   refine ai (R:=fun w h'=>w= .string (G.mkB (G.quo x.data.toList))/\Fr [] h11 h') [] ?_ (by simp) (fun _ _ r=>r.2) ?_
   ·exact(FZ (s:=x) (R:=fun s=>s=G.mkB (G.quo x.data.toList)) (by omega) rfl h11 (Hp.nil _)).mono fun w h' ⟨s,Y,e,q⟩=>⟨by rw[e,q],Y.fr⟩
   rintro w h12 ⟨rfl,f12⟩
   have lq:=oT x.data.toList
   have hxl:x.data.toList.length=x.size:=rfl
   refine⟨_,rfl,?_,?_,?_⟩
   ·grind [aP,cZ,List.size_toArray,List.length_cons,List.length_nil]
   ·grind [aP,cZ,List.size_toArray,List.length_cons,List.length_nil]
   rw[DA,show([32,32,32,32,108,97,98,101,108,32]++G.quo x.data.toList++[10]:List UInt8)=nd2 (some x)from rfl]
   have l2:(nd2 (some x)).length=11+(G.quo x.data.toList).length:=by simp[nd2];omega
   refine qe (Q11.gr f12) hd (by rw[aP];omega) fun A2 c2 h13 Q13 f13=>?_
   rw[jQ,aP]at Q13
   rw[aP]
   exact⟨A2,c2,_,rfl,by omega,by rw[hx];exact Q13⟩
  ·have hx:ls[v]? =none:=List.getElem?_eq_none (by omega)
   rw[hx];show Sq h C h11 (sT A1 _ c1 (l++nd1 v++[])++B)
   rw[List.append_nil];exact Q11
  rintro bA bL bC h14 ⟨A2,c2,m2',hlz,hm2,Q14⟩
  simp only[List.cons.injEq,Value.slice.injEq,and_true]at hlz
  obtain⟨rfl,rfl,rfl⟩:=hlz
  refine⟨fun lz h'=>∃A c m',lz=[.slice A m' c]/\m'<=m+1900/\Sq h C h' (sT A m' c (l++nd1 v++nd2 ls[v]? ++nd3 tx ss[v]?)++B),ag (fun hp=>?_) fun hp=>⟨bA,bC,_,rfl,by omega,?_⟩,?_⟩
  ·have hx:ss[v]? =some ss[v]:=List.getElem?_eq_getElem (by omega)
   generalize ss[v]=x at hx
   obtain⟨⟨⟨_,t1⟩,u1⟩,⟨_,t2⟩,u2⟩:=ht x (List.mem_of_getElem? hx)
   obtain⟨b4,o2,ea,_⟩:=Q14.sy.atV 4 k4 (i:=(v:Int)) (by omega) (by omega)
   have hpr:b4∈gE aS nS:=tp ea (by omega)
   refine⟨am bA,fun x hx w=>(hd.apart Q14 x hx).2 (by simpa[ao,sT,Ck.sl]using w),b4,o2,ea,by omega,by omega,apV Q14 hpr,x.1,Q14.sy.cellV 4 k4 ea (i:=v) (t:=0) hx rfl,b4,o2,ea,by omega,by omega,apV Q14 hpr,x.2,Q14.sy.cellV 4 k4 ea (i:=v) (t:=1) hx rfl,?_⟩
   refine ai [] (u1 _ (gG Q14)) (by simp) (fun _ _ r=>r.2) ?_
   rintro w h15 ⟨rfl,f15⟩
   have Q15:=Q14.gr f15
   refine⟨_,rfl,f15.mono (by simp),?_,?_,?_⟩
   ·simp only[ByteArray.size_append,aP,cZ,List.size_toArray,List.length_cons,List.length_nil];omega
   ·simp only[ByteArray.size_append,aP,cZ,List.size_toArray,List.length_cons,List.length_nil];omega
   refine ai [] (u2 _ (gG Q15)) (by simp) (fun _ _ r=>r.2) ?_
   rintro w h16 ⟨rfl,f16⟩
   have Q16:=Q15.gr f16
   refine⟨_,rfl,(f15.mono (by simp)).trans (f16.mono (by simp)),?_,?_,?_⟩
   ·simp only[ByteArray.size_append,aP,cZ,List.size_toArray,List.length_cons,List.length_nil];omega
   ·simp only[ByteArray.size_append,aP,cZ,List.size_toArray,List.length_cons,List.length_nil];omega
   rw[Gc,show([32,32,32,32,103,114,97,112,104,105,99,115,32,91,10,32,32,32,32,32,32,120,32]++tx x.1++[10,32,32,32,32,32,32,121,32]++tx x.2++[10,32,32,32,32,93,10]:List UInt8)=nd3 tx (some x)from rfl]
   have l3:(nd3 tx (some x)).length=39+(tx x.1).length+(tx x.2).length:=by simp[nd3];omega
   refine qe Q16 hd (by rw[aP];omega) fun A3 c3 h17 Q17 f17=>?_
   rw[jQ,aP]at Q17
   rw[aP]
   exact⟨((f15.mono (by simp)).trans (f16.mono (by simp))).trans f17,A3,c3,_,rfl,by omega,by rw[hx];exact Q17⟩
  ·have hx:ss[v]? =none:=List.getElem?_eq_none (by omega)
   rw[hx];show Sq h C h14 (sT bA _ bC (_++[])++B)
   grind
  rintro bA bL bC h18 ⟨A3,c3,m3',hlz,hm3,Q18⟩
  simp only[List.cons.injEq,Value.slice.injEq,and_true]at hlz
  obtain⟨rfl,rfl,rfl⟩:=hlz
  refine qe (s:=⟨#[32,32,93,10]⟩) Q18 hd (by show _+4<=_;omega) fun A4 c4 h19 Q19 f19=>?_
  have hw:i64.wrap ((v:Int)+1)=((v+1:Nat):Int):=by rw[wr (by omega) (by omega)];omega
  rw[hw]
  refine⟨⟨v+1,A4,_,c4,_,rfl,by omega,Q19,?_,?_⟩,by dsimp only;omega⟩
  ·rw[<-hl,show N-v=(N-(v+1))+1 by omega,G.dq,G.bK,Dy,dL,dS]
   grind
  ·show _+4<=_;omega
 ·have hvN:v=N:=by omega
  subst hvN
  rw[show v-v=0 by omega,G.dq,show G.aw []=[]from rfl,List.nil_append,hT]at hl
  refine⟨fun lz h'=>∃(j:Nat) (A:Option Addr) (m c:Nat) (l:List UInt8),[.slice A m c,.int .i64 (j:Int)]=lz/\j<=es.length/\Sq h C h' (sT A m c l++B)/\l++(G.aw (G.cQ tx (D.edges.drop j) (D.weights.drop j))++[93,10])=G.wr tx D/\m<=3000000+200*j,
   fun lz _=>match lz with | [_,.int _ i]=>((es.length:Int)-i).toNat | _=>0,⟨0,A,m,c,l,rfl,by omega,Q9,hl,by omega⟩,?_⟩
  rintro bA bL bC i h20 ⟨j,A,m,c,l,hlz,hj,Q20,hl,hm⟩
  simp only[List.cons.injEq,Value.slice.injEq,Value.int.injEq,true_and,and_true]at hlz
  obtain⟨⟨rfl,rfl,rfl⟩,rfl⟩:=hlz
  refine ag (fun hlt=>?_) fun hlt=>?_
  ·have hjl:j<es.length:=by omega
   have hx:es[j]? =some es[j]:=List.getElem?_eq_getElem hjl
   generalize es[j]=e at hx
   obtain⟨⟨z1,z2⟩,z3,z4⟩:=ge j e hx
   obtain⟨u1,hu1⟩:∃u:Nat,e.1=(u:Int):=⟨e.1.toNat,by omega⟩
   obtain⟨u2,hu2⟩:∃u:Nat,e.2=(u:Int):=⟨e.2.toNat,by omega⟩
   have d1:=fU (n:=u1) (by omega)
   have d2:=fU (n:=u2) (by omega)
   have dig:∀{h':ab} (u:Nat),u<=1024->af Tryz.prog 38 #[.int .i64 (u:Int)] h' fun w h2=>w= .string (G.mkB (G.dec u))/\Fr [] h' h2:=fun{h'} u hu=>
    (CP u (by omega) (R:=fun s=>s.data.toList=G.dec u) (fun s hs=>hs) h' (Hp.nil _)).mono fun w h' ⟨s,Y,e,q⟩=>⟨by rw[e,<-q,pY],Y.fr⟩
   obtain⟨p,o,ea,_⟩:=Q20.sy.atV 2 k2 (i:=(j:Int)) (by omega) (by omega)
   have hpr:p∈gE aE nE:=tp ea (by omega)
   refine⟨am A,fun x hx w=>(hd.apart Q20 x hx).2 (by simpa[ao,sT,Ck.sl]using w),p,o,ea,by omega,by omega,apE Q20 hpr,e.1,Q20.sy.cellV 2 k2 ea (i:=j) (t:=0) hx rfl,p,o,ea,by omega,by omega,apE Q20 hpr,e.2,Q20.sy.cellV 2 k2 ea (i:=j) (t:=1) hx rfl,?_⟩
   rw[hu1,hu2]
   refine ai [] (dig u1 (by omega)) (by simp) (fun _ _ r=>r.2) ?_
   rintro w h21 ⟨rfl,f21⟩
   have Q21:=Q20.gr f21
   refine⟨_,rfl,f21.mono (by simp),?_,?_,?_⟩
   ·simp only[ByteArray.size_append,aP,cZ,List.size_toArray,List.length_cons,List.length_nil];omega
   ·simp only[ByteArray.size_append,aP,cZ,List.size_toArray,List.length_cons,List.length_nil];omega
   refine ai [] (dig u2 (by omega)) (by simp) (fun _ _ r=>r.2) ?_
   rintro w h22 ⟨rfl,f22⟩
   have Q22:=Q21.gr f22
   refine⟨_,rfl,(f21.mono (by simp)).trans (f22.mono (by simp)),?_,?_,?_⟩
   ·simp only[ByteArray.size_append,aP,cZ,List.size_toArray,List.length_cons,List.length_nil];omega
   ·simp only[ByteArray.size_append,aP,cZ,List.size_toArray,List.length_cons,List.length_nil];omega
   rw[Gc,show([32,32,101,100,103,101,32,91,10,32,32,32,32,115,111,117,114,99,101,32]++G.dec u1++[10,32,32,32,32,116,97,114,103,101,116,32]++G.dec u2++[10]:List UInt8)=ed1 u1 u2 from rfl]
   have l3:(ed1 u1 u2).length=33+(G.dec u1).length+(G.dec u2).length:=by simp[ed1];omega
   refine qe Q22 hd (by rw[aP];omega) fun A3 c3 h23 Q23 f23=>?_
   rw[jQ,aP]at Q23
   rw[aP]
   refine⟨((f21.mono (by simp)).trans (f22.mono (by simp))).trans f23,?_⟩
   refine⟨fun lz h'=>∃A c m',lz=[.slice A m' c]/\m'<=m+180/\Sq h C h' (sT A m' c (l++ed1 u1 u2++ed2 tx ws[j]?)++B),ag (fun hp=>?_) fun hp=>⟨A3,c3,_,rfl,by omega,?_⟩,?_⟩
   ·have hx:ws[j]? =some ws[j]:=List.getElem?_eq_getElem (by omega)
    generalize ws[j]=x at hx
    obtain⟨⟨_,t1⟩,v1⟩:=htw x (List.mem_of_getElem? hx)
    obtain⟨b8,o6,ea6,_⟩:=Q23.sy.atV 5 k5 (i:=(j:Int)) (by omega) (by omega)
    refine⟨b8,o6,ea6,by omega,by omega,x,Q23.sy.cellV 5 k5 ea6 (i:=j) (t:=0) hx rfl,?_⟩
    refine ai [] (v1 _ (gG Q23)) (by simp) (fun _ _ r=>r.2) ?_
    rintro w h24 ⟨rfl,f24⟩
    refine⟨_,rfl,?_,?_,?_⟩
    ·simp only[ByteArray.size_append,aP,cZ,List.size_toArray,List.length_cons,List.length_nil];omega
    ·simp only[ByteArray.size_append,aP,cZ,List.size_toArray,List.length_cons,List.length_nil];omega
    rw[DA,show([32,32,32,32,119,101,105,103,104,116,32]++tx x++[10]:List UInt8)=ed2 tx (some x)from rfl]
    have l4:(ed2 tx (some x)).length=12+(tx x).length:=by simp[ed2];omega
    refine qe (Q23.gr f24) hd (by rw[aP];omega) fun A4 c4 h25 Q25 f25=>?_
    rw[jQ,aP]at Q25
    rw[aP]
    exact⟨A4,c4,_,rfl,by omega,by rw[hx];exact Q25⟩
   ·have hx:ws[j]? =none:=List.getElem?_eq_none (by omega)
    rw[hx];show Sq h C h23 (sT A3 _ c3 (l++ed1 u1 u2++[])++B)
    rw[List.append_nil];exact Q23
   rintro bA bL bC h26 ⟨A4,c4,m4',hlz,hm4,Q26⟩
   simp only[List.cons.injEq,Value.slice.injEq,and_true]at hlz
   obtain⟨rfl,rfl,rfl⟩:=hlz
   refine qe (s:=⟨#[32,32,93,10]⟩) Q26 hd (by show _+4<=_;omega) fun A5 c5 h27 Q27 f27=>?_
   have hw:i64.wrap ((j:Int)+1)=((j+1:Nat):Int):=by rw[wr (by omega) (by omega)];omega
   rw[hw]
   have hxD:D.edges[j]? =some (u1,u2):=by rw[dE,List.getElem?_map,hx];simp[hu1,hu2]
   refine⟨⟨j+1,A5,_,c5,_,rfl,by omega,Q27,?_,?_⟩,by dsimp only;omega⟩
   ·rw[<-hl,ku tx hxD,G.bK,Dz,dW]
    grind
   ·show _+4<=_;omega
  ·have hjE:j=es.length:=by omega
   have he:D.edges.drop j=[]:=List.drop_eq_nil_of_le (by grind)
   rw[he,G.cQ,show G.aw []=[]from rfl,List.nil_append]at hl
   refine qe (s:=⟨#[93,10]⟩) Q20 hd (by show _+2<=_;omega) fun A5 c5 h28 Q28 f28=>?_
   change Sq h C h28 (sT A5 (m+2) c5 (l++[93,10])++B)at Q28
   rw[hl]at Q28
   have F28:Fr [] h h28:=by have:=Q28.fr;rwa[show ao C=[] by rw[hC];rfl]at this
   have lT:=Q28.sy.lenS 0 rfl
   rw[lF]at lT
   have eD:wrV tx (v:Int) dir es ls ss ws=if 262144<(G.wr tx D).length then([],23)else(G.wr tx D,0):=by
    unfold wrV;rw[if_neg (by rw[q];decide),<-hD]
   refine ag (fun hbig=>⟨?_,F28⟩) fun hbig=>⟨bI (G.wr tx D),ja (Q28.sy.readsS 0 rfl),?_,F28⟩
   ·have:262144<(G.wr tx D).length:=by rw[<-lT];exact Int.ofNat_lt.1 hbig
    rw[eD,if_pos this];rfl
   ·have:¬ 262144<(G.wr tx D).length:=by rw[<-lT];exact fun q=>hbig (Int.ofNat_lt.2 q)
    rw[eD,if_neg this,qd]
end
section
variable {gl:GL} {h:ab} {a b:MD} {s t:MDs}
set_option maxHeartbeats 2000000 in
theorem wU (Hm:Hp h (Ck.glob gl::(a.vw s++b.vw t))) (hls:∀x∈a.ls,x.size<=9223372036854775807) (hss:∀p∈a.ss,p.1<18446744073709551616/\p.2<18446744073709551616) (hws:∀x∈a.ws,x<18446744073709551616):
  af Tryz.prog 5 #[a.v s,b.v t] h fun v h'=>v= .bool true/\Fr [] h h':=by
 apply DF
 unfold S5
 intro h1 h2
 have Y2:Sy h [] h2 _:=(Sy.startM Hm rfl).gr ((Fr.push h _).pushr _)
 clear_value h2
 refine ai [] (hd1 (Y2.ok (k:=0) (c:=Ck.glob gl) rfl)) (by simp) (fun _ _ r=>r.2) ?_
 rintro v h3 ⟨rfl,f3⟩
 have Y3:=Y2.gr f3
 refine⟨_,rfl,aM rfl ?_⟩
 refine ai (R:=fun v h'=>(∃r,v= .bool r/\(r=true->a.es.length<=300/\a.ls.length<=2000/\a.ss.length<=2000/\a.ws.length<=4000))/\Fr [] h3 h') [] ?_ (by simp) (fun _ _ r=>r.2) ?_
 ·exact(CM (n:=a.n) (es:=a.es) (dr:=a.dir) (ls:=a.ls) (ss:=a.ss) (ws:=a.ws) (R:=fun r=>r=true->a.es.length<=300/\a.ls.length<=2000/\a.ss.length<=2000/\a.ws.length<=4000) (fun _ hb=>hb) h3 _ _ _ _ _ _ _ _ _ _ _ _ (Y3.pick [1,2,3,4] rfl).hp).mono fun v h' ⟨r,Y,e,q⟩=>⟨⟨r,e,q⟩,Y.fr⟩
 rintro v h4 ⟨⟨r,rfl,ha⟩,f4⟩
 have Y4:=Y3.gr f4
 refine⟨_,rfl,aK (fun q=>⟨rfl,Y4.fr⟩) fun q=>?_⟩
 obtain⟨a1,a2,a3,a4⟩:=ha q
 refine ai (R:=fun v h'=>(∃r,v= .bool r)/\Fr [] h4 h') [] ?_ (by simp) (fun _ _ r=>r.2) ?_
 ·exact(CM (n:=b.n) (es:=b.es) (dr:=b.dir) (ls:=b.ls) (ss:=b.ss) (ws:=b.ws) (R:=fun r=>True) (fun _ _=>trivial) h4 _ _ _ _ _ _ _ _ _ _ _ _ (Y4.pick [5,6,7,8] rfl).hp).mono fun v h' ⟨r,Y,e,q⟩=>⟨⟨r,e⟩,Y.fr⟩
 rintro v h5 ⟨⟨r,rfl⟩,f5⟩
 have Y5:=Y4.gr f5
 refine⟨_,rfl,aK (fun q=>⟨rfl,Y5.fr⟩) fun q=>?_⟩
 obtain⟨c,hc⟩:∃c:MD,c=⟨a.n,a.dir,a.es,a.ls,a.ss.map fun p=>(bu p.1,bu p.2),a.ws.map bu⟩:=⟨_,rfl⟩
 refine ai (R:=fun v h'=>∃u:MDs,v=c.v u/\Sy h5 [] h' [Ck.sl eP 48 u.aE u.nE u.cE c.es,Ck.sl eS 9 u.aL u.nL u.cL c.ls,Ck.sl eFF 78 u.aS u.nS u.cS c.ss,Ck.sl eF 76 u.aW u.nW u.cW c.ws]) [] ?_ (by simp) (fun _ _ ⟨_,_,r⟩=>r.fr) ?_
 ·refine(FY (n:=a.n) (es:=a.es) (dr:=a.dir) (ls:=a.ls) (ss:=a.ss) (ws:=a.ws) (R:=fun n es dr ls ss ws=>n=c.n/\es=c.es/\dr=c.dir/\ls=c.ls/\ss=c.ss/\ws=c.ws) a1 a2 a3 a4 (by rw[hc];exact⟨rfl,rfl,rfl,rfl,rfl,rfl⟩) h5 _ _ _ _ _ _ _ _ _ _ _ _ (Y5.pick [1,2,3,4] rfl).hp).mono ?_
  rintro v h' ⟨n,eA,eL,eC,es,dr,lA,lL,lC,ls,sA,sL,sC,ss,wA,wL,wC,ws,Y,rfl,rfl,rfl,rfl,rfl,rfl,rfl⟩
  exact⟨⟨eA,eL,eC,lA,lL,lC,sA,sL,sC,wA,wL,wC⟩,rfl,Y⟩
 rintro v h6 ⟨u,rfl,Z6⟩
 have Y6:Sy h [] h6 (Ck.glob gl::(a.vw s++b.vw t)++c.vw u):=((((Y5.callV Z6 ⟨rfl,rfl,rfl,rfl,trivial⟩).turn 9 rfl To.slvw).turn 10 rfl To.slvw).turn 11 rfl To.slvw).turn 12 rfl To.slvw
 refine⟨c.n,u.aE,u.nE,u.cE,c.dir,u.aL,u.nL,u.cL,u.aS,u.nS,u.cS,u.aW,u.nW,u.cW,rfl,?_⟩
 intro h7 h8
 have f8:Fr [] h6 h8:=((((((Fr.push h6 _).hsetL (Nat.le_refl _)).hsetL (Nat.le_refl _)).hsetL (Nat.le_refl _)).hsetL (Nat.le_refl _)).hsetL (Nat.le_refl _)).hsetL (Nat.le_refl _)
 have Y8:=Y6.gr f8
 clear_value h8
 have ht:∀p∈a.ss,TxB gl txM p.1/\TxB gl txM p.2:=fun p hp=>⟨rX (hss p hp).1,rX (hss p hp).2⟩
 have htw:∀x∈a.ws,TxB gl txM x:=fun x hx=>rX (hws x hx)
 have dv:∀{h':ab},Sy h [] h' (pk (Ck.glob gl::(a.vw s++b.vw t)++c.vw u) [0,1,2,3,4])->Hp h' (dV gl s.aE s.nE s.cE a.es s.aL s.nL s.cL a.ls s.aS s.nS s.cS a.ss s.aW s.nW s.cW a.ws):=fun Y=>Y.hp
 refine ai [] (Gi (tx:=txM) (n:=a.n) (dir:=a.dir) (dv (Y8.pick [0,1,2,3,4] rfl)) hls (by omega) (fun p hp=>⟨(ht p hp).1.1,(ht p hp).2.1⟩) fun x hx=>(htw x hx).1) (by simp) (fun _ _ r=>r.2) ?_
 rintro v h9 ⟨rfl,f9⟩
 have Y9:=Y8.gr f9
 refine⟨_,_,rfl,?_⟩
 refine ai [] (I8 (tx:=txM) (n:=a.n) (dir:=a.dir) (dv (Y9.pick [0,1,2,3,4] rfl)) (by omega) ht htw) (by simp) (fun _ _ r=>r.2) ?_
 rintro v h10 ⟨rfl,f10⟩
 have Y10:=Y9.gr f10
 refine⟨_,_,rfl,?_⟩
 intro K
 refine aO (beq_self_eq_true _) (aO (beq_self_eq_true _) ?_)
 refine ai (R:=fun v h'=>v= .bool (cU a.n a.es a.ls a.ss a.ws)/\Fr [] h10 h') [] ?_ (by simp) (fun _ _ r=>r.2) ?_
 ·exact(wX (n:=a.n) (es:=a.es) (dr:=a.dir) (ls:=a.ls) (ss:=a.ss) (ws:=a.ws) (R:=fun r=>r=cU a.n a.es a.ls a.ss a.ws) hls (by omega) rfl h10 _ _ _ _ _ _ _ _ _ _ _ _ (Y10.pick [1,2,3,4] rfl).hp).mono fun v h' ⟨r,Y,e,q⟩=>⟨by rw[e,q],Y.fr⟩
 rintro v h11 ⟨rfl,f11⟩
 have Y11:=Y10.gr f11
 refine⟨_,rfl,f11,?_⟩
 refine ai (R:=fun v h'=>v= .bool (cU a.n a.es a.ls a.ss a.ws)/\Fr [] h11 h') [] ?_ (by simp) (fun _ _ r=>r.2) ?_
 ·exact(CN (n:=a.n) (es:=a.es) (dr:=a.dir) (ls:=a.ls) (ss:=a.ss) (ws:=a.ws) (R:=fun r=>r=cU a.n a.es a.ls a.ss a.ws) (by omega) rfl h11 _ _ _ _ _ _ _ _ _ _ _ _ (Y11.pick [1,2,3,4] rfl).hp).mono fun v h' ⟨r,Y,e,q⟩=>⟨by rw[e,q],Y.fr⟩
 rintro v h12 ⟨rfl,f12⟩
 have Y12:=Y11.gr f12
 refine⟨_,rfl,f11.trans f12,aO (beq_self_eq_true _) ?_⟩
 have la:a.es.length<=9223372036854775806/\a.ls.length<=9223372036854775806/\a.ss.length<=9223372036854775806/\a.ws.length<=9223372036854775806:=⟨by omega,by omega,by omega,by omega⟩
 refine ai [] (DC (a:=a) (b:=b) (s:=s) (t:=t) (Y12.pick [1,2,3,4,5,6,7,8] rfl).hp la) (by simp) (fun _ _ r=>r.2) ?_
 rintro v h13 ⟨rfl,f13⟩
 have Y13:=Y12.gr f13
 refine⟨_,rfl,(f11.trans f12).trans f13,?_⟩
 refine ai (R:=fun v h'=>v= .bool (cA a b)/\Fr [] h13 h') [] ?_ (by simp) (fun _ _ r=>r.2) ?_
 ·exact(CO (a:=a) (b:=b) (R:=fun r=>r=cA a b) la rfl h13 _ _ _ _ _ _ _ _ _ _ _ _ _ _ _ _ _ _ _ _ _ _ _ _ (Y13.pick [1,2,3,4,5,6,7,8] rfl).hp).mono fun v h' ⟨r,Y,e,q⟩=>⟨by rw[e,q],Y.fr⟩
 rintro v h14 ⟨rfl,f14⟩
 have Y14:=Y13.gr f14
 refine⟨_,rfl,((f11.trans f12).trans f13).trans f14,aO (beq_self_eq_true _) ?_⟩
 refine ai [] (DC (a:=a) (b:=c) (s:=s) (t:=u) (Y14.pick [1,2,3,4,9,10,11,12] rfl).hp la) (by simp) (fun _ _ r=>r.2) ?_
 rintro v h15 ⟨rfl,f15⟩
 have Y15:=Y14.gr f15
 refine⟨_,rfl,(((f11.trans f12).trans f13).trans f14).trans f15,?_⟩
 refine ai (R:=fun v h'=>v= .bool (cA a c)/\Fr [] h15 h') [] ?_ (by simp) (fun _ _ r=>r.2) ?_
 ·exact(CO (a:=a) (b:=c) (R:=fun r=>r=cA a c) la rfl h15 _ _ _ _ _ _ _ _ _ _ _ _ _ _ _ _ _ _ _ _ _ _ _ _ (Y15.pick [1,2,3,4,9,10,11,12] rfl).hp).mono fun v h' ⟨r,Y,e,q⟩=>⟨by rw[e,q],Y.fr⟩
 rintro v h16 ⟨rfl,f16⟩
 exact⟨_,rfl,((((f11.trans f12).trans f13).trans f14).trans f15).trans f16,by rw[beq_self_eq_true],Y15.fr.trans f16⟩
end
end Go.Proofs.YtlflalecmhgmjaaGreatDoor.N
