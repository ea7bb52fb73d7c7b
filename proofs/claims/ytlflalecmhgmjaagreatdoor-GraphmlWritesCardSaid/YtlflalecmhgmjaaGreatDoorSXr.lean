/- weigh's and the document's texts of a number are one function of it. Conditions: none. -/
import Derived.Test.YtlflalecmhgmjaaGreatDoorWTxt
import Derived.Test.YtlflalecmhgmjaaGreatDoorTGw
import Derived.Test.YtlflalecmhgmjaaGreatDoorTEdg
import Derived.Test.YtlflalecmhgmjaaGreatDoorMSpec
import Derived.Test.YtlflalecmhgmjaaGreatDoorSRw
import Derived.Test.YtlflalecmhgmjaaGreatDoorWEnv
import Derived.Test.YtlflalecmhgmjaaGreatDoorSWr
import Derived.Test.YtlflalecmhgmjaaGreatDoorTLib
set_option linter.unusedVariables false
set_option linter.unusedSimpArgs false
open Go.IntKind (i64 u64 u8 i32)
namespace Go.Proofs.YtlflalecmhgmjaaGreatDoor.N
open Go.X Go.Proofs.YtlflalecmhgmjaaGreatDoor
set_option maxRecDepth 100000
set_option maxHeartbeats 2000000
theorem wS {x:Nat} {R:Bool->Prop} (r:R (isInf x)):lP x 1 R:=by
 apply Af;unfold yZ
 refine⟨fun y=>y=x,cq (by decide) ⟨fun y=>y=x,cq (by decide) rfl,fun _ h=>h⟩,?_⟩
 rintro _ rfl;exact r
theorem wT {x:Nat} {R:Bool->Prop} (r:R (isInf (pY x))):lP x (-1) R:=by
 apply Af;unfold yZ
 refine⟨fun y=>y=pY x,cq (by decide) ⟨fun y=>y=pY x,bG (by decide) rfl,fun _ h=>h⟩,?_⟩
 rintro _ rfl;exact r
theorem re {x:Nat} (hn:isNaN x=false) (hp:isInf x=false) (hm:isInf (pY x)=false):ic x≠2047:=by
 intro h
 have hr:x % 2^63>=2047*2^52:=by
  have a1:(2:Nat)^63=9223372036854775808:=by decide
  have a2:2047*(2:Nat)^52=9218868437227405312:=by decide
  rw[a1,a2];unfold ic at h;omega
 have key:∀y:Nat,F64.read y= .infinity false->isInf y=true:=by
  intro y hy
  unfold isInf Ieee.Format.order
  rw[hy];decide
 have hnr:=wN x
 rcases rc hn with⟨s,e⟩ | ⟨s,m,i,e⟩
 ·cases s
  ·rw[key x e]at hp;cases hp
  ·rw[e]at hnr
   rw[key (pY x) hnr]at hm;cases hm
 ·unfold Ieee.Format.read at e
  simp only[wM,pX,Aj]at e
  rw[if_neg (by omega),if_neg (by omega)]at e
  split at e<;>cases e
theorem lZ (xs:List Int):(strOf xs).data.toList=xs.map fun n=>UInt8.ofNat n.toNat:=by
 have gen:∀(xs:List Int) (b:ByteArray),(xs.foldl (fun r n=>r.push (UInt8.ofNat n.toNat)) b).data.toList=b.data.toList++xs.map fun n=>UInt8.ofNat n.toNat:=by
  intro xs
  induction xs with
  | nil=>intro b;simp
  | cons x xs ih=>intro b;rw[List.foldl_cons,ih];simp[ByteArray.push]
 have:=gen xs ByteArray.empty
 unfold strOf
 rw[this];rfl
def okC (v:Int):Prop:=0<=v/\v<128
instance decC (v:Int):Decidable (okC v):=by unfold okC;infer_instance
theorem Bs (d n:Nat):∀v∈dgL d n,okC v:=by
 intro v hv
 simp only[dgL,List.mem_map,List.mem_range]at hv
 obtain⟨t,_,rfl⟩:=hv
 unfold okC;omega
theorem wU {x:Int} (h:x.natAbs<1000):(∀v∈gZ x,okC v)/\(gZ x).length<=4:=by
 unfold gZ
 simp only[]
 refine⟨fun v hv=>?_,?_⟩
 ·simp only[List.mem_cons]at hv
  rcases hv with rfl | hv
  ·unfold okC;split<;>decide
  ·split at hv
   ·simp at hv;unfold okC;omega
   ·split at hv
    ·simp at hv;unfold okC;omega
    ·simp at hv;unfold okC;omega
 ·simp only[List.length_cons]
  split
  ·simp
  ·split<;>simp
theorem sW {neg:Bool} {L:List Int} {dp:Int} (hL:∀v∈L,okC v) (hl:L.length<=20) (hd:(dp-1).natAbs<1000):(∀v∈fmtG neg L dp,okC v)/\(fmtG neg L dp).length<=95:=by
 have hs:(∀v∈gY neg,okC v)/\(gY neg).length<=1:=by cases neg<;>simp[gY,okC]
 have he:(∀v∈gZ (if L=[]then 0 else dp-1),okC v)/\(gZ (if L=[]then 0 else dp-1)).length<=4:=wU (by split<;>omega)
 have c48:okC 48:=by decide
 unfold fmtG
 have main:(∀v∈(if dp-1< -4\/6<=dp-1 then nV L dp else nZ L dp),okC v)/\(if dp-1< -4\/6<=dp-1 then nV L dp else nZ L dp).length<=90:=by
  split
  ·unfold nV
   refine⟨fun v hv=>?_,?_⟩
   ·simp only[List.mem_append]at hv
    rcases hv with((hv | hv) | hv) | hv
    ·split at hv
     ·simp at hv;subst hv;decide
     ·exact hL v (List.mem_of_mem_take hv)
    ·split at hv
     ·simp only[List.mem_cons]at hv
      rcases hv with rfl | hv
      ·decide
      ·exact hL v (List.mem_of_mem_drop hv)
     ·simp at hv
    ·simp at hv;subst hv;decide
    ·exact he.1 v hv
   ·have a1:(if L=[]then [48]else List.take 1 L).length<=1:=by split<;>simp<;>omega
    have a2:(if 1<L.length then 46::List.drop 1 L else []).length<=21:=by split<;>simp<;>omega
    have a3:=he.2
    simp only[List.length_append,List.length_cons,List.length_nil]
    omega
  ·rename_i hE
   unfold nZ
   refine⟨fun v hv=>?_,?_⟩
   ·simp only[List.mem_append]at hv
    rcases hv with hv | hv
    ·split at hv
     ·simp only[List.mem_append]at hv
      rcases hv with hv | hv
      ·exact hL v (List.mem_of_mem_take hv)
      ·rw[List.eq_of_mem_replicate hv];exact c48
     ·simp at hv;subst hv;decide
    ·split at hv
     ·simp only[List.mem_cons,List.mem_append]at hv
      rcases hv with rfl | hv | hv
      ·decide
      ·rw[List.eq_of_mem_replicate hv];exact c48
      ·exact hL v (List.mem_of_mem_drop hv)
     ·simp at hv
   ·have a1:(if 0<dp then List.take dp.toNat L++List.replicate (dp.toNat-L.length) 48 else [48]).length<=40:=by
     split
     ·simp only[List.length_append,List.length_take,List.length_replicate];omega
     ·simp
    have a2:(if dp<(L.length:Int)then 46::(List.replicate (-dp).toNat 48++List.drop dp.toNat L)else []).length<=50:=by
     split
     ·simp only[List.length_cons,List.length_append,List.length_drop,List.length_replicate];omega
     ·simp
    rw[List.length_append];omega
 refine⟨fun v hv=>?_,?_⟩
 ·rcases List.mem_append.1 hv with hv | hv
  ·exact hs.1 v hv
  ·exact main.1 v hv
 ·rw[List.length_append];have:=main.2;have:=hs.2;omega
theorem Bt (f:Nat):(∀v∈LOf f,okC v)/\(LOf f).length<=20:=by
 refine⟨fun v hv=>Bs _ _ v (List.mem_of_mem_take hv),?_⟩
 have:=rk (l8 (nq f) (kz f))
 unfold LOf
 rw[List.length_take,gN]
 show min _ (ndg (short (nq f) (kz f)).1)<=20
 omega
theorem zo {f:Nat} (hx:ic f≠2047):(∀v∈dT f,okC v)/\(dT f).length<=95:=by
 unfold dT
 split
 ·exact sW (by simp) (by simp) (by decide)
 ·rename_i h0
  obtain⟨h1,h2⟩:=Bt f
  have hp:=EL (An hx h0).1
  have hn:=rk (l8 (nq f) (kz f))
  have hn2:ndg (dOf f)<=20:=hn
  refine sW h1 h2 ?_
  unfold tQ pOf;omega
def jL (l:List UInt8):Bool:=Lib.containsAny l [46,101]
def jM (x:Nat):ByteArray:=
 if isNaN x then⟨#[78,97,78]⟩else if isInf x then⟨#[73,78,70]⟩else if isInf (pY x)then⟨#[45,73,78,70]⟩
 else if jL (strOf (dT x)).data.toList then strOf (dT x)else strOf (dT x)++⟨#[46,48]⟩
theorem kw {f:Nat} (hx:ic f≠2047):(strOf (dT f)).size<=95/\∀(j:Nat) b,(strOf (dT f)).data.toList[j]? =some b->b.toNat<128:=by
 obtain⟨h1,h2⟩:=zo hx
 have e:(strOf (dT f)).size=(dT f).length:=by
  show(strOf (dT f)).data.toList.length=_
  rw[lZ,List.length_map]
 refine⟨by omega,fun j b hb=>?_⟩
 rw[lZ,List.getElem?_map]at hb
 cases hv:(dT f)[j]? with
 | none=>rw[hv]at hb;cases hb
 | some v=>
  rw[hv]at hb
  simp only[Option.map_some,Option.some.injEq]at hb
  have:=h1 v (List.mem_of_getElem? hv)
  unfold okC at this
  subst hb
  rw[UInt8.toNat_ofNat']
  omega
theorem EE {x:Nat} {R:ByteArray->Prop} (hx:x<18446744073709551616) (r:R (jM x)):Ep x R:=by
 apply Fe;unfold T55
 rw[pB]
 unfold jM at r
 refine cm (fun h=>?_) fun h=>wS (cm (fun h2=>?_) fun h2=>wT (cm (fun h3=>?_) fun h3=>?_))
 ·rw[if_pos h]at r;exact r
 ·rw[if_neg (by rw[h];decide),if_pos h2]at r;exact r
 ·rw[if_neg (by rw[h];decide),if_neg (by rw[h2];decide),if_pos h3]at r;exact r
 rw[if_neg (by rw[h];decide),if_neg (by rw[h2];decide),if_neg (by rw[h3];decide)]at r
 have hf:=re h h2 h3
 obtain⟨b1,b2⟩:=kw hf
 refine w8 hx hf (Bw (by omega) (by decide) b2 (by intro j b hb;match j,hb with | 0,hb=>simp at hb;subst hb;decide | 1,hb=>simp at hb;subst hb;decide | j+2,hb=>simp at hb) ?_)
 refine⟨fun t=>t=(if jL (strOf (dT x)).data.toList then strOf (dT x)else strOf (dT x)++⟨#[46,48]⟩),bw (fun hh=>⟨?_,?_⟩) fun hh=>?_,?_⟩
 ·have:(⟨#[46,48]⟩:ByteArray).size=2:=rfl
  omega
 ·have hh:jL (strOf (dT x)).data.toList=false:=hh
  rw[hh];rfl
 ·have hh:jL (strOf (dT x)).data.toList=true:=hh
  rw[hh];rfl
 ·rintro _ rfl;exact r
theorem sX {i:Int} (h0:0<=i) (h1:i<1000000000000):i64.wrap (i+(1:Int))=i+1:=wr (by omega) (by omega)
theorem Bu {l:List UInt8} (h:Lib.NoAny l [46,101] l.length):jL l=false:=by
 unfold jL Lib.containsAny;rw[Lib.indexAny_none h];rfl
theorem sY {l:List UInt8} {i:Nat} {x:UInt8} (h:l[i]? =some x) (hx:x=46\/x=101):jL l=true:=by
 cases hh:jL l with
 | true=>rfl
 | false=>
  exfalso
  have hn:Lib.indexAny l [46,101] <0:=by unfold jL Lib.containsAny at hh;exact Int.not_le.1 (of_decide_eq_false hh)
  have gen:∀(l:List UInt8) (i:Nat),l[i]? =some x->0<=Lib.indexAny l [46,101]:=by
   intro l
   induction l with
   | nil=>intro i h;simp at h
   | cons b l ih=>
    intro i h
    unfold Lib.indexAny
    cases i with
    | zero=>
     simp at h;subst h
     rw[if_pos (by rcases hx with rfl | rfl<;>decide)];decide
    | succ i=>
     have:=ih i (by simpa using h)
     split
     ·decide
     ·rw[if_neg (by simp;omega)];omega
  have:=gen l i h
  omega
theorem EF {x:Nat} {R:ByteArray->Prop} (hx:x<18446744073709551616) (r:R (jM x)):Et x R:=by
 apply Ff;unfold T70
 rw[pB]
 unfold jM at r
 refine cm (fun h=>?_) fun h=>wS (cm (fun h2=>?_) fun h2=>wT (cm (fun h3=>?_) fun h3=>?_))
 ·rw[if_pos h]at r;exact r
 ·rw[if_neg (by rw[h];decide),if_pos h2]at r;exact r
 ·rw[if_neg (by rw[h];decide),if_neg (by rw[h2];decide),if_pos h3]at r;exact r
 rw[if_neg (by rw[h];decide),if_neg (by rw[h2];decide),if_neg (by rw[h3];decide)]at r
 have hf:=re h h2 h3
 obtain⟨b1,b2⟩:=kw hf
 refine w8 hx hf ?_
 generalize strOf (dT x)=w at*
 have hsz:w.size=w.data.toList.length:=rfl
 refine⟨fun i=>0<=i/\i<=w.size/\Lib.NoAny w.data.toList [46,101] i.toNat,fun i=>w.size-i.toNat,⟨by omega,by omega,Lib.NoAny.zero _ _⟩,?_⟩
 rintro i ⟨h0,h1,hN⟩
 refine af (fun hi=>?_) fun hi=>⟨?_,?_⟩
 ·have hil:i.toNat<w.data.toList.length:=by omega
  obtain⟨c,hc⟩:∃c,w.data.toList[i.toNat]? =some c:=⟨_,List.getElem?_eq_getElem hil⟩
  have hcw:w[i.toNat]? =some c:=by rw[Eu];exact hc
  refine⟨h0,hi,c,hcw,bu (fun e=>?_) fun n1=>⟨h0,hi,c,hcw,bu (fun e=>?_) fun n2=>⟨⟨?_,?_,?_⟩,?_⟩⟩⟩
  ·rw[if_pos (sY hc (.inl (eqB.1 e)))]at r;exact r
  ·rw[if_pos (sY hc (.inr (eqB.1 e)))]at r;exact r
  ·rw[sX h0 (by omega)];(try dsimp only);omega
  ·rw[sX h0 (by omega)];(try dsimp only);omega
  ·rw[sX h0 (by omega),show(i+1).toNat=i.toNat+1 by omega]
   refine hN.succ hc ?_
   have m1:c≠46:=fun e=>n1 (eqB.2 e)
   have m2:c≠101:=fun e=>n2 (eqB.2 e)
   simp[m1,m2]
  ·rw[sX h0 (by omega)];(try dsimp only);omega
 ·have:(⟨#[46,48]⟩:ByteArray).size=2:=rfl
  omega
 ·have e:i.toNat=w.data.toList.length:=by omega
  rw[e]at hN
  rw[if_neg (by rw[Bu hN];decide)]at r;exact r
open Go.Proofs
def txM (x:Nat):List UInt8:=(jM x).data.toList
def TxB (gl:GL) (tx:Nat->List UInt8) (x:Nat):Prop:=qS gl tx x/\∀h:ab,Gl gl h->ae Tryz.prog 70 #[.float .f64 x] h fun v h'=>v= .string (G.mkB (tx x))/\Fr [] h h'
theorem tv (x:Nat) (hx:x<18446744073709551616):(txM x).length<=100:=by
 unfold txM jM
 split
 ·decide
 split
 ·decide
 split
 ·decide
 rename_i a b c
 have hf:=re (by simpa using a) (by simpa using b) (by simpa using c)
 have h1:(strOf (dT x)).data.toList.length<=95:=(kw hf).1
 split
 ·omega
 ·have e:(strOf (dT x)++(⟨#[46,48]⟩:ByteArray)).data.toList.length=(strOf (dT x)).data.toList.length+2:=by simp
  omega
theorem qT {gl:GL} {x:Nat} (hx:x<18446744073709551616):TxB gl txM x:=by
 have e:G.mkB (txM x)=jM x:=kL _
 refine⟨⟨fun h g=>?_,tv x hx⟩,fun h g=>?_⟩
 ·exact(EE (R:=fun s=>s=jM x) hx rfl h gl (Hp.view (c:=Ck.glob gl) g rfl (Hp.nil _) (fun _ _ hd=>by simp at hd))).mono fun v h' ⟨s,Y,e1,q⟩=>⟨by rw[e1,q,e],Y.fr⟩
 ·exact(EF (R:=fun s=>s=jM x) hx rfl h gl (Hp.view (c:=Ck.glob gl) g rfl (Hp.nil _) (fun _ _ hd=>by simp at hd))).mono fun v h' ⟨s,Y,e1,q⟩=>⟨by rw[e1,q,e],Y.fr⟩
theorem fR (a:Array UInt8):(⟨a⟩:ByteArray).size=a.size:=rfl
theorem Co (a b:List UInt8) (r:List UInt8):((⟨⟨a⟩⟩:ByteArray)++G.mkB r)++(⟨⟨b⟩⟩:ByteArray)=G.mkB (a++r++b):=by
 apply ByteArray.ext;apply Array.ext';simp[G.mkB]
theorem EU (a b c:List UInt8) (r s:List UInt8):((((⟨⟨a⟩⟩:ByteArray)++G.mkB r)++(⟨⟨b⟩⟩:ByteArray))++G.mkB s)++(⟨⟨c⟩⟩:ByteArray)=G.mkB (a++r++b++s++c):=by
 apply ByteArray.ext;apply Array.ext';simp[G.mkB]
section
variable {gl:GL} {h:ab} {tx:Nat->List UInt8} {aE aL aS aW:Option Addr} {nE cE nL cL nS cS nW cW:Nat} {n:Int} {es:Es} {ls:List ByteArray} {ss:List (Nat × Nat)} {ws:List Nat} {dir:Bool}
end
def S75 (id kind name typ:ByteArray) (h:ab) (R:VP):Prop:=((((⟨#[32,32,60,107,101,121,32,105,100,61,34]⟩:ByteArray).size+id.size:Nat)):Int)<=9223372036854775807/\(((((⟨#[32,32,60,107,101,121,32,105,100,61,34]⟩:ByteArray)++id).size+(⟨#[34,32,102,111,114,61,34]⟩:ByteArray).size:Nat)):Int)<=9223372036854775807/\((((((⟨#[32,32,60,107,101,121,32,105,100,61,34]⟩:ByteArray)++id)++(⟨#[34,32,102,111,114,61,34]⟩:ByteArray)).size+kind.size:Nat)):Int)<=9223372036854775807/\(((((((⟨#[32,32,60,107,101,121,32,105,100,61,34]⟩:ByteArray)++id)++(⟨#[34,32,102,111,114,61,34]⟩:ByteArray))++kind).size+(⟨#[34,32,97,116,116,114,46,110,97,109,101,61,34]⟩:ByteArray).size:Nat)):Int)<=9223372036854775807/\((((((((⟨#[32,32,60,107,101,121,32,105,100,61,34]⟩:ByteArray)++id)++(⟨#[34,32,102,111,114,61,34]⟩:ByteArray))++kind)++(⟨#[34,32,97,116,116,114,46,110,97,109,101,61,34]⟩:ByteArray)).size+name.size:Nat)):Int)<=9223372036854775807/\(((((((((⟨#[32,32,60,107,101,121,32,105,100,61,34]⟩:ByteArray)++id)++(⟨#[34,32,102,111,114,61,34]⟩:ByteArray))++kind)++(⟨#[34,32,97,116,116,114,46,110,97,109,101,61,34]⟩:ByteArray))++name).size+(⟨#[34,32,97,116,116,114,46,116,121,112,101,61,34]⟩:ByteArray).size:Nat)):Int)<=9223372036854775807/\((((((((((⟨#[32,32,60,107,101,121,32,105,100,61,34]⟩:ByteArray)++id)++(⟨#[34,32,102,111,114,61,34]⟩:ByteArray))++kind)++(⟨#[34,32,97,116,116,114,46,110,97,109,101,61,34]⟩:ByteArray))++name)++(⟨#[34,32,97,116,116,114,46,116,121,112,101,61,34]⟩:ByteArray)).size+typ.size:Nat)):Int)<=9223372036854775807/\(((((((((((⟨#[32,32,60,107,101,121,32,105,100,61,34]⟩:ByteArray)++id)++(⟨#[34,32,102,111,114,61,34]⟩:ByteArray))++kind)++(⟨#[34,32,97,116,116,114,46,110,97,109,101,61,34]⟩:ByteArray))++name)++(⟨#[34,32,97,116,116,114,46,116,121,112,101,61,34]⟩:ByteArray))++typ).size+(⟨#[34,47,62,10]⟩:ByteArray).size:Nat)):Int)<=9223372036854775807/\R (.string (((((((((⟨#[32,32,60,107,101,121,32,105,100,61,34]⟩:ByteArray)++id)++(⟨#[34,32,102,111,114,61,34]⟩:ByteArray))++kind)++(⟨#[34,32,97,116,116,114,46,110,97,109,101,61,34]⟩:ByteArray))++name)++(⟨#[34,32,97,116,116,114,46,116,121,112,101,61,34]⟩:ByteArray))++typ)++(⟨#[34,47,62,10]⟩:ByteArray))) h
theorem yG {h:ab} {R:VP} (id kind name typ:ByteArray) (H:S75 id kind name typ h R):ae Tryz.prog 75 #[.string id,.string kind,.string name,.string typ] h R:=aR [] 21 [] [] [] [] Tryz.func75 (by kernel_rfl) (by kernel_rfl) H
def S76 (id text:ByteArray) (h:ab) (R:VP):Prop:=((((⟨#[32,32,32,32,32,32,60,100,97,116,97,32,107,101,121,61,34]⟩:ByteArray).size+id.size:Nat)):Int)<=9223372036854775807/\(((((⟨#[32,32,32,32,32,32,60,100,97,116,97,32,107,101,121,61,34]⟩:ByteArray)++id).size+(⟨#[34,62]⟩:ByteArray).size:Nat)):Int)<=9223372036854775807/\((((((⟨#[32,32,32,32,32,32,60,100,97,116,97,32,107,101,121,61,34]⟩:ByteArray)++id)++(⟨#[34,62]⟩:ByteArray)).size+text.size:Nat)):Int)<=9223372036854775807/\(((((((⟨#[32,32,32,32,32,32,60,100,97,116,97,32,107,101,121,61,34]⟩:ByteArray)++id)++(⟨#[34,62]⟩:ByteArray))++text).size+(⟨#[60,47,100,97,116,97,62,10]⟩:ByteArray).size:Nat)):Int)<=9223372036854775807/\R (.string (((((⟨#[32,32,32,32,32,32,60,100,97,116,97,32,107,101,121,61,34]⟩:ByteArray)++id)++(⟨#[34,62]⟩:ByteArray))++text)++(⟨#[60,47,100,97,116,97,62,10]⟩:ByteArray))) h
theorem yH {h:ab} {R:VP} (id text:ByteArray) (H:S76 id text h R):ae Tryz.prog 76 #[.string id,.string text] h R:=aR [] 11 [] [] [] [] Tryz.func76 (by kernel_rfl) (by kernel_rfl) H
def S77 (s:ByteArray) (h:ab) (R:VP):Prop:=∃(j:LP) (B:List Value->ab->Nat),j [.slice none 0 0,.int .i64 0] h/\∀(b:Option Addr) (a d:Nat),∀f:Int,∀c,j [.slice b a d,.int .i64 f] c->cnd (decide (f<(s.size:Int))) (0<=f/\f<(s.size:Int)/\∃i:UInt8,s[Int.toNat f]? =some i/\∃k:LP,(cnd ((UInt8.toNat i:Int)==(38:Int)) (∃C,aC c 5 1 b a d C/\(∀b'∈([]:List Nat),b'∉ag b)/\(a+(⟨#[38,97,109,112,59]⟩:ByteArray).size)*1<=140737488355328/\(a+(⟨#[38,97,109,112,59]⟩:ByteArray).size)<=maxLen/\∀sA sC hv2,aC hv2 5 1 sA (a+(⟨#[38,97,109,112,59]⟩:ByteArray).size) sC (C++(Lib.strCells (⟨#[38,97,109,112,59]⟩:ByteArray)))->Fr (ag b) c hv2->((sA=b/\sC=d)\/∃e,sA=some ⟨e,0,none⟩/\c.size<=e)->(d<(a+(⟨#[38,97,109,112,59]⟩:ByteArray).size)->Fr [] c hv2)->k [.slice sA (a+(⟨#[38,97,109,112,59]⟩:ByteArray).size) sC] hv2) (∃l:LP,(cnd ((UInt8.toNat i:Int)==(60:Int)) (∃D,aC c 5 1 b a d D/\(∀b'∈([]:List Nat),b'∉ag b)/\(a+(⟨#[38,108,116,59]⟩:ByteArray).size)*1<=140737488355328/\(a+(⟨#[38,108,116,59]⟩:ByteArray).size)<=maxLen/\∀sA2 sC2 hv3,aC hv3 5 1 sA2 (a+(⟨#[38,108,116,59]⟩:ByteArray).size) sC2 (D++(Lib.strCells (⟨#[38,108,116,59]⟩:ByteArray)))->Fr (ag b) c hv3->((sA2=b/\sC2=d)\/∃e,sA2=some ⟨e,0,none⟩/\c.size<=e)->(d<(a+(⟨#[38,108,116,59]⟩:ByteArray).size)->Fr [] c hv3)->l [.slice sA2 (a+(⟨#[38,108,116,59]⟩:ByteArray).size) sC2] hv3) (∃m:LP,(cnd ((UInt8.toNat i:Int)==(62:Int)) (∃E,aC c 5 1 b a d E/\(∀b'∈([]:List Nat),b'∉ag b)/\(a+(⟨#[38,103,116,59]⟩:ByteArray).size)*1<=140737488355328/\(a+(⟨#[38,103,116,59]⟩:ByteArray).size)<=maxLen/\∀sA3 sC3 hv4,aC hv4 5 1 sA3 (a+(⟨#[38,103,116,59]⟩:ByteArray).size) sC3 (E++(Lib.strCells (⟨#[38,103,116,59]⟩:ByteArray)))->Fr (ag b) c hv4->((sA3=b/\sC3=d)\/∃e,sA3=some ⟨e,0,none⟩/\c.size<=e)->(d<(a+(⟨#[38,103,116,59]⟩:ByteArray).size)->Fr [] c hv4)->m [.slice sA3 (a+(⟨#[38,103,116,59]⟩:ByteArray).size) sC3] hv4) (0<=f/\f<(s.size:Int)/\∃r:UInt8,s[Int.toNat f]? =some r/\let g:ab:=c.push (.cells #[.int .u8 (UInt8.toNat r:Int)] 5);∃F,aC g 5 1 b a d F/\(∀b'∈([c.size]:List Nat),b'∉ag b)/\(a+1)*1<=140737488355328/\(a+1)<=maxLen/\∀sA4 sC4 hv6,aC hv6 5 1 sA4 (a+1) sC4 (F++[.int .u8 (UInt8.toNat r:Int)])->Fr (ag b) g hv6->((sA4=b/\sC4=d)\/∃e,sA4=some ⟨e,0,none⟩/\g.size<=e)->(d<(a+1)->Fr [] g hv6)->m [.slice sA4 (a+1) sC4] hv6))/\∀(t:Option Addr) (x v:Nat),∀z,m [.slice t x v] z->l [.slice t x v] z))/\∀(u:Option Addr) (y w:Nat),∀A,l [.slice u y w] A->k [.slice u y w] A))/\∀(n:Option Addr) (p o:Nat),∀q,k [.slice n p o] q->j [.slice n p o,.int .i64 (i64.wrap (f+1))] q/\B [.slice n p o,.int .i64 (i64.wrap (f+1))] q<B [.slice b a d,.int .i64 f] c) (∃G:List Int,Reads c 1 b a (List.map (Value.int IntKind.u8) G)/\R (.string (strOf G)) c)
theorem yI {h:ab} {R:VP} (s:ByteArray) (H:S77 s h R):ae Tryz.prog 77 #[.string s] h R:=aR [18] 34 [(0,⟨[0],[3,4],[],[]⟩)] [(20,⟨[0,4],[3],[],[]⟩),(24,⟨[0,4],[3],[],[]⟩),(28,⟨[0,4],[3],[],[]⟩)] [] [] Tryz.func77 (by kernel_rfl) (by kernel_rfl) H
def S36 (d:Int) (dA:Option Addr) (dL dC:Nat) (d2:Bool) (dA2:Option Addr) (dL2 dC2:Nat) (dA3:Option Addr) (dL3 dC3:Nat) (dA4:Option Addr) (dL4 dC4:Nat) (h:ab) (R:VP):Prop:=let h2:ab:=h.push (.cells #[.int .i64 d,.slice dA dL dC,.bool d2,.slice dA2 dL2 dC2,.slice dA3 dL3 dC3,.slice dA4 dL4 dC4] 29);ai Tryz.prog 28 #[.agg #[.int .i64 d,.slice dA dL dC,.bool d2,.slice dA2 dL2 dC2,.slice dA3 dL3 dC3,.slice dA4 dL4 dC4]] h2 [h.size] fun h6 c8=>∃g0:Bool,h6= .bool g0/\cnd (!g0) (R (.tuple #[.string ⟨#[]⟩,.int .i64 1]) c8) (let e0:ab:=c8.push (.cells #[.int .u8 60,.int .u8 63,.int .u8 120,.int .u8 109,.int .u8 108,.int .u8 32,.int .u8 118,.int .u8 101,.int .u8 114,.int .u8 115,.int .u8 105,.int .u8 111,.int .u8 110,.int .u8 61,.int .u8 34,.int .u8 49,.int .u8 46,.int .u8 48,.int .u8 34,.int .u8 32,.int .u8 101,.int .u8 110,.int .u8 99,.int .u8 111,.int .u8 100,.int .u8 105,.int .u8 110,.int .u8 103,.int .u8 61,.int .u8 34,.int .u8 85,.int .u8 84,.int .u8 70,.int .u8 45,.int .u8 56,.int .u8 34,.int .u8 63,.int .u8 62,.int .u8 10,.int .u8 60,.int .u8 103,.int .u8 114,.int .u8 97,.int .u8 112,.int .u8 104,.int .u8 109,.int .u8 108,.int .u8 32,.int .u8 120,.int .u8 109,.int .u8 108,.int .u8 110,.int .u8 115,.int .u8 61,.int .u8 34,.int .u8 104,.int .u8 116,.int .u8 116,.int .u8 112,.int .u8 58,.int .u8 47,.int .u8 47,.int .u8 103,.int .u8 114,.int .u8 97,.int .u8 112,.int .u8 104,.int .u8 109,.int .u8 108,.int .u8 46,.int .u8 103,.int .u8 114,.int .u8 97,.int .u8 112,.int .u8 104,.int .u8 100,.int .u8 114,.int .u8 97,.int .u8 119,.int .u8 105,.int .u8 110,.int .u8 103,.int .u8 46,.int .u8 111,.int .u8 114,.int .u8 103,.int .u8 47,.int .u8 120,.int .u8 109,.int .u8 108,.int .u8 110,.int .u8 115,.int .u8 34,.int .u8 62,.int .u8 10] 5);∃b q,(some (⟨c8.size,0,none⟩:Addr))=some ⟨b,q,none⟩/\b≠h.size/\∃cs f,e0[b]? =some (.cells cs 5 f)/\let e2:ab:=fN e0 b;∃a7:LP,(cnd (decide ((dL2:Int)>(0:Int))) (ai Tryz.prog 75 #[.string ⟨#[100,48]⟩,.string ⟨#[110,111,100,101]⟩,.string ⟨#[108,97,98,101,108]⟩,.string ⟨#[115,116,114,105,110,103]⟩] e2 [h.size] fun i5 a3=>∃H:ByteArray,i5= .string H/\∃e5,aC a3 5 1 (some ⟨b,q,none⟩) 95 95 e5/\(∀b'∈([h.size]:List Nat),b'∉ag (some ⟨b,q,none⟩))/\(95+H.size)*1<=140737488355328/\(95+H.size)<=maxLen/\∀sA sC hv6,aC hv6 5 1 sA (95+H.size) sC (e5++(Lib.strCells H))->Fr (ag (some ⟨b,q,none⟩)) a3 hv6->((sA=(some ⟨b,q,none⟩)/\sC=95)\/∃a,sA=some ⟨a,0,none⟩/\a3.size<=a)->(95<(95+H.size)->Fr [] a3 hv6)->a7 [.slice sA (95+H.size) sC] hv6) (a7 [.slice (some ⟨b,q,none⟩) 95 95] e2))/\∀(L:Option Addr) (x Q:Nat),∀d1,a7 [.slice L x Q] d1->∃a8:LP,(cnd (decide ((dL3:Int)>(0:Int))) (ai Tryz.prog 75 #[.string ⟨#[100,49]⟩,.string ⟨#[110,111,100,101]⟩,.string ⟨#[120]⟩,.string ⟨#[100,111,117,98,108,101]⟩] d1 [h.size] fun i6 h5=>∃C:ByteArray,i6= .string C/\ai Tryz.prog 75 #[.string ⟨#[100,50]⟩,.string ⟨#[110,111,100,101]⟩,.string ⟨#[121]⟩,.string ⟨#[100,111,117,98,108,101]⟩] h5 [h.size] fun i7 a4=>∃D:ByteArray,i7= .string D/\(((C.size+D.size:Nat)):Int)<=9223372036854775807/\∃f2,aC a4 5 1 L x Q f2/\(∀b'∈([h.size]:List Nat),b'∉ag L)/\(x+(C++D).size)*1<=140737488355328/\(x+(C++D).size)<=maxLen/\∀sA2 sC2 hv10,aC hv10 5 1 sA2 (x+(C++D).size) sC2 (f2++(Lib.strCells (C++D)))->Fr (ag L) a4 hv10->((sA2=L/\sC2=Q)\/∃a,sA2=some ⟨a,0,none⟩/\a4.size<=a)->(Q<(x+(C++D).size)->Fr [] a4 hv10)->a8 [.slice sA2 (x+(C++D).size) sC2] hv10) (a8 [.slice L x Q] d1))/\∀(M:Option Addr) (y S:Nat),∀c7,a8 [.slice M y S] c7->∃a9:LP,(cnd (decide ((dL4:Int)>(0:Int))) (ai Tryz.prog 75 #[.string ⟨#[100,51]⟩,.string ⟨#[101,100,103,101]⟩,.string ⟨#[119,101,105,103,104,116]⟩,.string ⟨#[100,111,117,98,108,101]⟩] c7 [h.size] fun i8 Y=>∃I:ByteArray,i8= .string I/\∃f3,aC Y 5 1 M y S f3/\(∀b'∈([h.size]:List Nat),b'∉ag M)/\(y+I.size)*1<=140737488355328/\(y+I.size)<=maxLen/\∀sA3 sC3 hv13,aC hv13 5 1 sA3 (y+I.size) sC3 (f3++(Lib.strCells I))->Fr (ag M) Y hv13->((sA3=M/\sC3=S)\/∃a,sA3=some ⟨a,0,none⟩/\Y.size<=a)->(S<(y+I.size)->Fr [] Y hv13)->a9 [.slice sA3 (y+I.size) sC3] hv13) (a9 [.slice M y S] c7))/\∀(s:Option Addr) (m F:Nat),∀t,a9 [.slice s m F] t->∃b0:LP,(cnd d2 (∃f4,aC t 5 1 s m F f4/\(∀b'∈([h.size]:List Nat),b'∉ag s)/\(m+(⟨#[32,32,60,103,114,97,112,104,32,101,100,103,101,100,101,102,97,117,108,116,61,34,100,105,114,101,99,116,101,100,34,62,10]⟩:ByteArray).size)*1<=140737488355328/\(m+(⟨#[32,32,60,103,114,97,112,104,32,101,100,103,101,100,101,102,97,117,108,116,61,34,100,105,114,101,99,116,101,100,34,62,10]⟩:ByteArray).size)<=maxLen/\∀sA4 sC4 hv15,aC hv15 5 1 sA4 (m+(⟨#[32,32,60,103,114,97,112,104,32,101,100,103,101,100,101,102,97,117,108,116,61,34,100,105,114,101,99,116,101,100,34,62,10]⟩:ByteArray).size) sC4 (f4++(Lib.strCells (⟨#[32,32,60,103,114,97,112,104,32,101,100,103,101,100,101,102,97,117,108,116,61,34,100,105,114,101,99,116,101,100,34,62,10]⟩:ByteArray)))->Fr (ag s) t hv15->((sA4=s/\sC4=F)\/∃a,sA4=some ⟨a,0,none⟩/\t.size<=a)->(F<(m+(⟨#[32,32,60,103,114,97,112,104,32,101,100,103,101,100,101,102,97,117,108,116,61,34,100,105,114,101,99,116,101,100,34,62,10]⟩:ByteArray).size)->Fr [] t hv15)->b0 [.slice sA4 (m+(⟨#[32,32,60,103,114,97,112,104,32,101,100,103,101,100,101,102,97,117,108,116,61,34,100,105,114,101,99,116,101,100,34,62,10]⟩:ByteArray).size) sC4] hv15) (∃f5,aC t 5 1 s m F f5/\(∀b'∈([h.size]:List Nat),b'∉ag s)/\(m+(⟨#[32,32,60,103,114,97,112,104,32,101,100,103,101,100,101,102,97,117,108,116,61,34,117,110,100,105,114,101,99,116,101,100,34,62,10]⟩:ByteArray).size)*1<=140737488355328/\(m+(⟨#[32,32,60,103,114,97,112,104,32,101,100,103,101,100,101,102,97,117,108,116,61,34,117,110,100,105,114,101,99,116,101,100,34,62,10]⟩:ByteArray).size)<=maxLen/\∀sA5 sC5 hv16,aC hv16 5 1 sA5 (m+(⟨#[32,32,60,103,114,97,112,104,32,101,100,103,101,100,101,102,97,117,108,116,61,34,117,110,100,105,114,101,99,116,101,100,34,62,10]⟩:ByteArray).size) sC5 (f5++(Lib.strCells (⟨#[32,32,60,103,114,97,112,104,32,101,100,103,101,100,101,102,97,117,108,116,61,34,117,110,100,105,114,101,99,116,101,100,34,62,10]⟩:ByteArray)))->Fr (ag s) t hv16->((sA5=s/\sC5=F)\/∃a,sA5=some ⟨a,0,none⟩/\t.size<=a)->(F<(m+(⟨#[32,32,60,103,114,97,112,104,32,101,100,103,101,100,101,102,97,117,108,116,61,34,117,110,100,105,114,101,99,116,101,100,34,62,10]⟩:ByteArray).size)->Fr [] t hv16)->b0 [.slice sA5 (m+(⟨#[32,32,60,103,114,97,112,104,32,101,100,103,101,100,101,102,97,117,108,116,61,34,117,110,100,105,114,101,99,116,101,100,34,62,10]⟩:ByteArray).size) sC5] hv16))/\∀(d3:Option Addr) (d5 d4:Nat),∀d6,b0 [.slice d3 d5 d4] d6->∃(a5:LP) (e3:List Value->ab->Nat),a5 [.slice d3 d5 d4,.int .i64 0] d6/\∀(E:Option Addr) (c O:Nat),∀k:Int,∀Z,a5 [.slice E c O,.int .i64 k] Z->cnd (decide (k<d)) (∃b1:LP,(ai Tryz.prog 38 #[.int .i64 k] Z [h.size] fun i9 a0=>∃g:ByteArray,i9= .string g/\((((⟨#[32,32,32,32,60,110,111,100,101,32,105,100,61,34,110]⟩:ByteArray).size+g.size:Nat)):Int)<=9223372036854775807/\(((((⟨#[32,32,32,32,60,110,111,100,101,32,105,100,61,34,110]⟩:ByteArray)++g).size+(⟨#[34]⟩:ByteArray).size:Nat)):Int)<=9223372036854775807/\∃f6,aC a0 5 1 E c O f6/\(∀b'∈([h.size]:List Nat),b'∉ag E)/\(c+(((⟨#[32,32,32,32,60,110,111,100,101,32,105,100,61,34,110]⟩:ByteArray)++g)++(⟨#[34]⟩:ByteArray)).size)*1<=140737488355328/\(c+(((⟨#[32,32,32,32,60,110,111,100,101,32,105,100,61,34,110]⟩:ByteArray)++g)++(⟨#[34]⟩:ByteArray)).size)<=maxLen/\∀sA6 sC6 hv20,aC hv20 5 1 sA6 (c+(((⟨#[32,32,32,32,60,110,111,100,101,32,105,100,61,34,110]⟩:ByteArray)++g)++(⟨#[34]⟩:ByteArray)).size) sC6 (f6++(Lib.strCells (((⟨#[32,32,32,32,60,110,111,100,101,32,105,100,61,34,110]⟩:ByteArray)++g)++(⟨#[34]⟩:ByteArray))))->Fr (ag E) a0 hv20->((sA6=E/\sC6=O)\/∃a,sA6=some ⟨a,0,none⟩/\a0.size<=a)->(O<(c+(((⟨#[32,32,32,32,60,110,111,100,101,32,105,100,61,34,110]⟩:ByteArray)++g)++(⟨#[34]⟩:ByteArray)).size)->Fr [] a0 hv20)->cnd ((i64.wrap ((dL2:Int)+(dL3:Int)))==(0:Int)) (∃f7,aC hv20 5 1 sA6 (c+(((⟨#[32,32,32,32,60,110,111,100,101,32,105,100,61,34,110]⟩:ByteArray)++g)++(⟨#[34]⟩:ByteArray)).size) sC6 f7/\(∀b'∈([h.size]:List Nat),b'∉ag sA6)/\((c+(((⟨#[32,32,32,32,60,110,111,100,101,32,105,100,61,34,110]⟩:ByteArray)++g)++(⟨#[34]⟩:ByteArray)).size)+(⟨#[47,62,10]⟩:ByteArray).size)*1<=140737488355328/\((c+(((⟨#[32,32,32,32,60,110,111,100,101,32,105,100,61,34,110]⟩:ByteArray)++g)++(⟨#[34]⟩:ByteArray)).size)+(⟨#[47,62,10]⟩:ByteArray).size)<=maxLen/\∀sA7 sC7 hv21,aC hv21 5 1 sA7 ((c+(((⟨#[32,32,32,32,60,110,111,100,101,32,105,100,61,34,110]⟩:ByteArray)++g)++(⟨#[34]⟩:ByteArray)).size)+(⟨#[47,62,10]⟩:ByteArray).size) sC7 (f7++(Lib.strCells (⟨#[47,62,10]⟩:ByteArray)))->Fr (ag sA6) hv20 hv21->((sA7=sA6/\sC7=sC6)\/∃a,sA7=some ⟨a,0,none⟩/\hv20.size<=a)->(sC6<((c+(((⟨#[32,32,32,32,60,110,111,100,101,32,105,100,61,34,110]⟩:ByteArray)++g)++(⟨#[34]⟩:ByteArray)).size)+(⟨#[47,62,10]⟩:ByteArray).size)->Fr [] hv20 hv21)->b1 [.slice sA7 ((c+(((⟨#[32,32,32,32,60,110,111,100,101,32,105,100,61,34,110]⟩:ByteArray)++g)++(⟨#[34]⟩:ByteArray)).size)+(⟨#[47,62,10]⟩:ByteArray).size) sC7] hv21) (∃f8,aC hv20 5 1 sA6 (c+(((⟨#[32,32,32,32,60,110,111,100,101,32,105,100,61,34,110]⟩:ByteArray)++g)++(⟨#[34]⟩:ByteArray)).size) sC6 f8/\(∀b'∈([h.size]:List Nat),b'∉ag sA6)/\((c+(((⟨#[32,32,32,32,60,110,111,100,101,32,105,100,61,34,110]⟩:ByteArray)++g)++(⟨#[34]⟩:ByteArray)).size)+(⟨#[62,10]⟩:ByteArray).size)*1<=140737488355328/\((c+(((⟨#[32,32,32,32,60,110,111,100,101,32,105,100,61,34,110]⟩:ByteArray)++g)++(⟨#[34]⟩:ByteArray)).size)+(⟨#[62,10]⟩:ByteArray).size)<=maxLen/\∀sA8 sC8 hv22,aC hv22 5 1 sA8 ((c+(((⟨#[32,32,32,32,60,110,111,100,101,32,105,100,61,34,110]⟩:ByteArray)++g)++(⟨#[34]⟩:ByteArray)).size)+(⟨#[62,10]⟩:ByteArray).size) sC8 (f8++(Lib.strCells (⟨#[62,10]⟩:ByteArray)))->Fr (ag sA6) hv20 hv22->((sA8=sA6/\sC8=sC6)\/∃a,sA8=some ⟨a,0,none⟩/\hv20.size<=a)->(sC6<((c+(((⟨#[32,32,32,32,60,110,111,100,101,32,105,100,61,34,110]⟩:ByteArray)++g)++(⟨#[34]⟩:ByteArray)).size)+(⟨#[62,10]⟩:ByteArray).size)->Fr [] hv20 hv22)->∃b8:LP,(cnd (decide ((dL2:Int)>(0:Int))) (∃b2 o,dA2=some ⟨b2,o,none⟩/\0<=k/\k<(dL2:Nat)/\∃g5:ByteArray,ac hv22 b2 (o+(Int.toNat k)*1)=some (.string g5)/\ai Tryz.prog 77 #[.string g5] hv22 [h.size] fun j0 h3=>∃g3:ByteArray,j0= .string g3/\ai Tryz.prog 76 #[.string ⟨#[100,48]⟩,.string g3] h3 [h.size] fun j1 a1=>∃J:ByteArray,j1= .string J/\∃f9,aC a1 5 1 sA8 ((c+(((⟨#[32,32,32,32,60,110,111,100,101,32,105,100,61,34,110]⟩:ByteArray)++g)++(⟨#[34]⟩:ByteArray)).size)+(⟨#[62,10]⟩:ByteArray).size) sC8 f9/\(∀b'∈([h.size]:List Nat),b'∉ag sA8)/\(((c+(((⟨#[32,32,32,32,60,110,111,100,101,32,105,100,61,34,110]⟩:ByteArray)++g)++(⟨#[34]⟩:ByteArray)).size)+(⟨#[62,10]⟩:ByteArray).size)+J.size)*1<=140737488355328/\(((c+(((⟨#[32,32,32,32,60,110,111,100,101,32,105,100,61,34,110]⟩:ByteArray)++g)++(⟨#[34]⟩:ByteArray)).size)+(⟨#[62,10]⟩:ByteArray).size)+J.size)<=maxLen/\∀sA9 sC9 hv25,aC hv25 5 1 sA9 (((c+(((⟨#[32,32,32,32,60,110,111,100,101,32,105,100,61,34,110]⟩:ByteArray)++g)++(⟨#[34]⟩:ByteArray)).size)+(⟨#[62,10]⟩:ByteArray).size)+J.size) sC9 (f9++(Lib.strCells J))->Fr (ag sA8) a1 hv25->((sA9=sA8/\sC9=sC8)\/∃a,sA9=some ⟨a,0,none⟩/\a1.size<=a)->(sC8<(((c+(((⟨#[32,32,32,32,60,110,111,100,101,32,105,100,61,34,110]⟩:ByteArray)++g)++(⟨#[34]⟩:ByteArray)).size)+(⟨#[62,10]⟩:ByteArray).size)+J.size)->Fr [] a1 hv25)->b8 [.slice sA9 (((c+(((⟨#[32,32,32,32,60,110,111,100,101,32,105,100,61,34,110]⟩:ByteArray)++g)++(⟨#[34]⟩:ByteArray)).size)+(⟨#[62,10]⟩:ByteArray).size)+J.size) sC9] hv25) (b8 [.slice sA8 ((c+(((⟨#[32,32,32,32,60,110,111,100,101,32,105,100,61,34,110]⟩:ByteArray)++g)++(⟨#[34]⟩:ByteArray)).size)+(⟨#[62,10]⟩:ByteArray).size) sC8] hv22))/\∀(N:Option Addr) (z T:Nat),∀r,b8 [.slice N z T] r->∃b9:LP,(cnd (decide ((dL3:Int)>(0:Int))) (∃v:List Nat,(∀b∈([h.size]:List Nat),b∉v)/\∃b3 o2,dA3=some ⟨b3,o2,none⟩/\0<=k/\k<(dL3:Nat)/\b3∉v/\∃g6:Nat,ac r b3 (o2+(Int.toNat k)*2)=some (.float .f64 g6)/\∃b4 o3,dA3=some ⟨b4,o3,none⟩/\0<=k/\k<(dL3:Nat)/\b4∉v/\∃g7:Nat,ac r b4 ((o3+(Int.toNat k)*2)+1)=some (.float .f64 g7)/\ai Tryz.prog 70 #[.float .f64 g6] r [h.size] fun h7 d7=>∃g4:ByteArray,h7= .string g4/\Fr v r d7/\ai Tryz.prog 76 #[.string ⟨#[100,49]⟩,.string g4] d7 [h.size] fun h8 d8=>∃A:ByteArray,h8= .string A/\Fr v r d8/\ai Tryz.prog 70 #[.float .f64 g7] d8 [h.size] fun h9 d9=>∃g1:ByteArray,h9= .string g1/\Fr v r d9/\ai Tryz.prog 76 #[.string ⟨#[100,50]⟩,.string g1] d9 [h.size] fun i0 U=>∃B:ByteArray,i0= .string B/\Fr v r U/\(((A.size+B.size:Nat)):Int)<=9223372036854775807/\∃e6,aC U 5 1 N z T e6/\(∀b'∈([h.size]:List Nat),b'∉ag N)/\(z+(A++B).size)*1<=140737488355328/\(z+(A++B).size)<=maxLen/\∀sA10 sC10 hv31,aC hv31 5 1 sA10 (z+(A++B).size) sC10 (e6++(Lib.strCells (A++B)))->Fr (ag N) U hv31->((sA10=N/\sC10=T)\/∃a,sA10=some ⟨a,0,none⟩/\U.size<=a)->(T<(z+(A++B).size)->Fr [] U hv31)->Fr v r hv31/\b9 [.slice sA10 (z+(A++B).size) sC10] hv31) (b9 [.slice N z T] r))/\∀(P:Option Addr) (G X:Nat),∀V,b9 [.slice P G X] V->∃e7,aC V 5 1 P G X e7/\(∀b'∈([h.size]:List Nat),b'∉ag P)/\(G+(⟨#[32,32,32,32,60,47,110,111,100,101,62,10]⟩:ByteArray).size)*1<=140737488355328/\(G+(⟨#[32,32,32,32,60,47,110,111,100,101,62,10]⟩:ByteArray).size)<=maxLen/\∀sA11 sC11 hv33,aC hv33 5 1 sA11 (G+(⟨#[32,32,32,32,60,47,110,111,100,101,62,10]⟩:ByteArray).size) sC11 (e7++(Lib.strCells (⟨#[32,32,32,32,60,47,110,111,100,101,62,10]⟩:ByteArray)))->Fr (ag P) V hv33->((sA11=P/\sC11=X)\/∃a,sA11=some ⟨a,0,none⟩/\V.size<=a)->(X<(G+(⟨#[32,32,32,32,60,47,110,111,100,101,62,10]⟩:ByteArray).size)->Fr [] V hv33)->b1 [.slice sA11 (G+(⟨#[32,32,32,32,60,47,110,111,100,101,62,10]⟩:ByteArray).size) sC11] hv33))/\∀(c2:Option Addr) (c6 c4:Nat),∀c9,b1 [.slice c2 c6 c4] c9->a5 [.slice c2 c6 c4,.int .i64 (i64.wrap (k+1))] c9/\e3 [.slice c2 c6 c4,.int .i64 (i64.wrap (k+1))] c9<e3 [.slice E c O,.int .i64 k] Z) (∃(a6:LP) (e4:List Value->ab->Nat),a6 [.slice E c O,.int .i64 0] Z/\∀(p:Option Addr) (e w:Nat),∀l:Int,∀n,a6 [.slice p e w,.int .i64 l] n->cnd (decide (l<(dL:Int))) (∃c0:LP,(∃K:List Nat,(∀b∈([h.size]:List Nat),b∉K)/\∃b5 o4,dA=some ⟨b5,o4,none⟩/\0<=l/\l<(dL:Nat)/\b5∉K/\∃g8:Int,ac n b5 ((o4+(Int.toNat l)*2)+0)=some (.int .i64 g8)/\∃b6 o5,dA=some ⟨b6,o5,none⟩/\0<=l/\l<(dL:Nat)/\b6∉K/\∃g9:Int,ac n b6 ((o5+(Int.toNat l)*2)+1)=some (.int .i64 g9)/\ai Tryz.prog 38 #[.int .i64 g8] n [h.size] fun i1 e1=>∃i:ByteArray,i1= .string i/\Fr K n e1/\((((⟨#[32,32,32,32,60,101,100,103,101,32,115,111,117,114,99,101,61,34,110]⟩:ByteArray).size+i.size:Nat)):Int)<=9223372036854775807/\(((((⟨#[32,32,32,32,60,101,100,103,101,32,115,111,117,114,99,101,61,34,110]⟩:ByteArray)++i).size+(⟨#[34,32,116,97,114,103,101,116,61,34,110]⟩:ByteArray).size:Nat)):Int)<=9223372036854775807/\ai Tryz.prog 38 #[.int .i64 g9] e1 [h.size] fun i2 W=>∃j:ByteArray,i2= .string j/\Fr K n W/\((((((⟨#[32,32,32,32,60,101,100,103,101,32,115,111,117,114,99,101,61,34,110]⟩:ByteArray)++i)++(⟨#[34,32,116,97,114,103,101,116,61,34,110]⟩:ByteArray)).size+j.size:Nat)):Int)<=9223372036854775807/\(((((((⟨#[32,32,32,32,60,101,100,103,101,32,115,111,117,114,99,101,61,34,110]⟩:ByteArray)++i)++(⟨#[34,32,116,97,114,103,101,116,61,34,110]⟩:ByteArray))++j).size+(⟨#[34]⟩:ByteArray).size:Nat)):Int)<=9223372036854775807/\∃e8,aC W 5 1 p e w e8/\(∀b'∈([h.size]:List Nat),b'∉ag p)/\(e+(((((⟨#[32,32,32,32,60,101,100,103,101,32,115,111,117,114,99,101,61,34,110]⟩:ByteArray)++i)++(⟨#[34,32,116,97,114,103,101,116,61,34,110]⟩:ByteArray))++j)++(⟨#[34]⟩:ByteArray)).size)*1<=140737488355328/\(e+(((((⟨#[32,32,32,32,60,101,100,103,101,32,115,111,117,114,99,101,61,34,110]⟩:ByteArray)++i)++(⟨#[34,32,116,97,114,103,101,116,61,34,110]⟩:ByteArray))++j)++(⟨#[34]⟩:ByteArray)).size)<=maxLen/\∀sA12 sC12 hv38,aC hv38 5 1 sA12 (e+(((((⟨#[32,32,32,32,60,101,100,103,101,32,115,111,117,114,99,101,61,34,110]⟩:ByteArray)++i)++(⟨#[34,32,116,97,114,103,101,116,61,34,110]⟩:ByteArray))++j)++(⟨#[34]⟩:ByteArray)).size) sC12 (e8++(Lib.strCells (((((⟨#[32,32,32,32,60,101,100,103,101,32,115,111,117,114,99,101,61,34,110]⟩:ByteArray)++i)++(⟨#[34,32,116,97,114,103,101,116,61,34,110]⟩:ByteArray))++j)++(⟨#[34]⟩:ByteArray))))->Fr (ag p) W hv38->((sA12=p/\sC12=w)\/∃a,sA12=some ⟨a,0,none⟩/\W.size<=a)->(w<(e+(((((⟨#[32,32,32,32,60,101,100,103,101,32,115,111,117,114,99,101,61,34,110]⟩:ByteArray)++i)++(⟨#[34,32,116,97,114,103,101,116,61,34,110]⟩:ByteArray))++j)++(⟨#[34]⟩:ByteArray)).size)->Fr [] W hv38)->Fr K n hv38/\cnd ((dL4:Int)==(0:Int)) (∃e9,aC hv38 5 1 sA12 (e+(((((⟨#[32,32,32,32,60,101,100,103,101,32,115,111,117,114,99,101,61,34,110]⟩:ByteArray)++i)++(⟨#[34,32,116,97,114,103,101,116,61,34,110]⟩:ByteArray))++j)++(⟨#[34]⟩:ByteArray)).size) sC12 e9/\(∀b'∈([h.size]:List Nat),b'∉ag sA12)/\((e+(((((⟨#[32,32,32,32,60,101,100,103,101,32,115,111,117,114,99,101,61,34,110]⟩:ByteArray)++i)++(⟨#[34,32,116,97,114,103,101,116,61,34,110]⟩:ByteArray))++j)++(⟨#[34]⟩:ByteArray)).size)+(⟨#[47,62,10]⟩:ByteArray).size)*1<=140737488355328/\((e+(((((⟨#[32,32,32,32,60,101,100,103,101,32,115,111,117,114,99,101,61,34,110]⟩:ByteArray)++i)++(⟨#[34,32,116,97,114,103,101,116,61,34,110]⟩:ByteArray))++j)++(⟨#[34]⟩:ByteArray)).size)+(⟨#[47,62,10]⟩:ByteArray).size)<=maxLen/\∀sA13 sC13 hv39,aC hv39 5 1 sA13 ((e+(((((⟨#[32,32,32,32,60,101,100,103,101,32,115,111,117,114,99,101,61,34,110]⟩:ByteArray)++i)++(⟨#[34,32,116,97,114,103,101,116,61,34,110]⟩:ByteArray))++j)++(⟨#[34]⟩:ByteArray)).size)+(⟨#[47,62,10]⟩:ByteArray).size) sC13 (e9++(Lib.strCells (⟨#[47,62,10]⟩:ByteArray)))->Fr (ag sA12) hv38 hv39->((sA13=sA12/\sC13=sC12)\/∃a,sA13=some ⟨a,0,none⟩/\hv38.size<=a)->(sC12<((e+(((((⟨#[32,32,32,32,60,101,100,103,101,32,115,111,117,114,99,101,61,34,110]⟩:ByteArray)++i)++(⟨#[34,32,116,97,114,103,101,116,61,34,110]⟩:ByteArray))++j)++(⟨#[34]⟩:ByteArray)).size)+(⟨#[47,62,10]⟩:ByteArray).size)->Fr [] hv38 hv39)->c0 [.slice sA13 ((e+(((((⟨#[32,32,32,32,60,101,100,103,101,32,115,111,117,114,99,101,61,34,110]⟩:ByteArray)++i)++(⟨#[34,32,116,97,114,103,101,116,61,34,110]⟩:ByteArray))++j)++(⟨#[34]⟩:ByteArray)).size)+(⟨#[47,62,10]⟩:ByteArray).size) sC13] hv39) (∃b7 o6,dA4=some ⟨b7,o6,none⟩/\0<=l/\l<(dL4:Nat)/\∃h0:Nat,ac hv38 b7 (o6+(Int.toNat l)*1)=some (.float .f64 h0)/\ai Tryz.prog 70 #[.float .f64 h0] hv38 [h.size] fun i3 h4=>∃g2:ByteArray,i3= .string g2/\ai Tryz.prog 76 #[.string ⟨#[100,51]⟩,.string g2] h4 [h.size] fun i4 a2=>∃u:ByteArray,i4= .string u/\((((⟨#[62,10]⟩:ByteArray).size+u.size:Nat)):Int)<=9223372036854775807/\(((((⟨#[62,10]⟩:ByteArray)++u).size+(⟨#[32,32,32,32,60,47,101,100,103,101,62,10]⟩:ByteArray).size:Nat)):Int)<=9223372036854775807/\∃f0,aC a2 5 1 sA12 (e+(((((⟨#[32,32,32,32,60,101,100,103,101,32,115,111,117,114,99,101,61,34,110]⟩:ByteArray)++i)++(⟨#[34,32,116,97,114,103,101,116,61,34,110]⟩:ByteArray))++j)++(⟨#[34]⟩:ByteArray)).size) sC12 f0/\(∀b'∈([h.size]:List Nat),b'∉ag sA12)/\((e+(((((⟨#[32,32,32,32,60,101,100,103,101,32,115,111,117,114,99,101,61,34,110]⟩:ByteArray)++i)++(⟨#[34,32,116,97,114,103,101,116,61,34,110]⟩:ByteArray))++j)++(⟨#[34]⟩:ByteArray)).size)+(((⟨#[62,10]⟩:ByteArray)++u)++(⟨#[32,32,32,32,60,47,101,100,103,101,62,10]⟩:ByteArray)).size)*1<=140737488355328/\((e+(((((⟨#[32,32,32,32,60,101,100,103,101,32,115,111,117,114,99,101,61,34,110]⟩:ByteArray)++i)++(⟨#[34,32,116,97,114,103,101,116,61,34,110]⟩:ByteArray))++j)++(⟨#[34]⟩:ByteArray)).size)+(((⟨#[62,10]⟩:ByteArray)++u)++(⟨#[32,32,32,32,60,47,101,100,103,101,62,10]⟩:ByteArray)).size)<=maxLen/\∀sA14 sC14 hv42,aC hv42 5 1 sA14 ((e+(((((⟨#[32,32,32,32,60,101,100,103,101,32,115,111,117,114,99,101,61,34,110]⟩:ByteArray)++i)++(⟨#[34,32,116,97,114,103,101,116,61,34,110]⟩:ByteArray))++j)++(⟨#[34]⟩:ByteArray)).size)+(((⟨#[62,10]⟩:ByteArray)++u)++(⟨#[32,32,32,32,60,47,101,100,103,101,62,10]⟩:ByteArray)).size) sC14 (f0++(Lib.strCells (((⟨#[62,10]⟩:ByteArray)++u)++(⟨#[32,32,32,32,60,47,101,100,103,101,62,10]⟩:ByteArray))))->Fr (ag sA12) a2 hv42->((sA14=sA12/\sC14=sC12)\/∃a,sA14=some ⟨a,0,none⟩/\a2.size<=a)->(sC12<((e+(((((⟨#[32,32,32,32,60,101,100,103,101,32,115,111,117,114,99,101,61,34,110]⟩:ByteArray)++i)++(⟨#[34,32,116,97,114,103,101,116,61,34,110]⟩:ByteArray))++j)++(⟨#[34]⟩:ByteArray)).size)+(((⟨#[62,10]⟩:ByteArray)++u)++(⟨#[32,32,32,32,60,47,101,100,103,101,62,10]⟩:ByteArray)).size)->Fr [] a2 hv42)->c0 [.slice sA14 ((e+(((((⟨#[32,32,32,32,60,101,100,103,101,32,115,111,117,114,99,101,61,34,110]⟩:ByteArray)++i)++(⟨#[34,32,116,97,114,103,101,116,61,34,110]⟩:ByteArray))++j)++(⟨#[34]⟩:ByteArray)).size)+(((⟨#[62,10]⟩:ByteArray)++u)++(⟨#[32,32,32,32,60,47,101,100,103,101,62,10]⟩:ByteArray)).size) sC14] hv42))/\∀(c1:Option Addr) (c5 c3:Nat),∀d0,c0 [.slice c1 c5 c3] d0->a6 [.slice c1 c5 c3,.int .i64 (i64.wrap (l+1))] d0/\e4 [.slice c1 c5 c3,.int .i64 (i64.wrap (l+1))] d0<e4 [.slice p e w,.int .i64 l] n) (∃f1,aC n 5 1 p e w f1/\(∀b'∈([h.size]:List Nat),b'∉ag p)/\(e+(⟨#[32,32,60,47,103,114,97,112,104,62,10,60,47,103,114,97,112,104,109,108,62,10]⟩:ByteArray).size)*1<=140737488355328/\(e+(⟨#[32,32,60,47,103,114,97,112,104,62,10,60,47,103,114,97,112,104,109,108,62,10]⟩:ByteArray).size)<=maxLen/\∀sA15 sC15 hv44,aC hv44 5 1 sA15 (e+(⟨#[32,32,60,47,103,114,97,112,104,62,10,60,47,103,114,97,112,104,109,108,62,10]⟩:ByteArray).size) sC15 (f1++(Lib.strCells (⟨#[32,32,60,47,103,114,97,112,104,62,10,60,47,103,114,97,112,104,109,108,62,10]⟩:ByteArray)))->Fr (ag p) n hv44->((sA15=p/\sC15=w)\/∃a,sA15=some ⟨a,0,none⟩/\n.size<=a)->(w<(e+(⟨#[32,32,60,47,103,114,97,112,104,62,10,60,47,103,114,97,112,104,109,108,62,10]⟩:ByteArray).size)->Fr [] n hv44)->cnd (decide (((e+(⟨#[32,32,60,47,103,114,97,112,104,62,10,60,47,103,114,97,112,104,109,108,62,10]⟩:ByteArray).size):Int)>(262144:Int))) (R (.tuple #[.string ⟨#[]⟩,.int .i64 23]) hv44) (∃h1:List Int,Reads hv44 1 sA15 (e+(⟨#[32,32,60,47,103,114,97,112,104,62,10,60,47,103,114,97,112,104,109,108,62,10]⟩:ByteArray).size) (List.map (Value.int IntKind.u8) h1)/\R (.tuple #[.string (strOf h1),.int .i64 0]) hv44))))
theorem yJ {h:ab} {R:VP} (d:Int) (dA:Option Addr) (dL dC:Nat) (d2:Bool) (dA2:Option Addr) (dL2 dC2:Nat) (dA3:Option Addr) (dL3 dC3:Nat) (dA4:Option Addr) (dL4 dC4:Nat) (H:S36 d dA dL dC d2 dA2 dL2 dC2 dA3 dL3 dC3 dA4 dL4 dC4 h R):ae Tryz.prog 36 #[.agg #[.int .i64 d,.slice dA dL dC,.bool d2,.slice dA2 dL2 dC2,.slice dA3 dL3 dC3,.slice dA4 dL4 dC4]] h R:=aR [1] 158 [(0,⟨[1],[4,5],[1],[]⟩),(2,⟨[1],[4,6],[1],[]⟩)] [(15,⟨[1],[4],[1],[]⟩),(22,⟨[1],[4],[1],[]⟩),(31,⟨[1],[4],[1],[]⟩),(36,⟨[1],[4],[1],[]⟩),(69,⟨[1,5],[4],[1],[]⟩),(82,⟨[1,5],[4],[1],[]⟩)] [(1,⟨[1,5],[4],[1],[]⟩),(3,⟨[1,6],[4],[1],[]⟩)] [(23,⟨20,true⟩),(28,⟨23,true⟩)] Tryz.func36 (by kernel_rfl) (by kernel_rfl) H
def S12 (d:Int) (dA:Option Addr) (dL dC:Nat) (d2:Bool) (dA2:Option Addr) (dL2 dC2:Nat) (dA3:Option Addr) (dL3 dC3:Nat) (dA4:Option Addr) (dL4 dC4:Nat) (h:ab) (R:VP):Prop:=let l:ab:=h.push (.cells #[.int .i64 d,.slice dA dL dC,.bool d2,.slice dA2 dL2 dC2,.slice dA3 dL3 dC3,.slice dA4 dL4 dC4] 29);ai Tryz.prog 16 #[] l [h.size] fun n a=>∃e:Bool,n= .bool e/\cnd (!e) (R (.bool false) a) (ai Tryz.prog 17 #[.agg #[.int .i64 d,.slice dA dL dC,.bool d2,.slice dA2 dL2 dC2,.slice dA3 dL3 dC3,.slice dA4 dL4 dC4]] a [h.size] fun o b=>∃f:Bool,o= .bool f/\cnd (!f) (R (.bool true) b) (ai Tryz.prog 18 #[.agg #[.int .i64 d,.slice dA dL dC,.bool d2,.slice dA2 dL2 dC2,.slice dA3 dL3 dC3,.slice dA4 dL4 dC4]] b [h.size] fun p m=>∃g:ByteArray,∃j:Int,p= .tuple #[.string g,.int .i64 j]/\ai Tryz.prog 36 #[.agg #[.int .i64 d,.slice dA dL dC,.bool d2,.slice dA2 dL2 dC2,.slice dA3 dL3 dC3,.slice dA4 dL4 dC4]] m [h.size] fun q c=>∃i:ByteArray,∃k:Int,q= .tuple #[.string i,.int .i64 k]/\cnd (g.toList==i.toList) (R (.bool (j==k)) c) (R (.bool false) c)))
theorem yK {h:ab} {R:VP} (d:Int) (dA:Option Addr) (dL dC:Nat) (d2:Bool) (dA2:Option Addr) (dL2 dC2:Nat) (dA3:Option Addr) (dL3 dC3:Nat) (dA4:Option Addr) (dL4 dC4:Nat) (H:S12 d dA dL dC d2 dA2 dL2 dC2 dA3 dL3 dC3 dA4 dL4 dC4 h R):ae Tryz.prog 12 #[.agg #[.int .i64 d,.slice dA dL dC,.bool d2,.slice dA2 dL2 dC2,.slice dA3 dL3 dC3,.slice dA4 dL4 dC4]] h R:=aR [1] 30 [] [] [] [] Tryz.func12 (by kernel_rfl) (by kernel_rfl) H
end Go.Proofs.YtlflalecmhgmjaaGreatDoor.N
