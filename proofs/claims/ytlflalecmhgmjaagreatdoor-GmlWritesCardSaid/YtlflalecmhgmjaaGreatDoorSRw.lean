/- The document's Light, Cleaned, May and Same, over documents in memory. Conditions: none. -/
import Derived.Test.YtlflalecmhgmjaaGreatDoorTGw
import Derived.Test.YtlflalecmhgmjaaGreatDoorKEdg
import Derived.Test.YtlflalecmhgmjaaGreatDoorWEnv
import Derived.Test.YtlflalecmhgmjaaGreatDoorYGl
import Derived.Test.YtlflalecmhgmjaaGreatDoorSRd
set_option linter.unusedVariables false
set_option linter.unusedSimpArgs false
open Go.IntKind (i64 u64 u8 i32)
namespace Go.Proofs.YtlflalecmhgmjaaGreatDoor.N
open Go.Proofs.YtlflalecmhgmjaaGreatDoor
open Go.X
open Go.Proofs
set_option maxRecDepth 100000
theorem CL {x y:Nat} {R:Bool->Prop} (r:R (x==y)):Bj x y R:=by
 apply Ji
 unfold T48
 have e:(((x:Int))==((y:Int)))=(x==y):=by grind
 refine bM (fV _) ⟨_,rfl,bM (fV _) ⟨_,rfl,?_⟩⟩
 rw[e];exact r
theorem wS {x y:Nat} {R:Bool->Prop} (r:R (fe x y)):yk x y R:=by
 apply Jl
 unfold T71
 rw[dD,dD]
 unfold fe at r
 refine⟨fun b=>b=(x==y)/\(isNaN x&&isNaN y)=false,aV (fun h1=>aV (fun h2=>?_) fun h2=>CL ⟨rfl,by grind⟩) fun h1=>CL ⟨rfl,by rw[h1];rfl⟩,?_⟩
 ·grind
 grind
theorem wT {x:Nat} {R:Nat->Prop} (r:R (bu x)):yj x R:=by
 apply Jj
 unfold T50
 rw[dD]
 unfold bu at r
 refine aV (fun h=>G8 (bM (il _) ⟨_,rfl,?_⟩)) fun h=>?_
 ·grind
 ·rw[if_neg (by rw[h];decide)]at r
  refine aV (fun h0=>?_) fun h0=>?_
  ·grind
  grind
theorem FW {n:Int} {es:Es} {R:Int->Es->Prop} (he:es.length<1000000000000) (r:R n es):DP n es R:=by
 grind [Jk,T49]
theorem CM {n:Int} {es:Es} {dr:Bool} {ls:List ByteArray} {ss:List (Nat × Nat)} {ws:List Nat} {R:Bool->Prop} (r:∀b,(b=true->es.length<=300/\ls.length<=2000/\ss.length<=2000/\ws.length<=4000)->R b):Ha n es dr ls ss ws R:=by
 apply Jn
 unfold T17
 have no:R false:=r false (fun h=>by cases h)
 refine⟨fun _=>True,⟨fun _ i=>∃k:Nat,i=k/\k<=ls.length,fun _ i=>((ls.length:Int)-i).toNat,⟨0,rfl,by omega⟩,?_⟩,?_⟩
 ·rintro m _ ⟨k,rfl,hk⟩
  refine ag (fun hlt=>ag (fun h2=>⟨by omega,hlt,fun x hx=>?_⟩) fun _=>trivial) fun _=>trivial
  rw[wr (x:=(k:Int)+1) (by omega) (by omega)]
  exact⟨⟨k+1,by simp,by omega⟩,by grind⟩
 grind [ag,wW]
theorem FY {n:Int} {es:Es} {dr:Bool} {ls:List ByteArray} {ss:List (Nat × Nat)} {ws:List Nat} {R:Int->Es->Bool->List ByteArray->List (Nat × Nat)->List Nat->Prop} (h1:es.length<=300) (h2:ls.length<=2000) (h3:ss.length<=2000) (h4:ws.length<=4000)
  (r:R n es dr ls (ss.map fun p=>(bu p.1,bu p.2)) (ws.map bu)):Hb n es dr ls ss ws R:=by
 apply Jo
 unfold T21
 refine⟨fun x x2 x3=>n=x/\es=x2/\ls=x3,FW (by omega) ⟨by omega,rfl,rfl,(List.nil_append _).symm⟩,?_⟩
 rintro _ _ _ ⟨rfl,rfl,rfl⟩
 refine⟨fun i a b c d e f=>∃k:Nat,i=k/\k<=ss.length/\n=a/\es=b/\dr=c/\ls=d/\e=(ss.take k).map (fun p=>(bu p.1,bu p.2))/\f=[],fun i _ _ _ _ _ _=>((ss.length:Int)-i).toNat,⟨0,rfl,by omega,rfl,rfl,rfl,rfl,rfl,rfl⟩,?_⟩
 rintro _ _ _ _ _ _ _ ⟨k,rfl,hk,rfl,rfl,rfl,rfl,rfl,rfl⟩
 refine ag (fun hlt=>⟨by omega,hlt,fun p hp=>wT (wT ⟨?_,?_,?_⟩)⟩) fun hlt=>?_
 ·grind
 ·rw[wr (by omega) (by omega)]
  have hp:ss[k]? =some p:=by simpa using hp
  exact⟨k+1,by simp,by omega,rfl,rfl,rfl,rfl,by rw[List.take_add_one,hp];simp,rfl⟩
 ·grind [wr]
 have hk':ss.take k=ss:=List.take_of_length_le (by omega)
 refine⟨fun i a b c d e f=>∃k:Nat,i=k/\k<=ws.length/\n=a/\es=b/\dr=c/\ls=d/\e=ss.map (fun p=>(bu p.1,bu p.2))/\f=(ws.take k).map bu,fun i _ _ _ _ _ _=>((ws.length:Int)-i).toNat,⟨0,rfl,by omega,rfl,rfl,rfl,rfl,by rw[hk'],rfl⟩,?_⟩
 rintro _ _ _ _ _ _ _ ⟨j,rfl,hj,rfl,rfl,rfl,rfl,rfl,rfl⟩
 refine ag (fun hlt=>⟨by omega,hlt,fun p hp=>wT ⟨?_,?_,?_⟩⟩) fun hlt=>?_
 ·grind
 ·rw[wr (by omega) (by omega)]
  have hp:ws[j]? =some p:=by simpa using hp
  exact⟨j+1,by simp,by omega,rfl,rfl,rfl,rfl,rfl,by rw[List.take_add_one,hp];simp⟩
 ·grind [wr]
 grind
theorem CN {n:Int} {es:Es} {dr:Bool} {ls:List ByteArray} {ss:List (Nat × Nat)} {ws:List Nat} {R:Bool->Prop} (hl:ls.length<=9223372036854775806) (r:R (cU n es ls ss ws)):Hc n es dr ls ss ws R:=by
 apply Jp
 unfold T28
 have nb:∀{a b:Int},a≠0->a≠b->bf a b=false:=fun h1 h2=>by unfold bf;simp[h1,h2]
 have f2:bf (ls.length:Int) n=false->R false:=fun e=>by unfold cU at r;grind
 have f3:bf (ss.length:Int) n=false->R false:=fun e=>by unfold cU at r;grind
 have f4:bf (ws.length:Int) (es.length:Int)=false->R false:=fun e=>by unfold cU at r;grind
 have y0:∀{a b:Int},a=0->bf a b=true:=fun h=>by unfold bf;simp[h]
 have y1:∀{a b:Int},a=b->bf a b=true:=fun h=>by unfold bf;simp[h]
 refine⟨dh n es=true/\bf (ls.length:Int) n=true/\bf (ss.length:Int) n=true/\bf (ws.length:Int) (es.length:Int)=true,wW (aK (fun q=>?_) fun m=>?_),?_⟩
 ·unfold cU at r;grind
 ·have w:bf (ls.length:Int) n=true->bf (ss.length:Int) n=true->cnd ((ws.length:Int) != 0) (cnd ((ws.length:Int) != (es.length:Int)) (R false) (dh n es=true/\bf (ls.length:Int) n=true/\bf (ss.length:Int) n=true/\bf (ws.length:Int) (es.length:Int)=true)) (dh n es=true/\bf (ls.length:Int) n=true/\bf (ss.length:Int) n=true/\bf (ws.length:Int) (es.length:Int)=true):=fun a b=>
   bz (fun p=>bz (fun p2=>f4 (nb p p2)) fun p2=>⟨m,a,b,y1 p2⟩) fun p=>⟨m,a,b,y0 p⟩
  have s:bf (ls.length:Int) n=true->cnd ((ss.length:Int) != 0) (cnd ((ss.length:Int) != n) (R false) (cnd ((ws.length:Int) != 0) (cnd ((ws.length:Int) != (es.length:Int)) (R false) (dh n es=true/\bf (ls.length:Int) n=true/\bf (ss.length:Int) n=true/\bf (ws.length:Int) (es.length:Int)=true)) (dh n es=true/\bf (ls.length:Int) n=true/\bf (ss.length:Int) n=true/\bf (ws.length:Int) (es.length:Int)=true)))
    (cnd ((ws.length:Int) != 0) (cnd ((ws.length:Int) != (es.length:Int)) (R false) (dh n es=true/\bf (ls.length:Int) n=true/\bf (ss.length:Int) n=true/\bf (ws.length:Int) (es.length:Int)=true)) (dh n es=true/\bf (ls.length:Int) n=true/\bf (ss.length:Int) n=true/\bf (ws.length:Int) (es.length:Int)=true)):=fun a=>
   bz (fun p=>bz (fun p2=>f3 (nb p p2)) fun p2=>w a (y1 p2)) fun p=>w a (y0 p)
  exact bz (fun p=>bz (fun p2=>f2 (nb p p2)) fun p2=>s (y1 p2)) fun p=>s (y0 p)
 ·rintro⟨a,b,c,d⟩
  have e:cU n es ls ss ws=ls.all iH:=by unfold cU;grind
  rw[e]at r
  refine⟨fun i=>∃k:Nat,i=k/\k<=ls.length/\(ls.take k).all iH=true,fun i=>((ls.length:Int)-i).toNat,⟨0,rfl,by omega,by simp⟩,?_⟩
  rintro _ ⟨k,rfl,hk,ha⟩
  refine ag (fun hlt=>⟨by omega,hlt,fun x hx=>F1 (aK (fun q=>?_) fun q=>?_)⟩) fun hlt=>?_
  ·grind
  ·have hx:ls[k]? =some x:=by simpa using hx
   rw[wr (by omega) (by omega)]
   exact⟨⟨k+1,by simp,by omega,by rw[List.take_add_one,hx];simp[ha,q]⟩,by grind⟩
  grind
theorem CO {a b:MD} {R:Bool->Prop} (hl:a.es.length<=9223372036854775806/\a.ls.length<=9223372036854775806/\a.ss.length<=9223372036854775806/\a.ws.length<=9223372036854775806) (r:R (cA a b)):He a.n a.es a.dir a.ls a.ss a.ws b.n b.es b.dir b.ls b.ss b.ws R:=by
 obtain⟨n,dr,es,ls,ss,ws⟩:=a
 obtain⟨n2,dr2,es2,ls2,ss2,ws2⟩:=b
 obtain⟨h1,h2,h3,h4⟩:=hl
 dsimp only at*
 apply Jq
 unfold T29
 have sB:∀v,cA ⟨n,dr,es,ls,ss,ws⟩ ⟨n2,dr2,es2,ls2,ss2,ws2⟩=v->R v:=fun v e=>e▸r
 refine⟨cA ⟨n,dr,es,ls,ss,ws⟩ ⟨n2,dr2,es2,ls2,ss2,ws2⟩=false,F0 (by omega) (aK (fun q=>?_) fun q1=>aK (fun q=>?_) fun q2=>bz (fun q=>?_) fun q3=>bz (fun q=>?_) fun q4=>bz (fun q=>?_) fun q5=>?_),sB false⟩
 ·unfold cA;grind
 ·unfold cA;grind
 ·grind [cA]
 ·grind [cA,fF]
 ·grind [cA,fF]
 have eA:cA ⟨n,dr,es,ls,ss,ws⟩ ⟨n2,dr2,es2,ls2,ss2,ws2⟩=(eqL (fun x y=>decide (x=y)) ls ls2&&(eqL fe2 ss ss2&&eqL fe ws ws2)):=by
  grind [cA,oV]
 rw[eA]at sB
 refine⟨fun i=>∃k:Nat,i=k/\k<=ls.length/\((ls.zip ls2).take k).all (fun p=>decide (p.1=p.2))=true,fun i=>((ls.length:Int)-i).toNat,⟨0,rfl,by omega,by simp⟩,?_⟩
 rintro _ ⟨k,rfl,hk,ha⟩
 refine ag (fun hlt=>⟨by omega,hlt,fun x hx=>⟨by omega,by omega,fun y hy=>?_⟩⟩) fun hlt=>?_
 ·have hx:ls[k]? =some x:=by simpa using hx
  have hy:ls2[k]? =some y:=by simpa using hy
  rw[wY]
  refine aK (fun q=>sB false ?_) fun q=>?_
  ·grind [gh]
  ·rw[wr (by omega) (by omega)]
   exact⟨⟨k+1,by simp,by omega,dH (f:=fun x y=>decide (x=y)) hx hy q ha⟩,by grind⟩
 rw[fG (f:=fun x y=>decide (x=y)) (show ls.length=ls2.length by omega) (show ls.length<=k by omega) ha,Bool.true_and]at sB
 clear ha hk hlt
 refine⟨fun i=>∃k:Nat,i=k/\k<=ss.length/\((ss.zip ss2).take k).all (fun p=>fe2 p.1 p.2)=true,fun i=>((ss.length:Int)-i).toNat,⟨0,rfl,by omega,by simp⟩,?_⟩
 rintro _ ⟨k,rfl,hk,ha⟩
 refine ag (fun hlt=>⟨by omega,hlt,fun x hx=>⟨by omega,by omega,fun y hy=>?_⟩⟩) fun hlt=>?_
 ·have hx:ss[k]? =some x:=by simpa using hx
  have hy:ss2[k]? =some y:=by simpa using hy
  refine wS (aK (fun q=>sB false ?_) fun q=>wS (aK (fun q'=>sB false ?_) fun q'=>?_))
  ·grind [gh,fe2]
  ·grind [gh,fe2]
  ·rw[wr (by omega) (by omega)]
   exact⟨⟨k+1,by simp,by omega,dH (f:=fe2) hx hy (by unfold fe2;rw[q,q'];rfl) ha⟩,by grind⟩
 rw[fG (f:=fe2) (show ss.length=ss2.length by omega) (show ss.length<=k by omega) ha,Bool.true_and]at sB
 clear ha hk hlt
 refine⟨fun i=>∃k:Nat,i=k/\k<=ws.length/\((ws.zip ws2).take k).all (fun p=>fe p.1 p.2)=true,fun i=>((ws.length:Int)-i).toNat,⟨0,rfl,by omega,by simp⟩,?_⟩
 rintro _ ⟨k,rfl,hk,ha⟩
 refine ag (fun hlt=>⟨by omega,hlt,fun x hx=>⟨by omega,by omega,fun y hy=>?_⟩⟩) fun hlt=>sB true (fG (f:=fe) (show ws.length=ws2.length by omega) (show ws.length<=k by omega) ha)
 have hx:ws[k]? =some x:=by simpa using hx
 have hy:ws2[k]? =some y:=by simpa using hy
 refine wS (aK (fun q=>sB false (gh hx hy q)) fun q=>?_)
 rw[wr (by omega) (by omega)]
 exact⟨⟨k+1,by simp,by omega,dH hx hy q ha⟩,by grind⟩
theorem FZ {s:ByteArray} {R:ByteArray->Prop} (hs:s.size<=1000) (r:R (G.mkB (G.quo s.data.toList))):G9 s R:=by
 apply Jm
 unfold T69
 have hsz:s.size=s.data.toList.length:=rfl
 refine⟨fun b i=>∃k:Nat,i=k/\k<=s.size/\b=bI (G.enc (s.data.toList.take k)),fun _ i=>((s.size:Int)-i).toNat,⟨0,rfl,by omega,by simp[G.enc,bI]⟩,?_⟩
 rintro _ _ ⟨k,rfl,hk,rfl⟩
 have hlen:∀j,(bI (G.enc (s.data.toList.take j))).length<=6*j:=fun j=>by
  grind [lF,oU]
 have hb:=hlen k
 refine ag (fun hlt=>?_) fun hlt=>?_
 ·obtain⟨c,hc⟩:∃c,s.data.toList[k]? =some c:=⟨_,List.getElem?_eq_getElem (by omega)⟩
  have hc':s[Int.toNat (k:Int)]? =some c:=by rw[Int.toNat_natCast,kD];exact hc
  have step:bI (G.enc (s.data.toList.take (k+1)))=bI (G.enc (s.data.toList.take k))++bI (G.wk c):=by
   grind [List.take_add_one,G.enc,oP]
  have nx:∀b2,b2=bI (G.enc (s.data.toList.take (k+1)))->(∃k2:Nat,i64.wrap ((k:Int)+1)=k2/\k2<=s.size/\b2=bI (G.enc (s.data.toList.take k2)))/\((s.size:Int)-i64.wrap ((k:Int)+1)).toNat<((s.size:Int)-(k:Int)).toNat:=by
   grind [wr]
  refine⟨by omega,hlt,c,hc',fun b2=>b2=bI (G.enc (s.data.toList.take (k+1))),au (fun e=>⟨?_,?_⟩) fun n1=>⟨fun b2=>b2=bI (G.enc (s.data.toList.take (k+1))),au (fun e=>⟨?_,?_⟩) fun n2=>⟨by omega,hlt,c,hc',by omega,?_⟩,fun _ q=>q⟩,nx⟩
  ·show _+5<_;omega
  ·rw[step,show c=38 from eqB.1 e];rfl
  ·show _+6<_;omega
  ·rw[step,show c=34 from eqB.1 e];rfl
  ·rw[step]
   have h1:c≠38:=fun q=>n1 (eqB.2 q)
   have h2:c≠34:=fun q=>n2 (eqB.2 q)
   unfold G.wk;rw[if_neg h1,if_neg h2];rfl
 ·have hk':s.data.toList.take k=s.data.toList:=List.take_of_length_le (by omega)
  rw[hk']at hb ⊢
  rw[qd]
  rw[lF]at hb
  have e:((⟨#[34]⟩:ByteArray)++G.mkB (G.enc s.data.toList))++(⟨#[34]⟩:ByteArray)=G.mkB (G.quo s.data.toList):=by
   apply ByteArray.ext;apply Array.ext'
   simp[G.quo,G.mkB]
  rw[e]
  have e2:((⟨#[34]⟩:ByteArray)++G.mkB (G.enc s.data.toList)).size=1+(G.enc s.data.toList).length:=by
   rw[ByteArray.size_append,aP];rfl
  grind
set_option maxHeartbeats 2000000
def S27 (d:Int) (dA:Option Addr) (dL dC:Nat) (d2:Bool) (dA2:Option Addr) (dL2 dC2:Nat) (dA3:Option Addr) (dL3 dC3:Nat) (dA4:Option Addr) (dL4 dC4:Nat) (h:ab) (R:VP):Prop:=let d4:ab:=h.push (.cells #[.int .i64 d,.slice dA dL dC,.bool d2,.slice dA2 dL2 dC2,.slice dA3 dL3 dC3,.slice dA4 dL4 dC4] 29);ah Tryz.prog 28 #[.agg #[.int .i64 d,.slice dA dL dC,.bool d2,.slice dA2 dL2 dC2,.slice dA3 dL3 dC3,.slice dA4 dL4 dC4]] d4 [h.size] fun d6 Y=>∃c5:Bool,d6= .bool c5/\cnd (!c5) (R (.tuple #[.string ⟨#[]⟩,.int .i64 1]) Y) (let a5:ab:=Y.push (.cells #[.int .u8 103,.int .u8 114,.int .u8 97,.int .u8 112,.int .u8 104,.int .u8 32,.int .u8 91,.int .u8 10,.int .u8 32,.int .u8 32,.int .u8 100,.int .u8 105,.int .u8 114,.int .u8 101,.int .u8 99,.int .u8 116,.int .u8 101,.int .u8 100,.int .u8 32,.int .u8 48,.int .u8 10] 5);∃b q,(some (⟨Y.size,0,none⟩:Addr))=some ⟨b,q,none⟩/\b≠h.size/\∃cs f,a5[b]? =some (.cells cs 5 f)/\let Z:ab:=dY a5 b;∃U:LP,(cnd d2 (let a6:ab:=Z.push (.cells #[.int .u8 103,.int .u8 114,.int .u8 97,.int .u8 112,.int .u8 104,.int .u8 32,.int .u8 91,.int .u8 10,.int .u8 32,.int .u8 32,.int .u8 100,.int .u8 105,.int .u8 114,.int .u8 101,.int .u8 99,.int .u8 116,.int .u8 101,.int .u8 100,.int .u8 32,.int .u8 49,.int .u8 10] 5);∃b2 q2,(some (⟨Z.size,0,none⟩:Addr))=some ⟨b2,q2,none⟩/\b2≠h.size/\∃cs f,a6[b2]? =some (.cells cs 5 f)/\let d5:ab:=dY a6 b2;U [.slice (some ⟨b2,q2,none⟩) 21 21] d5) (U [.slice (some ⟨b,q,none⟩) 21 21] Z))/\∀(a0:Option Addr) (a2 a1:Nat),∀a7,U [.slice a0 a2 a1] a7->∃(S:LP) (a8:List Value->ab->Nat),S [.slice a0 a2 a1,.int .i64 0] a7/\∀(z:Option Addr) (g D:Nat),∀k:Int,∀P,S [.slice z g D,.int .i64 k] P->cnd (decide (k<d)) (ah Tryz.prog 38 #[.int .i64 k] P [h.size] fun d7 Q=>∃i:ByteArray,d7= .string i/\((((⟨#[32,32,110,111,100,101,32,91,10,32,32,32,32,105,100,32]⟩:ByteArray).size+i.size:Nat)):Int)<=9223372036854775807/\(((((⟨#[32,32,110,111,100,101,32,91,10,32,32,32,32,105,100,32]⟩:ByteArray)++i).size+(⟨#[10]⟩:ByteArray).size:Nat)):Int)<=9223372036854775807/\co 5 1 1 [h.size] Q z g D ((((⟨#[32,32,110,111,100,101,32,91,10,32,32,32,32,105,100,32]⟩:ByteArray)++i)++(⟨#[10]⟩:ByteArray)).size) ((Lib.strCells (((⟨#[32,32,110,111,100,101,32,91,10,32,32,32,32,105,100,32]⟩:ByteArray)++i)++(⟨#[10]⟩:ByteArray)))) fun sA sC hv10=>∃V:LP,(cnd (decide ((dL2:Int)>(0:Int))) (∃b3 o,dA2=some ⟨b3,o,none⟩/\0<=k/\k<(dL2:Nat)/\∃c6:ByteArray,ac hv10 b3 (o+(Int.toNat k)*1)=some (.string c6)/\ah Tryz.prog 69 #[.string c6] hv10 [h.size] fun d8 N=>∃r:ByteArray,d8= .string r/\((((⟨#[32,32,32,32,108,97,98,101,108,32]⟩:ByteArray).size+r.size:Nat)):Int)<=9223372036854775807/\(((((⟨#[32,32,32,32,108,97,98,101,108,32]⟩:ByteArray)++r).size+(⟨#[10]⟩:ByteArray).size:Nat)):Int)<=9223372036854775807/\co 5 1 1 [h.size] N sA (g+(((⟨#[32,32,110,111,100,101,32,91,10,32,32,32,32,105,100,32]⟩:ByteArray)++i)++(⟨#[10]⟩:ByteArray)).size) sC ((((⟨#[32,32,32,32,108,97,98,101,108,32]⟩:ByteArray)++r)++(⟨#[10]⟩:ByteArray)).size) ((Lib.strCells (((⟨#[32,32,32,32,108,97,98,101,108,32]⟩:ByteArray)++r)++(⟨#[10]⟩:ByteArray)))) fun sA2 sC2 hv12=>V [.slice sA2 ((g+(((⟨#[32,32,110,111,100,101,32,91,10,32,32,32,32,105,100,32]⟩:ByteArray)++i)++(⟨#[10]⟩:ByteArray)).size)+(((⟨#[32,32,32,32,108,97,98,101,108,32]⟩:ByteArray)++r)++(⟨#[10]⟩:ByteArray)).size) sC2] hv12) (V [.slice sA (g+(((⟨#[32,32,110,111,100,101,32,91,10,32,32,32,32,105,100,32]⟩:ByteArray)++i)++(⟨#[10]⟩:ByteArray)).size) sC] hv10))/\∀(C:Option Addr) (v G:Nat),∀y,V [.slice C v G] y->∃W:LP,(cnd (decide ((dL3:Int)>(0:Int))) (∃A:List Nat,(∀b∈([h.size]:List Nat),b∉A)/\∃b4 o2,dA3=some ⟨b4,o2,none⟩/\0<=k/\k<(dL3:Nat)/\b4∉A/\∃c7:Nat,ac y b4 (o2+(Int.toNat k)*2)=some (.float .f64 c7)/\∃b5 o3,dA3=some ⟨b5,o3,none⟩/\0<=k/\k<(dL3:Nat)/\b5∉A/\∃c8:Nat,ac y b5 ((o3+(Int.toNat k)*2)+1)=some (.float .f64 c8)/\ah Tryz.prog 70 #[.float .f64 c7] y [h.size] fun d9 a3=>∃n:ByteArray,d9= .string n/\Fr A y a3/\((((⟨#[32,32,32,32,103,114,97,112,104,105,99,115,32,91,10,32,32,32,32,32,32,120,32]⟩:ByteArray).size+n.size:Nat)):Int)<=9223372036854775807/\(((((⟨#[32,32,32,32,103,114,97,112,104,105,99,115,32,91,10,32,32,32,32,32,32,120,32]⟩:ByteArray)++n).size+(⟨#[10,32,32,32,32,32,32,121,32]⟩:ByteArray).size:Nat)):Int)<=9223372036854775807/\ah Tryz.prog 70 #[.float .f64 c8] a3 [h.size] fun e0 H=>∃s:ByteArray,e0= .string s/\Fr A y H/\((((((⟨#[32,32,32,32,103,114,97,112,104,105,99,115,32,91,10,32,32,32,32,32,32,120,32]⟩:ByteArray)++n)++(⟨#[10,32,32,32,32,32,32,121,32]⟩:ByteArray)).size+s.size:Nat)):Int)<=9223372036854775807/\(((((((⟨#[32,32,32,32,103,114,97,112,104,105,99,115,32,91,10,32,32,32,32,32,32,120,32]⟩:ByteArray)++n)++(⟨#[10,32,32,32,32,32,32,121,32]⟩:ByteArray))++s).size+(⟨#[10,32,32,32,32,93,10]⟩:ByteArray).size:Nat)):Int)<=9223372036854775807/\co 5 1 1 [h.size] H C v G ((((((⟨#[32,32,32,32,103,114,97,112,104,105,99,115,32,91,10,32,32,32,32,32,32,120,32]⟩:ByteArray)++n)++(⟨#[10,32,32,32,32,32,32,121,32]⟩:ByteArray))++s)++(⟨#[10,32,32,32,32,93,10]⟩:ByteArray)).size) ((Lib.strCells (((((⟨#[32,32,32,32,103,114,97,112,104,105,99,115,32,91,10,32,32,32,32,32,32,120,32]⟩:ByteArray)++n)++(⟨#[10,32,32,32,32,32,32,121,32]⟩:ByteArray))++s)++(⟨#[10,32,32,32,32,93,10]⟩:ByteArray)))) fun sA3 sC3 hv16=>Fr A y hv16/\W [.slice sA3 (v+(((((⟨#[32,32,32,32,103,114,97,112,104,105,99,115,32,91,10,32,32,32,32,32,32,120,32]⟩:ByteArray)++n)++(⟨#[10,32,32,32,32,32,32,121,32]⟩:ByteArray))++s)++(⟨#[10,32,32,32,32,93,10]⟩:ByteArray)).size) sC3] hv16) (W [.slice C v G] y))/\∀(E:Option Addr) (w L:Nat),∀I,W [.slice E w L] I->co 5 1 1 [h.size] I E w L ((⟨#[32,32,93,10]⟩:ByteArray).size) ((Lib.strCells (⟨#[32,32,93,10]⟩:ByteArray))) fun sA4 sC4 hv18=>S [.slice sA4 (w+(⟨#[32,32,93,10]⟩:ByteArray).size) sC4,.int .i64 (i64.wrap (k+1))] hv18/\a8 [.slice sA4 (w+(⟨#[32,32,93,10]⟩:ByteArray).size) sC4,.int .i64 (i64.wrap (k+1))] hv18<a8 [.slice z g D,.int .i64 k] P) (∃(T:LP) (a9:List Value->ab->Nat),T [.slice z g D,.int .i64 0] P/\∀(p:Option Addr) (c u:Nat),∀l:Int,∀m,T [.slice p c u,.int .i64 l] m->cnd (decide (l<(dL:Int))) (∃B:List Nat,(∀b∈([h.size]:List Nat),b∉B)/\∃b6 o4,dA=some ⟨b6,o4,none⟩/\0<=l/\l<(dL:Nat)/\b6∉B/\∃c9:Int,ac m b6 ((o4+(Int.toNat l)*2)+0)=some (.int .i64 c9)/\∃b7 o5,dA=some ⟨b7,o5,none⟩/\0<=l/\l<(dL:Nat)/\b7∉B/\∃d0:Int,ac m b7 ((o5+(Int.toNat l)*2)+1)=some (.int .i64 d0)/\ah Tryz.prog 38 #[.int .i64 c9] m [h.size] fun e1 a4=>∃e:ByteArray,e1= .string e/\Fr B m a4/\((((⟨#[32,32,101,100,103,101,32,91,10,32,32,32,32,115,111,117,114,99,101,32]⟩:ByteArray).size+e.size:Nat)):Int)<=9223372036854775807/\(((((⟨#[32,32,101,100,103,101,32,91,10,32,32,32,32,115,111,117,114,99,101,32]⟩:ByteArray)++e).size+(⟨#[10,32,32,32,32,116,97,114,103,101,116,32]⟩:ByteArray).size:Nat)):Int)<=9223372036854775807/\ah Tryz.prog 38 #[.int .i64 d0] a4 [h.size] fun e2 J=>∃j:ByteArray,e2= .string j/\Fr B m J/\((((((⟨#[32,32,101,100,103,101,32,91,10,32,32,32,32,115,111,117,114,99,101,32]⟩:ByteArray)++e)++(⟨#[10,32,32,32,32,116,97,114,103,101,116,32]⟩:ByteArray)).size+j.size:Nat)):Int)<=9223372036854775807/\(((((((⟨#[32,32,101,100,103,101,32,91,10,32,32,32,32,115,111,117,114,99,101,32]⟩:ByteArray)++e)++(⟨#[10,32,32,32,32,116,97,114,103,101,116,32]⟩:ByteArray))++j).size+(⟨#[10]⟩:ByteArray).size:Nat)):Int)<=9223372036854775807/\co 5 1 1 [h.size] J p c u ((((((⟨#[32,32,101,100,103,101,32,91,10,32,32,32,32,115,111,117,114,99,101,32]⟩:ByteArray)++e)++(⟨#[10,32,32,32,32,116,97,114,103,101,116,32]⟩:ByteArray))++j)++(⟨#[10]⟩:ByteArray)).size) ((Lib.strCells (((((⟨#[32,32,101,100,103,101,32,91,10,32,32,32,32,115,111,117,114,99,101,32]⟩:ByteArray)++e)++(⟨#[10,32,32,32,32,116,97,114,103,101,116,32]⟩:ByteArray))++j)++(⟨#[10]⟩:ByteArray)))) fun sA5 sC5 hv22=>Fr B m hv22/\∃X:LP,(cnd (decide ((dL4:Int)>(0:Int))) (∃b8 o6,dA4=some ⟨b8,o6,none⟩/\0<=l/\l<(dL4:Nat)/\∃d1:Nat,ac hv22 b8 (o6+(Int.toNat l)*1)=some (.float .f64 d1)/\ah Tryz.prog 70 #[.float .f64 d1] hv22 [h.size] fun e3 O=>∃t:ByteArray,e3= .string t/\((((⟨#[32,32,32,32,119,101,105,103,104,116,32]⟩:ByteArray).size+t.size:Nat)):Int)<=9223372036854775807/\(((((⟨#[32,32,32,32,119,101,105,103,104,116,32]⟩:ByteArray)++t).size+(⟨#[10]⟩:ByteArray).size:Nat)):Int)<=9223372036854775807/\co 5 1 1 [h.size] O sA5 (c+(((((⟨#[32,32,101,100,103,101,32,91,10,32,32,32,32,115,111,117,114,99,101,32]⟩:ByteArray)++e)++(⟨#[10,32,32,32,32,116,97,114,103,101,116,32]⟩:ByteArray))++j)++(⟨#[10]⟩:ByteArray)).size) sC5 ((((⟨#[32,32,32,32,119,101,105,103,104,116,32]⟩:ByteArray)++t)++(⟨#[10]⟩:ByteArray)).size) ((Lib.strCells (((⟨#[32,32,32,32,119,101,105,103,104,116,32]⟩:ByteArray)++t)++(⟨#[10]⟩:ByteArray)))) fun sA6 sC6 hv24=>X [.slice sA6 ((c+(((((⟨#[32,32,101,100,103,101,32,91,10,32,32,32,32,115,111,117,114,99,101,32]⟩:ByteArray)++e)++(⟨#[10,32,32,32,32,116,97,114,103,101,116,32]⟩:ByteArray))++j)++(⟨#[10]⟩:ByteArray)).size)+(((⟨#[32,32,32,32,119,101,105,103,104,116,32]⟩:ByteArray)++t)++(⟨#[10]⟩:ByteArray)).size) sC6] hv24) (X [.slice sA5 (c+(((((⟨#[32,32,101,100,103,101,32,91,10,32,32,32,32,115,111,117,114,99,101,32]⟩:ByteArray)++e)++(⟨#[10,32,32,32,32,116,97,114,103,101,116,32]⟩:ByteArray))++j)++(⟨#[10]⟩:ByteArray)).size) sC5] hv22))/\∀(F:Option Addr) (x M:Nat),∀K,X [.slice F x M] K->co 5 1 1 [h.size] K F x M ((⟨#[32,32,93,10]⟩:ByteArray).size) ((Lib.strCells (⟨#[32,32,93,10]⟩:ByteArray))) fun sA7 sC7 hv26=>T [.slice sA7 (x+(⟨#[32,32,93,10]⟩:ByteArray).size) sC7,.int .i64 (i64.wrap (l+1))] hv26/\a9 [.slice sA7 (x+(⟨#[32,32,93,10]⟩:ByteArray).size) sC7,.int .i64 (i64.wrap (l+1))] hv26<a9 [.slice p c u,.int .i64 l] m) (co 5 1 1 [h.size] m p c u ((⟨#[93,10]⟩:ByteArray).size) ((Lib.strCells (⟨#[93,10]⟩:ByteArray))) fun sA8 sC8 hv27=>cnd (decide (((c+(⟨#[93,10]⟩:ByteArray).size):Int)>(262144:Int))) (R (.tuple #[.string ⟨#[]⟩,.int .i64 23]) hv27) (∃d3:List Int,Reads hv27 1 sA8 (c+(⟨#[93,10]⟩:ByteArray).size) (List.map (Value.int IntKind.u8) d3)/\R (.tuple #[.string (strOf d3),.int .i64 0]) hv27))))
theorem AY {h:ab} {R:VP} (d:Int) (dA:Option Addr) (dL dC:Nat) (d2:Bool) (dA2:Option Addr) (dL2 dC2:Nat) (dA3:Option Addr) (dL3 dC3:Nat) (dA4:Option Addr) (dL4 dC4:Nat) (H:S27 d dA dL dC d2 dA2 dL2 dC2 dA3 dL3 dC3 dA4 dL4 dC4 h R):af Tryz.prog 27 #[.agg #[.int .i64 d,.slice dA dL dC,.bool d2,.slice dA2 dL2 dC2,.slice dA3 dL3 dC3,.slice dA4 dL4 dC4]] h R:=aI [1] 122 [(0,⟨[1],[4,5],[1],[]⟩),(2,⟨[1],[4,6],[1],[]⟩)] [(13,⟨[1],[4],[1],[]⟩),(32,⟨[1,5],[4],[1],[]⟩),(46,⟨[1,5],[4],[1],[]⟩),(102,⟨[1,6],[4],[1],[]⟩)] [] [(13,⟨21,true⟩),(18,⟨23,true⟩)] Tryz.func27 (by kernel_rfl) (by kernel_rfl) H
def S5 (a:Int) (aA:Option Addr) (aL aC:Nat) (a2:Bool) (aA2:Option Addr) (aL2 aC2:Nat) (aA3:Option Addr) (aL3 aC3:Nat) (aA4:Option Addr) (aL4 aC4:Nat) (b:Int) (bA:Option Addr) (bL bC:Nat) (b2:Bool) (bA2:Option Addr) (bL2 bC2:Nat) (bA3:Option Addr) (bL3 bC3:Nat) (bA4:Option Addr) (bL4 bC4:Nat) (h:ab) (R:VP):Prop:=let e:ab:=h.push (.cells #[.int .i64 a,.slice aA aL aC,.bool a2,.slice aA2 aL2 aC2,.slice aA3 aL3 aC3,.slice aA4 aL4 aC4] 29);let T:ab:=e.push (.cells #[.int .i64 b,.slice bA bL bC,.bool b2,.slice bA2 bL2 bC2,.slice bA3 bL3 bC3,.slice bA4 bL4 bC4] 29);ah Tryz.prog 26 #[] T [e.size,h.size] fun X B=>∃E:Bool,X= .bool E/\cnd (!E) (R (.bool false) B) (ah Tryz.prog 17 #[.agg #[.int .i64 a,.slice aA aL aC,.bool a2,.slice aA2 aL2 aC2,.slice aA3 aL3 aC3,.slice aA4 aL4 aC4]] B [e.size,h.size] fun a1 C=>∃H:Bool,a1= .bool H/\cnd (!H) (R (.bool true) C) (ah Tryz.prog 17 #[.agg #[.int .i64 b,.slice bA bL bC,.bool b2,.slice bA2 bL2 bC2,.slice bA3 bL3 bC3,.slice bA4 bL4 bC4]] C [e.size,h.size] fun a3 D=>∃I:Bool,a3= .bool I/\cnd (!I) (R (.bool true) D) (ah Tryz.prog 21 #[.agg #[.int .i64 a,.slice aA aL aC,.bool a2,.slice aA2 aL2 aC2,.slice aA3 aL3 aC3,.slice aA4 aL4 aC4]] D [e.size,h.size] fun a4 d=>∃j:Int,∃(l:Option Addr) (t p:Nat),∃k:Bool,∃(m:Option Addr) (u q:Nat),∃(n:Option Addr) (v r:Nat),∃(o:Option Addr) (w s:Nat),a4= .agg #[.int .i64 j,.slice l t p,.bool k,.slice m u q,.slice n v r,.slice o w s]/\let U:ab:=d.push (.cells #[.int .i64 0,.slice none 0 0,.bool false,.slice none 0 0,.slice none 0 0,.slice none 0 0] 29);let V:ab:=ak (ak (ak (ak (ak (ak U d.size 0 (.int .i64 j)) d.size (0+1) (.slice l t p)) d.size ((0+1)+1) (.bool k)) d.size (((0+1)+1)+1) (.slice m u q)) d.size ((((0+1)+1)+1)+1) (.slice n v r)) d.size (((((0+1)+1)+1)+1)+1) (.slice o w s);ah Tryz.prog 22 #[.agg #[.int .i64 a,.slice aA aL aC,.bool a2,.slice aA2 aL2 aC2,.slice aA3 aL3 aC3,.slice aA4 aL4 aC4]] V [d.size,e.size,h.size] fun a5 W=>∃N:ByteArray,∃P:Int,a5= .tuple #[.string N,.int .i64 P]/\ah Tryz.prog 27 #[.agg #[.int .i64 a,.slice aA aL aC,.bool a2,.slice aA2 aL2 aC2,.slice aA3 aL3 aC3,.slice aA4 aL4 aC4]] W [d.size,e.size,h.size] fun a6 c=>∃O:ByteArray,∃Q:Int,a6= .tuple #[.string O,.int .i64 Q]/\let i:=fun(S:ab)=>(R (.bool false) S);cnd (N.toList==O.toList) (cnd (P==Q) (ah Tryz.prog 25 #[.agg #[.int .i64 a,.slice aA aL aC,.bool a2,.slice aA2 aL2 aC2,.slice aA3 aL3 aC3,.slice aA4 aL4 aC4]] c [d.size,e.size,h.size] fun a7 x=>∃J:Bool,a7= .bool J/\Fr [] c x/\ah Tryz.prog 28 #[.agg #[.int .i64 a,.slice aA aL aC,.bool a2,.slice aA2 aL2 aC2,.slice aA3 aL3 aC3,.slice aA4 aL4 aC4]] x [d.size,e.size,h.size] fun a8 f=>∃K:Bool,a8= .bool K/\Fr [] c f/\cnd (J==K) (ah Tryz.prog 24 #[.agg #[.int .i64 a,.slice aA aL aC,.bool a2,.slice aA2 aL2 aC2,.slice aA3 aL3 aC3,.slice aA4 aL4 aC4],.agg #[.int .i64 b,.slice bA bL bC,.bool b2,.slice bA2 bL2 bC2,.slice bA3 bL3 bC3,.slice bA4 bL4 bC4]] f [d.size,e.size,h.size] fun a9 y=>∃L:Bool,a9= .bool L/\Fr [] c y/\ah Tryz.prog 29 #[.agg #[.int .i64 a,.slice aA aL aC,.bool a2,.slice aA2 aL2 aC2,.slice aA3 aL3 aC3,.slice aA4 aL4 aC4],.agg #[.int .i64 b,.slice bA bL bC,.bool b2,.slice bA2 bL2 bC2,.slice bA3 bL3 bC3,.slice bA4 bL4 bC4]] y [d.size,e.size,h.size] fun Y g=>∃M:Bool,Y= .bool M/\Fr [] c g/\cnd (L==M) (ah Tryz.prog 24 #[.agg #[.int .i64 a,.slice aA aL aC,.bool a2,.slice aA2 aL2 aC2,.slice aA3 aL3 aC3,.slice aA4 aL4 aC4],.agg #[.int .i64 j,.slice l t p,.bool k,.slice m u q,.slice n v r,.slice o w s]] g [d.size,e.size,h.size] fun Z z=>∃F:Bool,Z= .bool F/\Fr [] c z/\ah Tryz.prog 29 #[.agg #[.int .i64 a,.slice aA aL aC,.bool a2,.slice aA2 aL2 aC2,.slice aA3 aL3 aC3,.slice aA4 aL4 aC4],.agg #[.int .i64 j,.slice l t p,.bool k,.slice m u q,.slice n v r,.slice o w s]] z [d.size,e.size,h.size] fun a0 A=>∃G:Bool,a0= .bool G/\Fr [] c A/\R (.bool (F==G)) A) (Fr [] c g/\Fr [] c g/\i g)) (Fr [] c f/\Fr [] c f/\Fr [] c f/\Fr [] c f/\i f)) (Fr [] c c/\Fr [] c c/\Fr [] c c/\Fr [] c c/\Fr [] c c/\Fr [] c c/\i c)) (Fr [] c c/\Fr [] c c/\Fr [] c c/\Fr [] c c/\Fr [] c c/\Fr [] c c/\i c))))
theorem DF {h:ab} {R:VP} (a:Int) (aA:Option Addr) (aL aC:Nat) (a2:Bool) (aA2:Option Addr) (aL2 aC2:Nat) (aA3:Option Addr) (aL3 aC3:Nat) (aA4:Option Addr) (aL4 aC4:Nat) (b:Int) (bA:Option Addr) (bL bC:Nat) (b2:Bool) (bA2:Option Addr) (bL2 bC2:Nat) (bA3:Option Addr) (bL3 bC3:Nat) (bA4:Option Addr) (bL4 bC4:Nat) (H:S5 a aA aL aC a2 aA2 aL2 aC2 aA3 aL3 aC3 aA4 aL4 aC4 b bA bL bC b2 bA2 bL2 bC2 bA3 bL3 bC3 bA4 bL4 bC4 h R):af Tryz.prog 5 #[.agg #[.int .i64 a,.slice aA aL aC,.bool a2,.slice aA2 aL2 aC2,.slice aA3 aL3 aC3,.slice aA4 aL4 aC4],.agg #[.int .i64 b,.slice bA bL bC,.bool b2,.slice bA2 bL2 bC2,.slice bA3 bL3 bC3,.slice bA4 bL4 bC4]] h R:=aI [2,3,5] 65 [] [] [] [(8,⟨34,false⟩)] Tryz.func5 (by kernel_rfl) (by kernel_rfl) H
end Go.Proofs.YtlflalecmhgmjaaGreatDoor.N
