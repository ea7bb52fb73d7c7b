/- What a text reads as, if its digits are not cut; a number's own text leads back to it. Conditions: none. -/
import Derived.Test.YtemclecmafjjfaaGreatDoorWBack2
import Derived.Test.YtemclecmafjjfaaGreatDoorKDoc
import Derived.Test.YtemclecmafjjfaaGreatDoorWMono
import Derived.Test.YtemclecmafjjfaaGreatDoorSBk
import Derived.Test.YtemclecmafjjfaaGreatDoorRows
import Derived.WalkKit
import Derived.ProofKit
import Derived.OpenShut
import Derived.Lib.LaidU8
import Derived.MakeChecks
import Derived.Lay
import Derived.Shelf.Vars
import Derived.Handed
import Derived.Test.YtemclecmafjjfaaGreatDoorXU
import Derived.Below
import Derived.Deep.Slices
import Derived.ChangeOld
import Derived.Carry
import Derived.JoinedCond
set_option linter.unusedVariables false
set_option linter.unusedSimpArgs false
open Go.IntKind (i64 u64 u8 i32)
namespace Go.Proofs.YtemclecmafjjfaaGreatDoor.N
open Go.X Go.Proofs.YtemclecmafjjfaaGreatDoor
set_option maxRecDepth 100000
set_option maxHeartbeats 1000000
def atV (b:ByteArray):Nat:=(fJ (scB b).1.m (cg (scB b).1 (scB b).2) (bB b.data.toList).1).1
open Classical in
noncomputable def rdG (b : ByteArray) : Option (Nat × Nat) :=
 if b.size<=262144/\(fH b.data.toList=true->b.size<=64->Txt b (scB b).1 (scB b).2/\(scB b).1.tr=false)then some ((bZ b.data.toList (atV b)).1,(bZ b.data.toList (atV b)).2.toNat)else none
theorem ID (gl:GL):rv rdG gl:=by
 intro t x e ht h g
 unfold rdG at ht
 split at ht
 ·grind [Int.toNat_of_nonneg,uq,Cr,atV,P37.of]
 ·cases ht
def pS (x:Nat):Nat:=if isNaN x then 9221120237041090561 else x
theorem Cs {x:Nat} (hx:x<18446744073709551616):rdG (bR x)=some (pS x,0):=by
 have lit:∀{b:ByteArray} {v:Nat},bR x=b->b.size<=5->fH b.data.toList=false->bZ b.data.toList (atV b)=(v,0)->pS x=v->rdG (bR x)=some (pS x,0):=by
  intro b v e h1 h2 h3 h4
  rw[e,h4]
  unfold rdG
  grind
 cases hn:isNaN x with
 | true=>exact lit (b:=⟨#[78,97,78]⟩) (by unfold bR;rw[hn];rfl) (by decide) (by decide) rfl (by unfold pS;rw[hn];rfl)
 | false=>
 have hcan:pS x=x:=by unfold pS;rw[hn];rfl
 cases h1:isInf x with
 | true=>exact lit (b:=⟨#[73,78,70]⟩) (by unfold bR;grind) (by decide) (by decide) rfl (by rw[hcan];exact GB hx hn h1)
 | false=>
 cases h2:isInf (eI x)with
 | true=>
  refine lit (b:=⟨#[45,73,78,70]⟩) (by unfold bR;grind) (by decide) (by decide) rfl ?_
  have hnn:isNaN (eI x)=false:=by rw[nf];exact hn
  rw[hcan,<-Fg x,GB (H8 hx) hnn h2];decide
 | false=>
  obtain⟨⟨st,rest,hT,htr,hv⟩,b2,b3,-⟩:=nA hx hn h1 h2
  have hsc:scB (bR x)=(st,rest):=hT.sc
  have hV:atV (bR x)=x:=by unfold atV;grind
  have hfin:isInf (iT x)=false:=by
   have hab:iT x=x\/iT x=eI x:=by
    rw[xJ]
    have hN:eI x=x ^^^ 2^63:=rfl
    by_cases hh:x<2^63
    ·omega
    ·right
     rw[hN]
     have e1:(x ^^^ 2^63) % 2^63=x % 2^63:=by rw[Nat.xor_mod_two_pow,Nat.mod_self,Nat.xor_zero]
     have e2:(x ^^^ 2^63)/2^63=0:=by
      rw[Nat.xor_div_two_pow]
      grind
     omega
   grind
  have nn:∀l:List UInt8,fH l=false->(bR x).data.toList≠l:=fun l hl e=>by grind
  have hr:bZ (bR x).data.toList x=(x,0):=by
   unfold bZ
   rw[if_neg (nn _ (by decide)),if_neg (nn _ (by decide)),if_neg (nn _ (by decide)),if_neg (by rw[b2];decide),if_neg (by show ¬ 64<(bR x).size;omega),if_neg (by grind)]
  unfold rdG
  grind
theorem Ci {c:UInt8} (h:isD c=true):G.bz c.toNat=true:=by
 have:=ci.1 h
 simp[G.bz,G.cT];omega
theorem vT (l:List UInt8):∀c∈l.take (dgN l),G.bz c.toNat=true:=by
 intro c hc
 have e:l.take (dgN l)=l.takeWhile isD:=by
  unfold dgN
  exact(List.prefix_iff_eq_take.1 (List.takeWhile_prefix isD)).symm
 grind [Ci,List.all_takeWhile]
theorem oJ {l:List UInt8} (k:Nat) (h1:∀c∈l.take k,G.bz c.toNat=true) (h2:∀c∈l.drop k,G.bz c.toNat=true):∀c∈l,G.bz c.toNat=true:=by
 grind [List.take_append_drop]
theorem uh {l:List UInt8} (h:∀c∈aJ l,G.bz c.toNat=true):∀c∈l,G.bz c.toNat=true:=by
 cases l with
 | nil=>simp
 | cons a r=>
  rw[show aJ (a::r)=if a=43\/a=45 then r else a::r from rfl]at h
  split at h
  ·rename_i ha
   intro c hc
   rcases List.mem_cons.1 hc with rfl | hc
   ·rcases ha with rfl | rfl<;>decide
   ·exact h c hc
  ·exact h
theorem ui {l:List UInt8} (h:vV (some l)=true):∀c∈l,G.bz c.toNat=true:=by
 cases l with
 | nil=>simp
 | cons a t=>
  unfold vV at h
  split at h
  ·grind
  ·grind
  rename_i c t' e
  cases e
  split at h
  ·rename_i ha
   simp only[Bool.and_eq_true,decide_eq_true_eq]at h
   have:=vT (aJ t)
   rw[h.2.2,List.take_length]at this
   have ht:=uh this
   intro c hc
   rcases List.mem_cons.1 hc with rfl | hc
   ·rcases ha with rfl | rfl<;>decide
   grind
  ·cases h
theorem Cj {l:List UInt8} (h:fH l=true):∀c∈l,G.bz c.toNat=true:=by
 unfold fH at h
 split at h
 ·cases h
 refine uh (oJ _ (vT _) ?_)
 generalize (aJ l).drop (dgN (aJ l))=q at h
 cases q with
 | nil=>simp
 | cons a y=>
  unfold kS at h
  split at h
  ·grind
  rename_i c y' e
  cases e
  split at h
  ·rename_i ha
   split at h
   ·cases h
   ·intro c hc
    rcases List.mem_cons.1 hc with rfl | hc
    ·rw[ha];decide
    ·exact oJ _ (vT _) (ui h) c hc
  ·exact ui h
theorem FD {l:List UInt8} (h:fH l=true):∃c r,l=c::r/\(G.cT c.toNat=true\/c.toNat=43\/c.toNat=45\/c.toNat=46):=by
 unfold fH at h
 split at h
 ·cases h
 rename_i hn
 cases l with
 | nil=>exact absurd rfl hn
 | cons a r=>
  refine⟨a,r,rfl,?_⟩
  rw[show aJ (a::r)=if a=43\/a=45 then r else a::r from rfl]at hn
  split at hn
  ·rename_i ha;rcases ha with rfl | rfl
   ·grind
   grind
  ·left
   by_cases hd:isD a=true
   ·have:=ci.1 hd;simp[G.cT];omega
   ·exfalso;apply hn;unfold dgN;simp_all
theorem rZ {x:Nat} (hx:x<18446744073709551616):G.iR rdG (txM x) (pS x):=by
 refine⟨?_,fun b hb=>?_⟩
 ·unfold txM
  cases hn:isNaN x with
  | true=>exact .inr (.inl (by unfold bR;rw[hn];rfl))
  | false=>
  cases h1:isInf x with
  | true=>exact .inr (.inr (by unfold bR;rw[hn,h1];rfl))
  | false=>
  cases h2:isInf (eI x)with
  | true=>
   have e:bR x=⟨#[45,73,78,70]⟩:=by unfold bR;grind
   rw[e]
   exact .inl ⟨⟨45,[73,78,70],rfl,by decide⟩,by decide⟩
  | false=>
   have:=(nA hx hn h1 h2).2.1
   exact .inl ⟨FD this,Cj this⟩
 ·have:b=bR x:=by
   apply ByteArray.ext;apply Array.ext';exact hb
  rw[this];exact Cs hx
theorem LL {b:ByteArray} {y:Nat × Nat} (h:rdF b=some y):rdG b=some y:=by
 unfold rdF at h
 split at h
 ·rename_i hc
  obtain⟨h1,h2⟩:=hc
  have hp:b.size<=262144/\(fH b.data.toList=true->b.size<=64->Txt b (scB b).1 (scB b).2/\(scB b).1.tr=false):=⟨h1,fun a c=>⟨(h2 a c).t,(h2 a c).tr⟩⟩
  unfold rdG
  rw[if_pos hp,<-h]
  have e:bZ b.data.toList (atV b)=bZ b.data.toList (fsV b):=by
   by_cases a:fH b.data.toList=true
   ·by_cases c:b.size<=64
    ·have F:=h2 a c
     congr 1
     unfold atV fsV fJ ot
     split
     ·rfl
     rename_i hm
     rw[if_neg (by have:=F.e2;omega),if_neg (by have:=F.e1;omega),if_pos (F.x hm)]
    ·have hl:64<b.data.toList.length:=by simp_all
     unfold bZ
     grind
   grind [bZ]
  rw[e]
 ·cases h
theorem Ip {k:List UInt8} {v:Nat} (h:G.iR rdF k v):G.iR rdG k v:=⟨h.1,fun b hb=>LL (h.2 b hb)⟩
theorem yZ :G.RdW rdG:=fun n hn=>(ur n hn).imp fun _ h=>Ip h
theorem y5 (x:Nat):aU (pS x)=aU x:=by
 unfold pS
 split
 ·rename_i h
  unfold aU
  rw[if_pos h,if_pos (by decide+kernel)]
 ·rfl
open Go.Proofs
theorem yK (a:MD):dK a a=true:=by
 have e1:∀x,fe x x=true:=fun x=>by unfold fe;grind
 unfold dK
 have g:∀{α:Type} (f:α->α->Bool),(∀x,f x x=true)->∀l,eqL f l l=true:=by
  intro α f hf l
  unfold eqL
  rw[decide_eq_true rfl,Bool.true_and]
  induction l with
  | nil=>rfl
  | cons x l ih=>rw[List.zip_cons_cons,List.all_cons,hf,ih];rfl
 rw[g fe e1,g fe2 fun x=>by unfold fe2;rw[e1,e1];rfl]
 simp
section
variable {h:ab} {a:MD} {s t:MDs}
set_option maxHeartbeats 2000000 in
theorem xi (Hm:Hp h (a.vw s++a.vw t)) (hl:a.es.length<=9223372036854775806/\a.ls.length<=9223372036854775806/\a.ss.length<=9223372036854775806/\a.ws.length<=9223372036854775806):
  ae Tryz.prog 9 #[a.v s,a.v t] h fun v h'=>v= .bool true/\Fr [] h h':=by
 apply He
 unfold S9
 intro hv hv2
 have f2:Fr [] h hv2:=(Fr.push h _).trans (Fr.push _ _)
 have Y:=(Sy.start Hm).gr f2
 have oC:ao (a.vw s++a.vw t)=[]:=rfl
 clear_value hv2
 refine aj (R:=fun v h'=>v= .bool true/\Fr [] hv2 h') [] ?_ (by simp) (fun _ _ r=>r.2) ?_
 ·exact(JA (a:=a) (b:=a) (R:=fun r=>r=dK a a) hl rfl hv2 _ _ _ _ _ _ _ _ _ _ _ _ _ _ _ _ _ _ _ _ _ _ _ _ Y.hp).mono fun v h' ⟨r,Y,e,q⟩=>⟨by rw[e,q,yK],Y.fr⟩
 rintro v h3 ⟨rfl,f3⟩
 have Y3:=Y.gr f3
 have ls:=Y3.lenV 2 rfl
 have lt:=Y3.lenV 6 rfl
 have lw:=Y3.lenV 3 rfl
 have lx:=Y3.lenV 7 rfl
 have b48:∀{x:Nat} {h:ab},ae Tryz.prog 26 #[.float .f64 x,.float .f64 x] h fun v h'=>v= .bool true/\Fr [] h h':=fun{x h}=>
  (Ak (x:=x) (y:=x) (R:=fun r=>r=true) (beq_self_eq_true x) h (Hp.nil _)).mono fun v h' ⟨r,Y,e,q⟩=>⟨by rw[e,q],Y.fr⟩
 refine⟨_,rfl,aH rfl ⟨fun l h'=>∃k:Nat,l=[.int .i64 (k:Int)]/\k<=a.ss.length/\Fr [] h3 h',fun l _=>match l with | [.int _ i]=>((a.ss.length:Int)-i).toNat | _=>0,⟨0,rfl,by omega,Fr.refl _ _⟩,?_⟩⟩
 rintro i h4 ⟨k,e,hk,f4⟩
 cases e
 have Y4:=Y3.gr f4
 have hw:∀k:Nat,k<=9223372036854775806->i64.wrap ((k:Int)+1)=((k+1:Nat):Int):=fun k hk=>by rw[wr (by omega) (by omega)];omega
 refine ag (fun q=>?_) fun q=>?_
 ·have hkl:k<a.ss.length:=by omega
  have hx:a.ss[k]? =some a.ss[k]:=List.getElem?_eq_getElem hkl
  generalize a.ss[k]=x at hx
  obtain⟨b1,o1,e1,_⟩:=Y4.atV 2 rfl (i:=(k:Int)) (by omega) (by omega)
  obtain⟨b2,o2,e2,_⟩:=Y4.atV 6 rfl (i:=(k:Int)) (by omega) (by omega)
  refine⟨b1,o1,e1,by omega,by omega,x.1,Y4.cellV 2 rfl e1 (i:=k) (t:=0) hx rfl,b2,o2,e2,by omega,by omega,x.1,Y4.cellV 6 rfl e2 (i:=k) (t:=0) hx rfl,?_⟩
  refine aj [] b48 (by simp) (fun _ _ r=>r.2) ?_
  rintro v h5 ⟨rfl,f5⟩
  have Y5:=Y4.gr f5
  refine⟨_,rfl,f5,aH rfl ⟨b1,o1,e1,by omega,by omega,x.2,Y4.cellV 2 rfl e1 (i:=k) (t:=1) hx rfl,b2,o2,e2,by omega,by omega,x.2,Y4.cellV 6 rfl e2 (i:=k) (t:=1) hx rfl,?_⟩⟩
  refine aj [] b48 (by simp) (fun _ _ r=>r.2) ?_
  rintro v h6 ⟨rfl,f6⟩
  refine⟨_,rfl,f5.trans f6,aH rfl ?_⟩
  rw[hw k (by omega)]
  exact⟨⟨k+1,rfl,by omega,(f4.trans f5).trans f6⟩,by dsimp only;omega⟩
 ·refine⟨fun l h'=>∃k:Nat,l=[.int .i64 (k:Int)]/\k<=a.ws.length/\Fr [] h3 h',fun l _=>match l with | [.int _ i]=>((a.ws.length:Int)-i).toNat | _=>0,⟨0,rfl,by omega,f4⟩,?_⟩
  rintro i h7 ⟨j,e,hj,f7⟩
  cases e
  have Y7:=Y3.gr f7
  refine ag (fun q2=>?_) fun q2=>⟨rfl,f2.trans (f3.trans f7)⟩
  have hjl:j<a.ws.length:=by omega
  have hx:a.ws[j]? =some a.ws[j]:=List.getElem?_eq_getElem hjl
  generalize a.ws[j]=x at hx
  obtain⟨b1,o1,e1,_⟩:=Y7.atV 3 rfl (i:=(j:Int)) (by omega) (by omega)
  obtain⟨b2,o2,e2,_⟩:=Y7.atV 7 rfl (i:=(j:Int)) (by omega) (by omega)
  refine⟨b1,o1,e1,by omega,by omega,x,Y7.cellV 3 rfl e1 (i:=j) (t:=0) hx rfl,b2,o2,e2,by omega,by omega,x,Y7.cellV 7 rfl e2 (i:=j) (t:=0) hx rfl,?_⟩
  refine aj [] b48 (by simp) (fun _ _ r=>r.2) ?_
  rintro v h8 ⟨rfl,f8⟩
  refine⟨_,rfl,f8,aH rfl ?_⟩
  rw[hw j (by omega)]
  exact⟨⟨j+1,rfl,by omega,f7.trans f8⟩,by dsimp only;omega⟩
end
theorem DG :(txM 0).length<=(txM 9223372036854775808).length:=by decide+kernel
theorem tB {x:Nat} (hx:x<18446744073709551616):aU x<18446744073709551616:=by
 grind [aU]
theorem oa {x:Nat} (hx:x<18446744073709551616):(txM (aU x)).length<=(txM x).length:=by
 unfold aU
 split
 ·rename_i hn
  have e1:txM 9221120237041090561=[78,97,78]:=by decide+kernel
  have e2:txM x=[78,97,78]:=by unfold txM bR;rw[if_pos hn]
  grind
 split
 ·rename_i hn h0
  have hn:isNaN x=false:=by simpa using hn
  rw[vP hn B6,B5]at h0
  have:=B7 hn (of_decide_eq_true h0)
  have p63:(2:Nat)^63=9223372036854775808:=by decide
  rw[p63]at this
  have:x=0\/x=9223372036854775808:=by omega
  rcases this with rfl | rfl
  ·omega
  ·exact DG
 omega
theorem DH {tx:Nat->List UInt8} {g:Nat->Nat} {o:Option (Nat × Nat)} (h:∀p,o=some p->(tx (g p.1)).length<=(tx p.1).length/\(tx (g p.2)).length<=(tx p.2).length):(nd3 tx (o.map fun p=>(g p.1,g p.2))).length<=(nd3 tx o).length:=by
 cases o with
 | none=>grind
 | some p=>
  grind [nd3,List.length_append]
theorem tC {tx:Nat->List UInt8} {g:Nat->Nat} {D:G.Dc} (h:∀p∈D.spots,(tx (g p.1)).length<=(tx p.1).length/\(tx (g p.2)).length<=(tx p.2).length):∀k v:Nat,(G.aB (G.dm tx (G.nA g D) k v)).length<=(G.aB (G.dm tx D k v)).length
 | 0,v=>Nat.le_refl _
 | k+1,v=>by
  rw[G.dm,G.dm,G.bx,G.bx,Ao,Ao]
  have ih:=tC h k (v+1)
  have e:(G.nA g D).spots[v]? =(D.spots[v]?).map fun p=>(g p.1,g p.2):=List.getElem?_map ..
  have el:(G.nA g D).labels=D.labels:=rfl
  have:=DH (tx:=tx) (g:=g) (o:=D.spots[v]?) fun p hp=>h p (List.mem_of_getElem? hp)
  grind
theorem tD {tx:Nat->List UInt8} {g:Nat->Nat}:∀(es:List (Nat × Nat)) (ws:List Nat),(∀x∈ws,(tx (g x)).length<=(tx x).length)->(G.aB (G.cG tx es (ws.map g))).length<=(G.aB (G.cG tx es ws)).length
 | [],ws,_=>Nat.le_refl _
 | e::es,ws,h=>by
  rw[G.cG,G.cG,G.bx,G.bx,Aq,Aq]
  have ih:=tD es ws.tail fun x hx=>h x (List.mem_of_mem_tail hx)
  rw[<-List.map_tail]
  have:(ed2 tx (ws.map g).head?).length<=(ed2 tx ws.head?).length:=by
   cases ws with
   | nil=>grind
   | cons x r=>
    grind [ed2]
  grind
theorem JC {tx:Nat->List UInt8} {g:Nat->Nat} {D:G.Dc} (h:∀p∈D.spots,(tx (g p.1)).length<=(tx p.1).length/\(tx (g p.2)).length<=(tx p.2).length) (hw:∀x∈D.weights,(tx (g x)).length<=(tx x).length):(G.wr tx (G.nA g D)).length<=(G.wr tx D).length:=by
 grind [JI,tC,tD,G.nA]
theorem DI {n:Int} {dir:Bool} {es:Es} {ls:List ByteArray} {ss:List (Nat × Nat)} {ws:List Nat} (q:dZ n es ls ss ws=true):G.Ok (gZ n dir es ls ss ws):=by
 unfold dZ at q
 simp only[Bool.and_eq_true]at q
 obtain⟨m1,m2,m3,m4,m5⟩:=q
 obtain⟨g0,g1,gm,ge⟩:=G9 m1
 obtain⟨N,rfl⟩:∃N:Nat,n=(N:Int):=⟨n.toNat,by omega⟩
 have non:∀{a b:Nat},kH (a:Int) (b:Int)=true->a=0\/a=b:=fun{a b} h=>by unfold kH at h;grind
 refine⟨by show(N:Int).toNat<=1024;omega,by show(es.map _).length<=3072;grind,?_,?_,fun l hl=>?_,?_,?_⟩
 ·intro e he
  obtain⟨x,hx,rfl⟩:=List.mem_map.1 he
  obtain⟨i,hi⟩:=List.mem_iff_getElem?.1 hx
  have:=ge i x hi
  exact⟨by show x.1.toNat<(N:Int).toNat;omega,by show x.2.toNat<(N:Int).toNat;omega⟩
 ·exact(non m2).imp List.eq_nil_of_length_eq_zero fun h=>by show ls.length=(N:Int).toNat;omega
 ·have:=List.all_eq_true.1 m5 l hl
  unfold yN at this
  grind
 ·exact(non m3).imp List.eq_nil_of_length_eq_zero fun h=>by show ss.length=(N:Int).toNat;omega
 ·exact(non m4).imp List.eq_nil_of_length_eq_zero fun h=>by show ws.length=(es.map _).length;grind
theorem DJ {n:Int} {es:Es} {ls:List ByteArray} {ss:List (Nat × Nat)} {ws:List Nat} (q:dZ n es ls ss ws=true):0<=n/\(es.map fun e=>(e.1.toNat,e.2.toNat)).map pr=es:=by
 unfold dZ at q
 simp only[Bool.and_eq_true]at q
 obtain⟨g0,g1,gm,ge⟩:=G9 q.1
 refine⟨by omega,?_⟩
 rw[List.map_map]
 refine List.ext_getElem? fun i=>?_
 rw[List.getElem?_map]
 cases hx:es[i]? with
 | none=>rfl
 | some x=>
  have:=ge i x hx
  show some ((x.1.toNat:Int),(x.2.toNat:Int))=some x
  grind
def clD (a:MD):MD:=⟨a.n,a.dir,a.es,a.ls,a.ss.map fun p=>(aU p.1,aU p.2),a.ws.map aU⟩
theorem DK (a:MD):dZ (clD a).n (clD a).es (clD a).ls (clD a).ss (clD a).ws=dZ a.n a.es a.ls a.ss a.ws:=by
 grind [dZ,clD]
theorem An {a:MD} {x:ByteArray} (q:dZ a.n a.es a.ls a.ss a.ws=true) (hx:G.Sp (G.sW txM (gZ a.n a.dir a.es a.ls a.ss a.ws)) x.data.toList) (hl:x.size<=262144) (hss:∀p∈a.ss,p.1<18446744073709551616/\p.2<18446744073709551616) (hws:∀x∈a.ws,x<18446744073709551616):
  G.read rdG aU x= .ok (gZ a.n a.dir a.es a.ls (clD a).ss (clD a).ws):=by
 have:=G.yq (s:=x) (rd:=rdG) (cl:=aU) (f:=pS) (DI q) yZ (tx:=txM)
  ⟨fun p hp=>⟨rZ (hss p hp).1,rZ (hss p hp).2⟩,fun x hx=>rZ (hws x hx)⟩ hx hl
 rw[this]
 congr 1
 unfold G.nA gZ clD
 simp only[y5]
section
variable {gl:GL} {h:ab} {a:MD} {s:MDs}
theorem MB (g:Gl gl h) {x:ByteArray} (q:dZ a.n a.es a.ls a.ss a.ws=true) (hx:x.size<=262144) (rd:G.read rdG aU x= .ok (gZ a.n a.dir a.es a.ls (clD a).ss (clD a).ws)):
  ae Tryz.prog 8 #[.string x] h fun v h'=>∃u:MDs,v= .tuple #[(clD a).v u,.int .i64 0,.int .i64 0]/\Sy h [] h' [Ck.sl eP 51 u.aE u.nE u.cE (clD a).es,Ck.sl eS 9 u.aL u.nL u.cL (clD a).ls,Ck.sl eFF 71 u.aS u.nS u.cS (clD a).ss,Ck.sl eF 54 u.aW u.nW u.cW (clD a).ws]:=by
 refine(ok8 (ID gl) il zU g (by omega) (by rw[rd];simp)).mono ?_
 rintro v h8 (⟨dc,aD,aL2,aS,aW,nD,cD,nL2,cL2,nS,cS,nW,cW,e,rfl,q8⟩ | ⟨f,e,_,q8⟩)
 rotate_left
 ·grind
 rw[rd]at e
 obtain rfl:gZ a.n a.dir a.es a.ls (clD a).ss (clD a).ws=dc:=by injection e
 obtain⟨n0,eE⟩:=DJ q
 have en:(((gZ a.n a.dir a.es a.ls (clD a).ss (clD a).ws).n:Nat):Int)=(clD a).n:=Int.toNat_of_nonneg n0
 rw[en]
 refine⟨⟨aD,nD,cD,aL2,nL2,cL2,aS,nS,cS,aW,nW,cW⟩,rfl,?_⟩
 have Y:Sy h [] h8 [Ck.sl eP 51 aD nD cD ((gZ a.n a.dir a.es a.ls (clD a).ss (clD a).ws).edges.map pr),Ck.sl eS 9 aL2 nL2 cL2 a.ls,Ck.sl eFF 71 aS nS cS (clD a).ss,Ck.sl eF 54 aW nW cW (clD a).ws]:=q8.sy.pick [0,1,2,3] rfl
 grind [gZ,clD]
theorem JD (g:Gl gl h) (q:dZ a.n a.es a.ls a.ss a.ws=true) (hl:(G.wr txM (gZ a.n a.dir a.es a.ls a.ss a.ws)).length<=262144) (hss:∀p∈a.ss,p.1<18446744073709551616/\p.2<18446744073709551616) (hws:∀x∈a.ws,x<18446744073709551616):
  ae Tryz.prog 8 #[.string (G.mkB (G.wr txM (gZ a.n a.dir a.es a.ls a.ss a.ws)))] h fun v h'=>∃u:MDs,v= .tuple #[(clD a).v u,.int .i64 0,.int .i64 0]/\Sy h [] h' [Ck.sl eP 51 u.aE u.nE u.cE (clD a).es,Ck.sl eS 9 u.aL u.nL u.cL (clD a).ls,Ck.sl eFF 71 u.aS u.nS u.cS (clD a).ss,Ck.sl eF 54 u.aW u.nW u.cW (clD a).ws]:=
 MB g q (by rw[gj];exact hl) (An q (by rw[tI];exact G.tu _) (by rw[gj];exact hl) hss hws)
theorem JE (a:MD):clD (clD a)=clD a:=by
 unfold clD
 simp only[List.map_map]
 congr 1
 ·exact List.map_congr_left fun p _=>by show(aU (aU p.1),aU (aU p.2))=_;rw[il.1,il.1]
 ·exact List.map_congr_left fun x _=>il.1 x
set_option maxHeartbeats 2000000 in
theorem G8 (Hm:Hp h (Ck.glob gl::a.vw s)) (hls:∀x∈a.ls,x.size<=9223372036854775807) (hss:∀p∈a.ss,p.1<18446744073709551616/\p.2<18446744073709551616) (hws:∀x∈a.ws,x<18446744073709551616):
  ae Tryz.prog 3 #[a.v s] h fun v h'=>v= .bool true/\Fr [] h h':=by
 apply Hf
 unfold S3
 intro h1
 have Y1:Sy h [] h1 (Ck.glob gl::a.vw s):=(Sy.startM Hm rfl).gr (Fr.push h _)
 clear_value h1
 refine aj [] (hd1 (Y1.ok (k:=0) (c:=Ck.glob gl) rfl)) (by simp) (fun _ _ r=>r.2) ?_
 rintro v h2 ⟨rfl,f2⟩
 have Y2:=Y1.gr f2
 refine⟨_,rfl,aH rfl ?_⟩
 refine aj (R:=fun v h'=>(∃r,v= .bool r/\(r=true->a.es.length<=300/\a.ls.length<=2000/\a.ss.length<=2000/\a.ws.length<=4000))/\Fr [] h2 h') [] ?_ (by simp) (fun _ _ r=>r.2) ?_
 ·exact(Mz (n:=a.n) (es:=a.es) (dr:=a.dir) (ls:=a.ls) (ss:=a.ss) (ws:=a.ws) (R:=fun r=>r=true->a.es.length<=300/\a.ls.length<=2000/\a.ss.length<=2000/\a.ws.length<=4000) (fun _ hb=>hb) h2 _ _ _ _ _ _ _ _ _ _ _ _ (Y2.pick [1,2,3,4] rfl).hp).mono fun v h' ⟨r,Y,e,q⟩=>⟨⟨r,e,q⟩,Y.fr⟩
 rintro v h3 ⟨⟨r,rfl,ha⟩,f3⟩
 have Y3:=Y2.gr f3
 refine⟨_,rfl,aZ (fun q=>⟨rfl,Y3.fr⟩) fun q=>?_⟩
 obtain⟨a1,a2,a3,a4⟩:=ha q
 have tx:∀{b:MD},(∀p∈b.ss,p.1<18446744073709551616/\p.2<18446744073709551616)->(∀x∈b.ws,x<18446744073709551616)->(∀p∈b.ss,rF gl txM p.1/\rF gl txM p.2)/\∀x∈b.ws,rF gl txM x:=fun k1 k2=>
  ⟨fun p hp=>⟨vJ (k1 p hp).1,vJ (k1 p hp).2⟩,fun x hx=>vJ (k2 x hx)⟩
 refine aj [] (ok7 (tx:=txM) (n:=a.n) (dir:=a.dir) Y3.hp hls (by omega) (tx hss hws).1 (tx hss hws).2) (by simp) (fun _ _ r=>r.2) ?_
 rintro v h4 ⟨rfl,f4⟩
 have Y4:=Y3.gr f4
 refine⟨_,_,rfl,?_⟩
 by_cases qd:dZ a.n a.es a.ls a.ss a.ws=false
 ·have ew:wrV txM a.n a.dir a.es a.ls a.ss a.ws=([],1):=by unfold wrV;rw[if_pos qd]
  rw[ew]
  exact aO rfl ⟨congrArg Value.bool (by rw[rI];decide),Y4.fr⟩
 have qd:dZ a.n a.es a.ls a.ss a.ws=true:=by simpa using qd
 by_cases hl:262144<(G.wr txM (gZ a.n a.dir a.es a.ls a.ss a.ws)).length
 ·have ew:wrV txM a.n a.dir a.es a.ls a.ss a.ws=([],23):=by unfold wrV;grind
  rw[ew]
  exact aO rfl ⟨congrArg Value.bool (by rw[rI];decide),Y4.fr⟩
 have ew:wrV txM a.n a.dir a.es a.ls a.ss a.ws=(G.wr txM (gZ a.n a.dir a.es a.ls a.ss a.ws),0):=by unfold wrV;grind
 rw[ew]
 refine aH rfl ?_
 refine aj [] (JD (Y4.ok (k:=0) (c:=Ck.glob gl) rfl) qd (by omega) hss hws) (by simp) (fun _ _ ⟨_,_,r⟩=>r.fr) ?_
 rintro v h5 ⟨u,rfl,Z5⟩
 have Y5:Sy h [] h5 (Ck.glob gl::a.vw s++(clD a).vw u):=((((Y4.callV Z5 ⟨rfl,rfl,rfl,rfl,trivial⟩).turn 5 rfl To.slvw).turn 6 rfl To.slvw).turn 7 rfl To.slvw).turn 8 rfl To.slvw
 refine⟨(clD a).n,u.aE,u.nE,u.cE,(clD a).dir,u.aL,u.nL,u.cL,u.aS,u.nS,u.cS,u.aW,u.nW,u.cW,0,0,rfl,?_⟩
 intro h6 h7 K
 have f7:Fr [] h5 h7:=((((((Fr.push h5 _).hsetL (Nat.le_refl _)).hsetL (Nat.le_refl _)).hsetL (Nat.le_refl _)).hsetL (Nat.le_refl _)).hsetL (Nat.le_refl _)).hsetL (Nat.le_refl _)
 have Y7:=Y5.gr f7
 clear_value h7
 refine aH rfl (aH rfl ?_)
 refine aj (R:=fun v h'=>∃t:MDs,v=(clD a).v t/\Sy h7 [] h' [Ck.sl eP 51 t.aE t.nE t.cE (clD a).es,Ck.sl eS 9 t.aL t.nL t.cL (clD a).ls,Ck.sl eFF 71 t.aS t.nS t.cS (clD a).ss,Ck.sl eF 54 t.aW t.nW t.cW (clD a).ws]) [] ?_ (by simp) (fun _ _ ⟨_,_,r⟩=>r.fr) ?_
 ·refine(Jz (n:=a.n) (es:=a.es) (dr:=a.dir) (ls:=a.ls) (ss:=a.ss) (ws:=a.ws) (R:=fun n es dr ls ss ws=>n=(clD a).n/\es=(clD a).es/\dr=(clD a).dir/\ls=(clD a).ls/\ss=(clD a).ss/\ws=(clD a).ws) a1 a2 a3 a4 ⟨rfl,rfl,rfl,rfl,rfl,rfl⟩ h7 _ _ _ _ _ _ _ _ _ _ _ _ (Y7.pick [1,2,3,4] rfl).hp).mono ?_
  rintro v h' ⟨n,eA,eL,eC,es,dr,lA,lL,lC,ls,sA,sL,sC,ss,wA,wL,wC,ws,Y,rfl,rfl,rfl,rfl,rfl,rfl,rfl⟩
  exact⟨⟨eA,eL,eC,lA,lL,lC,sA,sL,sC,wA,wL,wC⟩,rfl,Y⟩
 rintro v h8 ⟨t,rfl,Z8⟩
 have Y8:Sy h [] h8 (Ck.glob gl::a.vw s++(clD a).vw u++(clD a).vw t):=((((Y7.callV Z8 ⟨rfl,rfl,rfl,rfl,trivial⟩).turn 9 rfl To.slvw).turn 10 rfl To.slvw).turn 11 rfl To.slvw).turn 12 rfl To.slvw
 refine⟨(clD a).n,t.aE,t.nE,t.cE,(clD a).dir,t.aL,t.nL,t.cL,t.aS,t.nS,t.cS,t.aW,t.nW,t.cW,rfl,Z8.fr,?_⟩
 have lc:(clD a).es.length<=9223372036854775806/\(clD a).ls.length<=9223372036854775806/\(clD a).ss.length<=9223372036854775806/\(clD a).ws.length<=9223372036854775806:=by
  grind [clD]
 refine aj [] (xi (a:=clD a) (s:=u) (t:=t) (Y8.pick [5,6,7,8,9,10,11,12] rfl).hp lc) (by simp) (fun _ _ r=>r.2) ?_
 rintro v h9 ⟨rfl,f9⟩
 have Y9:=Y8.gr f9
 refine⟨_,rfl,Z8.fr.trans f9,aH rfl ?_⟩
 have css:∀p∈(clD a).ss,p.1<18446744073709551616/\p.2<18446744073709551616:=fun p hp=>by
  obtain⟨x,hx,rfl⟩:=List.mem_map.1 hp
  grind [tB]
 have cws:∀x∈(clD a).ws,x<18446744073709551616:=fun p hp=>by
  obtain⟨x,hx,rfl⟩:=List.mem_map.1 hp
  exact tB (hws x hx)
 have qc:dZ (clD a).n (clD a).es (clD a).ls (clD a).ss (clD a).ws=true:=by rw[DK];exact qd
 have hlc:¬ 262144<(G.wr txM (gZ (clD a).n (clD a).dir (clD a).es (clD a).ls (clD a).ss (clD a).ws)).length:=by
  have:=JC (tx:=txM) (g:=aU) (D:=gZ a.n a.dir a.es a.ls a.ss a.ws) (fun p hp=>⟨oa (hss p hp).1,oa (hss p hp).2⟩) fun x hx=>oa (hws x hx)
  grind [G.nA,gZ,clD]
 have ewc:wrV txM (clD a).n (clD a).dir (clD a).es (clD a).ls (clD a).ss (clD a).ws=(G.wr txM (gZ (clD a).n (clD a).dir (clD a).es (clD a).ls (clD a).ss (clD a).ws),0):=by unfold wrV;grind
 refine aj [] (ok7 (tx:=txM) (n:=(clD a).n) (dir:=(clD a).dir) (Y9.pick [0,5,6,7,8] rfl).hp hls (by omega) (tx css cws).1 (tx css cws).2) (by simp) (fun _ _ r=>r.2) ?_
 rintro v h10 ⟨rfl,f10⟩
 have Y10:=Y9.gr f10
 refine⟨_,_,rfl,?_⟩
 rw[ewc]
 have rb:=JD (a:=clD a) (Y10.ok (k:=0) (c:=Ck.glob gl) rfl) qc (by omega) css cws
 rw[JE]at rb
 refine aj [] rb (by simp) (fun _ _ ⟨_,_,r⟩=>r.fr) ?_
 rintro v h11 ⟨z,rfl,Z11⟩
 have Y11:=((((Y10.callV Z11 ⟨rfl,rfl,rfl,rfl,trivial⟩).turn 13 rfl To.slvw).turn 14 rfl To.slvw).turn 15 rfl To.slvw).turn 16 rfl To.slvw
 refine⟨(clD a).n,z.aE,z.nE,z.cE,(clD a).dir,z.aL,z.nL,z.cL,z.aS,z.nS,z.cS,z.aW,z.nW,z.cW,0,0,rfl,?_⟩
 intro h12 h13
 have f13:Fr [] h11 h13:=((((((Fr.push h11 _).hsetL (Nat.le_refl _)).hsetL (Nat.le_refl _)).hsetL (Nat.le_refl _)).hsetL (Nat.le_refl _)).hsetL (Nat.le_refl _)).hsetL (Nat.le_refl _)
 have Y13:=Y11.gr f13
 clear_value h13
 refine aO rfl (aO rfl ?_)
 refine aj [] (xi (a:=clD a) (s:=z) (t:=u) (Y13.pick [13,14,15,16,5,6,7,8] rfl).hp lc) (by simp) (fun _ _ r=>r.2) ?_
 rintro v h14 ⟨rfl,f14⟩
 exact⟨_,rfl,rfl,(Y13.gr f14).fr⟩
end
end Go.Proofs.YtemclecmafjjfaaGreatDoor.N
namespace Go.X
open Go.ChangeShapes Go.WideShapes Go.ChangeAt Go.RowKit
theorem rX {w:World} {b o:Nat} {s:Option Nat} {v:Value} (h:w.cell? ⟨b,o,s⟩=some v):ac w.heap b o=some v:=by
 grind [Go.Proofs.cell_spot,bc]
section
variable {H:Type} {enc:TypeId × Value->H} {P:Program} {w:World} {base:Nat} {spare:Nat->Bool}
theorem oD {α:Type} (E:En α) (D:α->DataW H) {t e:TypeId} {fuel:Nat} {cs:List Value} {p:List MemPlace} {l:List α} (ht:P.underlying t=some (.slice e)) (hc:P.cellsOf e=E.sz)
  (hel:∀(n:Nat) (cs:List Value) (x:α) (p:List MemPlace),DataW.trod enc P w base spare false n e cs=some (D x,p)->cs=E.enc x)
  (hl:0<l.length) (h:DataW.trod enc P w base spare false fuel t cs=some (.slice (l.map D) [],p)):
  ∃b o c,cs=[.slice (some ⟨b,o,none⟩) l.length c]/\∀(i:Nat) (x:α),l[i]? =some x->∀(j:Nat) (v:Value),(E.enc x)[j]? =some v->ac w.heap b (o+i*E.sz+j)=some v:=by
 rcases DataW.trod_slice ht h with⟨_,hx⟩ | ⟨a,len,cap,el,rs,m,rfl,hcs,hx,_,hlc,_,hel',helem,_,_⟩
 ·cases hx
 have e0:=congrArg Prod.fst hx
 simp only[DataW.slice.injEq]at e0
 obtain⟨eE,_⟩:=e0
 have hlen:len=l.length:=by
  have:=congrArg List.length eE
  grind
 have ac:∀(i:Nat) (x:α),l[i]? =some x->∀(j:Nat) (v:Value),(E.enc x)[j]? =some v->w.cell? ((a.add (i*E.sz)).add j)=some v:=by
  intro i x hi j v hv
  have hil:i<l.length:=(List.getElem?_eq_some_iff.1 hi).1
  have h1:=helem i (by omega)
  rw[hc]at h1
  obtain⟨b,hb⟩:∃b,el[i]? =some b:=⟨el[i]'(by omega),List.getElem?_eq_getElem (by omega)⟩
  rw[hb]at h1
  obtain⟨ce,hce,hte⟩:=Option.bind_eq_some_iff.1 h1
  have hb1:b.1=D x:=by
   have:=congrArg (·[i]?) eE
   grind
  obtain⟨b1,b2⟩:=b
  simp only at hb1;subst hb1
  have:=hel _ _ _ _ hte
  subst this
  have hj:j<E.sz:=by
   have:=(List.getElem?_eq_some_iff.1 hv).1
   rwa[E.len]at this
  rw[<-hv]
  exact(World.cells?_some hce).2.2 j hj
 obtain⟨R,o,sR⟩:=a
 have hs:sR=none:=by
  obtain⟨x,hx0⟩:∃x,l[0]? =some x:=⟨l[0]'hl,List.getElem?_eq_getElem hl⟩
  have hp:0<(E.enc x).length:=by rw[E.len];exact E.pos
  have h00:=ac 0 x hx0 0 _ (List.getElem?_eq_getElem hp)
  grind [Addr.add,Go.Proofs.cell_spot]
 subst hs
 refine⟨R,o,cap,by rw[hcs,hlen],fun i x hi j v hv=>?_⟩
 grind [cr,rX]
theorem oE {α:Type} (E:En α) (D:α->DataW H) {t e:TypeId} {n fuel:Nat} {cs:List Value} {p:List MemPlace} {l:List α} (ht:P.underlying t=some (.array n e)) (hc:P.cellsOf e=E.sz)
  (hel:∀(n:Nat) (cs:List Value) (x:α) (p:List MemPlace),DataW.trod enc P w base spare false n e cs=some (D x,p)->cs=E.enc x)
  (h:DataW.trod enc P w base spare false fuel t cs=some (.agg (l.map D),p)):
  ∀(i:Nat) (x:α),l[i]? =some x->∀(j:Nat) (v:Value),(E.enc x)[j]? =some v->cs[i*E.sz+j]? =some v:=by
 intro i x hi j v hv
 obtain⟨xs,m,rfl,hx,hl,hxl,hall⟩:=DataW.trod_array ht h
 have e0:=congrArg Prod.fst hx
 simp only[DataW.agg.injEq]at e0
 have hn:n=l.length:=by
  have:=congrArg List.length e0
  grind
 have hil:i<l.length:=(List.getElem?_eq_some_iff.1 hi).1
 have h1:=hall i (by omega)
 obtain⟨b,hb⟩:∃b,xs[i]? =some b:=⟨xs[i]'(by omega),List.getElem?_eq_getElem (by omega)⟩
 rw[hb,hc]at h1
 have hb1:b.1=D x:=by
  have:=congrArg (·[i]?) e0
  grind
 grind
theorem iE {k:IntKind} {e:TypeId} (he:P.underlying e=some (.int k)) (n:Nat) (cs:List Value) (x:Int) (p:List MemPlace) (h:DataW.trod enc P w base spare false n e cs=some (.lit (.int k x),p)):cs=(eK k).enc x:=by
 obtain⟨m,rfl,hm,_⟩:=DataW.trod_int he h
 cases hm;rfl
theorem yY {k:FloatKind} {e:TypeId} (he:P.underlying e=some (.float k)) (n:Nat) (cs:List Value) (x:Nat) (p:List MemPlace) (h:DataW.trod enc P w base spare false n e cs=some (.lit (.float k x),p)):cs=[.float k x]:=by
 cases n with
 | zero=>simp[DataW.trod]at h
 | succ m=>
  unfold DataW.trod at h
  rw[he]at h
  split at h<;>simp_all
theorem Fx {e:TypeId} (he:P.underlying e=some .string) (n:Nat) (cs:List Value) (x:List UInt8) (p:List MemPlace) (h:DataW.trod enc P w base spare false n e cs=some (.lit (.string x),p)):cs=[.string ⟨x.toArray⟩]:=by
 obtain⟨m,rfl,hm,_⟩:=DataW.trod_string he h
 cases hm;rfl
theorem Ca {e:TypeId} (he:P.underlying e=some .bool) (n:Nat) (cs:List Value) (x:Bool) (p:List MemPlace) (h:DataW.trod enc P w base spare false n e cs=some (.lit (.bool x),p)):cs=[.bool x]:=by
 grind [DataW.trod_bool]
theorem mf {t:TypeId} {fs:Array Field} {ds:List (DataW H)} {n:Nat} {cs:List Value} {p:List MemPlace} (ht:P.underlying t=some (.struct fs)) (h:DataW.trod enc P w base spare false n t cs=some (.agg ds,p)):
  cs.length=P.cellsOf t/\∀(i:Nat) (f:Field),fs[i]? =some f->f.offset=i->P.cellsOf f.type=1->∃m d q,ds[i]? =some d/\DataW.trod enc P w base spare false m f.type ((cs.drop i).take 1)=some (d,q):=by
 obtain⟨xs,m,rfl,hx,hl,hxl,hall⟩:=DataW.trod_struct ht h
 grind
end
theorem at_one {l:List Value} {i:Nat} {v:Value} (h:(l.drop i).take 1=[v]):l[i]? =some v:=by
 have:=congrArg (·[0]?) h
 grind
theorem Cb {l:List Value} {a b:Value} (hl:l.length=2) (h0:l[0]? =some a) (h1:l[1]? =some b):l=[a,b]:=by
 match l,hl with
 | [x,y],_=>grind
theorem iV {H:Type} {enc:TypeId × Value->H} {a:Assume} {C:Checked} {os:Os} {f:FuncId} {fn:Func} {s:ChangeSpec} {conds:List PathCond} {apart fresh handsOn again:Bool} {X:World->Array Value->Prop}
  (hX:∀(w w':World) (args:Array Value),w.heap=w'.heap->X w args->X w' args)
  (own:ownKnob C.prog.godebug=none) (started:os.Started) (noInit:C.prog.inits.idxOf? f=none) (hfn:C.prog.funcs[f]? =some fn)
  (witness:∃(w:World) (tape:Tape) (i:Input),w.os=os/\(w.forCall tape i).Shaped C.prog/\i.vars=[]/\Input.okWide C.prog (w.forCall tape i) .any w.heap.size f i/\
   ((s.pre enc C.prog fn conds apart (w.forCall tape i).memory i.args/\X (w.forCall tape i).memory i.args)/\sizedMet enc C.prog fn (OpenSpec.ofChange s) apart (w.forCall tape i).memory i.args)/\a.holds C.prog (lone (Frame.enter C.prog f i.args .normal) [] (w.forCall tape i)))
  (contract:∀(W:World) (base:Nat) (args:Array Value) (ds gs:List (DataW H)) (before:List MemPlace),
   (∀(j:Nat) t v,fn.params[j]? =some t->args[j]? =some v->Value.okWide C.prog W .any base t v)->
   DataW.Whole enc C.prog fn.params.toList s.vars apart W args.toList ds gs before->
   X W args->W.ShapedOpen C.prog->
   Calls C.prog f args W fun e W'=>∃v,e= .returned v/\s.post enc C.prog fn apart fresh handsOn again W args v W'):
  ReturnsInHanded a C os f .any (fun w args=>(s.pre enc C.prog fn conds apart w args/\X w args)/\sizedMet enc C.prog fn (OpenSpec.ofChange s) apart w args) (s.post enc C.prog fn apart fresh handsOn again):=by
 refine returnsInHanded_of_calls own started noInit witness ?_
 intro w tape i _ hsh _ hok hpre hholds
 obtain⟨_,_,_,fn',hfn',_,_,_,_,hval⟩:=hok
 have e:fn'=fn:=Option.some.inj (hfn'.symm.trans hfn)
 subst e
 obtain⟨⟨⟨ds,gs,before,hw,hc⟩,hx⟩,hz⟩:=hpre
 have hw':=DataW.Whole.of_heap (w':=w.forCall tape i) (by rfl) hw
 refine(contract (w.forCall tape i) w.heap.size i.args ds gs before hval hw' (hX _ _ _ (by rfl) hx) hsh).mono fun e W' ⟨v,he,hp⟩=>?_
 grind [ChangeSpec.post_blind]
end Go.X
namespace Go.Proofs.YtemclecmafjjfaaGreatDoor.N
open Go.X Go.Lib
set_option maxRecDepth 100000
def dF (x:Nat):DataW Unit:=.lit (.float .f64 x)
def dU (x:Int):DataW Unit:=.lit (.int .u64 x)
def dI (x:Int):DataW Unit:=.lit (.int .i64 x)
def dR (x:Nat × Nat):DataW Unit:=.agg [.lit (.int .u64 x.1),.lit (.int .u64 x.2)]
def LI (x:Nat × List UInt8):DataW Unit:=.agg [.lit (.int .i64 x.1),.lit (.string x.2)]
def eR2 :En (Nat × Nat):=⟨2,fun x=>[.int .u64 x.1,.int .u64 x.2],by decide,fun _=>rfl,fun x v h=>by simp at h;rcases h with rfl | rfl<;>rfl⟩
def eC2 :En (Nat × List UInt8):=⟨2,fun x=>[.int .i64 x.1,.string ⟨x.2.toArray⟩],by decide,fun _=>rfl,fun x v h=>by simp at h;rcases h with rfl | rfl<;>rfl⟩
theorem isU :(Rows.laid_internal_strconv_uint64pow10:DataW Unit)= .agg (tU.map dU):=by kernel_rfl
theorem isP :(Rows.laid_internal_strconv_powtab:DataW Unit)= .slice (tP.map dI) []:=by kernel_rfl
theorem isF :(Rows.laid_internal_strconv_float64pow10:DataW Unit)= .slice (tF.map dF) []:=by kernel_rfl
theorem isT :Rows.laid_internal_strconv_pow10Tab= .agg (Go.Pinned.pow10Rows.map dR):=rfl
theorem isL :Rows.laid_internal_strconv_leftcheats= .slice (Go.Pinned.cheatRows.map LI) []:=rfl
theorem Nj :0<Go.Pinned.cheatRows.length:=by decide+kernel
theorem GG :∀(l:List (Nat × Nat)) (i:Nat) (v:Int),(l.flatMap fun x=>[(x.1:Int),(x.2:Int)])[i]? =some v->∃x,l[i/2]? =some x/\(eR2.enc x)[i % 2]? =some (.int .u64 v)
 | [],i,v,h=>by simp at h
 | x::l,0,v,h=>by simp at h;subst h;exact⟨x,rfl,rfl⟩
 | x::l,1,v,h=>by simp at h;subst h;exact⟨x,rfl,rfl⟩
 | x::l,i+2,v,h=>by
  simp only[List.flatMap_cons,List.cons_append,List.nil_append,List.getElem?_cons_succ]at h
  obtain⟨y,h1,h2⟩:=GG l i v h
  grind
section
variable {W:World}
theorem fQ {n:String} {g:Nat} {t:TypeId} {d:DataW Unit} (hn:Tryz.prog.globalNamed n=some g) (ht:(Tryz.prog.globals[g]?).map (·.type)=some t) (h:VarReads Tryz.prog W n d):
  ∃cs fuel p,DataW.trod (fun _=>()) Tryz.prog W 0 (fun _=>true) false fuel t cs=some (d,p)/\∀(i:Nat) (v:Value),cs[i]? =some v->ac W.heap g i=some v:=by
 obtain⟨g',t',cs,fuel,p,h1,h2,h3,h4⟩:=h
 obtain rfl:=Option.some.inj (hn.symm.trans h1)
 obtain rfl:=Option.some.inj (ht.symm.trans h2)
 refine⟨cs.toList,fuel,p,h4,fun i v hi=>rX (s:=none) ?_⟩
 rw[World.var?_cell hn h3 i,<-Array.getElem?_toList];exact hi
theorem LJ (h:VarReads Tryz.prog W "internal/strconv.uint64pow10" (.agg (tU.map dU))):∃e f,W.heap[1]? =some (.cells (tU.map fun z=>Value.int .u64 z).toArray e f):=by
 obtain⟨g',t',cs,fuel,p,h1,h2,h3,h4⟩:=h
 obtain rfl:=Option.some.inj ((show Tryz.prog.globalNamed "internal/strconv.uint64pow10" =some 1 by kernel_rfl).symm.trans h1)
 obtain rfl:=Option.some.inj ((show(Tryz.prog.globals[1]?).map (·.type)=some 156 by kernel_rfl).symm.trans h2)
 have u6:=oE (eK .u64) dU Tryz.underlying156 (by kernel_rfl) (iE (by kernel_rfl)) h4
 obtain⟨xs,m,_,_,hl,_⟩:=DataW.trod_array Tryz.underlying156 h4
 have hl:cs.toList.length=20:=hl.trans (by kernel_rfl)
 have e:cs.toList=tU.map fun z=>Value.int .u64 z:=by
  apply List.ext_getElem?
  intro i
  by_cases hi:i<20
  ·obtain⟨z,hz⟩:∃z,tU[i]? =some z:=⟨tU[i]'hi,List.getElem?_eq_getElem _⟩
   have:=u6 i z hz 0 _ rfl
   rw[show i*(eK IntKind.u64).sz+0=i from Nat.mul_one i]at this
   grind
  grind [List.length_map]
 unfold World.var? at h3
 rw[h1,Option.bind_some]at h3
 split at h3
 ·rename_i c el fr hh
  obtain rfl:=Option.some.inj h3
  refine⟨el,fr,hh.trans ?_⟩
  have e2:c=(tU.map fun z=>Value.int .u64 z).toArray:=by rw[<-e]
  rw[e2]
 ·cases h3
theorem Nk (h:laidMetH Tryz.prog Rows.gmlBackRow.laid W) (hS:W.ShapedOpen Tryz.prog):∃gl,Gl gl W.heap:=by
 rw[MakeChecks.laidMetH_plain _ _ _ (by kernel_rfl)]at h
 have r:∀{n d},(n,d)∈Rows.gmlBackRow.laid->VarReads Tryz.prog W n d:=fun hm=>laidMet.reads h hm
 obtain⟨c3,f3,p3,t3,k3⟩:=fQ (g:=2) (t:=4) (by kernel_rfl) (by kernel_rfl) (r (n:= "internal/strconv.optimize") (d:=Rows.laid_internal_strconv_optimize) (by simp[Rows.gmlBackRow]))
 obtain⟨c5,f5,p5,t5,k5⟩:=fQ (g:=13) (t:=242) (by kernel_rfl) (by kernel_rfl) (r (n:= "internal/strconv.float64info") (d:=Rows.laid_internal_strconv_float64info) (by simp[Rows.gmlBackRow]))
 obtain⟨c6,f6,p6,t6,k6⟩:=fQ (g:=1) (t:=156) (by kernel_rfl) (by kernel_rfl) (r (n:= "internal/strconv.uint64pow10") (d:=Rows.laid_internal_strconv_uint64pow10) (by simp[Rows.gmlBackRow]))
 obtain⟨c9,f9,p9,t9,k9⟩:=fQ (g:=15) (t:=256) (by kernel_rfl) (by kernel_rfl) (r (n:= "internal/strconv.powtab") (d:=Rows.laid_internal_strconv_powtab) (by simp[Rows.gmlBackRow]))
 obtain⟨c10,f10,p10,t10,k10⟩:=fQ (g:=16) (t:=27) (by kernel_rfl) (by kernel_rfl) (r (n:= "internal/strconv.float64pow10") (d:=Rows.laid_internal_strconv_float64pow10) (by simp[Rows.gmlBackRow]))
 obtain⟨c11,f11,p11,t11,k11⟩:=fQ (g:=10) (t:=219) (by kernel_rfl) (by kernel_rfl) (r (n:= "internal/strconv.pow10Tab") (d:=Rows.laid_internal_strconv_pow10Tab) (by simp[Rows.gmlBackRow]))
 obtain⟨c12,f12,p12,t12,k12⟩:=fQ (g:=11) (t:=224) (by kernel_rfl) (by kernel_rfl) (r (n:= "internal/strconv.leftcheats") (d:=Rows.laid_internal_strconv_leftcheats) (by simp[Rows.gmlBackRow]))
 obtain⟨c1,f1,p1,t1,k1⟩:=fQ (g:=4) (t:=82) (by kernel_rfl) (by kernel_rfl) (r (n:= "strconv.ErrSyntax") (d:=Rows.laid_strconv_ErrSyntax) (by simp[Rows.gmlBackRow]))
 obtain⟨c2,f2,p2,t2,k2⟩:=fQ (g:=5) (t:=82) (by kernel_rfl) (by kernel_rfl) (r (n:= "strconv.ErrRange") (d:=Rows.laid_strconv_ErrRange) (by simp[Rows.gmlBackRow]))
 have uu:=LJ (by have:=r (n:= "internal/strconv.uint64pow10") (d:=Rows.laid_internal_strconv_uint64pow10) (by simp[Rows.gmlBackRow]);rwa[isU]at this)
 obtain⟨m1,hm1⟩:=cell_of_shapedOpen_int (g:=3) (t:=3) (k:=.i64) hS (of_decide_eq_true (by kernel_rfl)) (zero:=#[.int .i64 0]) (by kernel_rfl) rfl (by kernel_rfl) (by kernel_rfl) (by kernel_rfl)
 clear h r
 rw[isU]at t6
 rw[isP]at t9
 rw[isF]at t10
 rw[isT]at t11
 rw[isL]at t12
 have u6:=oE (eK .u64) dU Tryz.underlying156 (by kernel_rfl) (iE (by kernel_rfl)) t6
 obtain⟨pb,po,pc,rfl,u9⟩:=oD (eK .i64) dI Tryz.underlying256 (by kernel_rfl) (iE (by kernel_rfl)) (by decide) t9
 obtain⟨fb,fo,fc,rfl,u10⟩:=oD (⟨1,fun x=>[.float .f64 x],by decide,fun _=>rfl,fun x v h=>by simp at h;subst h;rfl⟩:En Nat) dF Tryz.underlying27 (by kernel_rfl) (yY (by kernel_rfl)) (by decide) t10
 have u11:=oE eR2 dR Tryz.underlying219 (by kernel_rfl) (fun n cs x p q=>by
  obtain⟨hl,ha⟩:=mf Tryz.underlying218 q
  obtain⟨m0,d0,q0,e0,h0⟩:=ha 0 _ rfl rfl (by kernel_rfl)
  obtain⟨m1,d1,q1,e1,h1⟩:=ha 1 _ rfl rfl (by kernel_rfl)
  cases e0;cases e1
  exact Cb hl (at_one (iE Tryz.underlying100 _ _ _ _ h0)) (at_one (iE Tryz.underlying100 _ _ _ _ h1))) t11
 obtain⟨lb,lo,lc,rfl,u12⟩:=oD eC2 LI Tryz.underlying224 (by kernel_rfl) (fun n cs x p q=>by
  obtain⟨hl,ha⟩:=mf Tryz.underlying223 q
  obtain⟨m0,d0,q0,e0,h0⟩:=ha 0 _ rfl rfl (by kernel_rfl)
  obtain⟨m1,d1,q1,e1,h1⟩:=ha 1 _ rfl rfl (by kernel_rfl)
  cases e0;cases e1
  exact Cb hl (at_one (iE Tryz.underlying3 _ _ _ _ h0)) (at_one (Fx Tryz.underlying9 _ _ _ _ h1))) Nj t12
 obtain⟨_,ha⟩:=mf Tryz.underlying242 t5
 have s5:∀(i:Nat) (f:Field) (k:IntKind) (x:Int),#[{name:= "mantbits",type:=105,offset:=0,embedded:=false,tag:= "",pkgPath:= "internal/strconv",byteOffset:=0},{name:= "expbits",type:=105,offset:=1,embedded:=false,tag:= "",pkgPath:= "internal/strconv",byteOffset:=8},{name:= "bias",type:=3,offset:=2,embedded:=false,tag:= "",pkgPath:= "internal/strconv",byteOffset:=16}][i]? =some f->f.offset=i->Tryz.prog.cellsOf f.type=1->
   Tryz.prog.underlying f.type=some (.int k)->([.lit (.int .u64 52),.lit (.int .u64 11),.lit (.int .i64 (-1023))]:List (DataW Unit))[i]? =some (.lit (.int k x))->ac W.heap 13 i=some (.int k x):=fun i f k x hf ho hc hu hx=>by
  obtain⟨m,d,q,e,h⟩:=ha i f hf ho hc
  obtain rfl:=Option.some.inj (hx.symm.trans e)
  exact k5 i _ (at_one (iE hu _ _ _ _ h))
 have ifc:∀{g f p cs} {d:DataW Unit} {s:String},DataW.trod (fun _=>()) Tryz.prog W 0 (fun _=>true) false f 82 cs=some (.iface s d,p)->(∀(i:Nat) (v:Value),cs[i]? =some v->ac W.heap g i=some v)->∃t v,ac W.heap g 0=some (.iface t v):=by
  intro g f p cs d s h k
  cases f with
  | zero=>simp[DataW.trod]at h
  | succ m=>
   unfold DataW.trod at h
   rw[Tryz.underlying82]at h
   split at h<;>simp_all
 refine⟨⟨pb,po,pc,fb,fo,fc,lb,lo,lc⟩,?_⟩
 exact{
  opt:=k3 0 _ (by rw[Ca Tryz.underlying4 _ _ _ _ t3];rfl)
  i0:=s5 0 _ _ _ rfl rfl (by kernel_rfl) Tryz.underlying105 rfl
  i1:=s5 1 _ _ _ rfl rfl (by kernel_rfl) Tryz.underlying105 rfl
  i2:=s5 2 _ _ _ rfl rfl (by kernel_rfl) Tryz.underlying3 rfl
  u:=fun i v hv=>by rw[Nat.zero_add];exact k6 i _ (by have:=u6 i v hv 0 _ rfl;rwa[show i*(eK IntKind.u64).sz+0=i from Nat.mul_one i]at this)
  t:=fun i v hv=>by
   rw[Nat.zero_add]
   obtain⟨x,hx,hv2⟩:=GG _ _ _ hv
   have:=u11 _ _ hx _ _ hv2
   rw[show i/2*eR2.sz+i % 2=i from Nat.div_add_mod' i 2]at this
   exact k11 i _ this
  p0:=k9 0 _ rfl
  p:=fun i v hv=>by have:=u9 i v hv 0 _ rfl;rwa[show po+i*(eK IntKind.i64).sz+0=po+i by show po+i*1+0=po+i;omega]at this
  f0:=k10 0 _ rfl
  f:=fun i v hv=>by have:=u10 i v hv 0 _ rfl;rwa[show fo+i*1+0=fo+i by omega]at this
  l0:=k12 0 _ rfl
  l:=fun i v hv=>by
   obtain⟨x,hx,rfl⟩:∃x,Go.Pinned.cheatRows[i]? =some x/\v=((x.1:Int),(⟨x.2.toArray⟩:ByteArray)):=by
    unfold tL at hv
    rw[List.getElem?_map]at hv
    obtain⟨x,h1,h2⟩:=Option.map_eq_some_iff.1 hv
    exact⟨x,h1,h2.symm⟩
   have a0:=u12 i x hx 0 _ rfl
   have a1:=u12 i x hx 1 _ rfl
   exact⟨a0,a1⟩
  uu:=uu
  ml:=⟨m1,rX hm1⟩
  e1:=ifc t1 k1
  e2:=ifc t2 k2}
theorem met (os:Os) (args:Array Value):laidMetH Tryz.prog Rows.gmlBackRow.laid ((World.laidAll Tryz.prog os Rows.gmlBackRow.laid).forCall (fun _ _=>0) ⟨#[],args,[]⟩).memory:=by
 rw[MakeChecks.laidMetH_plain _ _ _ (by kernel_rfl)]
 exact laidMet_laidAll _ (by kernel_rfl) (by kernel_rfl)
end
end Go.Proofs.YtemclecmafjjfaaGreatDoor.N
namespace Go.X
open Go.ChangeShapes Go.WideShapes Go.ChangeAt Go.RowKit
open Go.Deep
theorem va {P:Program} {f:FuncId} {args:Array Value} {v:Value} {W:World} (c:ae P f args W.heap fun v' h'=>Fr [] W.heap h'/\v'=v):
  Calls P f args W fun e w'=>e= .returned v/\Below W.heap.size W w':=
 (c W rfl).mono fun e w' ⟨u,h1,h2,h3,h4⟩=>⟨by rw[h1,h4],⟨h2.os,h2.tape,h2.output,h3.size,fun k hk=>h3.blk k hk (by simp)⟩⟩
theorem F8 {P:Program} {w:World} {r:Reach} {base:Nat} {t e:TypeId} {a:Addr} {len cap:Nat} (ht:P.underlying t=some (.slice e)) (h:Cell.okWide P w r base t (.slice (some a) len cap)):a.spot=none:=by
 simp only[Cell.okWide,ht,Cell.ok]at h
 exact h.2.2.2.1
section
variable {H:Type} {enc:TypeId × Value->H} {P:Program} {W:World} {base:Nat}
theorem F9 {α:Type} [Inhabited α] (E:En α) {t e:TypeId} {a:Option Addr} {len cap:Nat} {d:DataW H} {p:List MemPlace} (ht:P.underlying t=some (.slice e)) (hc:P.cellsOf e=E.sz)
  (hs:∀x,a=some x->x.spot=none)
  (hel:∀(n:Nat) (cs:List Value) (y:DataW H × List MemPlace),DataW.trod enc P W base (fun _=>true) true n e cs=some y->∃x:α,cs=E.enc x)
  (h:DataW.Trod enc P W base (fun _=>true) true t (.slice a len cap) d p):∃xs:List α,(Ck.vw E a len cap xs).ok W.heap/\(xs.length=0\/∃el sp,d= .slice el sp/\el.length=xs.length):=by
 obtain⟨fuel,hf⟩:=h
 have hcs0:(Value.slice a len cap).cells.toList=[.slice a len cap]:=rfl
 rw[hcs0]at hf
 rcases open_slice ht hf with⟨hcs,_⟩ | ⟨x,l,c,m,n,D,Pl,hcs,_,hl,hm,hmm,hd,hx⟩
 ·simp at hcs
  obtain⟨rfl,rfl,rfl⟩:=hcs
  exact⟨[],⟨⟨by simp[En.l],.inl ⟨rfl,rfl⟩⟩,rfl,Nat.le_refl _,fun _=>rfl⟩,.inl rfl⟩
 ·simp at hcs
  obtain⟨rfl,rfl,rfl⟩:=hcs
  simp only[if_true]at hmm
  subst hmm
  have hsp:=hs x rfl
  obtain⟨b,o,sp⟩:=x
  simp only at hsp
  subst hsp
  obtain⟨V,hV⟩:=choose_lt (α:=α) (p:=fun i v=>W.cells? base ((⟨b,o,none⟩:Addr).add (i*P.cellsOf e)) (P.cellsOf e)=some (E.enc v)) (fun i hi=>by
   obtain⟨cs',h1,h2⟩:=hx i hi
   obtain⟨v,rfl⟩:=hel _ _ _ h2
   exact⟨v,h1⟩)
  refine⟨(List.range len).map V,⟨⟨by rw[En.l_len];simp,.inr ⟨b,o,rfl,fun j v hj=>?_⟩⟩,by simp,hl,fun q=>by cases q⟩,.inr ⟨_,_,congrArg Prod.fst hd,by simp⟩⟩
  have hjl:j<len*E.sz:=by
   have:=(List.getElem?_eq_some_iff.1 hj).1
   rw[En.l_len]at this;simpa using this
  have hi:j/E.sz<len:=Nat.div_lt_of_lt_mul (by rw[Nat.mul_comm];exact hjl)
  have ht2:j % E.sz<E.sz:=Nat.mod_lt _ E.pos
  have ej:j/E.sz*E.sz+j % E.sz=j:=Nat.div_add_mod' j E.sz
  have g1:((List.range len).map V)[j/E.sz]? =some (V (j/E.sz)):=by simp[hi]
  have hlen:j % E.sz<(E.enc (V (j/E.sz))).length:=by rw[E.len];exact ht2
  have g2:=En.l_get g1 (List.getElem?_eq_getElem hlen)
  rw[ej,hj]at g2
  obtain rfl:=Option.some.inj g2
  have g3:=(World.cells?_some (hV (j/E.sz) (by omega))).2.2 (j % E.sz) (by rw[hc];exact ht2)
  rw[Go.Deep.add_add,hc,ej,List.getElem?_eq_getElem hlen]at g3
  rw[<-g3]
  rw[show(⟨b,o,none⟩:Addr).add j=⟨b,o+j,none⟩from cr _ _ _,bc]
theorem Ga {n:Nat} {t e:TypeId} {cs:List Value} {y:DataW H × List MemPlace} (ht:P.underlying t=some (.array 2 e)) (he:P.underlying e=some (.int .i64)) (h1:P.cellsOf t=2) (h2:P.cellsOf e=1) (h:DataW.trod enc P W base (fun _=>true) true n t cs=some y):∃x:Int × Int,cs=eP.enc x:=by
 obtain⟨xs,m,_,_,hl,hxl,hx⟩:=DataW.trod_array ht h
 rw[h1]at hl
 match cs,hl with
 | [c0,c1],_=>
  match xs,hxl with
  | [y0,y1],_=>
   have q0:=hx 0 (by omega)
   have q1:=hx 1 (by omega)
   rw[h2]at q0 q1
   simp at q0 q1
   obtain⟨a,ha,_⟩:=DataW.trod_int he q0
   obtain⟨b,hb,_⟩:=DataW.trod_int he q1
   simp at ha hb
   exact⟨(a,b),by simp[eP,ha,hb]⟩
end
theorem C8 {cs:List Ck} (h:ao cs=[]) {k:Nat} {d:Ck} (hd:cs[k]? =some d):∀b,b∉d.own:=fun b hb=>by
 have:b∈ao cs:=List.mem_flatMap.2 ⟨d,List.mem_of_getElem? hd,hb⟩
 rw[h]at this;simp at this
theorem Hp.vw {h:ab} {c:Ck} {cs:List Ck} (hc:c.ok h) (ho:c.own=[]) (H:Hp h cs) (hn:ao cs=[]):Hp h (c::cs):=
 Hp.view hc ho H fun _ _ hd b hb=>absurd hb (C8 hn hd b)
section
variable {H:Type} {enc:TypeId × Value->H} {P:Program} {W:World} {base:Nat}
end
end Go.X
namespace Go.Proofs.YtemclecmafjjfaaGreatDoor
end Go.Proofs.YtemclecmafjjfaaGreatDoor
