/- gml.Write. Conditions: what the texts of numbers are. -/
import Derived.Test.YtemclecmafjjfaaGreatDoorKNodeW
import Derived.Test.YtemclecmafjjfaaGreatDoorXU
import Derived.Test.YtemclecmafjjfaaGreatDoorSBk
import Derived.Test.YtemclecmafjjfaaGreatDoorTSame
import Derived.Test.YtemclecmafjjfaaGreatDoorHOnce
import Derived.Test.YtemclecmafjjfaaGreatDoorTPar
import Derived.Test.YtemclecmafjjfaaGreatDoorSLex
set_option linter.unusedVariables false
set_option linter.unusedSimpArgs false
open Go.IntKind (i64 u64 u8 i32)
namespace Go.Proofs.YtemclecmafjjfaaGreatDoor.N
open Go.Proofs.YtemclecmafjjfaaGreatDoor
open Go.X
open Go.Proofs
set_option maxRecDepth 100000
def iC (n:Int) (dir:Bool) (es:Es) (ls:List ByteArray) (ss:List (Nat × Nat)) (ws:List Nat):G.Dc:=⟨n.toNat,dir,es.map fun e=>(e.1.toNat,e.2.toNat),ls,ss,ws⟩
def wrV (tx:Nat->List UInt8) (n:Int) (dir:Bool) (es:Es) (ls:List ByteArray) (ss:List (Nat × Nat)) (ws:List Nat):List UInt8 × Int:=
 if gk n es ls ss ws=false then([],1)else if 262144<(G.wr tx (iC n dir es ls ss ws)).length then([],23)else(G.wr tx (iC n dir es ls ss ws),0)
def dB (gl:GL) (aE:Option Addr) (nE cE:Nat) (es:Es) (aL:Option Addr) (nL cL:Nat) (ls:List ByteArray) (aS:Option Addr) (nS cS:Nat) (ss:List (Nat × Nat)) (aW:Option Addr) (nW cW:Nat) (ws:List Nat) (k:Nat):List Ck:=
 dV gl aE nE cE es aL nL cL ls aS nS cS ss aW nW cW ws++[Ck.junk k]
theorem ua (tx:Nat->List UInt8) {es:List (Nat × Nat)} {ws:List Nat} {k:Nat} {e:Nat × Nat} (h:es[k]? =some e):G.eM tx (es.drop k) (ws.drop k)=G.qo tx ws[k]? e++G.eM tx (es.drop (k+1)) (ws.drop (k+1)):=by
 have hk:=(List.getElem?_eq_some_iff.1 h).1
 rw[List.drop_eq_getElem_cons hk,(List.getElem?_eq_some_iff.1 h).2,G.eM,List.head?_drop,List.tail_drop]
section
variable {gl:GL} {h:ab} {tx:Nat->List UInt8} {aE aL aS aW:Option Addr} {nE cE nL cL nS cS nW cW:Nat} {n:Int} {es:Es} {ls:List ByteArray} {ss:List (Nat × Nat)} {ws:List Nat} {dir:Bool}
set_option maxHeartbeats 4000000 in
theorem ok7 (Hm:Hp h (dV gl aE nE cE es aL nL cL ls aS nS cS ss aW nW cW ws)) (hsz:∀s∈ls,s.size<=9223372036854775807) (hll:ls.length<=9223372036854775807) (ht:∀p∈ss,rZ gl tx p.1/\rZ gl tx p.2) (htw:∀x∈ws,rZ gl tx x):
  ae Tryz.prog 7 #[.agg #[.int .i64 n,.slice aE nE cE,.bool dir,.slice aL nL cL,.slice aS nS cS,.slice aW nW cW]] h fun w h'=>w= .tuple #[.string (G.mkB (wrV tx n dir es ls ss ws).1),.int .i64 (wrV tx n dir es ls ss ws).2]/\Fr [] h h':=by
 apply HC
 unfold S7
 intro h1
 have Q1:Sq h (dV gl aE nE cE es aL nL cL ls aS nS cS ss aW nW cW ws) h1 (dB gl aE nE cE es aL nL cL ls aS nS cS ss aW nW cW ws h.size):=⟨(Sy.start Hm).junk _,fun x hx=>.inl (by simpa[rds,dB,Ck.junk]using hx)⟩
 refine ak (R:=fun v h'=>v= .bool (gk n es ls ss ws)/\Fr [] h1 h') [] ?_ (by simp) (fun _ _ r=>r.2) ?_
 ·refine(GC (n:=n) (es:=es) (dr:=dir) (ls:=ls) (ss:=ss) (ws:=ws) (R:=fun r=>r=gk n es ls ss ws) hsz hll rfl h1 aE nE cE aL nL cL aS nS cS aW nW cW (Q1.pick [1,2,3,4] rfl).hp).mono ?_
  rintro v h' ⟨r,Y,rfl,rfl⟩
  exact⟨rfl,Y.fr⟩
 rintro v h2 ⟨rfl,f2⟩
 have Q2:=Q1.gr f2
 refine⟨_,rfl,aV (fun q=>⟨?_,Q2.fr⟩) fun q=>?_⟩
 ·unfold wrV;rw[if_pos q];rfl
 have hm:=q
 unfold gk at hm
 simp only[Bool.and_eq_true]at hm
 obtain⟨m1,m2,m3,m4,m5⟩:=hm
 obtain⟨g0,g1,gm,ge⟩:=Ht m1
 obtain⟨N,rfl⟩:∃N:Nat,n=(N:Int):=⟨n.toNat,by omega⟩
 have hN:N<=1024:=by omega
 have non:∀{a b:Nat},kL (a:Int) (b:Int)=true->a=0\/a=b:=fun{a b} h=>by unfold kL at h;grind
 have hL:ls=[]\/ls.length=N:=(non m2).imp List.eq_nil_of_length_eq_zero id
 have hS:ss=[]\/ss.length=N:=(non m3).imp List.eq_nil_of_length_eq_zero id
 have hW:ws=[]\/ws.length=es.length:=(non m4).imp List.eq_nil_of_length_eq_zero id
 have hlp:∀s∈ls,s.size<=256:=fun s hs=>by
  grind [y7]
 intro h3
 obtain⟨D,hD⟩:∃D,D=iC (N:Int) dir es ls ss ws:=⟨_,rfl⟩
 have dN:D.n=N:=by rw[hD];exact Int.toNat_natCast N
 have dL:D.labels=ls:=by rw[hD];rfl
 have dS:D.spots=ss:=by rw[hD];rfl
 have Q3:Sq h (dV gl aE nE cE es aL nL cL ls aS nS cS ss aW nW cW ws) h3 (wC h2.size false none 0 0 []++dB gl aE nE cE es aL nL cL ls aS nS cS ss aW nW cW ws h.size):=by
  have Y:=((Q2.sy.newO (ty:=47) [.pointer none,.slice none 0 0,.int .i64 0]).nilS (eK .u8) 5).pick [6,7,0,1,2,3,4,5] rfl
  exact⟨Y,fun x hx=>Q2.ri x (by simpa[rds,wC,dB,dV,Ck.ob,Ck.sl,Ck.junk,pk]using hx)⟩
 have hd:Hd [h.size] (dB gl aE nE cE es aL nL cL ls aS nS cS ss aW nW cW ws h.size):=by
  intro x hx
  simp at hx;subst hx
  exact⟨5,rfl⟩
 clear Q1 Q2
 refine D4 (k:=⟨#[103,114,97,112,104]⟩) Q3 hd (by omega) (by decide) (by decide) fun A4 c4 h4 Q4=>⟨rfl,?_⟩
 change Sq h _ h4 (wC h2.size true A4 c4 1 (G.opn 0 G.gf++[10])++dB gl aE nE cE es aL nL cL ls aS nS cS ss aW nW cW ws h.size)at Q4
 generalize h2.size=b at*
 refine⟨fun lz h'=>lz=[.string (G.mkB (if dir=true then [49]else [48]))]/\h'=h4,bp (fun e=>⟨by rw[e];rfl,rfl⟩) fun e=>⟨by rw[e];rfl,rfl⟩,?_⟩
 rintro dd h5 ⟨hdd,rfl⟩
 obtain rfl:dd=G.mkB (if dir=true then [49]else [48]):=by simpa using hdd
 refine tZ (k:=⟨#[100,105,114,101,99,116,101,100]⟩) Q4 hd (by omega) (by decide) ⟨by decide,by rw[dM];split<;>simp⟩ fun A7 c7 h7 Q7=>⟨rfl,?_⟩
 rw[qb]at Q7
 obtain⟨base,hb⟩:∃base,base=(G.opn 0 G.gf++[10])++(G.kv 2 G.cr (if dir=true then [49]else [48])++[10]):=⟨_,rfl⟩
 have Q7:Sq h (dV gl aE nE cE es aL nL cL ls aS nS cS ss aW nW cW ws) h7 (wC b true A7 c7 1 base++dB gl aE nE cE es aL nL cL ls aS nS cS ss aW nW cW ws h.size):=by rw[hb];exact Q7
 have bl:base.length<=100:=by
  rw[hb,List.length_append,kM,gn]
  have:(if dir=true then [(49:UInt8)]else [48]).length=1:=by split<;>rfl
  rw[this];decide
 refine⟨fun lz h'=>∃(k:Nat) (A':Option Addr) (c':Nat) (l:List UInt8),lz=[.int .i64 (k:Int)]/\k<=N/\Sq h (dV gl aE nE cE es aL nL cL ls aS nS cS ss aW nW cW ws) h' (wC b true A' c' 1 l++dB gl aE nE cE es aL nL cL ls aS nS cS ss aW nW cW ws h.size)/\
   l++G.aJ (G.fV tx D (N-k) k)=base++G.aJ (G.fV tx D N 0)/\l.length<=100+4000*k,
  fun lz _=>match lz with | [.int _ i]=>((N:Int)-i).toNat | _=>0,⟨0,A7,c7,base,rfl,by omega,Q7,rfl,by omega⟩,?_⟩
 rintro x h8 ⟨k,A8,c8,l8,hx,hk,Q8,e8,b8⟩
 obtain rfl:x=(k:Int):=by simpa using hx
 refine ag (fun hlt=>?_) fun hlt=>?_
 ·have Q8':Sq h (dV gl aE nE cE es aL nL cL ls aS nS cS ss aW nW cW ws) h8 ((wC b true A8 c8 1 l8++dV gl aE nE cE es aL nL cL ls aS nS cS ss aW nW cW ws)++[Ck.junk h.size]):=Q8
  have hd1:Hd [h.size] [Ck.junk h.size]:=by
   intro x hx
   simp at hx;subst hx
   exact⟨0,rfl⟩
  refine ak (ao (wC b true A8 c8 1 l8++dV gl aE nE cE es aL nL cL ls aS nS cS ss aW nW cW ws)) (MR (tx:=tx) (n:=N) (v:=k) (dir:=dir) (Q8'.pick [0,1,2,3,4,5,6] rfl).hp (by omega) hN hL hS hlp ht (by omega)) (fun x hx=>(hd1.apart Q8' x hx).2) (fun _ _ r=>r.2.1.choose_spec.choose_spec.fr) ?_
  rintro v h9 ⟨rfl,⟨A9,c9,q9⟩,b9⟩
  have Q9:=Sq.call Q8' q9
  have hw:i64.wrap ((k:Int)+1)=((k+1:Nat):Int):=by rw[wr (by omega) (by omega)];omega
  rw[hw]
  refine⟨rfl,⟨k+1,A9,c9,_,rfl,by omega,Q9,?_,by omega⟩,by grind⟩
  rw[<-e8,show N-k=(N-(k+1))+1 by omega,G.fV,dL,dS,G.dm,List.append_assoc]
 have hkN:k=N:=by omega
 subst hkN
 rw[Nat.sub_self]at e8
 have e8:l8=base++G.aJ (G.fV tx D k 0):=by simpa[G.fV,G.aJ]using e8
 obtain⟨base2,hb2⟩:∃base2,base2=l8:=⟨_,rfl⟩
 have lE:=Q8.sy.lenV 3 rfl
 have lW:=Q8.sy.lenV 6 rfl
 have dE:D.edges=es.map fun e=>(e.1.toNat,e.2.toNat):=by rw[hD];rfl
 have dW:D.weights=ws:=by rw[hD];rfl
 refine⟨fun lz h'=>∃(j:Nat) (A':Option Addr) (c':Nat) (l:List UInt8),lz=[.int .i64 (j:Int)]/\j<=es.length/\Sq h (dV gl aE nE cE es aL nL cL ls aS nS cS ss aW nW cW ws) h' (wC b true A' c' 1 l++dB gl aE nE cE es aL nL cL ls aS nS cS ss aW nW cW ws h.size)/\
   l++G.aJ (G.eM tx (D.edges.drop j) (ws.drop j))=base2++G.aJ (G.eM tx D.edges ws)/\l.length<=5000000+1000*j,
  fun lz _=>match lz with | [.int _ i]=>((es.length:Int)-i).toNat | _=>0,⟨0,A8,c8,l8,rfl,by omega,Q8,by rw[hb2];rfl,by omega⟩,?_⟩
 rintro x h10 ⟨j,A10,c10,l10,hx,hj,Q10,e10,b10⟩
 obtain rfl:x=(j:Int):=by simpa using hx
 refine ag (fun hlt=>?_) fun hlt=>?_
 ·have hjl:j<es.length:=by omega
  have hx:es[j]? =some es[j]:=List.getElem?_eq_getElem hjl
  generalize es[j]=e at hx
  obtain⟨⟨z1,z2⟩,z3,z4⟩:=ge j e hx
  obtain⟨p,o,ea,_⟩:=Q10.sy.atV 3 rfl (i:=(j:Int)) (by omega) (by omega)
  refine⟨p,o,ea,by omega,by omega,e.1,Q10.sy.cellV 3 rfl ea (i:=j) (t:=0) hx rfl,e.2,Q10.sy.cellV 3 rfl ea (i:=j) (t:=1) hx rfl,?_⟩
  intro h11 h12
  have Q12:Sq h (dV gl aE nE cE es aL nL cL ls aS nS cS ss aW nW cW ws) h12 (wC b true A10 c10 1 l10++(dB gl aE nE cE es aL nL cL ls aS nS cS ss aW nW cW ws h.size++[Ck.junk h10.size])):=by
   have Y:=(((Q10.sy.newO (ty:=51) [.int .i64 0,.int .i64 0]).stO 8 rfl 0 (.int .i64 e.1)).stO 8 rfl 1 (.int .i64 e.2)).turn 8 rfl To.sljunk
   exact⟨Y,fun x hx=>Q10.ri x (by simpa[rds,wC,dB,dV,Ck.ob,Ck.sl,Ck.junk]using hx)⟩
  have hd2:Hd [h10.size,h.size] (dB gl aE nE cE es aL nL cL ls aS nS cS ss aW nW cW ws h.size++[Ck.junk h10.size]):=by
   intro x hx
   simp at hx
   rcases hx with rfl | rfl
   ·exact⟨6,rfl⟩
   ·exact⟨5,rfl⟩
  have hd3:Hd [h.size] (dB gl aE nE cE es aL nL cL ls aS nS cS ss aW nW cW ws h.size++[Ck.junk h10.size]):=fun x hx=>hd2 x (by grind)
  clear_value h12
  refine D4 (k:=⟨#[101,100,103,101]⟩) Q12 hd2 (by omega) (by omega) (by decide) fun A13 c13 h13 Q13=>⟨rfl,?_⟩
  change Sq h _ h13 (wC b true A13 c13 2 (l10++(G.opn 2 G.eH++[10]))++_)at Q13
  have e13:(l10++(G.opn 2 G.eH++[10])).length=l10.length+9:=by rw[List.length_append,kM];rfl
  have gB:∀{A:Option Addr} {c d:Nat} {l:List UInt8} {h':ab},Sq h (dV gl aE nE cE es aL nL cL ls aS nS cS ss aW nW cW ws) h' (wC b true A c d l++(dB gl aE nE cE es aL nL cL ls aS nS cS ss aW nW cW ws h.size++[Ck.junk h10.size]))->Gl gl h':=fun{A c d l h'} Q=>Q.sy.ok (k:=2) (c:=Ck.glob gl) rfl
  obtain⟨u1,hu1⟩:∃u:Nat,e.1=(u:Int):=⟨e.1.toNat,by omega⟩
  obtain⟨u2,hu2⟩:∃u:Nat,e.2=(u:Int):=⟨e.2.toNat,by omega⟩
  rw[hu1,hu2]
  refine ak [] (Hv (n:=u1) (gB Q13) (by omega)) (by simp) (fun _ _ r=>r.2) ?_
  rintro w h14 ⟨rfl,f14⟩
  have d1:=om (n:=u1) (by omega)
  have d2:=om (n:=u2) (by omega)
  refine⟨_,rfl,tZ (k:=⟨#[115,111,117,114,99,101]⟩) (Q13.gr f14) hd2 (by omega) (by omega) ⟨by decide,by rw[dM];omega⟩ fun A16 c16 h16 Q16=>⟨rfl,?_⟩⟩
  rw[qb]at Q16
  change Sq h _ h16 (wC b true A16 c16 2 (l10++(G.opn 2 G.eH++[10])++(G.kv 4 G.bc (G.dec u1)++[10]))++_)at Q16
  have e16:(l10++(G.opn 2 G.eH++[10])++(G.kv 4 G.bc (G.dec u1)++[10])).length<=l10.length+50:=by rw[List.length_append,e13,gn];show _+(4+6+_+2)<=_;omega
  refine ak [] (Hv (n:=u2) (gB Q16) (by omega)) (by simp) (fun _ _ r=>r.2) ?_
  rintro w h17 ⟨rfl,f17⟩
  refine⟨_,rfl,tZ (k:=⟨#[116,97,114,103,101,116]⟩) (Q16.gr f17) hd2 (by omega) (by omega) ⟨by decide,by rw[dM];omega⟩ fun A19 c19 h19 Q19=>⟨rfl,?_⟩⟩
  rw[qb]at Q19
  change Sq h _ h19 (wC b true A19 c19 2 (l10++(G.opn 2 G.eH++[10])++(G.kv 4 G.bc (G.dec u1)++[10])++(G.kv 4 G.bi (G.dec u2)++[10]))++_)at Q19
  have e19:(l10++(G.opn 2 G.eH++[10])++(G.kv 4 G.bc (G.dec u1)++[10])++(G.kv 4 G.bi (G.dec u2)++[10])).length<=l10.length+100:=by rw[List.length_append,gn];show _+(4+6+_+2)<=_;omega
  generalize hl19:l10++(G.opn 2 G.eH++[10])++(G.kv 4 G.bc (G.dec u1)++[10])++(G.kv 4 G.bi (G.dec u2)++[10])=l19 at*
  obtain⟨l20,hl20⟩:∃l20,l20=l19++G.aJ (match ws[j]? with | some x=>[G.kv 4 G.cb (tx x)] | none=>[]):=⟨_,rfl⟩
  have e20:l20.length<=l10.length+400:=by
   rw[hl20,List.length_append]
   cases q:ws[j]? with
   | none=>simp[G.aJ];omega
   | some x=>
    have:=(htw x (List.mem_of_getElem? q)).2
    simp only[G.aJ,List.flatMap_cons,List.flatMap_nil,List.append_nil]
    rw[gn]
    have:G.cb.length=6:=rfl
    omega
  refine⟨fun lz h'=>lz=[]/\∃A' c',Sq h (dV gl aE nE cE es aL nL cL ls aS nS cS ss aW nW cW ws) h' (wC b true A' c' 2 l20++(dB gl aE nE cE es aL nL cL ls aS nS cS ss aW nW cW ws h.size++[Ck.junk h10.size])),ag (fun q=>?_) fun q=>⟨rfl,A19,c19,?_⟩,?_⟩
  ·have hlen:j<ws.length:=by rcases hW with rfl | e<;>simp at* <;>omega
   have hxw:ws[j]? =some ws[j]:=List.getElem?_eq_getElem hlen
   generalize ws[j]=x at hxw
   obtain⟨t1,t2⟩:=htw x (List.mem_of_getElem? hxw)
   obtain⟨p,o,ea,_⟩:=Q19.sy.atV 6 rfl (i:=(j:Int)) (by omega) (by omega)
   refine⟨p,o,ea,by omega,by omega,x,Q19.sy.cellV 6 rfl ea (i:=j) (t:=0) hxw rfl,?_⟩
   refine ak [] (t1 _ (gB Q19)) (by simp) (fun _ _ r=>r.2) ?_
   rintro w h20 ⟨rfl,f20⟩
   refine⟨_,rfl,tZ (k:=⟨#[119,101,105,103,104,116]⟩) (Q19.gr f20) hd2 (by omega) (by omega) ⟨by decide,by rw[dM];omega⟩ fun A22 c22 h22 Q22=>⟨rfl,rfl,A22,c22,?_⟩⟩
   rw[qb]at Q22
   change Sq h _ h22 (wC b true A22 c22 2 (l19++(G.kv 4 G.cb (tx x)++[10]))++_)at Q22
   have e0:l20=l19++(G.kv 4 G.cb (tx x)++[10]):=by rw[hl20,hxw];simp[G.aJ]
   grind
  ·have:ws[j]? =none:=by grind
   have e0:l20=l19:=by rw[hl20,this];simp[G.aJ]
   grind
  rintro h23 ⟨_,A23,c23,Q23⟩
  refine D5 (d:=1) Q23 hd3 (by omega) (by omega) fun A24 c24 h24 Q24=>⟨rfl,?_⟩
  have hw:i64.wrap ((j:Int)+1)=((j+1:Nat):Int):=by rw[wr (by omega) (by omega)];omega
  rw[hw]
  have Q25:Sq h (dV gl aE nE cE es aL nL cL ls aS nS cS ss aW nW cW ws) h24 (wC b true A24 c24 1 (l20++(G.cls 2++[10]))++dB gl aE nE cE es aL nL cL ls aS nS cS ss aW nW cW ws h.size):=Q24.pick [0,1,2,3,4,5,6,7] rfl
  refine⟨⟨j+1,A24,c24,_,rfl,by omega,Q25,?_,by rw[List.length_append,se];omega⟩,by dsimp only;omega⟩
  have hxD:D.edges[j]? =some (u1,u2):=by
   rw[dE,List.getElem?_map,hx]
   simp[hu1,hu2]
  rw[ua tx hxD]at e10
  rw[<-e10,hl20,<-hl19]
  have e0:G.aJ [G.cls 2]=G.cls 2++[10]:=by simp[G.aJ]
  unfold G.qo
  rw[G.dm,G.bO,G.bO,G.bO,G.dm,e0]
  simp only[List.append_assoc,List.cons_append,List.nil_append]
  rfl
 have hjE:j=es.length:=by omega
 have e10:l10=base2++G.aJ (G.eM tx D.edges ws):=by
  have h1:D.edges.drop j=[]:=List.drop_eq_nil_of_le (by grind)
  grind [G.eM,G.aJ]
 refine D5 (d:=0) Q10 hd (by omega) (by omega) fun A26 c26 h25 Q26=>⟨rfl,?_⟩
 have eW:l10++(G.cls (2*0)++[10])=G.wr tx D:=by
  have e0:G.aJ [G.cls 0]=G.cls 0++[10]:=by simp[G.aJ]
  unfold G.wr G.pY
  have dd:D.dir=dir:=by rw[hD];rfl
  rw[G.bO,G.bO,G.dm,G.dm,e0,e10,hb2,e8,hb,dN,dW,dd]
  simp_all
 rw[eW]at Q26
 have hv:wrV tx (k:Int) dir es ls ss ws=if 262144<(G.wr tx D).length then([],23)else(G.wr tx D,0):=by
  unfold wrV;simp_all
 refine ak (R:=fun v h'=>v= .int .i64 ((G.wr tx D).length:Int)/\Fr [] h25 h') [] ((MV (nh Q26)).mono fun v h' r=>⟨r.1,by rw[r.2];exact Fr.refl _ _⟩) (by simp) (fun _ _ r=>r.2) ?_
 rintro v h26 ⟨rfl,f26⟩
 have Q27:=Q26.gr f26
 refine⟨_,rfl,ag (fun q2=>⟨?_,Q27.fr⟩) fun q2=>?_⟩
 ·rw[hv,if_pos (by omega)];rfl
 refine ak (ao (wC b true A26 c26 0 (G.wr tx D))) (MW (nh Q27) ?_) (fun x hx=>(hd.apart Q27 x hx).2) (fun _ _ r=>r.2) ?_
 ·unfold G.wr G.pY;rw[G.bO];simp_all
 rintro v h27 ⟨rfl,f27⟩
 refine⟨_,rfl,?_,Sq.frA Q27 f27⟩
 grind
end
set_option maxHeartbeats 2000000
def J4 (x:Nat) (h:ab) (R:VP):Prop:=cnd ((FloatKind.f64).format.order x x != some .eq) (bq Tryz.prog 73 #[.int .u64 9221120237041090561] fun b=>∃a:Nat,b= .float .f64 a/\R (.float .f64 a) h) (cnd ((FloatKind.f64).format.order x 0==some .eq) (R (.float .f64 0) h) (R (.float .f64 x) h))
theorem AM {h:ab} {R:VP} (x:Nat) (H:J4 x h R):ae Tryz.prog 140 #[.float .f64 x] h R:=aN [] 10 [] [] [] [] Tryz.func140 (by kernel_rfl) (by kernel_rfl) H
def isNaN (x:Nat):Bool:=(FloatKind.f64.format.read x).isNaN
abbrev F64 :Ieee.Format:=FloatKind.f64.format
theorem vP (x:Nat):F64.order x x=if isNaN x then none else some .eq:=by
 unfold Ieee.Format.order isNaN Ieee.Datum.order Ieee.Datum.isNaN
 cases F64.read x with
 | nan s t=>simp
 | infinity s=>simp[Std.compare_self]<;>cases s<;>rfl
 | number s m i=>simp[Std.compare_self]
theorem gj (x:Nat):(F64.order x x != some .eq)=isNaN x:=by
 rw[vP];cases isNaN x<;>rfl
def bg (x:Nat):Nat:=if isNaN x then 9221120237041090561 else if F64.order x 0==some .eq then 0 else x
theorem DJ {P:Program} {f:FuncId} {fn:Func} {e:Array Value->Sem Value} {args:Array Value} (hf:P.funcs[f]? =some fn) (hname:(fn.name== "runtime.NumGoroutine")=false) (hb:fn.body.isNone=true)
  (hn:Extern.findNext fn=none) (he:Extern.find fn=some e) (w:World):(callFunc f args).run P w=((e args).run P w).andThen fun v w'=>.ok (.value v) w':=by
 have h1:¬fn.name= "runtime.NumGoroutine" :=by simpa using hname
 have h2:fn.body=none:=by simpa using hb
 simp[callFunc,hf,hn,he,h1,h2]
theorem je {P:Program} {f:FuncId} {fn:Func} {e:Array Value->Sem Value} {args:Array Value} {v:Value} (hf:P.funcs[f]? =some fn) (hname:(fn.name== "runtime.NumGoroutine")=false) (hb:fn.body.isNone=true)
  (hn:Extern.findNext fn=none) (he:Extern.find fn=some e) (hv:e args=pure v):uJ P f args (· =v):=by
 intro w
 refine⟨v,w,?_,rfl,Rest.refl w,rfl⟩
 rw[DJ hf hname hb hn he,hv];simp
theorem lZ (n:Int):uJ Tryz.prog 73 #[.int .u64 n] (· = .float .f64 n.toNat):=
 je Tryz.func73 (by kernel_rfl) (by kernel_rfl) (by kernel_rfl) (e:=Extern.MathFloatBits.float64frombits) (by kernel_rfl) rfl
theorem bf {f:FuncId} {args:Array Value} {v:Value} {K:Value->Prop} (h:uJ Tryz.prog f args (· =v)) (k:K v):bq Tryz.prog f args K:=⟨_,h,fun _ e=>e▸k⟩
theorem xp :pZ bg:=by
 intro x h
 apply AM
 unfold J4
 rw[gj]
 refine bp (fun hx=>bf (lZ _) ⟨_,rfl,?_⟩) fun hx=>bp (fun h0=>?_) fun h0=>?_
 ·exact⟨by simp[bg,hx],Fr.refl _ _⟩
 ·have h0:(F64.order x 0==some .eq)=true:=h0
  exact⟨by simp[bg,hx,h0],Fr.refl _ _⟩
 ·have h0:(F64.order x 0==some .eq)=false:=h0
  exact⟨by simp[bg,hx,h0],Fr.refl _ _⟩
theorem kH :G.ClOK bg:=by
 have n1:isNaN 9221120237041090561=true:=by decide+kernel
 have n0:isNaN 0=false:=by decide+kernel
 have n2:isNaN G.fk=false:=by decide+kernel
 have o2:(F64.order G.fk 0==some .eq)=false:=by decide+kernel
 refine⟨fun x=>?_,?_,?_⟩
 ·unfold bg
  by_cases h:isNaN x=true
  ·simp[h,n1]
  ·by_cases h0:(F64.order x 0==some .eq)=true
   ·simp[h,h0,n0]
   ·simp[h,h0]
 ·simp[bg,n0]
 ·simp[bg,n2,o2]
theorem jJ (b:Nat):uJ Tryz.prog 53 #[.float .f64 b] (· = .int .u64 b):=
 je Tryz.func53 (by kernel_rfl) (by kernel_rfl) (by kernel_rfl) (e:=Extern.MathFloatBits.float64bits) (by kernel_rfl) rfl
def fe (x y:Nat):Bool:=(isNaN x&&isNaN y)||x==y
def fe2 (p q:Nat × Nat):Bool:=fe p.1 q.1&&fe p.2 q.2
theorem JV {x y:Nat} {R:Bool->Prop} (r:R (fe x y)):Lr x y R:=by
 apply Nr
 unfold T33
 rw[gj,gj]
 have e:(((x:Int))==((y:Int)))=(x==y):=by grind
 unfold fe at r
 refine⟨fun b=>b=(x==y)/\(isNaN x&&isNaN y)=false,bp (fun h1=>bp (fun h2=>?_) fun h2=>?_) fun h1=>?_,?_⟩
 ·grind
 ·exact bf (jJ _) ⟨_,rfl,bf (jJ _) ⟨_,rfl,e,by grind⟩⟩
 ·exact bf (jJ _) ⟨_,rfl,bf (jJ _) ⟨_,rfl,e,by rw[h1];rfl⟩⟩
 grind
theorem c61 {x y:Nat} {h:ab}:ae Tryz.prog 33 #[.float .f64 x,.float .f64 y] h fun v h'=>v= .bool (fe x y)/\Fr [] h h':=
 (JV (R:=fun r=>r=fe x y) rfl h (Hp.nil h)).mono fun v h' ⟨r,Y,e,q⟩=>⟨by rw[e,q],Y.fr⟩
theorem c60 {x x2 y y2:Nat} {h:ab}:ae Tryz.prog 32 #[.agg #[.float .f64 x,.float .f64 x2],.agg #[.float .f64 y,.float .f64 y2]] h fun v h'=>v= .bool (fe2 (x,x2) (y,y2))/\Fr [] h h':=by
 apply Fa
 unfold S32
 intro h1 h2
 have f2:Fr [] h h2:=(Fr.push h _).pushr _
 clear_value h2
 refine ak [] c61 (by simp) (fun _ _ r=>r.2) ?_
 rintro v h3 ⟨rfl,f3⟩
 refine⟨_,rfl,bp (fun q=>?_) fun q=>⟨by unfold fe2;rw[q];rfl,f2.trans f3⟩⟩
 refine ak [] c61 (by simp) (fun _ _ r=>r.2) ?_
 rintro v h4 ⟨rfl,f4⟩
 exact⟨_,rfl,by unfold fe2;rw[q];rfl,(f2.trans f3).trans f4⟩
def eqL {α:Type} (f:α->α->Bool) (xs ys:List α):Bool:=decide (xs.length=ys.length)&&(xs.zip ys).all fun p=>f p.1 p.2
theorem gQ {α:Type} {f:α->α->Bool} {xs ys:List α} (h:xs.length≠ys.length):eqL f xs ys=false:=by unfold eqL;grind
theorem iB {α:Type} {f:α->α->Bool} {xs ys:List α} {k:Nat} {x y:α} (hx:xs[k]? =some x) (hy:ys[k]? =some y) (h:f x y=false):eqL f xs ys=false:=by
 unfold eqL
 have:((xs.zip ys).all fun p=>f p.1 p.2)=false:=by
  rw[List.all_eq_false]
  refine⟨(x,y),List.mem_of_getElem? (i:=k) ?_,by simp[h]⟩
  grind
 grind
theorem fm {α:Type} {f:α->α->Bool} {xs ys:List α} {k:Nat} {x y:α} (hx:xs[k]? =some x) (hy:ys[k]? =some y) (h:f x y=true) (ha:((xs.zip ys).take k).all (fun p=>f p.1 p.2)=true):
  ((xs.zip ys).take (k+1)).all (fun p=>f p.1 p.2)=true:=by
 have:(xs.zip ys)[k]? =some (x,y):=by grind
 rw[List.take_add_one,this]
 grind
theorem gR {α:Type} {f:α->α->Bool} {xs ys:List α} {k:Nat} (hl:xs.length=ys.length) (hk:xs.length<=k) (ha:((xs.zip ys).take k).all (fun p=>f p.1 p.2)=true):eqL f xs ys=true:=by
 unfold eqL
 rw[decide_eq_true hl,Bool.true_and]
 grind [List.take_of_length_le]
theorem sf {α:Type} [DecidableEq α] (xs ys:List α):eqL (fun x y=>decide (x=y)) xs ys=decide (xs=ys):=by
 by_cases hl:xs.length=ys.length
 ·by_cases he:xs=ys
  ·grind [eqL,List.mem_iff_getElem]
  ·rw[decide_eq_false he]
   rw[<-Bool.not_eq_true]
   intro h
   unfold eqL at h
   simp only[Bool.and_eq_true,List.all_eq_true,decide_eq_true_eq]at h
   refine he (List.ext_getElem? fun i=>?_)
   by_cases hi:i<xs.length
   ·have h1:xs[i]? =some xs[i]:=List.getElem?_eq_getElem hi
    have h2:ys[i]? =some ys[i]:=List.getElem?_eq_getElem (by omega)
    have:=h.2 (xs[i],ys[i]) (List.mem_of_getElem? (i:=i) (by grind))
    grind
   grind
 grind [gQ]
theorem sj (s t:ByteArray):(s.toList==t.toList)=decide (s=t):=by
 grind [Lib.toList_data,ByteArray.ext,Array.ext']
theorem JW {xs ys:List ByteArray} (hx:xs.length<=9223372036854775807) {R:Bool->Prop} (r:R (decide (xs=ys))):Lt xs ys R:=by
 apply Nt
 unfold T35
 rw[<-sf]at r
 refine cC (fun h=>?_) fun h=>?_
 ·rw[gQ (by omega)]at r;exact r
 refine⟨fun i=>∃k:Nat,i=k/\k<=xs.length/\((xs.zip ys).take k).all (fun p=>decide (p.1=p.2))=true,fun i=>((xs.length:Int)-i).toNat,⟨0,rfl,by omega,by simp⟩,?_⟩
 rintro _ ⟨k,rfl,hk,ha⟩
 refine ag (fun hlt=>⟨by omega,hlt,fun x hx=>⟨by omega,by omega,fun y hy=>?_⟩⟩) fun hlt=>?_
 ·have hx:xs[k]? =some x:=by simpa using hx
  have hy:ys[k]? =some y:=by simpa using hy
  rw[sj]
  refine aV (fun q=>?_) fun q=>?_
  ·grind [iB]
  ·rw[wr (by omega) (by omega)]
   exact⟨⟨k+1,by simp,by omega,fm (f:=fun x y=>decide (x=y)) hx hy q ha⟩,by grind⟩
 grind [gR]
theorem JX {xs ys:List (Int × Int)} (hx:xs.length<=9223372036854775807) {R:Bool->Prop} (r:R (decide (xs=ys))):Ic xs ys R:=by
 apply Nq
 unfold T56
 rw[<-sf]at r
 refine cC (fun h=>?_) fun h=>?_
 ·rw[gQ (by omega)]at r;exact r
 refine⟨fun i=>∃k:Nat,i=k/\k<=xs.length/\((xs.zip ys).take k).all (fun p=>decide (p.1=p.2))=true,fun i=>((xs.length:Int)-i).toNat,⟨0,rfl,by omega,by simp⟩,?_⟩
 rintro _ ⟨k,rfl,hk,ha⟩
 refine ag (fun hlt=>⟨by omega,hlt,fun x hx=>⟨by omega,by omega,fun y hy=>?_⟩⟩) fun hlt=>?_
 ·have hx:xs[k]? =some x:=by simpa using hx
  have hy:ys[k]? =some y:=by simpa using hy
  have e:((x.1==y.1)&&(x.2==y.2))=decide (x=y):=by
   grind
  rw[e]
  refine aV (fun q=>?_) fun q=>?_
  ·grind [iB]
  ·rw[wr (by omega) (by omega)]
   exact⟨⟨k+1,by simp,by omega,fm (f:=fun x y=>decide (x=y)) hx hy q ha⟩,by grind⟩
 grind [gR]
theorem JY {a b:Int} {xs ys:List (Int × Int)} (hx:xs.length<=9223372036854775807) {R:Bool->Prop} (r:R (decide (a=b)&&decide (xs=ys))):Ls a xs b ys R:=by
 apply Ns
 unfold T34
 refine av (fun h=>JX hx ?_) fun h=>?_
 ·grind
 grind
section
variable {h:ab} {aX aY:Option Addr} {nX cX nY cY:Nat}
theorem c65 {xs ys:List Nat} (H:Hp h [Ck.vw eF aX nX cX xs,Ck.vw eF aY nY cY ys]) (hx:xs.length<=9223372036854775806):
  ae Tryz.prog 37 #[.slice aX nX cX,.slice aY nY cY,.func (.func 33) #[] #[]] h fun v h'=>v= .bool (eqL fe xs ys)/\Fr [] h h':=by
 apply Fc
 unfold S37
 have Q:=Sq.start H
 have l1:=Q.sy.lenV 0 rfl
 have l2:=Q.sy.lenV 1 rfl
 refine cC (fun q=>⟨by rw[gQ (by omega)],Fr.refl _ _⟩) fun q=>?_
 refine⟨fun lz h'=>∃k:Nat,lz=[.int .i64 (k:Int)]/\k<=xs.length/\((xs.zip ys).take k).all (fun p=>fe p.1 p.2)=true/\Fr [] h h',fun lz _=>match lz with | [.int _ i]=>((xs.length:Int)-i).toNat | _=>0,⟨0,rfl,by omega,by simp,Fr.refl _ _⟩,?_⟩
 rintro x h1 ⟨k,hk0,hk,ha,f1⟩
 obtain rfl:x=(k:Int):=by simpa using hk0
 have Q1:=Q.gr f1
 refine ag (fun hlt=>?_) fun hlt=>⟨by grind [gR],f1⟩
 obtain⟨b1,o1,e1,_,x,hx⟩:=Q1.sy.atV 0 rfl (i:=(k:Int)) (by omega) (by omega)
 obtain⟨b2,o2,e2,_,y,hy⟩:=Q1.sy.atV 1 rfl (i:=(k:Int)) (by omega) (by omega)
 refine⟨b1,o1,e1,by omega,by omega,x,Q1.sy.cellV 0 rfl e1 (i:=k) (t:=0) hx rfl,b2,o2,e2,by omega,by omega,y,Q1.sy.cellV 1 rfl e2 (i:=k) (t:=0) hy rfl,?_⟩
 show ai _ _ _ _ _ _
 refine ak [] c61 (by simp) (fun _ _ r=>r.2) ?_
 rintro v h2 ⟨rfl,f2⟩
 refine⟨_,rfl,aV (fun q1=>⟨by rw[iB hx hy q1],f1.trans f2⟩) fun q1=>?_⟩
 rw[wr (by omega) (by omega)]
 exact⟨⟨k+1,by simp,by omega,fm hx hy q1 ha,f1.trans f2⟩,by grind⟩
theorem c64 {xs ys:List (Nat × Nat)} (H:Hp h [Ck.vw eFF aX nX cX xs,Ck.vw eFF aY nY cY ys]) (hx:xs.length<=9223372036854775806):
  ae Tryz.prog 36 #[.slice aX nX cX,.slice aY nY cY,.func (.func 32) #[] #[]] h fun v h'=>v= .bool (eqL fe2 xs ys)/\Fr [] h h':=by
 apply Fb
 unfold S36
 have Q:=Sq.start H
 have l1:=Q.sy.lenV 0 rfl
 have l2:=Q.sy.lenV 1 rfl
 refine cC (fun q=>⟨by rw[gQ (by omega)],Fr.refl _ _⟩) fun q=>?_
 refine⟨fun lz h'=>∃k:Nat,lz=[.int .i64 (k:Int)]/\k<=xs.length/\((xs.zip ys).take k).all (fun p=>fe2 p.1 p.2)=true/\Fr [] h h',fun lz _=>match lz with | [.int _ i]=>((xs.length:Int)-i).toNat | _=>0,⟨0,rfl,by omega,by simp,Fr.refl _ _⟩,?_⟩
 rintro x h1 ⟨k,hk0,hk,ha,f1⟩
 obtain rfl:x=(k:Int):=by simpa using hk0
 have Q1:=Q.gr f1
 refine ag (fun hlt=>?_) fun hlt=>⟨by grind [gR],f1⟩
 obtain⟨b1,o1,e1,_,x,hx⟩:=Q1.sy.atV 0 rfl (i:=(k:Int)) (by omega) (by omega)
 refine⟨b1,o1,e1,by omega,by omega,x.1,Q1.sy.cellV 0 rfl e1 (i:=k) (t:=0) hx rfl,x.2,Q1.sy.cellV 0 rfl e1 (i:=k) (t:=1) hx rfl,?_⟩
 intro h2 h3
 have f3:Fr [] h1 h3:=((Fr.push h1 _).hsetL (Nat.le_refl _)).hsetL (Nat.le_refl _)
 have Q3:=Q1.gr f3
 have s3:h1.size<h3.size:=by simp[h3,h2]
 clear_value h3
 obtain⟨b2,o2,e2,_,y,hy⟩:=Q3.sy.atV 1 rfl (i:=(k:Int)) (by omega) (by omega)
 refine⟨b2,o2,e2,by omega,by omega,y.1,Q3.sy.cellV 1 rfl e2 (i:=k) (t:=0) hy rfl,y.2,Q3.sy.cellV 1 rfl e2 (i:=k) (t:=1) hy rfl,?_⟩
 intro h4 h5
 have f5:Fr [] h1 h5:=((f3.pushr _).hsetL (by omega)).hsetL (by omega)
 clear_value h5
 show ai _ _ _ _ _ _
 refine ak [] (c60 (x:=x.1) (x2:=x.2) (y:=y.1) (y2:=y.2)) (by simp) (fun _ _ r=>r.2) ?_
 rintro v h6 ⟨rfl,f6⟩
 refine⟨_,rfl,aV (fun q1=>⟨by rw[iB hx hy q1],(f1.trans f5).trans f6⟩) fun q1=>?_⟩
 rw[wr (by omega) (by omega)]
 exact⟨⟨k+1,by simp,by omega,fm hx hy q1 ha,(f1.trans f5).trans f6⟩,by grind⟩
end
structure MD where
 n:Int
 dir:Bool
 es:List (Int × Int)
 ls:List ByteArray
 ss:List (Nat × Nat)
 ws:List Nat
def dJ (a b:MD):Bool:=(decide (a.n=b.n)&&decide (a.es=b.es))&&((a.dir==b.dir)&&(decide (a.ls=b.ls)&&(eqL fe2 a.ss b.ss&&eqL fe a.ws b.ws)))
structure MDs where
 aE:Option Addr
 nE:Nat
 cE:Nat
 aL:Option Addr
 nL:Nat
 cL:Nat
 aS:Option Addr
 nS:Nat
 cS:Nat
 aW:Option Addr
 nW:Nat
 cW:Nat
def MD.vw (d:MD) (s:MDs):List Ck:=[Ck.vw eP s.aE s.nE s.cE d.es,Ck.vw eS s.aL s.nL s.cL d.ls,Ck.vw eFF s.aS s.nS s.cS d.ss,Ck.vw eF s.aW s.nW s.cW d.ws]
def MD.v (d:MD) (s:MDs):Value:=.agg #[.int .i64 d.n,.slice s.aE s.nE s.cE,.bool d.dir,.slice s.aL s.nL s.cL,.slice s.aS s.nS s.cS,.slice s.aW s.nW s.cW]
theorem MT {a b:MD} {s t:MDs} {h:ab} (H:Hp h (a.vw s++b.vw t)) (hl:a.es.length<=9223372036854775806/\a.ls.length<=9223372036854775806/\a.ss.length<=9223372036854775806/\a.ws.length<=9223372036854775806):
  ae Tryz.prog 12 #[a.v s,b.v t] h fun v h'=>v= .bool (dJ a b)/\Fr [] h h':=by
 apply Fe
 unfold S12
 intro h1 h2 K
 have f2:Fr [] h h2:=(Fr.push h _).pushr _
 have Q:=(Sq.start H).gr f2
 clear_value h2
 refine ak (R:=fun v h'=>v= .bool (decide (a.n=b.n)&&decide (a.es=b.es))/\Fr [] h2 h') [] ?_ (by simp) (fun _ _ r=>r.2) ?_
 ·exact(JY (R:=fun r=>r=(decide (a.n=b.n)&&decide (a.es=b.es))) (by omega) rfl h2 _ _ _ _ _ _ (Q.pick [0,4] rfl).hp).mono fun v h' ⟨r,Y,e,q⟩=>⟨by rw[e,q],Y.fr⟩
 rintro v h3 ⟨rfl,f3⟩
 have F3:=f2.trans f3
 have Q3:=Q.gr f3
 refine⟨_,rfl,bp (fun q1=>?_) fun q1=>⟨by unfold dJ;rw[q1];rfl,F3⟩⟩
 refine bp (fun q2=>?_) fun q2=>⟨by unfold dJ;rw[q2];simp,F3⟩
 refine ak (R:=fun v h'=>v= .bool (decide (a.ls=b.ls))/\Fr [] h3 h') [] ?_ (by simp) (fun _ _ r=>r.2) ?_
 ·exact(JW (R:=fun r=>r=decide (a.ls=b.ls)) (by omega) rfl h3 _ _ _ _ _ _ (Q3.pick [1,5] rfl).hp).mono fun v h' ⟨r,Y,e,q⟩=>⟨by rw[e,q],Y.fr⟩
 rintro v h4 ⟨rfl,f4⟩
 have F4:=F3.trans f4
 have Q4:=Q3.gr f4
 refine⟨_,rfl,bp (fun q3=>?_) fun q3=>⟨by unfold dJ;rw[q3];simp,F4⟩⟩
 refine ak [] (c64 (Q4.pick [2,6] rfl).hp (by omega)) (by simp) (fun _ _ r=>r.2) ?_
 rintro v h5 ⟨rfl,f5⟩
 have F5:=F4.trans f5
 have Q5:=Q4.gr f5
 refine⟨_,rfl,bp (fun q4=>?_) fun q4=>⟨by unfold dJ;rw[q4];simp,F5⟩⟩
 refine ak [] (c65 (Q5.pick [3,7] rfl).hp (by omega)) (by simp) (fun _ _ r=>r.2) ?_
 rintro v h6 ⟨rfl,f6⟩
 exact⟨_,rfl,by unfold dJ;grind,F5.trans f6⟩
def Nz :Nat:=9221120237041090561
def fop (r:Option Nat):Nat:=r.getD Nz
def gw (a b:Nat):Nat:=fop (F64.mul a b)
def oD (a b:Nat):Nat:=fop (F64.div a b)
def iU (x:Nat):Nat:=(bits .andNot .u64 (x:Int) (9223372036854775808:Int)).toNat
theorem fP :F64.leastPlace= -1074:=by decide
theorem fu :F64.binade=2^52:=by decide
theorem kT :F64.infRung=2047*2^52:=by decide
theorem jZ :F64.signWeight=2^63:=by decide
theorem ye (x:Nat):iU x=x % 2^63:=by
 unfold iU bits
 have hk:IntKind.u64.bits=64:=rfl
 have e1:(BitVec.ofInt IntKind.u64.bits (x:Int)&&& ~~~(BitVec.ofInt IntKind.u64.bits (9223372036854775808:Int))).toNat=x % 2^63:=by
  rw[BitVec.toNat_and]
  have h1:(BitVec.ofInt IntKind.u64.bits (x:Int)).toNat=x % 2^64:=by
   grind
  have h2:(~~~(BitVec.ofInt IntKind.u64.bits (9223372036854775808:Int))).toNat=2^63-1:=by decide
  rw[h1,h2,Nat.and_two_pow_sub_one_eq_mod]
  omega
 grind [IntKind.wrap]
theorem uk (x:Nat):F64.read (iU x)=match F64.read x with
  | .number _ m i=>.number false m i
  | .infinity _=>.infinity false
  | .nan _ t=>.nan false t:=by
 have hs:F64.signWeight=2^63:=by decide
 rw[ye]
 unfold Ieee.Format.read
 simp only[hs]
 have h1:x % 2^63/2^63 % 2=0:=by omega
 have h2:x % 2^63 % 2^63=x % 2^63:=by omega
 rw[h1,h2]
 grind
theorem Co (x:Nat):isNaN (iU x)=isNaN x:=by
 have h:isNaN (iU x)=(F64.read (iU x)).isNaN:=rfl
 have h':isNaN x=(F64.read x).isNaN:=rfl
 rw[h,h',uk]
 cases F64.read x<;>rfl
theorem im {x:Nat} {s:Bool} {m:Nat} {i:Int} (h:F64.read x= .number s m i):m<2^53:=by
 have hb:F64.binade=2^52:=by decide
 have hs:F64.signWeight=2^63:=by decide
 unfold Ieee.Format.read at h
 grind
theorem eU {x:Nat} {s:Bool} {m:Nat} {i:Int} (h:F64.read x= .number s m i): -1074<=i/\i<=971:=by
 unfold Ieee.Format.read at h
 grind [fu,fP,kT]
def iV :Nat:=3000
theorem FL :2100<=iV:=by decide
def mh :Ieee.Datum->Int
 | .number s m i=>Ieee.signed s m (i+1074).toNat
 | .infinity s=>if s then-(2^iV)else 2^iV
 | .nan _ _=>0
def key (x:Nat):Int:=mh (F64.read x)
theorem oE (s:Bool) (m a b:Nat):Ieee.signed s m (a+b)=Ieee.signed s m a*((2^b:Nat):Int):=by
 unfold Ieee.signed
 grind [Nat.shiftLeft_eq,Int.neg_mul]
theorem um (x y:Int) (p:Nat) (hp:0<p):compare (x*p) (y*p)=compare x y:=by
 have hp':(0:Int)<p:=by omega
 rcases Int.lt_trichotomy x y with h | h | h
 ·rw[Std.compare_eq_lt.2 h,Std.compare_eq_lt.2 (Int.mul_lt_mul_of_pos_right h hp')]
 ·grind
 ·rw[Std.compare_eq_gt.2 h,Std.compare_eq_gt.2 (Int.mul_lt_mul_of_pos_right h hp')]
theorem uo {m a:Nat} (h1:m<2^53) (h2:a<=2045):m*2^a<2^iV:=by
 have h3:m*2^a<2^53*2^a:=Nat.mul_lt_mul_of_pos_right h1 (Nat.pow_pos (by decide))
 rw[<-Nat.pow_add]at h3
 exact Nat.lt_of_lt_of_le h3 (Nat.pow_le_pow_right (by decide) (by have:=FL;omega))
theorem mi {x:Nat} {s:Bool} {m:Nat} {i:Int} (h:F64.read x= .number s m i): -(2^iV)<Ieee.signed s m (i+1074).toNat/\Ieee.signed s m (i+1074).toNat<2^iV:=by
 have h1:=im h
 have h2:=eU h
 have h3:m <<< (i+1074).toNat<2^iV:=by
  rw[Nat.shiftLeft_eq]
  exact uo h1 (Nat.le_of_lt_succ (by omega))
 have h5:((m <<< (i+1074).toNat:Nat):Int)<2^iV:=by
  grind
 have h6:(0:Int)<=((m <<< (i+1074).toNat:Nat):Int):=Int.natCast_nonneg _
 unfold Ieee.signed
 omega
theorem sF :(0:Int)<2^iV:=Int.pow_pos (by decide)
theorem qM {a b:Nat} (ha:isNaN a=false) (hb:isNaN b=false):F64.order a b=some (compare (key a) (key b)):=by
 have ha':(F64.read a).isNaN=false:=ha
 have hb':(F64.read b).isNaN=false:=hb
 have hP:=sF
 unfold Ieee.Format.order key
 cases hra:F64.read a with
 | nan s t=>rw[hra]at ha';simp[Ieee.Datum.isNaN]at ha'
 | infinity s=>
  cases hrb:F64.read b with
  | nan t u=>rw[hrb]at hb';simp[Ieee.Datum.isNaN]at hb'
  | infinity t=>
   simp only[Ieee.Datum.order,mh]
   generalize (2:Int)^iV=w at*
   cases s<;>cases t
   ·grind
   ·simp only[Bool.false_eq_true,if_false,if_true];rw[Std.compare_eq_gt.2 (show-w<w by omega)];rfl
   ·simp only[Bool.false_eq_true,if_false,if_true];rw[Std.compare_eq_lt.2 (show-w<w by omega)];rfl
   grind
  | number t n j=>
   have kb:=mi hrb
   simp only[Ieee.Datum.order,mh]
   generalize (2:Int)^iV=w at*
   cases s
   ·simp only[Bool.false_eq_true,if_false];rw[Std.compare_eq_gt.2 kb.2]
   ·simp only[if_true];rw[Std.compare_eq_lt.2 kb.1]
 | number s m i=>
  have ka:=mi hra
  have pa:=eU hra
  cases hrb:F64.read b with
  | nan t u=>rw[hrb]at hb';simp[Ieee.Datum.isNaN]at hb'
  | infinity t=>
   simp only[Ieee.Datum.order,mh]
   generalize (2:Int)^iV=w at*
   cases t
   ·simp only[Bool.false_eq_true,if_false];rw[Std.compare_eq_lt.2 ka.2]
   ·simp only[if_true];rw[Std.compare_eq_gt.2 ka.1]
  | number t n j=>
   have pb:=eU hrb
   simp only[Ieee.Datum.order,mh]
   have e1:(i+1074).toNat=(i-min i j).toNat+(min i j+1074).toNat:=by omega
   have e2:(j+1074).toNat=(j-min i j).toNat+(min i j+1074).toNat:=by omega
   rw[e1,e2,oE,oE,um _ _ _ (Nat.pow_pos (by decide))]
theorem Cp {a b:Nat} (ha:isNaN a=false) (hb:isNaN b=false):(F64.order a b==some .lt)=decide (key a<key b):=by
 rw[qM ha hb]
 rcases Int.lt_trichotomy (key a) (key b)with h | h | h
 ·rw[Std.compare_eq_lt.2 h];simp[h]
 ·grind
 grind
theorem oG {a b:Nat} (ha:isNaN a=false) (hb:isNaN b=false):(F64.order a b==some .gt)=decide (key b<key a):=by
 rw[qM ha hb]
 rcases Int.lt_trichotomy (key a) (key b)with h | h | h
 ·grind
 ·grind
 ·rw[Std.compare_eq_gt.2 h];simp[h]
theorem FN (x:Nat):key (iU x)=(key x).natAbs:=by
 unfold key
 rw[uk]
 cases F64.read x with
 | nan s t=>rfl
 | infinity s=>
  have hP:=sF
  cases s
  ·simp only[mh,Bool.false_eq_true,if_false]
   omega
  ·simp only[mh,if_true,Bool.false_eq_true,if_false]
   omega
 | number s m i=>
  cases s
  ·simp only[mh,Ieee.signed,Bool.false_eq_true,if_false,Int.natAbs_natCast]
  ·simp only[mh,Ieee.signed,Bool.false_eq_true,if_false,if_true,Int.natAbs_neg,Int.natAbs_natCast]
theorem Cq (s:Bool) (n d:Nat):Ieee.Toward.even.cut s n d=Ieee.Toward.even.cut false n d:=rfl
def fF (m:Nat) (i:Int):Nat:=
 if m=0 then 0 else
 min ((max (i+m.log2-F64.fractionBits) F64.leastPlace-F64.leastPlace).toNat*F64.binade+Ieee.Toward.even.cut false (m <<< (i-max (i+m.log2-F64.fractionBits) F64.leastPlace).toNat) (max (i+m.log2-F64.fractionBits) F64.leastPlace-i).toNat) F64.infRung
theorem du (s:Bool) (m:Nat) (i:Int):F64.nearest s m i=F64.word s (fF m i):=by
 unfold Ieee.Format.nearest fF
 grind [Cq]
theorem qN (m:Nat) (i:Int):fF m i<=2047*2^52:=by
 unfold fF
 rw[kT]
 split
 ·omega
 omega
theorem kd (r:Nat):F64.word false r=r:=by
 unfold Ieee.Format.word;simp
theorem sG (s:Bool) (m:Nat) (i:Int):∃r,r<=2047*2^52/\F64.nearest s m i=F64.word s r/\F64.nearest false m i=r:=
 ⟨_,qN m i,du s m i,(du false m i).trans (kd _)⟩
theorem bJ (s:Bool) (m a:Nat):Ieee.signed s m a=if s then-((m*2^a:Nat):Int)else((m*2^a:Nat):Int):=by
 unfold Ieee.signed;rw[Nat.shiftLeft_eq]
def fQ (r:Nat):Nat:=if r<2^52 then r else(2^52+r % 2^52)*2^(r/2^52-1)
theorem zi {s:Bool} {r:Nat} (h:r<2047*2^52):F64.read (F64.word s r)=if r<2^52 then .number s r (-1074)else .number s (2^52+r % 2^52) (-1074+(r/2^52-1:Nat)):=by
 have e1:F64.word s r/2^63 % 2=(if s then 1 else 0)/\F64.word s r % 2^63=r:=by
  unfold Ieee.Format.word
  rw[jZ]
  grind
 unfold Ieee.Format.read
 simp only[jZ,fu,fP,kT]
 rw[e1.1,e1.2,if_pos h]
 cases s<;>rfl
theorem kU {s:Bool} {r:Nat} (h:r<2047*2^52):key (F64.word s r)=(if s then-((fQ r:Nat):Int)else((fQ r:Nat):Int))/\isNaN (F64.word s r)=false:=by
 have hN:isNaN (F64.word s r)=(F64.read (F64.word s r)).isNaN:=rfl
 unfold key
 rw[hN,zi h]
 unfold fQ
 split
 ·refine⟨?_,rfl⟩
  simp only[mh,bJ]
  simp
 ·refine⟨?_,rfl⟩
  grind [mh,bJ]
theorem kV {m k:Nat} (h:m≠0):(m*2^k).log2=m.log2+k:=by
 have h1:m*2^k≠0:=Nat.ne_of_gt (Nat.mul_pos (by omega) (Nat.pow_pos (by decide)))
 apply (Nat.log2_eq_iff h1).2
 have h2:=(Nat.log2_eq_iff h).1 rfl
 rw[Nat.pow_add,show m.log2+k+1=(m.log2+1)+k by omega,Nat.pow_add]
 exact⟨Nat.mul_le_mul_right _ h2.1,Nat.mul_lt_mul_of_pos_right h2.2 (Nat.pow_pos (by decide))⟩
theorem qO (w:Ieee.Toward) (s:Bool) (K d:Nat):w.cut s (K*2^d) d=K:=by
 unfold Ieee.Toward.cut
 by_cases hK:K=0
 ·subst hK
  simp only[Nat.zero_mul,Nat.zero_div,Nat.zero_mod]
  grind
 ·rw[kV hK,show min d (K.log2+d+2)=d by omega,Nat.shiftLeft_eq,Nat.one_mul]
  grind [Nat.mul_div_cancel,Nat.mul_mod_left]
theorem qP {s:Bool} {m k:Nat} {i:Int} (hm:m<2^53) (hi: -1074<=i) (hi2:i<=971):key (F64.nearest s (m*2^k) (i-k))=Ieee.signed s m (i+1074).toNat/\isNaN (F64.nearest s (m*2^k) (i-k))=false:=by
 rw[du]
 by_cases hm0:m=0
 ·grind [fF,kU,bJ,fQ]
 have hM:m*2^k≠0:=Nat.ne_of_gt (Nat.mul_pos (by omega) (Nat.pow_pos (by decide)))
 have hlog:=kV (k:=k) hm0
 have hl2:=(Nat.log2_eq_iff hm0).1 rfl
 have hl53:m.log2<53:=(Nat.log2_lt hm0).2 hm
 obtain⟨la,hla⟩:∃la:Int,la=max (i-k+((m*2^k).log2:Int)-F64.fractionBits) F64.leastPlace:=⟨_,rfl⟩
 have hla2:la=max (i+(m.log2:Int)-52) (-1074):=by
  rw[hla,hlog,fP,show F64.fractionBits=52 from rfl];omega
 have hle:la<=i:=by omega
 have kept:Ieee.Toward.even.cut false ((m*2^k) <<< (i-k-la).toNat) (la-(i-k)).toNat=m*2^(i-la).toNat:=by
  rw[Nat.shiftLeft_eq,Nat.mul_assoc,<-Nat.pow_add]
  have e:k+(i-k-la).toNat=(i-la).toNat+(la-(i-k)).toNat:=by omega
  rw[e,Nat.pow_add,<-Nat.mul_assoc]
  exact qO _ _ _ _
 have er:fF (m*2^k) (i-k)=min ((la+1074).toNat*2^52+m*2^(i-la).toNat) (2047*2^52):=by
  unfold fF
  rw[if_neg hM,<-hla,kept,kT,fu,fP]
  grind
 have hK1:m*2^(i-la).toNat<2^53:=by
  calc m*2^(i-la).toNat<2^(m.log2+1)*2^(i-la).toNat:=Nat.mul_lt_mul_of_pos_right hl2.2 (Nat.pow_pos (by decide))
   _=2^(m.log2+1+(i-la).toNat):=(Nat.pow_add _ _ _).symm
   _<=2^53:=Nat.pow_le_pow_right (by decide) (by omega)
 have hK2: -1074<la->2^52<=m*2^(i-la).toNat:=fun q=>by
  calc 2^52<=2^(m.log2+(i-la).toNat):=Nat.pow_le_pow_right (by decide) (by omega)
   _=2^m.log2*2^(i-la).toNat:=Nat.pow_add _ _ _
   _<=m*2^(i-la).toNat:=Nat.mul_le_mul_right _ hl2.1
 have ev:m*2^(i+1074).toNat=m*2^(i-la).toNat*2^(la+1074).toNat:=by
  rw[Nat.mul_assoc,<-Nat.pow_add,show(i-la).toNat+(la+1074).toNat=(i+1074).toNat by omega]
 have hl3:(la+1074).toNat<=2045:=by omega
 have hl4: -1074<=la:=by omega
 clear kept hla hla2
 generalize m*2^(i-la).toNat=K at*
 have hr:(la+1074).toNat*2^52+K<2047*2^52:=by omega
 rw[er,Nat.min_eq_left (by omega)]
 have hk:=kU (s:=s) hr
 refine⟨hk.1.trans ?_,hk.2⟩
 rw[bJ,ev]
 have hv:fQ ((la+1074).toNat*2^52+K)=K*2^(la+1074).toNat:=by
  unfold fQ
  grind
 rw[hv]
def eG (x:Nat):Nat:=Op.negFloat .f64 x
theorem FO (q:Nat):((q ^^^ 1) % 2==1)= !(q % 2==1):=by
 have:=Nat.xor_mod_two_pow (a:=q) (b:=1) (n:=1)
 rw[Nat.pow_one]at this
 grind [Nat.mod_two_eq_zero_or_one]
theorem oH (x:Nat):F64.read (eG x)=(F64.read x).opposite:=by
 have e0:eG x=x ^^^ 2^63:=rfl
 have h1:(x ^^^ 2^63) % 2^63=x % 2^63:=by
  rw[Nat.xor_mod_two_pow,Nat.mod_self,Nat.xor_zero]
 have h2:(x ^^^ 2^63)/2^63=x/2^63 ^^^ 1:=by
  rw[Nat.xor_div_two_pow]
 rw[e0]
 unfold Ieee.Format.read
 simp only[fu,jZ,fP,kT]
 rw[h1,h2,FO]
 split
 ·rfl
 ·split
  ·rfl
  ·split<;>rfl
theorem wk (s:Bool) (m a:Nat):Ieee.signed (!s) m a= -Ieee.signed s m a:=by cases s<;>simp[Ieee.signed]
theorem yf (x:Nat):key (eG x)= -key x:=by
 unfold key
 rw[oH]
 cases F64.read x with
 | nan s t=>rfl
 | infinity s=>cases s<;>simp[Ieee.Datum.opposite,mh]
 | number s m i=>exact wk s m _
theorem nu (x:Nat):isNaN (eG x)=isNaN x:=by
 have a:isNaN (eG x)=(F64.read (eG x)).isNaN:=rfl
 have b:isNaN x=(F64.read x).isNaN:=rfl
 rw[a,b,oH]
 cases F64.read x<;>rfl
theorem FQ {s:Bool} {r:Nat} (h:r<=2047*2^52):isNaN (F64.word s r)=false:=by
 by_cases hr:r<2047*2^52
 ·exact(kU hr).2
 ·have:r=2047*2^52:=by omega
  subst this
  cases s<;>decide
theorem ke (s:Bool) (m:Nat) (i:Int):isNaN (F64.nearest s m i)=false:=by
 obtain⟨r,hr,e,_⟩:=sG s m i
 rw[e];exact FQ hr
theorem oI {d:Ieee.Datum} (h:d.isNaN=false):isNaN (F64.write d)=false:=by
 cases d with
 | nan s t=>simp[Ieee.Datum.isNaN]at h
 | infinity s=>cases s<;>decide
 | number s m i=>exact ke s m i
theorem gx {a:Nat} (h:isNaN a=false):(∃s,F64.read a= .infinity s)\/∃s m i,F64.read a= .number s m i:=by
 unfold isNaN at h
 cases hr:F64.read a with
 | nan s t=>rw[show FloatKind.f64.format.read a= .nan s t from hr]at h;simp[Ieee.Datum.isNaN]at h
 | infinity s=>grind
 | number s m i=>grind
theorem oJ {a b n:Nat} {t:Bool} {j:Int} (ha:isNaN a=false) (hb:F64.read b= .number t n j) (hn:n≠0):F64.mul a b=some (gw a b)/\isNaN (gw a b)=false:=by
 have:∃d,(F64.read a).product (F64.read b)=some d/\d.isNaN=false:=by
  rcases gx ha with⟨s,e⟩ | ⟨s,m,i,e⟩
  ·rw[e,hb];exact⟨_,if_neg hn,rfl⟩
  ·rw[e,hb];exact⟨_,rfl,rfl⟩
 obtain⟨d,e,hd⟩:=this
 have e2:F64.mul a b=some (F64.write d):=by unfold Ieee.Format.mul;rw[e];rfl
 unfold gw;rw[e2]
 exact⟨rfl,oI hd⟩
theorem Cr {a b n:Nat} {t:Bool} {j:Int} (ha:isNaN a=false) (hb:F64.read b= .number t n j) (hn:n≠0):F64.div a b=some (oD a b)/\isNaN (oD a b)=false:=by
 have:∃d,Ieee.Datum.quotient (F64.fractionBits+2) (F64.read a) (F64.read b)=some d/\d.isNaN=false:=by
  rcases gx ha with⟨s,e⟩ | ⟨s,m,i,e⟩
  ·rw[e,hb];exact⟨_,rfl,rfl⟩
  ·rw[e,hb];exact⟨_,if_neg hn,rfl⟩
 obtain⟨d,e,hd⟩:=this
 have e2:F64.div a b=some (F64.write d):=by unfold Ieee.Format.div;rw[e];rfl
 unfold oD;rw[e2]
 exact⟨rfl,oI hd⟩
set_option maxHeartbeats 1000000
theorem uA (k:Nat):((2:Int)^k)=((2^k:Nat):Int):=by rw[Int.natCast_pow];rfl
theorem shr (a k:Nat):Int.fdiv (a:Int) (2^k)=((a/2^k:Nat):Int):=by
 rw[uA,Int.fdiv_eq_ediv_of_nonneg _ (Int.natCast_nonneg _)];rfl
theorem IR (a:Int) (k:Nat):Int.fdiv a (2^k)=a/2^k:=Int.fdiv_eq_ediv_of_nonneg _ (by rw[uA];exact Int.natCast_nonneg _)
theorem uB (a:Nat):u64.wrap (a:Int)=((a % 18446744073709551616:Nat):Int):=by rw[IntKind.wrap_u64];omega
theorem dw {a:Nat} (h:a<18446744073709551616):u64.wrap (a:Int)=(a:Int):=by rw[IntKind.wrap_u64];omega
theorem wr1 {k:Nat} (h:k<1000000):i64.wrap ((k:Int)+1)=((k+1:Nat):Int):=by rw[wr (by omega) (by omega)];omega
theorem sJ {b:Bool} {R:Int->Prop} (r:R (((if b then 1 else 0:Nat)):Int)):uc b R:=by
 apply KC;unfold HP
 cases b
 ·exact aG rfl r
 ·exact aO rfl r
theorem IT (b:Nat):uJ Tryz.prog 53 #[.float .f64 b] (· = .int .u64 b):=
 je Tryz.func53 (by kernel_rfl) (by kernel_rfl) (by kernel_rfl) (e:=Extern.MathFloatBits.float64bits) (by kernel_rfl) rfl
theorem FY (b:Nat):uJ Tryz.prog 114 #[.float .f64 b] (· = .int .u64 b):=
 je Tryz.func114 (by kernel_rfl) (by kernel_rfl) (by kernel_rfl) (e:=Extern.MathFloatBits.float64bits) (by kernel_rfl) rfl
theorem gS (n:Int):uJ Tryz.prog 202 #[.int .u64 n] (· = .float .f64 n.toNat):=
 je Tryz.func202 (by kernel_rfl) (by kernel_rfl) (by kernel_rfl) (e:=Extern.MathFloatBits.float64frombits) (by kernel_rfl) rfl
def ci (m:Nat) (e:Int) (neg:Bool):Nat × Bool:=
 if m/4503599627370496≠0 then(0,false)
 else
  let f:=if neg then Op.negFloat .f64 (FloatKind.f64.nearest (m:Int))else FloatKind.f64.nearest (m:Int)
  if e=0 then(f,true)
  else if 0<e/\e<=37 then
   let f2:=if e>22 then gw f (tF.getD (e-22).toNat 0)else f
   let e2:=if e>22 then 22 else e
   if F64.order f2 4831355200913801216=some .gt then(f2,false)
   else if F64.order f2 14054727237768577024=some .lt then(f2,false)
   else(gw f2 (tF.getD e2.toNat 0),true)
  else if-22<=e/\e<0 then(oD f (tF.getD (-e).toNat 0),true)
  else(f,false)
abbrev FZ :Nat:=9218868437227405311
def isInf (x:Nat):Bool:=F64.order x FZ==some .gt
theorem CD {r:Nat} (h:r<2^63):eG (F64.word false r)=F64.word true r:=by
 rw[kd]
 have e0:eG r=r ^^^ 2^63:=rfl
 have h1:(r ^^^ 2^63) % 2^63=r:=by
  rw[Nat.xor_mod_two_pow,Nat.mod_self,Nat.xor_zero,Nat.mod_eq_of_lt h]
 have h2:(r ^^^ 2^63)/2^63=1:=by
  rw[Nat.xor_div_two_pow,Nat.div_eq_of_lt h];decide
 have h3:=Nat.div_add_mod (r ^^^ 2^63) (2^63)
 rw[h1,h2]at h3
 rw[e0,<-h3]
 unfold Ieee.Format.word
 rw[jZ]
 simp
theorem mP (u:Nat) (p:Int):eG (F64.nearest false u p)=F64.nearest true u p:=by
 rw[du,du]
 refine CD (Nat.lt_of_le_of_lt (qN u p) (by decide))
theorem oQ (m:Nat):FloatKind.f64.nearest (m:Int)=F64.nearest false m 0:=by
 show F64.write (.number (decide ((m:Int)<0)) ((m:Int)).natAbs 0)=_
 rw[decide_eq_false (by omega),Int.natAbs_natCast];rfl
end Go.Proofs.YtemclecmafjjfaaGreatDoor.N
