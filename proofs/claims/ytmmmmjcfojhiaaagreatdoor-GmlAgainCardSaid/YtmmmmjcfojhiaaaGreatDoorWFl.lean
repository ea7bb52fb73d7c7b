/- The writer of GML: a node. Conditions: what the texts of numbers are. -/
import Derived.Test.YtmmmmjcfojhiaaaGreatDoorKNode
set_option linter.unusedVariables false
set_option linter.unusedSimpArgs false
set_option maxRecDepth 100000
set_option maxHeartbeats 4000000
open Go.IntKind (i64 u64 u8 i32)
namespace Go.Proofs.YtmmmmjcfojhiaaaGreatDoor.N
open Go.Proofs.YtmmmmjcfojhiaaaGreatDoor
open Go.X
open Go.Proofs
def tj (gl:GL) (tx:Nat->PZ) (x:Nat):Prop:=(∀h:ab,Gl gl h->PJ 23 #[PS x] h fun v h'=>v= PU (G.mkB (tx x))/\Fr [] h h')/\(tx x).length<=100
def dV (gl:GL) (aE:PY) (nE cE:Nat) (es:Es) (aL:PY) (nL cL:Nat) (ls:List ByteArray) (aS:PY) (nS cS:Nat) (ss:List (Nat × Nat)) (aW:PY) (nW cW:Nat) (ws:List Nat):List Ck:=
 [Ck.glob gl,Ck.vw eP aE nE cE es,Ck.vw eS aL nL cL ls,Ck.vw eFF aS nS cS ss,Ck.vw eF aW nW cW ws]
theorem gK (m:Nat) (k v:PZ):(G.kv m k v++[10]).length=m+k.length+v.length+2:=by simp[G.kv,G.ind];omega
theorem ly (m:Nat) (k:PZ):(G.opn m k++[10]).length=m+k.length+3:=by unfold G.opn;rw[gK];rfl
theorem tm (m:Nat):(G.cls m++[10]).length=m+2:=by simp[G.cls,G.ind]
theorem oZ {n:Nat} (h:n<=1000000):(G.dec n).length<=10:=G.td 9 n PA
theorem yF (l:PZ):(G.quo l).length<=6*l.length+2:=by
 have:=yG l
 simp[G.quo];omega
section
variable {gl:GL} {b c:Nat} {u:Bool} {A:PY} {l:PZ} {h:ab} {tx:Nat->PZ} {aE aL aS aW:PY} {nE cE nL cL nS cS nW cW n v:Nat} {es:Es} {ls:List ByteArray} {ss:List (Nat × Nat)} {ws:List Nat} {dir:Bool}
theorem O0 (Hm:Hp h (wC b u A c 1 l++dV gl aE nE cE es aL nL cL ls aS nS cS ss aW nW cW ws)) (hv:v<n) (hn:n<=1024) (hL:ls=[]\/ls.length=n) (hS:ss=[]\/ss.length=n) (hlp:∀s∈ls,s.size<=256) (ht:∀p∈ss,tj gl tx p.1/\tj gl tx p.2) (hl:l.length<=80000000):
  PJ 21 #[PW (some ⟨b,0,none⟩),.agg #[PN (n:Int),PT aE nE cE,PV dir,PT aL nL cL,PT aS nS cS,PT aW nW cW],PN (v:Int)] h fun w h'=>w= .tuple #[]/\
   (∃A' c',Sq h (wC b u A c 1 l++dV gl aE nE cE es aL nL cL ls aS nS cS ss aW nW cW ws) h' (wC b true A' c' 1 (l++G.aO (G.nr tx ls[v]? ss[v]? v))++dV gl aE nE cE es aL nL cL ls aS nS cS ss aW nW cW ws))/\(l++G.aO (G.nr tx ls[v]? ss[v]? v)).length<=l.length+4000:=by
 apply Gn
 unfold S21
 obtain⟨C,hC⟩:∃C,C=wC b u A c 1 l++dV gl aE nE cE es aL nL cL ls aS nS cS ss aW nW cW ws:=⟨_,rfl⟩
 rw[<-hC]
 intro h1
 obtain⟨B,hB⟩:∃B,B=dV gl aE nE cE es aL nL cL ls aS nS cS ss aW nW cW ws++[Ck.junk h.size]:=⟨_,rfl⟩
 have Q1:Sq h C h1 (wC b u A c 1 l++B):=by
  rw[hB,hC]
  exact⟨(Sy.start Hm).junk _,fun x hx=>.inl (by simpa[rds,Ck.junk]using hx)⟩
 have hd:Hd [h.size] B:=by
  intro x hx
  simp at hx;subst hx
  exact⟨5,by rw[hB];rfl⟩
 have hd0:Hd [] B:=by intro x hx;simp at hx
 have gB:∀{D:List Ck} {h2:ab},Sq h C h2 (D++B)->Gl gl h2:=fun{D h2} Q=>by
  have:=Q.sy.ok (k:=D.length+0) (c:=Ck.glob gl) (jy (by rw[hB];rfl))
  exact this
 have vL:∀{D:List Ck},(D++B)[D.length+2]? =some (Ck.vw eS aL nL cL ls):=fun{D}=>jy (by rw[hB];rfl)
 have vS:∀{D:List Ck},(D++B)[D.length+3]? =some (Ck.vw eFF aS nS cS ss):=fun{D}=>jy (by rw[hB];rfl)
 have lL:=Q1.sy.lenV _ vL
 have lS:=Q1.sy.lenV _ vS
 have dt:=uV
 refine FB (k:=⟨#[110,111,100,101]⟩) Q1 hd PA PA PB fun A2 c2 h2 Q2=>⟨rfl,?_⟩
 have e2:(l++(G.opn (2*1) G.ib++[10])).length=l.length+9:=by rw[P9,ly];rfl
 change Sq h C h2 (wC b true A2 c2 2 (l++(G.opn (2*1) G.ib++[10]))++B)at Q2
 generalize hl2:l++(G.opn (2*1) G.ib++[10])=l2 at*
 refine ak [] (I7 (gB Q2) PA) PC (fun _ _ r=>r.2) ?_
 rintro w h3 ⟨rfl,f3⟩
 have Q3:=Q2.gr f3
 have d9:=oZ (n:=v) PA
 refine⟨_,rfl,uW (k:=⟨#[105,100]⟩) Q3 hd PA PA ⟨PB,by rw[gJ];omega⟩ fun A4 c4 h4 Q4=>⟨rfl,?_⟩⟩
 rw[dt]at Q4
 change Sq h C h4 (wC b true A4 c4 2 (l2++(G.kv (2*2) G.kId (G.dec v)++[10]))++B)at Q4
 have e4:(l2++(G.kv (2*2) G.kId (G.dec v)++[10])).length<=l.length+50:=by rw[P9,gK,e2];show l.length+9+(2*2+2+_+2)<=_;omega
 generalize hl4:l2++(G.kv (2*2) G.kId (G.dec v)++[10])=l4 at*
 obtain⟨l5,hl5⟩:∃l5,l5=l4++G.aO (match ls[v]? with | some x=>[G.kv 4 G.eU (G.quo x.data.toList)] | none=>[]):=⟨_,rfl⟩
 have e5:l5.length<=l.length+2000:=by
  rw[hl5,P9]
  cases q:ls[v]? with
  | none=>simp[G.aO];omega
  | some x=>
   have:=yF x.data.toList
   have hx:=hlp x (Qa q)
   have hx2:x.data.toList.length=x.size:=rfl
   simp only[G.aO,QM,List.flatMap_nil,QZ]
   rw[gK]
   have:G.eU.length=5:=rfl
   omega
 refine⟨fun lz h'=>lz=[]/\∃A' c',Sq h C h' (wC b true A' c' 2 l5++B),ae (fun q=>?_) fun q=>⟨rfl,A4,c4,?_⟩,?_⟩
 ·have hlen:v<ls.length:=by rcases hL with rfl | e<;>simp at* <;>omega
  have hx:ls[v]? =some ls[v]:=List.getElem?_eq_getElem hlen
  generalize ls[v]=x at hx
  have hxs:=hlp x (Qa hx)
  obtain⟨p,o,ea,_⟩:=Q4.sy.atV _ vL (i:=(v:Int)) PA PA
  refine⟨p,o,ea,PA,PA,x,Q4.sy.cellV _ vL ea (i:=v) (t:=0) hx rfl,?_⟩
  refine ak [] (O1 (gB Q4) PA) PC (fun _ _ r=>r.2) ?_
  rintro w h6 ⟨rfl,f6⟩
  have ql:=yF x.data.toList
  have hx2:x.data.toList.length=x.size:=rfl
  refine⟨_,rfl,uW (k:=⟨#[108,97,98,101,108]⟩) (Q4.gr f6) hd PA PA ⟨PB,by rw[gJ];omega⟩ fun A7 c7 h7 Q7=>⟨rfl,rfl,A7,c7,?_⟩⟩
  rw[dt]at Q7
  change Sq h C h7 (wC b true A7 c7 2 (l4++(G.kv 4 G.eU (G.quo x.data.toList)++[10]))++B)at Q7
  rw[hl5,hx]
  simpa[G.aO]using Q7
 ·have:ls[v]? =none:=by rw[List.getElem?_eq_none];omega
  rw[hl5,this]
  simpa[G.aO]using Q4
 rintro h9 ⟨_,A9,c9,Q9⟩
 obtain⟨l6,hl6⟩:∃l6,l6=l5++G.aO (match ss[v]? with | some p=>G.nk tx p | none=>[]):=⟨_,rfl⟩
 have txl:∀p,ss[v]? =some p->(tx p.1).length<=100/\(tx p.2).length<=100:=fun p hp=>⟨(ht p (Qa hp)).1.2,(ht p (Qa hp)).2.2⟩
 have e6:l6.length<=l.length+3000:=by
  rw[hl6,P9]
  cases q:ss[v]? with
  | none=>simp[G.aO];omega
  | some p=>
   have:=txl p q
   have eq:G.aO (G.nk tx p)=(G.opn 4 G.bm++[10])++((G.kv 6 G.kX (tx p.1)++[10])++((G.kv 6 G.kY (tx p.2)++[10])++(G.cls 4++[10]))):=by simp[G.aO,G.nk]
   simp only[eq]
   rw[@List.length_append _ (G.opn 4 G.bm++[10]),@List.length_append _ (G.kv 6 G.kX (tx p.1)++[10]),@List.length_append _ (G.kv 6 G.kY (tx p.2)++[10]),ly,gK,gK,tm]
   have h1:G.bm.length=8:=rfl
   have h2:G.kX.length=1:=rfl
   have h3:G.kY.length=1:=rfl
   omega
 refine⟨fun lz h'=>lz=[]/\∃A' c',Sq h C h' (wC b true A' c' 2 l6++B),ae (fun q=>?_) fun q=>⟨rfl,A9,c9,?_⟩,?_⟩
 ·have hlen:v<ss.length:=by rcases hS with rfl | e<;>simp at* <;>omega
  have hx:ss[v]? =some ss[v]:=List.getElem?_eq_getElem hlen
  generalize ss[v]=p at hx
  obtain⟨⟨tp1,tl1⟩,tp2,tl2⟩:=ht p (Qa hx)
  refine FB (k:=⟨#[103,114,97,112,104,105,99,115]⟩) Q9 hd PA PA PB fun A10 c10 h10 Q10=>⟨rfl,?_⟩
  change Sq h C h10 (wC b true A10 c10 3 (l5++(G.opn 4 G.bm++[10]))++B)at Q10
  have e10:(l5++(G.opn 4 G.bm++[10])).length=l5.length+15:=by rw[P9,ly];rfl
  obtain⟨y,o,ea,_⟩:=Q10.sy.atV _ vS (i:=(v:Int)) PA PA
  refine⟨y,o,ea,PA,PA,p.1,Q10.sy.cellV _ vS ea (i:=v) (t:=0) hx rfl,?_⟩
  refine ak [] (tp1 _ (gB Q10)) PC (fun _ _ r=>r.2) ?_
  rintro w h11 ⟨rfl,f11⟩
  refine⟨_,rfl,uW (k:=⟨#[120]⟩) (Q10.gr f11) hd PA PA ⟨PB,by rw[gJ];omega⟩ fun A13 c13 h13 Q13=>⟨rfl,?_⟩⟩
  rw[dt]at Q13
  change Sq h C h13 (wC b true A13 c13 3 (l5++(G.opn 4 G.bm++[10])++(G.kv 6 G.kX (tx p.1)++[10]))++B)at Q13
  have e13:(l5++(G.opn 4 G.bm++[10])++(G.kv 6 G.kX (tx p.1)++[10])).length<=l5.length+200:=by rw[P9,e10,gK];show _+(6+1+_+2)<=_;omega
  refine⟨y,o,ea,PA,PA,p.2,Q13.sy.cellV _ vS ea (i:=v) (t:=1) hx rfl,?_⟩
  refine ak [] (tp2 _ (gB Q13)) PC (fun _ _ r=>r.2) ?_
  rintro w h14 ⟨rfl,f14⟩
  refine⟨_,rfl,uW (k:=⟨#[121]⟩) (Q13.gr f14) hd PA PA ⟨PB,by rw[gJ];omega⟩ fun A16 c16 h16 Q16=>⟨rfl,?_⟩⟩
  rw[dt]at Q16
  change Sq h C h16 (wC b true A16 c16 3 (l5++(G.opn 4 G.bm++[10])++(G.kv 6 G.kX (tx p.1)++[10])++(G.kv 6 G.kY (tx p.2)++[10]))++B)at Q16
  have e16:(l5++(G.opn 4 G.bm++[10])++(G.kv 6 G.kX (tx p.1)++[10])++(G.kv 6 G.kY (tx p.2)++[10])).length<=l5.length+400:=by rw[P9,gK];show _+(6+1+_+2)<=_;omega
  refine FC (d:=2) Q16 hd PA PA fun A17 c17 h17 Q17=>⟨rfl,rfl,A17,c17,?_⟩
  rw[hl6,hx]
  simpa[G.aO,G.nk]using Q17
 ·have:ss[v]? =none:=by rw[List.getElem?_eq_none];omega
  rw[hl6,this]
  simpa[G.aO]using Q9
 rintro h18 ⟨_,A18,c18,Q18⟩
 refine FC (d:=1) Q18 hd0 PA PA fun A19 c19 h19 Q19=>⟨rfl,rfl,?_⟩
 have ee:l6++(G.cls (2*1)++[10])=l++G.aO (G.nr tx ls[v]? ss[v]? v):=by
  rw[hl6,hl5,<-hl4,<-hl2]
  unfold G.nr
  have e0:G.aO [G.cls 2]=G.cls 2++[10]:=by simp[G.aO]
  rw[G.cg,G.cg,G.dX,G.dX,e0]
  simp only[Qj,QB,Rq]
  rfl
 have e19:(l6++(G.cls (2*1)++[10])).length<=l.length+4000:=by rw[P9,tm];omega
 rw[ee]at e19
 refine⟨⟨A19,c19,?_⟩,e19⟩
 rw[ee,hB,<-Qj]at Q19
 have:=Sq.del (B:=[]) (by rw[QZ];exact Q19)
 rw[QZ]at this
 exact this
end
def iY (n:Int) (dir:Bool) (es:Es) (ls:List ByteArray) (ss:List (Nat × Nat)) (ws:List Nat):G.Dc:=⟨n.toNat,dir,es.map fun e=>(e.1.toNat,e.2.toNat),ls,ss,ws⟩
def wrV (tx:Nat->PZ) (n:Int) (dir:Bool) (es:Es) (ls:List ByteArray) (ss:List (Nat × Nat)) (ws:List Nat):PZ × Int:=
 if gn n es ls ss ws=false then([],1)else if 262144<(G.wr tx (iY n dir es ls ss ws)).length then([],23)else(G.wr tx (iY n dir es ls ss ws),0)
def dB (gl:GL) (aE:PY) (nE cE:Nat) (es:Es) (aL:PY) (nL cL:Nat) (ls:List ByteArray) (aS:PY) (nS cS:Nat) (ss:List (Nat × Nat)) (aW:PY) (nW cW:Nat) (ws:List Nat) (k:Nat):List Ck:=
 dV gl aE nE cE es aL nL cL ls aS nS cS ss aW nW cW ws++[Ck.junk k]
theorem uX (tx:Nat->PZ) {es:List (Nat × Nat)} {ws:List Nat} {k:Nat} {e:Nat × Nat} (h:es[k]? =some e):G.fW tx (es.drop k) (ws.drop k)=G.rk tx ws[k]? e++G.fW tx (es.drop (k+1)) (ws.drop (k+1)):=by
 have hk:=(List.getElem?_eq_some_iff.1 h).1
 rw[Qz hk,(List.getElem?_eq_some_iff.1 h).2,G.fW,List.head?_drop,List.tail_drop]
section
variable {gl:GL} {h:ab} {tx:Nat->PZ} {aE aL aS aW:PY} {nE cE nL cL nS cS nW cW:Nat} {n:Int} {es:Es} {ls:List ByteArray} {ss:List (Nat × Nat)} {ws:List Nat} {dir:Bool}
theorem ok7 (Hm:Hp h (dV gl aE nE cE es aL nL cL ls aS nS cS ss aW nW cW ws)) (hsz:∀s∈ls,s.size<=9223372036854775807) (hll:ls.length<=9223372036854775807) (ht:∀p∈ss,tj gl tx p.1/\tj gl tx p.2) (htw:∀x∈ws,tj gl tx x):
  PJ 7 #[.agg #[PN n,PT aE nE cE,PV dir,PT aL nL cL,PT aS nS cS,PT aW nW cW]] h fun w h'=>w= .tuple #[PU (G.mkB (wrV tx n dir es ls ss ws).1),PN (wrV tx n dir es ls ss ws).2]/\Fr [] h h':=by
 apply Jl
 unfold S7
 intro h1
 have Q1:Sq h (dV gl aE nE cE es aL nL cL ls aS nS cS ss aW nW cW ws) h1 (dB gl aE nE cE es aL nL cL ls aS nS cS ss aW nW cW ws h.size):=⟨(Sy.start Hm).junk _,fun x hx=>.inl (by simpa[rds,dB,Ck.junk]using hx)⟩
 refine ak (R:=fun v h'=>v= PV (gn n es ls ss ws)/\Fr [] h1 h') [] ?_ PC (fun _ _ r=>r.2) ?_
 ·refine(BS (n:=n) (es:=es) (dr:=dir) (ls:=ls) (ss:=ss) (ws:=ws) (R:=fun r=>r=gn n es ls ss ws) hsz hll rfl h1 aE nE cE aL nL cL aS nS cS aW nW cW (Q1.pick [1,2,3,4] rfl).hp).mono ?_
  rintro v h' ⟨r,Y,rfl,rfl⟩
  exact⟨rfl,Y.fr⟩
 rintro v h2 ⟨rfl,f2⟩
 have Q2:=Q1.gr f2
 refine⟨_,rfl,bj (fun q=>⟨?_,Q2.fr⟩) fun q=>?_⟩
 ·unfold wrV;rw[if_pos q];rfl
 have hm:=q
 unfold gn at hm
 simp only[P6]at hm
 obtain⟨m1,m2,m3,m4,m5⟩:=hm
 obtain⟨g0,g1,gm,ge⟩:=I6 m1
 obtain⟨N,rfl⟩:∃N:Nat,n=(N:Int):=⟨n.toNat,PA⟩
 have hN:N<=1024:=by omega
 have non:∀{a b:Nat},jA (a:Int) (b:Int)=true->a=0\/a=b:=fun{a b} h=>by unfold jA at h;grind
 have hL:ls=[]\/ls.length=N:=(non m2).imp Qb id
 have hS:ss=[]\/ss.length=N:=(non m3).imp Qb id
 have hW:ws=[]\/ws.length=es.length:=(non m4).imp Qb id
 have hlp:∀s∈ls,s.size<=256:=fun s hs=>by
  grind [xf]
 intro h3
 obtain⟨D,hD⟩:∃D,D=iY (N:Int) dir es ls ss ws:=⟨_,rfl⟩
 have dN:D.n=N:=by rw[hD];exact P8 N
 have dL:D.labels=ls:=by rw[hD];rfl
 have dS:D.spots=ss:=by rw[hD];rfl
 have Q3:Sq h (dV gl aE nE cE es aL nL cL ls aS nS cS ss aW nW cW ws) h3 (wC h2.size false none 0 0 []++dB gl aE nE cE es aL nL cL ls aS nS cS ss aW nW cW ws h.size):=by
  have Y:=((Q2.sy.newO (ty:=66) [PW none,PT none 0 0,PN 0]).nilS (eK .u8) 5).pick [6,7,0,1,2,3,4,5] rfl
  exact⟨Y,fun x hx=>Q2.ri x (by simpa[rds,wC,dB,dV,Ck.ob,Ck.sl,Ck.junk,pk]using hx)⟩
 have hd:Hd [h.size] (dB gl aE nE cE es aL nL cL ls aS nS cS ss aW nW cW ws h.size):=by
  intro x hx
  simp at hx;subst hx
  exact⟨5,rfl⟩
 clear Q1 Q2
 refine FB (k:=⟨#[103,114,97,112,104]⟩) Q3 hd PA PB PB fun A4 c4 h4 Q4=>⟨rfl,?_⟩
 change Sq h _ h4 (wC h2.size true A4 c4 1 (G.opn 0 G.it++[10])++dB gl aE nE cE es aL nL cL ls aS nS cS ss aW nW cW ws h.size)at Q4
 generalize h2.size=b at*
 refine⟨fun lz h'=>lz=[PU (G.mkB (if dir=true then [49]else [48]))]/\h'=h4,aU (fun e=>⟨by rw[e];rfl,rfl⟩) fun e=>⟨by rw[e];rfl,rfl⟩,?_⟩
 rintro dd h5 ⟨hdd,rfl⟩
 obtain rfl:dd=G.mkB (if dir=true then [49]else [48]):=by simpa using hdd
 refine uW (k:=⟨#[100,105,114,101,99,116,101,100]⟩) Q4 hd PA PB ⟨PB,by rw[gJ];split<;>simp⟩ fun A7 c7 h7 Q7=>⟨rfl,?_⟩
 rw[uV]at Q7
 obtain⟨base,hb⟩:∃base,base=(G.opn 0 G.it++[10])++(G.kv 2 G.dj (if dir=true then [49]else [48])++[10]):=⟨_,rfl⟩
 have Q7:Sq h (dV gl aE nE cE es aL nL cL ls aS nS cS ss aW nW cW ws) h7 (wC b true A7 c7 1 base++dB gl aE nE cE es aL nL cL ls aS nS cS ss aW nW cW ws h.size):=by rw[hb];exact Q7
 have bl:base.length<=100:=by
  rw[hb,P9,ly,gK]
  have:(if dir=true then [(49:UInt8)]else [48]).length=1:=by split<;>rfl
  rw[this];decide
 refine⟨fun lz h'=>∃(k:Nat) (A':PY) (c':Nat) (l:PZ),lz=[PN (k:Int)]/\k<=N/\Sq h (dV gl aE nE cE es aL nL cL ls aS nS cS ss aW nW cW ws) h' (wC b true A' c' 1 l++dB gl aE nE cE es aL nL cL ls aS nS cS ss aW nW cW ws h.size)/\
   l++G.aO (G.iq tx D (N-k) k)=base++G.aO (G.iq tx D N 0)/\l.length<=100+4000*k,
  fun lz _=>match lz with | [.int _ i]=>((N:Int)-i).toNat | _=>0,⟨0,A7,c7,base,rfl,PA,Q7,rfl,PA⟩,?_⟩
 rintro x h8 ⟨k,A8,c8,l8,hx,hk,Q8,e8,b8⟩
 obtain rfl:x=(k:Int):=by simpa using hx
 refine ae (fun hlt=>?_) fun hlt=>?_
 ·have Q8':Sq h (dV gl aE nE cE es aL nL cL ls aS nS cS ss aW nW cW ws) h8 ((wC b true A8 c8 1 l8++dV gl aE nE cE es aL nL cL ls aS nS cS ss aW nW cW ws)++[Ck.junk h.size]):=Q8
  have hd1:Hd [h.size] [Ck.junk h.size]:=by
   intro x hx
   simp at hx;subst hx
   exact⟨0,rfl⟩
  refine ak (ao (wC b true A8 c8 1 l8++dV gl aE nE cE es aL nL cL ls aS nS cS ss aW nW cW ws)) (O0 (tx:=tx) (n:=N) (v:=k) (dir:=dir) (Q8'.pick [0,1,2,3,4,5,6] rfl).hp PA hN hL hS hlp ht PA) (fun x hx=>(hd1.apart Q8' x hx).2) (fun _ _ r=>r.2.1.choose_spec.choose_spec.fr) ?_
  rintro v h9 ⟨rfl,⟨A9,c9,q9⟩,b9⟩
  have Q9:=Sq.call Q8' q9
  have hw:i64.wrap ((k:Int)+1)=((k+1:Nat):Int):=by rw[wr PA PA];omega
  rw[hw]
  refine⟨rfl,⟨k+1,A9,c9,_,rfl,PA,Q9,?_,PA⟩,PE⟩
  rw[<-e8,show N-k=(N-(k+1))+1 by omega,G.iq,dL,dS,G.dX,Qj]
 have hkN:k=N:=by omega
 subst hkN
 rw[Nat.sub_self]at e8
 have e8:l8=base++G.aO (G.iq tx D k 0):=by simpa[G.iq,G.aO]using e8
 obtain⟨base2,hb2⟩:∃base2,base2=l8:=⟨_,rfl⟩
 have lE:=Q8.sy.lenV 3 rfl
 have lW:=Q8.sy.lenV 6 rfl
 have dE:D.edges=es.map fun e=>(e.1.toNat,e.2.toNat):=by rw[hD];rfl
 have dW:D.weights=ws:=by rw[hD];rfl
 refine⟨fun lz h'=>∃(j:Nat) (A':PY) (c':Nat) (l:PZ),lz=[PN (j:Int)]/\j<=es.length/\Sq h (dV gl aE nE cE es aL nL cL ls aS nS cS ss aW nW cW ws) h' (wC b true A' c' 1 l++dB gl aE nE cE es aL nL cL ls aS nS cS ss aW nW cW ws h.size)/\
   l++G.aO (G.fW tx (D.edges.drop j) (ws.drop j))=base2++G.aO (G.fW tx D.edges ws)/\l.length<=5000000+1000*j,
  fun lz _=>match lz with | [.int _ i]=>((es.length:Int)-i).toNat | _=>0,⟨0,A8,c8,l8,rfl,PA,Q8,by rw[hb2];rfl,PA⟩,?_⟩
 rintro x h10 ⟨j,A10,c10,l10,hx,hj,Q10,e10,b10⟩
 obtain rfl:x=(j:Int):=by simpa using hx
 refine ae (fun hlt=>?_) fun hlt=>?_
 ·have hjl:j<es.length:=by omega
  have hx:es[j]? =some es[j]:=List.getElem?_eq_getElem hjl
  generalize es[j]=e at hx
  obtain⟨⟨z1,z2⟩,z3,z4⟩:=ge j e hx
  obtain⟨p,o,ea,_⟩:=Q10.sy.atV 3 rfl (i:=(j:Int)) PA PA
  refine⟨p,o,ea,PA,PA,e.1,Q10.sy.cellV 3 rfl ea (i:=j) (t:=0) hx rfl,e.2,Q10.sy.cellV 3 rfl ea (i:=j) (t:=1) hx rfl,?_⟩
  intro h11 h12
  have Q12:Sq h (dV gl aE nE cE es aL nL cL ls aS nS cS ss aW nW cW ws) h12 (wC b true A10 c10 1 l10++(dB gl aE nE cE es aL nL cL ls aS nS cS ss aW nW cW ws h.size++[Ck.junk h10.size])):=by
   have Y:=(((Q10.sy.newO (ty:=70) [PN 0,PN 0]).stO 8 rfl 0 (PN e.1)).stO 8 rfl 1 (PN e.2)).turn 8 rfl To.sljunk
   exact⟨Y,fun x hx=>Q10.ri x (by simpa[rds,wC,dB,dV,Ck.ob,Ck.sl,Ck.junk]using hx)⟩
  have hd2:Hd [h10.size,h.size] (dB gl aE nE cE es aL nL cL ls aS nS cS ss aW nW cW ws h.size++[Ck.junk h10.size]):=by
   intro x hx
   simp at hx
   rcases hx with rfl | rfl
   ·exact⟨6,rfl⟩
   ·exact⟨5,rfl⟩
  have hd3:Hd [h.size] (dB gl aE nE cE es aL nL cL ls aS nS cS ss aW nW cW ws h.size++[Ck.junk h10.size]):=fun x hx=>hd2 x PE
  clear_value h12
  refine FB (k:=⟨#[101,100,103,101]⟩) Q12 hd2 PA PA PB fun A13 c13 h13 Q13=>⟨rfl,?_⟩
  change Sq h _ h13 (wC b true A13 c13 2 (l10++(G.opn 2 G.fL++[10]))++_)at Q13
  have e13:(l10++(G.opn 2 G.fL++[10])).length=l10.length+9:=by rw[P9,ly];rfl
  have gB:∀{A:PY} {c d:Nat} {l:PZ} {h':ab},Sq h (dV gl aE nE cE es aL nL cL ls aS nS cS ss aW nW cW ws) h' (wC b true A c d l++(dB gl aE nE cE es aL nL cL ls aS nS cS ss aW nW cW ws h.size++[Ck.junk h10.size]))->Gl gl h':=fun{A c d l h'} Q=>Q.sy.ok (k:=2) (c:=Ck.glob gl) rfl
  obtain⟨u1,hu1⟩:∃u:Nat,e.1=(u:Int):=⟨e.1.toNat,PA⟩
  obtain⟨u2,hu2⟩:∃u:Nat,e.2=(u:Int):=⟨e.2.toNat,PA⟩
  rw[hu1,hu2]
  refine ak [] (I7 (n:=u1) (gB Q13) PA) PC (fun _ _ r=>r.2) ?_
  rintro w h14 ⟨rfl,f14⟩
  have d1:=oZ (n:=u1) PA
  have d2:=oZ (n:=u2) PA
  refine⟨_,rfl,uW (k:=⟨#[115,111,117,114,99,101]⟩) (Q13.gr f14) hd2 PA PA ⟨PB,by rw[gJ];omega⟩ fun A16 c16 h16 Q16=>⟨rfl,?_⟩⟩
  rw[uV]at Q16
  change Sq h _ h16 (wC b true A16 c16 2 (l10++(G.opn 2 G.fL++[10])++(G.kv 4 G.bp (G.dec u1)++[10]))++_)at Q16
  have e16:(l10++(G.opn 2 G.fL++[10])++(G.kv 4 G.bp (G.dec u1)++[10])).length<=l10.length+50:=by rw[P9,e13,gK];show _+(4+6+_+2)<=_;omega
  refine ak [] (I7 (n:=u2) (gB Q16) PA) PC (fun _ _ r=>r.2) ?_
  rintro w h17 ⟨rfl,f17⟩
  refine⟨_,rfl,uW (k:=⟨#[116,97,114,103,101,116]⟩) (Q16.gr f17) hd2 PA PA ⟨PB,by rw[gJ];omega⟩ fun A19 c19 h19 Q19=>⟨rfl,?_⟩⟩
  rw[uV]at Q19
  change Sq h _ h19 (wC b true A19 c19 2 (l10++(G.opn 2 G.fL++[10])++(G.kv 4 G.bp (G.dec u1)++[10])++(G.kv 4 G.bw (G.dec u2)++[10]))++_)at Q19
  have e19:(l10++(G.opn 2 G.fL++[10])++(G.kv 4 G.bp (G.dec u1)++[10])++(G.kv 4 G.bw (G.dec u2)++[10])).length<=l10.length+100:=by rw[P9,gK];show _+(4+6+_+2)<=_;omega
  generalize hl19:l10++(G.opn 2 G.fL++[10])++(G.kv 4 G.bp (G.dec u1)++[10])++(G.kv 4 G.bw (G.dec u2)++[10])=l19 at*
  obtain⟨l20,hl20⟩:∃l20,l20=l19++G.aO (match ws[j]? with | some x=>[G.kv 4 G.cN (tx x)] | none=>[]):=⟨_,rfl⟩
  have e20:l20.length<=l10.length+400:=by
   rw[hl20,P9]
   cases q:ws[j]? with
   | none=>simp[G.aO];omega
   | some x=>
    have:=(htw x (Qa q)).2
    simp only[G.aO,QM,List.flatMap_nil,QZ]
    rw[gK]
    have:G.cN.length=6:=rfl
    omega
  refine⟨fun lz h'=>lz=[]/\∃A' c',Sq h (dV gl aE nE cE es aL nL cL ls aS nS cS ss aW nW cW ws) h' (wC b true A' c' 2 l20++(dB gl aE nE cE es aL nL cL ls aS nS cS ss aW nW cW ws h.size++[Ck.junk h10.size])),ae (fun q=>?_) fun q=>⟨rfl,A19,c19,?_⟩,?_⟩
  ·have hlen:j<ws.length:=by rcases hW with rfl | e<;>simp at* <;>omega
   have hxw:ws[j]? =some ws[j]:=List.getElem?_eq_getElem hlen
   generalize ws[j]=x at hxw
   obtain⟨t1,t2⟩:=htw x (Qa hxw)
   obtain⟨p,o,ea,_⟩:=Q19.sy.atV 6 rfl (i:=(j:Int)) PA PA
   refine⟨p,o,ea,PA,PA,x,Q19.sy.cellV 6 rfl ea (i:=j) (t:=0) hxw rfl,?_⟩
   refine ak [] (t1 _ (gB Q19)) PC (fun _ _ r=>r.2) ?_
   rintro w h20 ⟨rfl,f20⟩
   refine⟨_,rfl,uW (k:=⟨#[119,101,105,103,104,116]⟩) (Q19.gr f20) hd2 PA PA ⟨PB,by rw[gJ];omega⟩ fun A22 c22 h22 Q22=>⟨rfl,rfl,A22,c22,?_⟩⟩
   rw[uV]at Q22
   change Sq h _ h22 (wC b true A22 c22 2 (l19++(G.kv 4 G.cN (tx x)++[10]))++_)at Q22
   have e0:l20=l19++(G.kv 4 G.cN (tx x)++[10]):=by rw[hl20,hxw];simp[G.aO]
   grind
  ·have:ws[j]? =none:=by grind
   have e0:l20=l19:=by rw[hl20,this];simp[G.aO]
   grind
  rintro h23 ⟨_,A23,c23,Q23⟩
  refine FC (d:=1) Q23 hd3 PA PA fun A24 c24 h24 Q24=>⟨rfl,?_⟩
  have hw:i64.wrap ((j:Int)+1)=((j+1:Nat):Int):=by rw[wr PA PA];omega
  rw[hw]
  have Q25:Sq h (dV gl aE nE cE es aL nL cL ls aS nS cS ss aW nW cW ws) h24 (wC b true A24 c24 1 (l20++(G.cls 2++[10]))++dB gl aE nE cE es aL nL cL ls aS nS cS ss aW nW cW ws h.size):=Q24.pick [0,1,2,3,4,5,6,7] rfl
  refine⟨⟨j+1,A24,c24,_,rfl,PA,Q25,?_,by rw[P9,tm];omega⟩,by dsimp only;omega⟩
  have hxD:D.edges[j]? =some (u1,u2):=by
   rw[dE,List.getElem?_map,hx]
   simp[hu1,hu2]
  rw[uX tx hxD]at e10
  rw[<-e10,hl20,<-hl19]
  have e0:G.aO [G.cls 2]=G.cls 2++[10]:=by simp[G.aO]
  unfold G.rk
  rw[G.dX,G.cg,G.cg,G.cg,G.dX,e0]
  simp only[Qj,QB,Rq]
  rfl
 have hjE:j=es.length:=by omega
 have e10:l10=base2++G.aO (G.fW tx D.edges ws):=by
  have h1:D.edges.drop j=[]:=RF PE
  grind [G.fW,G.aO]
 refine FC (d:=0) Q10 hd PA PA fun A26 c26 h25 Q26=>⟨rfl,?_⟩
 have eW:l10++(G.cls (2*0)++[10])=G.wr tx D:=by
  have e0:G.aO [G.cls 0]=G.cls 0++[10]:=by simp[G.aO]
  unfold G.wr G.wK
  have dd:D.dir=dir:=by rw[hD];rfl
  rw[G.cg,G.cg,G.dX,G.dX,e0,e10,hb2,e8,hb,dN,dW,dd]
  simp_all
 rw[eW]at Q26
 have hv:wrV tx (k:Int) dir es ls ss ws=if 262144<(G.wr tx D).length then([],23)else(G.wr tx D,0):=by
  unfold wrV;simp_all
 refine ak (R:=fun v h'=>v= PN ((G.wr tx D).length:Int)/\Fr [] h25 h') [] ((O3 (oh Q26)).mono fun v h' r=>⟨r.1,by rw[r.2];exact Fr.refl _ _⟩) PC (fun _ _ r=>r.2) ?_
 rintro v h26 ⟨rfl,f26⟩
 have Q27:=Q26.gr f26
 refine⟨_,rfl,ae (fun q2=>⟨?_,Q27.fr⟩) fun q2=>?_⟩
 ·rw[hv,if_pos PA];rfl
 refine ak (ao (wC b true A26 c26 0 (G.wr tx D))) (O4 (oh Q27) ?_) (fun x hx=>(hd.apart Q27 x hx).2) (fun _ _ r=>r.2) ?_
 ·unfold G.wr G.wK;rw[G.cg];simp_all
 rintro v h27 ⟨rfl,f27⟩
 refine⟨_,rfl,?_,Sq.frA Q27 f27⟩
 grind
end
def LO (x:Nat) (h:ab) (R:VP):Prop:=cnd ((FloatKind.f64).format.order x x != some .eq) (PL 90 #[PO 9221120237041090561] fun b=>∃a:Nat,b= PS a/\R (PS a) h) (cnd ((FloatKind.f64).format.order x 0==some .eq) (R (PS 0) h) (R (PS x) h))
theorem BV {h:ab} {R:VP} (x:Nat) (H:LO x h R):PJ 109 #[PS x] h R:=ba [] 10 [] [] [] [] Tryz.func109 PD PD H
def isNaN (x:Nat):Bool:=(FloatKind.f64.format.read x).isNaN
abbrev F64 :Ieee.Format:=FloatKind.f64.format
theorem wZ (x:Nat):F64.order x x=if isNaN x then none else some .eq:=by
 unfold Ieee.Format.order isNaN Ieee.Datum.order Ieee.Datum.isNaN
 cases F64.read x with
 | nan s t=>simp
 | infinity s=>simp[Std.compare_self]<;>cases s<;>rfl
 | number s m i=>simp[Std.compare_self]
theorem iC (x:Nat):(F64.order x x != some .eq)=isNaN x:=by
 rw[wZ];cases isNaN x<;>rfl
def bF (x:Nat):Nat:=if isNaN x then 9221120237041090561 else if F64.order x 0==some .eq then 0 else x
theorem Fb {P:Program} {f:FuncId} {fn:Func} {e:Array Value->Sem Value} {args:Array Value} (hf:P.funcs[f]? =some fn) (hname:(fn.name== "runtime.NumGoroutine")=false) (hb:fn.body.isNone=true)
  (hn:Extern.findNext fn=none) (he:Extern.find fn=some e) (w:World):(callFunc f args).run P w=((e args).run P w).andThen fun v w'=>.ok (.value v) w':=by
 have h1:¬fn.name= "runtime.NumGoroutine" :=by simpa using hname
 have h2:fn.body=none:=by simpa using hb
 simp[callFunc,hf,hn,he,h1,h2]
theorem jv {P:Program} {f:FuncId} {fn:Func} {e:Array Value->Sem Value} {args:Array Value} {v:Value} (hf:P.funcs[f]? =some fn) (hname:(fn.name== "runtime.NumGoroutine")=false) (hb:fn.body.isNone=true)
  (hn:Extern.findNext fn=none) (he:Extern.find fn=some e) (hv:e args=pure v):vU P f args (· =v):=by
 intro w
 refine⟨v,w,?_,rfl,Rest.refl w,rfl⟩
 rw[Fb hf hname hb hn he,hv];simp
theorem oT (n:Int):vU Tryz.prog 90 #[PO n] (· = PS n.toNat):=
 jv Tryz.func90 PD PD PD (e:=Extern.MathFloatBits.float64frombits) PD rfl
theorem bh {f:FuncId} {args:Array Value} {v:Value} {K:Value->Prop} (h:vU Tryz.prog f args (· =v)) (k:K v):PL f args K:=⟨_,h,fun _ e=>e▸k⟩
theorem yA :qP bF:=by
 intro x h
 apply BV
 unfold LO
 rw[iC]
 refine aU (fun hx=>bh (oT _) ⟨_,rfl,?_⟩) fun hx=>aU (fun h0=>?_) fun h0=>?_
 ·exact⟨by simp[bF,hx],Fr.refl _ _⟩
 ·have h0:(F64.order x 0==some .eq)=true:=h0
  exact⟨by simp[bF,hx,h0],Fr.refl _ _⟩
 ·have h0:(F64.order x 0==some .eq)=false:=h0
  exact⟨by simp[bF,hx,h0],Fr.refl _ _⟩
theorem iD :G.ClOK bF:=by
 have n1:isNaN 9221120237041090561=true:=by decide+kernel
 have n0:isNaN 0=false:=by decide+kernel
 have n2:isNaN G.fK=false:=by decide+kernel
 have o2:(F64.order G.fK 0==some .eq)=false:=by decide+kernel
 refine⟨fun x=>?_,?_,?_⟩
 ·unfold bF
  by_cases h:isNaN x=true
  ·simp[h,n1]
  ·by_cases h0:(F64.order x 0==some .eq)=true
   ·simp[h,h0,n0]
   ·simp[h,h0]
 ·simp[bF,n0]
 ·simp[bF,n2,o2]
theorem jZ (b:Nat):vU Tryz.prog 36 #[PS b] (· = PO b):=
 jv Tryz.func36 PD PD PD (e:=Extern.MathFloatBits.float64bits) PD rfl
def fe (x y:Nat):Bool:=(isNaN x&&isNaN y)||x==y
def fe2 (p q:Nat × Nat):Bool:=fe p.1 q.1&&fe p.2 q.2
theorem LH {x y:Nat} {R:Bool->Prop} (r:R (fe x y)):Nk x y R:=by
 apply Pk
 unfold T14
 rw[iC,iC]
 have e:(((x:Int))==((y:Int)))=(x==y):=by grind
 unfold fe at r
 refine⟨fun b=>b=(x==y)/\(isNaN x&&isNaN y)=false,aU (fun h1=>aU (fun h2=>?_) fun h2=>?_) fun h1=>?_,?_⟩
 ·grind
 ·exact bh (jZ _) ⟨_,rfl,bh (jZ _) ⟨_,rfl,e,PE⟩⟩
 ·exact bh (jZ _) ⟨_,rfl,bh (jZ _) ⟨_,rfl,e,by rw[h1];rfl⟩⟩
 grind
theorem c61 {x y:Nat} {h:ab}:PJ 14 #[PS x,PS y] h fun v h'=>v= PV (fe x y)/\Fr [] h h':=
 (LH (R:=fun r=>r=fe x y) rfl h (Hp.nil h)).mono fun v h' ⟨r,Y,e,q⟩=>⟨by rw[e,q],Y.fr⟩
theorem c60 {x x2 y y2:Nat} {h:ab}:PJ 13 #[.agg #[PS x,PS x2],.agg #[PS y,PS y2]] h fun v h'=>v= PV (fe2 (x,x2) (y,y2))/\Fr [] h h':=by
 apply GK
 unfold S13
 intro h1 h2
 have f2:Fr [] h h2:=(Fr.push h _).pushr _
 clear_value h2
 refine ak [] c61 PC (fun _ _ r=>r.2) ?_
 rintro v h3 ⟨rfl,f3⟩
 refine⟨_,rfl,aU (fun q=>?_) fun q=>⟨by unfold fe2;rw[q];rfl,f2.trans f3⟩⟩
 refine ak [] c61 PC (fun _ _ r=>r.2) ?_
 rintro v h4 ⟨rfl,f4⟩
 exact⟨_,rfl,by unfold fe2;rw[q];rfl,(f2.trans f3).trans f4⟩
def eqL {α:Type} (f:α->α->Bool) (xs ys:List α):Bool:=decide (xs.length=ys.length)&&(xs.zip ys).all fun p=>f p.1 p.2
theorem ig {α:Type} {f:α->α->Bool} {xs ys:List α} (h:xs.length≠ys.length):eqL f xs ys=false:=by unfold eqL;grind
theorem iX {α:Type} {f:α->α->Bool} {xs ys:List α} {k:Nat} {x y:α} (hx:xs[k]? =some x) (hy:ys[k]? =some y) (h:f x y=false):eqL f xs ys=false:=by
 unfold eqL
 have:((xs.zip ys).all fun p=>f p.1 p.2)=false:=by
  rw[List.all_eq_false]
  refine⟨(x,y),Qa (i:=k) ?_,by simp[h]⟩
  grind
 grind
theorem fO {α:Type} {f:α->α->Bool} {xs ys:List α} {k:Nat} {x y:α} (hx:xs[k]? =some x) (hy:ys[k]? =some y) (h:f x y=true) (ha:((xs.zip ys).take k).all (fun p=>f p.1 p.2)=true):
  ((xs.zip ys).take (k+1)).all (fun p=>f p.1 p.2)=true:=by
 have:(xs.zip ys)[k]? =some (x,y):=by grind
 rw[Rf,this]
 grind
theorem ii {α:Type} {f:α->α->Bool} {xs ys:List α} {k:Nat} (hl:xs.length=ys.length) (hk:xs.length<=k) (ha:((xs.zip ys).take k).all (fun p=>f p.1 p.2)=true):eqL f xs ys=true:=by
 unfold eqL
 rw[decide_eq_true hl,Rn]
 grind [List.take_of_length_le]
theorem tp {α:Type} [DecidableEq α] (xs ys:List α):eqL (fun x y=>decide (x=y)) xs ys=decide (xs=ys):=by
 by_cases hl:xs.length=ys.length
 ·by_cases he:xs=ys
  ·grind [eqL,List.mem_iff_getElem]
  ·rw[decide_eq_false he]
   rw[<-QK]
   intro h
   unfold eqL at h
   simp only[P6,Qx,decide_eq_true_eq]at h
   refine he (Re fun i=>?_)
   by_cases hi:i<xs.length
   ·have h1:xs[i]? =some xs[i]:=List.getElem?_eq_getElem hi
    have h2:ys[i]? =some ys[i]:=List.getElem?_eq_getElem PA
    have:=h.2 (xs[i],ys[i]) (Qa (i:=i) PE)
    grind
   grind
 grind [ig]
theorem BT (s t:P0):(s.toList==t.toList)=decide (s=t):=by
 grind [Lib.toList_data,ByteArray.ext,Array.ext']
theorem LI {xs ys:List ByteArray} (hx:xs.length<=9223372036854775807) {R:Bool->Prop} (r:R (decide (xs=ys))):Nn xs ys R:=by
 apply Pm
 unfold T16
 rw[<-tp]at r
 refine cn (fun h=>?_) fun h=>?_
 ·rw[ig PA]at r;exact r
 refine⟨fun i=>∃k:Nat,i=k/\k<=xs.length/\((xs.zip ys).take k).all (fun p=>decide (p.1=p.2))=true,fun i=>((xs.length:Int)-i).toNat,⟨0,rfl,PA,PC⟩,?_⟩
 rintro _ ⟨k,rfl,hk,ha⟩
 refine ae (fun hlt=>⟨PA,hlt,fun x hx=>⟨PA,PA,fun y hy=>?_⟩⟩) fun hlt=>?_
 ·have hx:xs[k]? =some x:=by simpa using hx
  have hy:ys[k]? =some y:=by simpa using hy
  rw[BT]
  refine bj (fun q=>?_) fun q=>?_
  ·grind [iX]
  ·rw[wr PA PA]
   exact⟨⟨k+1,PC,PA,fO (f:=fun x y=>decide (x=y)) hx hy q ha⟩,PE⟩
 grind [ii]
theorem LJ {xs ys:List (Int × Int)} (hx:xs.length<=9223372036854775807) {R:Bool->Prop} (r:R (decide (xs=ys))):JU xs ys R:=by
 apply Pj
 unfold T37
 rw[<-tp]at r
 refine cn (fun h=>?_) fun h=>?_
 ·rw[ig PA]at r;exact r
 refine⟨fun i=>∃k:Nat,i=k/\k<=xs.length/\((xs.zip ys).take k).all (fun p=>decide (p.1=p.2))=true,fun i=>((xs.length:Int)-i).toNat,⟨0,rfl,PA,PC⟩,?_⟩
 rintro _ ⟨k,rfl,hk,ha⟩
 refine ae (fun hlt=>⟨PA,hlt,fun x hx=>⟨PA,PA,fun y hy=>?_⟩⟩) fun hlt=>?_
 ·have hx:xs[k]? =some x:=by simpa using hx
  have hy:ys[k]? =some y:=by simpa using hy
  have e:((x.1==y.1)&&(x.2==y.2))=decide (x=y):=by
   grind
  rw[e]
  refine bj (fun q=>?_) fun q=>?_
  ·grind [iX]
  ·rw[wr PA PA]
   exact⟨⟨k+1,PC,PA,fO (f:=fun x y=>decide (x=y)) hx hy q ha⟩,PE⟩
 grind [ii]
theorem LK {a b:Int} {xs ys:List (Int × Int)} (hx:xs.length<=9223372036854775807) {R:Bool->Prop} (r:R (decide (a=b)&&decide (xs=ys))):Nl a xs b ys R:=by
 apply Pl
 unfold T15
 refine au (fun h=>LJ hx ?_) fun h=>?_
 ·grind
 grind
section
variable {h:ab} {aX aY:PY} {nX cX nY cY:Nat}
theorem c65 {xs ys:List Nat} (H:Hp h [Ck.vw eF aX nX cX xs,Ck.vw eF aY nY cY ys]) (hx:xs.length<=9223372036854775806):
  PJ 18 #[PT aX nX cX,PT aY nY cY,.func (.func 14) #[] #[]] h fun v h'=>v= PV (eqL fe xs ys)/\Fr [] h h':=by
 apply GN
 unfold S18
 have Q:=Sq.start H
 have l1:=Q.sy.lenV 0 rfl
 have l2:=Q.sy.lenV 1 rfl
 refine cn (fun q=>⟨by rw[ig PA],Fr.refl _ _⟩) fun q=>?_
 refine⟨fun lz h'=>∃k:Nat,lz=[PN (k:Int)]/\k<=xs.length/\((xs.zip ys).take k).all (fun p=>fe p.1 p.2)=true/\Fr [] h h',fun lz _=>match lz with | [.int _ i]=>((xs.length:Int)-i).toNat | _=>0,⟨0,rfl,PA,PC,Fr.refl _ _⟩,?_⟩
 rintro x h1 ⟨k,hk0,hk,ha,f1⟩
 obtain rfl:x=(k:Int):=by simpa using hk0
 have Q1:=Q.gr f1
 refine ae (fun hlt=>?_) fun hlt=>⟨by grind [ii],f1⟩
 obtain⟨b1,o1,e1,_,x,hx⟩:=Q1.sy.atV 0 rfl (i:=(k:Int)) PA PA
 obtain⟨b2,o2,e2,_,y,hy⟩:=Q1.sy.atV 1 rfl (i:=(k:Int)) PA PA
 refine⟨b1,o1,e1,PA,PA,x,Q1.sy.cellV 0 rfl e1 (i:=k) (t:=0) hx rfl,b2,o2,e2,PA,PA,y,Q1.sy.cellV 1 rfl e2 (i:=k) (t:=0) hy rfl,?_⟩
 show ag _ _ _ _ _ _
 refine ak [] c61 PC (fun _ _ r=>r.2) ?_
 rintro v h2 ⟨rfl,f2⟩
 refine⟨_,rfl,bj (fun q1=>⟨by rw[iX hx hy q1],f1.trans f2⟩) fun q1=>?_⟩
 rw[wr PA PA]
 exact⟨⟨k+1,PC,PA,fO hx hy q1 ha,f1.trans f2⟩,PE⟩
theorem c64 {xs ys:List (Nat × Nat)} (H:Hp h [Ck.vw eFF aX nX cX xs,Ck.vw eFF aY nY cY ys]) (hx:xs.length<=9223372036854775806):
  PJ 17 #[PT aX nX cX,PT aY nY cY,.func (.func 13) #[] #[]] h fun v h'=>v= PV (eqL fe2 xs ys)/\Fr [] h h':=by
 apply GM
 unfold S17
 have Q:=Sq.start H
 have l1:=Q.sy.lenV 0 rfl
 have l2:=Q.sy.lenV 1 rfl
 refine cn (fun q=>⟨by rw[ig PA],Fr.refl _ _⟩) fun q=>?_
 refine⟨fun lz h'=>∃k:Nat,lz=[PN (k:Int)]/\k<=xs.length/\((xs.zip ys).take k).all (fun p=>fe2 p.1 p.2)=true/\Fr [] h h',fun lz _=>match lz with | [.int _ i]=>((xs.length:Int)-i).toNat | _=>0,⟨0,rfl,PA,PC,Fr.refl _ _⟩,?_⟩
 rintro x h1 ⟨k,hk0,hk,ha,f1⟩
 obtain rfl:x=(k:Int):=by simpa using hk0
 have Q1:=Q.gr f1
 refine ae (fun hlt=>?_) fun hlt=>⟨by grind [ii],f1⟩
 obtain⟨b1,o1,e1,_,x,hx⟩:=Q1.sy.atV 0 rfl (i:=(k:Int)) PA PA
 refine⟨b1,o1,e1,PA,PA,x.1,Q1.sy.cellV 0 rfl e1 (i:=k) (t:=0) hx rfl,x.2,Q1.sy.cellV 0 rfl e1 (i:=k) (t:=1) hx rfl,?_⟩
 intro h2 h3
 have f3:Fr [] h1 h3:=((Fr.push h1 _).hsetL (P3 _)).hsetL (P3 _)
 have Q3:=Q1.gr f3
 have s3:h1.size<h3.size:=by simp[h3,h2]
 clear_value h3
 obtain⟨b2,o2,e2,_,y,hy⟩:=Q3.sy.atV 1 rfl (i:=(k:Int)) PA PA
 refine⟨b2,o2,e2,PA,PA,y.1,Q3.sy.cellV 1 rfl e2 (i:=k) (t:=0) hy rfl,y.2,Q3.sy.cellV 1 rfl e2 (i:=k) (t:=1) hy rfl,?_⟩
 intro h4 h5
 have f5:Fr [] h1 h5:=((f3.pushr _).hsetL PA).hsetL PA
 clear_value h5
 show ag _ _ _ _ _ _
 refine ak [] (c60 (x:=x.1) (x2:=x.2) (y:=y.1) (y2:=y.2)) PC (fun _ _ r=>r.2) ?_
 rintro v h6 ⟨rfl,f6⟩
 refine⟨_,rfl,bj (fun q1=>⟨by rw[iX hx hy q1],(f1.trans f5).trans f6⟩) fun q1=>?_⟩
 rw[wr PA PA]
 exact⟨⟨k+1,PC,PA,fO hx hy q1 ha,(f1.trans f5).trans f6⟩,PE⟩
end
structure MD where
 n:Int
 dir:Bool
 es:List (Int × Int)
 ls:List ByteArray
 ss:List (Nat × Nat)
 ws:List Nat
def eM (a b:MD):Bool:=(decide (a.n=b.n)&&decide (a.es=b.es))&&((a.dir==b.dir)&&(decide (a.ls=b.ls)&&(eqL fe2 a.ss b.ss&&eqL fe a.ws b.ws)))
structure MDs where
 aE:PY
 nE:Nat
 cE:Nat
 aL:PY
 nL:Nat
 cL:Nat
 aS:PY
 nS:Nat
 cS:Nat
 aW:PY
 nW:Nat
 cW:Nat
def MD.vw (d:MD) (s:MDs):List Ck:=[Ck.vw eP s.aE s.nE s.cE d.es,Ck.vw eS s.aL s.nL s.cL d.ls,Ck.vw eFF s.aS s.nS s.cS d.ss,Ck.vw eF s.aW s.nW s.cW d.ws]
def MD.v (d:MD) (s:MDs):Value:=.agg #[PN d.n,PT s.aE s.nE s.cE,PV d.dir,PT s.aL s.nL s.cL,PT s.aS s.nS s.cS,PT s.aW s.nW s.cW]
theorem ok6 {a b:MD} {s t:MDs} {h:ab} (H:Hp h (a.vw s++b.vw t)) (hl:a.es.length<=9223372036854775806/\a.ls.length<=9223372036854775806/\a.ss.length<=9223372036854775806/\a.ws.length<=9223372036854775806):
  PJ 6 #[a.v s,b.v t] h fun v h'=>v= PV (eM a b)/\Fr [] h h':=by
 apply JV
 unfold S6
 intro h1 h2 K
 have f2:Fr [] h h2:=(Fr.push h _).pushr _
 have Q:=(Sq.start H).gr f2
 clear_value h2
 refine ak (R:=fun v h'=>v= PV (decide (a.n=b.n)&&decide (a.es=b.es))/\Fr [] h2 h') [] ?_ PC (fun _ _ r=>r.2) ?_
 ·exact(LK (R:=fun r=>r=(decide (a.n=b.n)&&decide (a.es=b.es))) PA rfl h2 _ _ _ _ _ _ (Q.pick [0,4] rfl).hp).mono fun v h' ⟨r,Y,e,q⟩=>⟨by rw[e,q],Y.fr⟩
 rintro v h3 ⟨rfl,f3⟩
 have F3:=f2.trans f3
 have Q3:=Q.gr f3
 refine⟨_,rfl,aU (fun q1=>?_) fun q1=>⟨by unfold eM;rw[q1];rfl,F3⟩⟩
 refine aU (fun q2=>?_) fun q2=>⟨by unfold eM;rw[q2];simp,F3⟩
 refine ak (R:=fun v h'=>v= PV (decide (a.ls=b.ls))/\Fr [] h3 h') [] ?_ PC (fun _ _ r=>r.2) ?_
 ·exact(LI (R:=fun r=>r=decide (a.ls=b.ls)) PA rfl h3 _ _ _ _ _ _ (Q3.pick [1,5] rfl).hp).mono fun v h' ⟨r,Y,e,q⟩=>⟨by rw[e,q],Y.fr⟩
 rintro v h4 ⟨rfl,f4⟩
 have F4:=F3.trans f4
 have Q4:=Q3.gr f4
 refine⟨_,rfl,aU (fun q3=>?_) fun q3=>⟨by unfold eM;rw[q3];simp,F4⟩⟩
 refine ak [] (c64 (Q4.pick [2,6] rfl).hp PA) PC (fun _ _ r=>r.2) ?_
 rintro v h5 ⟨rfl,f5⟩
 have F5:=F4.trans f5
 have Q5:=Q4.gr f5
 refine⟨_,rfl,aU (fun q4=>?_) fun q4=>⟨by unfold eM;rw[q4];simp,F5⟩⟩
 refine ak [] (c65 (Q5.pick [3,7] rfl).hp PA) PC (fun _ _ r=>r.2) ?_
 rintro v h6 ⟨rfl,f6⟩
 exact⟨_,rfl,by unfold eM;grind,F5.trans f6⟩
def Ps :Nat:=9221120237041090561
def fop (r:Option Nat):Nat:=r.getD Ps
def eQ (a b:Nat):Nat:=fop (F64.mul a b)
def mP (a b:Nat):Nat:=fop (F64.div a b)
def jk (x:Nat):Nat:=(bits .andNot .u64 (x:Int) (9223372036854775808:Int)).toNat
theorem gq :F64.leastPlace= -1074:=by decide
theorem fR :F64.binade=2^52:=by decide
theorem ky :F64.infRung=2047*2^52:=by decide
theorem jE :F64.signWeight=2^63:=by decide
theorem zb (x:Nat):jk x=x % 2^63:=by
 unfold jk bits
 have hk:IntKind.u64.bits=64:=rfl
 have e1:(BitVec.ofInt IntKind.u64.bits (x:Int)&&& ~~~(BitVec.ofInt IntKind.u64.bits (9223372036854775808:Int))).toNat=x % 2^63:=by
  rw[BitVec.toNat_and]
  have h1:(BitVec.ofInt IntKind.u64.bits (x:Int)).toNat=x % 2^64:=by
   grind
  have h2:(~~~(BitVec.ofInt IntKind.u64.bits (9223372036854775808:Int))).toNat=2^63-1:=by decide
  rw[h1,h2,Qv]
  omega
 grind [IntKind.wrap]
theorem vq (x:Nat):F64.read (jk x)=match F64.read x with
  | .number _ m i=>.number false m i
  | .infinity _=>.infinity false
  | .nan _ t=>.nan false t:=by
 have hs:F64.signWeight=2^63:=by decide
 rw[zb]
 unfold Ieee.Format.read
 simp only[hs]
 have h1:x % 2^63/2^63 % 2=0:=by omega
 have h2:x % 2^63 % 2^63=x % 2^63:=by omega
 rw[h1,h2]
 grind
theorem DG (x:Nat):isNaN (jk x)=isNaN x:=by
 have h:isNaN (jk x)=(F64.read (jk x)).isNaN:=rfl
 have h':isNaN x=(F64.read x).isNaN:=rfl
 rw[h,h',vq]
 cases F64.read x<;>rfl
theorem iH {x:Nat} {s:Bool} {m:Nat} {i:Int} (h:F64.read x= .number s m i):m<2^53:=by
 have hb:F64.binade=2^52:=by decide
 have hs:F64.signWeight=2^63:=by decide
 unfold Ieee.Format.read at h
 grind
theorem fC {x:Nat} {s:Bool} {m:Nat} {i:Int} (h:F64.read x= .number s m i): -1074<=i/\i<=971:=by
 unfold Ieee.Format.read at h
 grind [fR,gq,ky]
def jl :Nat:=3000
theorem Hk :2100<=jl:=by decide
def mQ :Ieee.Datum->Int
 | .number s m i=>Ieee.signed s m (i+1074).toNat
 | .infinity s=>if s then-(2^jl)else 2^jl
 | .nan _ _=>0
def key (x:Nat):Int:=mQ (F64.read x)
theorem px (s:Bool) (m a b:Nat):Ieee.signed s m (a+b)=Ieee.signed s m a*((2^b:Nat):Int):=by
 unfold Ieee.signed
 grind [Nat.shiftLeft_eq,Int.neg_mul]
theorem vr (x y:Int) (p:Nat) (hp:0<p):compare (x*p) (y*p)=compare x y:=by
 have hp':(0:Int)<p:=by omega
 rcases Int.lt_trichotomy x y with h | h | h
 ·rw[Std.compare_eq_lt.2 h,Std.compare_eq_lt.2 (Int.mul_lt_mul_of_pos_right h hp')]
 ·grind
 ·rw[Std.compare_eq_gt.2 h,Std.compare_eq_gt.2 (Int.mul_lt_mul_of_pos_right h hp')]
theorem vt {m a:Nat} (h1:m<2^53) (h2:a<=2045):m*2^a<2^jl:=by
 have h3:m*2^a<2^53*2^a:=P5 h1 (Ql PB)
 rw[<-Qc]at h3
 exact QT h3 (P7 PB (by have:=Hk;omega))
theorem mR {x:Nat} {s:Bool} {m:Nat} {i:Int} (h:F64.read x= .number s m i): -(2^jl)<Ieee.signed s m (i+1074).toNat/\Ieee.signed s m (i+1074).toNat<2^jl:=by
 have h1:=iH h
 have h2:=fC h
 have h3:m <<< (i+1074).toNat<2^jl:=by
  rw[QW]
  exact vt h1 (Nat.le_of_lt_succ PA)
 have h5:((m <<< (i+1074).toNat:Nat):Int)<2^jl:=by
  grind
 have h6:(0:Int)<=((m <<< (i+1074).toNat:Nat):Int):=Rv _
 unfold Ieee.signed
 omega
theorem tJ :(0:Int)<2^jl:=Int.pow_pos PB
theorem rZ {a b:Nat} (ha:isNaN a=false) (hb:isNaN b=false):F64.order a b=some (compare (key a) (key b)):=by
 have ha':(F64.read a).isNaN=false:=ha
 have hb':(F64.read b).isNaN=false:=hb
 have hP:=tJ
 unfold Ieee.Format.order key
 cases hra:F64.read a with
 | nan s t=>rw[hra]at ha';simp[Ieee.Datum.isNaN]at ha'
 | infinity s=>
  cases hrb:F64.read b with
  | nan t u=>rw[hrb]at hb';simp[Ieee.Datum.isNaN]at hb'
  | infinity t=>
   simp only[Ieee.Datum.order,mQ]
   generalize (2:Int)^jl=w at*
   cases s<;>cases t
   ·grind
   ·simp only[Qq,if_false,if_true];rw[Std.compare_eq_gt.2 (show-w<w by omega)];rfl
   ·simp only[Qq,if_false,if_true];rw[Std.compare_eq_lt.2 (show-w<w by omega)];rfl
   grind
  | number t n j=>
   have kb:=mR hrb
   simp only[Ieee.Datum.order,mQ]
   generalize (2:Int)^jl=w at*
   cases s
   ·simp only[Qq,if_false];rw[Std.compare_eq_gt.2 kb.2]
   ·simp only[if_true];rw[Std.compare_eq_lt.2 kb.1]
 | number s m i=>
  have ka:=mR hra
  have pa:=fC hra
  cases hrb:F64.read b with
  | nan t u=>rw[hrb]at hb';simp[Ieee.Datum.isNaN]at hb'
  | infinity t=>
   simp only[Ieee.Datum.order,mQ]
   generalize (2:Int)^jl=w at*
   cases t
   ·simp only[Qq,if_false];rw[Std.compare_eq_lt.2 ka.2]
   ·simp only[if_true];rw[Std.compare_eq_gt.2 ka.1]
  | number t n j=>
   have pb:=fC hrb
   simp only[Ieee.Datum.order,mQ]
   have e1:(i+1074).toNat=(i-min i j).toNat+(min i j+1074).toNat:=by omega
   have e2:(j+1074).toNat=(j-min i j).toNat+(min i j+1074).toNat:=by omega
   rw[e1,e2,px,px,vr _ _ _ (Ql PB)]
theorem DH {a b:Nat} (ha:isNaN a=false) (hb:isNaN b=false):(F64.order a b==some .lt)=decide (key a<key b):=by
 rw[rZ ha hb]
 rcases Int.lt_trichotomy (key a) (key b)with h | h | h
 ·rw[Std.compare_eq_lt.2 h];simp[h]
 ·grind
 grind
theorem py {a b:Nat} (ha:isNaN a=false) (hb:isNaN b=false):(F64.order a b==some .gt)=decide (key b<key a):=by
 rw[rZ ha hb]
 rcases Int.lt_trichotomy (key a) (key b)with h | h | h
 ·grind
 ·grind
 ·rw[Std.compare_eq_gt.2 h];simp[h]
theorem Hl (x:Nat):key (jk x)=(key x).natAbs:=by
 unfold key
 rw[vq]
 cases F64.read x with
 | nan s t=>rfl
 | infinity s=>
  have hP:=tJ
  cases s
  ·simp only[mQ,Qq,if_false]
   omega
  ·simp only[mQ,if_true,Qq,if_false]
   omega
 | number s m i=>
  cases s
  ·simp only[mQ,Ieee.signed,Qq,if_false,Sf]
  ·simp only[mQ,Ieee.signed,Qq,if_false,if_true,Int.natAbs_neg,Sf]
theorem DI (s:Bool) (n d:Nat):Ieee.Toward.even.cut s n d=Ieee.Toward.even.cut false n d:=rfl
def fZ (m:Nat) (i:Int):Nat:=
 if m=0 then 0 else
 min ((max (i+m.log2-F64.fractionBits) F64.leastPlace-F64.leastPlace).toNat*F64.binade+Ieee.Toward.even.cut false (m <<< (i-max (i+m.log2-F64.fractionBits) F64.leastPlace).toNat) (max (i+m.log2-F64.fractionBits) F64.leastPlace-i).toNat) F64.infRung
theorem db (s:Bool) (m:Nat) (i:Int):F64.nearest s m i=F64.word s (fZ m i):=by
 unfold Ieee.Format.nearest fZ
 grind [DI]
theorem mS (m:Nat) (i:Int):fZ m i<=2047*2^52:=by
 unfold fZ
 rw[ky]
 split
 ·omega
 omega
theorem kI (r:Nat):F64.word false r=r:=by
 unfold Ieee.Format.word;simp
theorem tK (s:Bool) (m:Nat) (i:Int):∃r,r<=2047*2^52/\F64.nearest s m i=F64.word s r/\F64.nearest false m i=r:=
 ⟨_,mS m i,db s m i,(db false m i).trans (kI _)⟩
theorem bS (s:Bool) (m a:Nat):Ieee.signed s m a=if s then-((m*2^a:Nat):Int)else((m*2^a:Nat):Int):=by
 unfold Ieee.signed;rw[QW]
def gu (r:Nat):Nat:=if r<2^52 then r else(2^52+r % 2^52)*2^(r/2^52-1)
theorem Ak {s:Bool} {r:Nat} (h:r<2047*2^52):F64.read (F64.word s r)=if r<2^52 then .number s r (-1074)else .number s (2^52+r % 2^52) (-1074+(r/2^52-1:Nat)):=by
 have e1:F64.word s r/2^63 % 2=(if s then 1 else 0)/\F64.word s r % 2^63=r:=by
  unfold Ieee.Format.word
  rw[jE]
  grind
 unfold Ieee.Format.read
 simp only[jE,fR,gq,ky]
 rw[e1.1,e1.2,if_pos h]
 cases s<;>rfl
theorem lJ {s:Bool} {r:Nat} (h:r<2047*2^52):key (F64.word s r)=(if s then-((gu r:Nat):Int)else((gu r:Nat):Int))/\isNaN (F64.word s r)=false:=by
 have hN:isNaN (F64.word s r)=(F64.read (F64.word s r)).isNaN:=rfl
 unfold key
 rw[hN,Ak h]
 unfold gu
 split
 ·refine⟨?_,rfl⟩
  simp only[mQ,bS]
  simp
 ·refine⟨?_,rfl⟩
  grind [mQ,bS]
theorem lK {m k:Nat} (h:m≠0):(m*2^k).log2=m.log2+k:=by
 have h1:m*2^k≠0:=Sj (QI PA (Ql PB))
 apply (RE h1).2
 have h2:=(RE h).1 rfl
 rw[Qc,show m.log2+k+1=(m.log2+1)+k by omega,Qc]
 exact⟨P1 _ h2.1,P5 h2.2 (Ql PB)⟩
theorem se (w:Ieee.Toward) (s:Bool) (K d:Nat):w.cut s (K*2^d) d=K:=by
 unfold Ieee.Toward.cut
 by_cases hK:K=0
 ·subst hK
  simp only[RL,Nat.zero_div,Nat.zero_mod]
  grind
 ·rw[lK hK,show min d (K.log2+d+2)=d by omega,QW,Rz]
  grind [Nat.mul_div_cancel,Nat.mul_mod_left]
theorem sf {s:Bool} {m k:Nat} {i:Int} (hm:m<2^53) (hi: -1074<=i) (hi2:i<=971):key (F64.nearest s (m*2^k) (i-k))=Ieee.signed s m (i+1074).toNat/\isNaN (F64.nearest s (m*2^k) (i-k))=false:=by
 rw[db]
 by_cases hm0:m=0
 ·grind [fZ,lJ,bS,gu]
 have hM:m*2^k≠0:=Sj (QI PA (Ql PB))
 have hlog:=lK (k:=k) hm0
 have hl2:=(RE hm0).1 rfl
 have hl53:m.log2<53:=(Nat.log2_lt hm0).2 hm
 obtain⟨la,hla⟩:∃la:Int,la=max (i-k+((m*2^k).log2:Int)-F64.fractionBits) F64.leastPlace:=⟨_,rfl⟩
 have hla2:la=max (i+(m.log2:Int)-52) (-1074):=by
  rw[hla,hlog,gq,show F64.fractionBits=52 from rfl];omega
 have hle:la<=i:=by omega
 have kept:Ieee.Toward.even.cut false ((m*2^k) <<< (i-k-la).toNat) (la-(i-k)).toNat=m*2^(i-la).toNat:=by
  rw[QW,Qm,<-Qc]
  have e:k+(i-k-la).toNat=(i-la).toNat+(la-(i-k)).toNat:=by omega
  rw[e,Qc,<-Qm]
  exact se _ _ _ _
 have er:fZ (m*2^k) (i-k)=min ((la+1074).toNat*2^52+m*2^(i-la).toNat) (2047*2^52):=by
  unfold fZ
  rw[if_neg hM,<-hla,kept,ky,fR,gq]
  grind
 have hK1:m*2^(i-la).toNat<2^53:=by
  calc m*2^(i-la).toNat<2^(m.log2+1)*2^(i-la).toNat:=P5 hl2.2 (Ql PB)
   _=2^(m.log2+1+(i-la).toNat):=(Qc _ _ _).symm
   _<=2^53:=P7 PB PA
 have hK2: -1074<la->2^52<=m*2^(i-la).toNat:=fun q=>by
  calc 2^52<=2^(m.log2+(i-la).toNat):=P7 PB PA
   _=2^m.log2*2^(i-la).toNat:=Qc _ _ _
   _<=m*2^(i-la).toNat:=P1 _ hl2.1
 have ev:m*2^(i+1074).toNat=m*2^(i-la).toNat*2^(la+1074).toNat:=by
  rw[Qm,<-Qc,show(i-la).toNat+(la+1074).toNat=(i+1074).toNat by omega]
 have hl3:(la+1074).toNat<=2045:=by omega
 have hl4: -1074<=la:=by omega
 clear kept hla hla2
 generalize m*2^(i-la).toNat=K at*
 have hr:(la+1074).toNat*2^52+K<2047*2^52:=by omega
 rw[er,QY PA]
 have hk:=lJ (s:=s) hr
 refine⟨hk.1.trans ?_,hk.2⟩
 rw[bS,ev]
 have hv:gu ((la+1074).toNat*2^52+K)=K*2^(la+1074).toNat:=by
  unfold gu
  grind
 rw[hv]
def fh (x:Nat):Nat:=Op.negFloat .f64 x
theorem Hn (q:Nat):((q ^^^ 1) % 2==1)= !(q % 2==1):=by
 have:=Sc (a:=q) (b:=1) (n:=1)
 rw[Nat.pow_one]at this
 grind [Nat.mod_two_eq_zero_or_one]
theorem pz (x:Nat):F64.read (fh x)=(F64.read x).opposite:=by
 have e0:fh x=x ^^^ 2^63:=rfl
 have h1:(x ^^^ 2^63) % 2^63=x % 2^63:=by
  rw[Sc,Nat.mod_self,Nat.xor_zero]
 have h2:(x ^^^ 2^63)/2^63=x/2^63 ^^^ 1:=by
  rw[Nat.xor_div_two_pow]
 rw[e0]
 unfold Ieee.Format.read
 simp only[fR,jE,gq,ky]
 rw[h1,h2,Hn]
 split
 ·rfl
 ·split
  ·rfl
  ·split<;>rfl
theorem xx (s:Bool) (m a:Nat):Ieee.signed (!s) m a= -Ieee.signed s m a:=by cases s<;>simp[Ieee.signed]
theorem zc (x:Nat):key (fh x)= -key x:=by
 unfold key
 rw[pz]
 cases F64.read x with
 | nan s t=>rfl
 | infinity s=>cases s<;>simp[Ieee.Datum.opposite,mQ]
 | number s m i=>exact xx s m _
theorem ox (x:Nat):isNaN (fh x)=isNaN x:=by
 have a:isNaN (fh x)=(F64.read (fh x)).isNaN:=rfl
 have b:isNaN x=(F64.read x).isNaN:=rfl
 rw[a,b,pz]
 cases F64.read x<;>rfl
theorem Ho {s:Bool} {r:Nat} (h:r<=2047*2^52):isNaN (F64.word s r)=false:=by
 by_cases hr:r<2047*2^52
 ·exact(lJ hr).2
 ·have:r=2047*2^52:=by omega
  subst this
  cases s<;>decide
theorem kJ (s:Bool) (m:Nat) (i:Int):isNaN (F64.nearest s m i)=false:=by
 obtain⟨r,hr,e,_⟩:=tK s m i
 rw[e];exact Ho hr
theorem pA {d:Ieee.Datum} (h:d.isNaN=false):isNaN (F64.write d)=false:=by
 cases d with
 | nan s t=>simp[Ieee.Datum.isNaN]at h
 | infinity s=>cases s<;>decide
 | number s m i=>exact kJ s m i
theorem dZ {a:Nat} (h:isNaN a=false):(∃s,F64.read a= .infinity s)\/∃s m i,F64.read a= .number s m i:=by
 unfold isNaN at h
 cases hr:F64.read a with
 | nan s t=>rw[show FloatKind.f64.format.read a= .nan s t from hr]at h;simp[Ieee.Datum.isNaN]at h
 | infinity s=>grind
 | number s m i=>grind
theorem lM {a b n:Nat} {t:Bool} {j:Int} (ha:isNaN a=false) (hb:F64.read b= .number t n j) (hn:n≠0):F64.mul a b=some (eQ a b)/\isNaN (eQ a b)=false:=by
 have:∃d,(F64.read a).product (F64.read b)=some d/\d.isNaN=false:=by
  rcases dZ ha with⟨s,e⟩ | ⟨s,m,i,e⟩
  ·rw[e,hb];exact⟨_,if_neg hn,rfl⟩
  ·rw[e,hb];exact⟨_,rfl,rfl⟩
 obtain⟨d,e,hd⟩:=this
 have e2:F64.mul a b=some (F64.write d):=by unfold Ieee.Format.mul;rw[e];rfl
 unfold eQ;rw[e2]
 exact⟨rfl,pA hd⟩
theorem DJ {a b n:Nat} {t:Bool} {j:Int} (ha:isNaN a=false) (hb:F64.read b= .number t n j) (hn:n≠0):F64.div a b=some (mP a b)/\isNaN (mP a b)=false:=by
 have:∃d,Ieee.Datum.quotient (F64.fractionBits+2) (F64.read a) (F64.read b)=some d/\d.isNaN=false:=by
  rcases dZ ha with⟨s,e⟩ | ⟨s,m,i,e⟩
  ·rw[e,hb];exact⟨_,rfl,rfl⟩
  ·rw[e,hb];exact⟨_,if_neg hn,rfl⟩
 obtain⟨d,e,hd⟩:=this
 have e2:F64.div a b=some (F64.write d):=by unfold Ieee.Format.div;rw[e];rfl
 unfold mP;rw[e2]
 exact⟨rfl,pA hd⟩
end Go.Proofs.YtmmmmjcfojhiaaaGreatDoor.N
