/- gml.Write. Conditions: what the texts of numbers are. -/
import Derived.Test.YtlflalecmhgmjaaGreatDoorKNodeW
import Derived.Test.YtlflalecmhgmjaaGreatDoorWEnv
import Derived.Test.YtlflalecmhgmjaaGreatDoorYGl
set_option linter.unusedVariables false
set_option linter.unusedSimpArgs false
namespace Go.Proofs.YtlflalecmhgmjaaGreatDoor.N
open Go.Proofs.YtlflalecmhgmjaaGreatDoor
open Go.X
open Go.Proofs
set_option maxRecDepth 100000
def toDc (n:Int) (dir:Bool) (es:Es) (ls:List ByteArray) (ss:List (Nat × Nat)) (ws:List Nat):G.Dc:=⟨n.toNat,dir,es.map fun e=>(e.1.toNat,e.2.toNat),ls,ss,ws⟩
def wrV (tx:Nat->List UInt8) (n:Int) (dir:Bool) (es:Es) (ls:List ByteArray) (ss:List (Nat × Nat)) (ws:List Nat):List UInt8 × Int:=
 if docB n es ls ss ws=false then([],1)else if 262144<(G.wr tx (toDc n dir es ls ss ws)).length then([],23)else(G.wr tx (toDc n dir es ls ss ws),0)
def dB (gl:GL) (aE:Option Addr) (nE cE:Nat) (es:Es) (aL:Option Addr) (nL cL:Nat) (ls:List ByteArray) (aS:Option Addr) (nS cS:Nat) (ss:List (Nat × Nat)) (aW:Option Addr) (nW cW:Nat) (ws:List Nat) (k:Nat):List Ck:=
 dV gl aE nE cE es aL nL cL ls aS nS cS ss aW nW cW ws++[Ck.junk k]
theorem edgesL_drop (tx:Nat->List UInt8) {es:List (Nat × Nat)} {ws:List Nat} {k:Nat} {e:Nat × Nat} (h:es[k]? =some e):G.edgesL tx (es.drop k) (ws.drop k)=G.edgeL tx ws[k]? e++G.edgesL tx (es.drop (k+1)) (ws.drop (k+1)):=by
 have hk:=(List.getElem?_eq_some_iff.1 h).1
 rw[List.drop_eq_getElem_cons hk,(List.getElem?_eq_some_iff.1 h).2,G.edgesL,List.head?_drop,List.tail_drop]
section
variable {gl:GL} {h:Heap} {tx:Nat->List UInt8} {aE aL aS aW:Option Addr} {nE cE nL cL nS cS nW cW:Nat} {n:Int} {es:Es} {ls:List ByteArray} {ss:List (Nat × Nat)} {ws:List Nat} {dir:Bool}
set_option maxHeartbeats 4000000 in
theorem ok22 (Hm:Hp h (dV gl aE nE cE es aL nL cL ls aS nS cS ss aW nW cW ws)) (hsz:∀s∈ls,s.size<=9223372036854775807) (hll:ls.length<=9223372036854775807) (ht:∀p∈ss,TxAt gl tx p.1/\TxAt gl tx p.2) (htw:∀x∈ws,TxAt gl tx x):
  CallsH Tryz.prog 22 #[.agg #[.int .i64 n,.slice aE nE cE,.bool dir,.slice aL nL cL,.slice aS nS cS,.slice aW nW cW]] h fun w h'=>w= .tuple #[.string (G.mkB (wrV tx n dir es ls ss ws).1),.int .i64 (wrV tx n dir es ls ss ws).2]/\Fr [] h h':=by
 apply calls22
 unfold S22
 intro h1
 have Q1:Sq h (dV gl aE nE cE es aL nL cL ls aS nS cS ss aW nW cW ws) h1 (dB gl aE nE cE es aL nL cL ls aS nS cS ss aW nW cW ws h.size):=⟨(Sy.start Hm).junk _,fun x hx=>.inl (by simpa[rds,dB,Ck.junk]using hx)⟩
 refine callX_ofR (R:=fun v h'=>v= .bool (docB n es ls ss ws)/\Fr [] h1 h') [] ?_ (by simp) (fun _ _ r=>r.2) ?_
 ·refine (okDoc (n:=n) (es:=es) (dr:=dir) (ls:=ls) (ss:=ss) (ws:=ws) (R:=fun r=>r=docB n es ls ss ws) hsz hll rfl h1 aE nE cE aL nL cL aS nS cS aW nW cW (Q1.pick [1,2,3,4] rfl).hp).mono ?_
  rintro v h' ⟨r,Y,rfl,rfl⟩
  exact⟨rfl,Y.fr⟩
 rintro v h2 ⟨rfl,f2⟩
 have Q2:=Q1.gr f2
 refine⟨_,rfl,cnd_not (fun q=>⟨?_,Q2.fr⟩) fun q=>?_⟩
 ·unfold wrV;rw[if_pos q];rfl
 have hm:=q
 unfold docB at hm
 simp only[Bool.and_eq_true]at hm
 obtain⟨m1,m2,m3,m4,m5⟩:=hm
 obtain⟨g0,g1,gm,ge⟩:=mayN m1
 obtain⟨N,rfl⟩:∃N:Nat,n=(N:Int):=⟨n.toNat,by omega⟩
 have hN:N<=1024:=by omega
 have non:∀{a b:Nat},noneB (a:Int) (b:Int)=true->a=0\/a=b:=fun{a b} h=>by unfold noneB at h;simp at h;omega
 have hL:ls=[]\/ls.length=N:=(non m2).imp List.eq_nil_of_length_eq_zero id
 have hS:ss=[]\/ss.length=N:=(non m3).imp List.eq_nil_of_length_eq_zero id
 have hW:ws=[]\/ws.length=es.length:=(non m4).imp List.eq_nil_of_length_eq_zero id
 have hlp:∀s∈ls,s.size<=256:=fun s hs=>by
  have:=List.all_eq_true.1 m5 s hs
  unfold labB at this
  simp only[Bool.and_eq_true,decide_eq_true_eq]at this
  exact this.2
 intro h3
 obtain⟨D,hD⟩:∃D,D=toDc (N:Int) dir es ls ss ws:=⟨_,rfl⟩
 have dN:D.n=N:=by rw[hD];exact Int.toNat_natCast N
 have dL:D.labels=ls:=by rw[hD];rfl
 have dS:D.spots=ss:=by rw[hD];rfl
 have Q3:Sq h (dV gl aE nE cE es aL nL cL ls aS nS cS ss aW nW cW ws) h3 (wC h2.size false none 0 0 []++dB gl aE nE cE es aL nL cL ls aS nS cS ss aW nW cW ws h.size):=by
  have Y:=((Q2.sy.newO (ty:=83) [.pointer none,.slice none 0 0,.int .i64 0]).nilS (eK .u8) 5).pick [6,7,0,1,2,3,4,5] rfl
  exact⟨Y,fun x hx=>Q2.ri x (by simpa[rds,wC,dB,dV,Ck.ob,Ck.sl,Ck.junk,pk]using hx)⟩
 have hd:Hd [h.size] (dB gl aE nE cE es aL nL cL ls aS nS cS ss aW nW cW ws h.size):=by
  intro x hx
  simp at hx;subst hx
  exact⟨5,rfl⟩
 clear Q1 Q2
 refine putO (k:=⟨#[103,114,97,112,104]⟩) Q3 hd (by omega) (by decide) (by decide) fun A4 c4 h4 Q4=>⟨rfl,?_⟩
 change Sq h _ h4 (wC h2.size true A4 c4 1 (G.opn 0 G.kGraph++[10])++dB gl aE nE cE es aL nL cL ls aS nS cS ss aW nW cW ws h.size)at Q4
 generalize h2.size=b at*
 refine⟨fun lz h'=>lz=[.string (G.mkB (if dir=true then [49]else [48]))]/\h'=h4,cnd_b (fun e=>⟨by rw[e];rfl,rfl⟩) fun e=>⟨by rw[e];rfl,rfl⟩,?_⟩
 rintro dd h5 ⟨hdd,rfl⟩
 obtain rfl:dd=G.mkB (if dir=true then [49]else [48]):=by simpa using hdd
 refine put2 (k:=⟨#[100,105,114,101,99,116,101,100]⟩) Q4 hd (by omega) (by decide) ⟨by decide,by rw[mkB_sz];split<;>simp⟩ fun A7 c7 h7 Q7=>⟨rfl,?_⟩
 rw[mkBl]at Q7
 obtain⟨base,hb⟩:∃base,base=(G.opn 0 G.kGraph++[10])++(G.kv 2 G.kDirected (if dir=true then [49]else [48])++[10]):=⟨_,rfl⟩
 have Q7:Sq h (dV gl aE nE cE es aL nL cL ls aS nS cS ss aW nW cW ws) h7 (wC b true A7 c7 1 base++dB gl aE nE cE es aL nL cL ls aS nS cS ss aW nW cW ws h.size):=by rw[hb];exact Q7
 have bl:base.length<=100:=by
  rw[hb,List.length_append,opn_len,kv_len]
  have:(if dir=true then [(49:UInt8)]else [48]).length=1:=by split<;>rfl
  rw[this];decide
 refine⟨fun lz h'=>∃(k:Nat) (A':Option Addr) (c':Nat) (l:List UInt8),lz=[.int .i64 (k:Int)]/\k<=N/\Sq h (dV gl aE nE cE es aL nL cL ls aS nS cS ss aW nW cW ws) h' (wC b true A' c' 1 l++dB gl aE nE cE es aL nL cL ls aS nS cS ss aW nW cW ws h.size)/\
   l++G.linesT (G.nodesL tx D (N-k) k)=base++G.linesT (G.nodesL tx D N 0)/\l.length<=100+4000*k,
  fun lz _=>match lz with | [.int _ i]=>((N:Int)-i).toNat | _=>0,⟨0,A7,c7,base,rfl,by omega,Q7,rfl,by omega⟩,?_⟩
 rintro x h8 ⟨k,A8,c8,l8,hx,hk,Q8,e8,b8⟩
 obtain rfl:x=(k:Int):=by simpa using hx
 refine cnd_dec (fun hlt=>?_) fun hlt=>?_
 ·have Q8':Sq h (dV gl aE nE cE es aL nL cL ls aS nS cS ss aW nW cW ws) h8 ((wC b true A8 c8 1 l8++dV gl aE nE cE es aL nL cL ls aS nS cS ss aW nW cW ws)++[Ck.junk h.size]):=Q8
  have hd1:Hd [h.size] [Ck.junk h.size]:=by
   intro x hx
   simp at hx;subst hx
   exact⟨0,rfl⟩
  refine callX_ofR (owns (wC b true A8 c8 1 l8++dV gl aE nE cE es aL nL cL ls aS nS cS ss aW nW cW ws)) (ok53 (tx:=tx) (n:=N) (v:=k) (dir:=dir) (Q8'.pick [0,1,2,3,4,5,6] rfl).hp (by omega) hN hL hS hlp ht (by omega)) (fun x hx=>(hd1.apart Q8' x hx).2) (fun _ _ r=>r.2.1.choose_spec.choose_spec.fr) ?_
  rintro v h9 ⟨rfl,⟨A9,c9,q9⟩,b9⟩
  have Q9:=Sq.call Q8' q9
  have hw:IntKind.i64.wrap ((k:Int)+1)=((k+1:Nat):Int):=by rw[wr (by omega) (by omega)];omega
  rw[hw]
  refine⟨rfl,⟨k+1,A9,c9,_,rfl,by omega,Q9,?_,by omega⟩,by dsimp only;omega⟩
  rw[<-e8,show N-k=(N-(k+1))+1 by omega,G.nodesL,dL,dS,G.linesT_app,List.append_assoc]
 have hkN:k=N:=by omega
 subst hkN
 rw[Nat.sub_self]at e8
 have e8:l8=base++G.linesT (G.nodesL tx D k 0):=by simpa[G.nodesL,G.linesT]using e8
 obtain⟨base2,hb2⟩:∃base2,base2=l8:=⟨_,rfl⟩
 have lE:=Q8.sy.lenV 3 rfl
 have lW:=Q8.sy.lenV 6 rfl
 have dE:D.edges=es.map fun e=>(e.1.toNat,e.2.toNat):=by rw[hD];rfl
 have dW:D.weights=ws:=by rw[hD];rfl
 refine⟨fun lz h'=>∃(j:Nat) (A':Option Addr) (c':Nat) (l:List UInt8),lz=[.int .i64 (j:Int)]/\j<=es.length/\Sq h (dV gl aE nE cE es aL nL cL ls aS nS cS ss aW nW cW ws) h' (wC b true A' c' 1 l++dB gl aE nE cE es aL nL cL ls aS nS cS ss aW nW cW ws h.size)/\
   l++G.linesT (G.edgesL tx (D.edges.drop j) (ws.drop j))=base2++G.linesT (G.edgesL tx D.edges ws)/\l.length<=5000000+1000*j,
  fun lz _=>match lz with | [.int _ i]=>((es.length:Int)-i).toNat | _=>0,⟨0,A8,c8,l8,rfl,by omega,Q8,by rw[hb2];rfl,by omega⟩,?_⟩
 rintro x h10 ⟨j,A10,c10,l10,hx,hj,Q10,e10,b10⟩
 obtain rfl:x=(j:Int):=by simpa using hx
 refine cnd_dec (fun hlt=>?_) fun hlt=>?_
 ·have hjl:j<es.length:=by omega
  have hx:es[j]? =some es[j]:=List.getElem?_eq_getElem hjl
  generalize es[j]=e at hx
  obtain⟨⟨z1,z2⟩,z3,z4⟩:=ge j e hx
  obtain⟨p,o,ea,_⟩:=Q10.sy.atV 3 rfl (i:=(j:Int)) (by omega) (by omega)
  refine⟨p,o,ea,by omega,by omega,e.1,Q10.sy.cellV 3 rfl ea (i:=j) (t:=0) hx rfl,e.2,Q10.sy.cellV 3 rfl ea (i:=j) (t:=1) hx rfl,?_⟩
  intro h11 h12
  have Q12:Sq h (dV gl aE nE cE es aL nL cL ls aS nS cS ss aW nW cW ws) h12 (wC b true A10 c10 1 l10++(dB gl aE nE cE es aL nL cL ls aS nS cS ss aW nW cW ws h.size++[Ck.junk h10.size])):=by
   have Y:=(((Q10.sy.newO (ty:=48) [.int .i64 0,.int .i64 0]).stO 8 rfl 0 (.int .i64 e.1)).stO 8 rfl 1 (.int .i64 e.2)).turn 8 rfl To.sljunk
   exact⟨Y,fun x hx=>Q10.ri x (by simpa[rds,wC,dB,dV,Ck.ob,Ck.sl,Ck.junk]using hx)⟩
  have hd2:Hd [h10.size,h.size] (dB gl aE nE cE es aL nL cL ls aS nS cS ss aW nW cW ws h.size++[Ck.junk h10.size]):=by
   intro x hx
   simp at hx
   rcases hx with rfl | rfl
   ·exact ⟨6,rfl⟩
   ·exact ⟨5,rfl⟩
  have hd3:Hd [h.size] (dB gl aE nE cE es aL nL cL ls aS nS cS ss aW nW cW ws h.size++[Ck.junk h10.size]):=fun x hx=>hd2 x (by simp at hx;simp[hx])
  clear_value h12
  refine putO (k:=⟨#[101,100,103,101]⟩) Q12 hd2 (by omega) (by omega) (by decide) fun A13 c13 h13 Q13=>⟨rfl,?_⟩
  change Sq h _ h13 (wC b true A13 c13 2 (l10++(G.opn 2 G.kEdge++[10]))++_)at Q13
  have e13:(l10++(G.opn 2 G.kEdge++[10])).length=l10.length+9:=by rw[List.length_append,opn_len];rfl
  have gB:∀{A:Option Addr} {c d:Nat} {l:List UInt8} {h':Heap},Sq h (dV gl aE nE cE es aL nL cL ls aS nS cS ss aW nW cW ws) h' (wC b true A c d l++(dB gl aE nE cE es aL nL cL ls aS nS cS ss aW nW cW ws h.size++[Ck.junk h10.size]))->Gl gl h':=fun{A c d l h'} Q=>Q.sy.ok (k:=2) (c:=Ck.glob gl) rfl
  obtain⟨u1,hu1⟩:∃u:Nat,e.1=(u:Int):=⟨e.1.toNat,by omega⟩
  obtain⟨u2,hu2⟩:∃u:Nat,e.2=(u:Int):=⟨e.2.toNat,by omega⟩
  rw[hu1,hu2]
  refine callX_ofR [] (ok54 (n:=u1) (gB Q13) (by omega)) (by simp) (fun _ _ r=>r.2) ?_
  rintro w h14 ⟨rfl,f14⟩
  have d1:=dec_len9 (n:=u1) (by omega)
  have d2:=dec_len9 (n:=u2) (by omega)
  refine⟨_,rfl,put2 (k:=⟨#[115,111,117,114,99,101]⟩) (Q13.gr f14) hd2 (by omega) (by omega) ⟨by decide,by rw[mkB_sz];omega⟩ fun A16 c16 h16 Q16=>⟨rfl,?_⟩⟩
  rw[mkBl]at Q16
  change Sq h _ h16 (wC b true A16 c16 2 (l10++(G.opn 2 G.kEdge++[10])++(G.kv 4 G.kSource (G.dec u1)++[10]))++_)at Q16
  have e16:(l10++(G.opn 2 G.kEdge++[10])++(G.kv 4 G.kSource (G.dec u1)++[10])).length<=l10.length+50:=by rw[List.length_append,e13,kv_len];show _+(4+6+_+2)<=_;omega
  refine callX_ofR [] (ok54 (n:=u2) (gB Q16) (by omega)) (by simp) (fun _ _ r=>r.2) ?_
  rintro w h17 ⟨rfl,f17⟩
  refine⟨_,rfl,put2 (k:=⟨#[116,97,114,103,101,116]⟩) (Q16.gr f17) hd2 (by omega) (by omega) ⟨by decide,by rw[mkB_sz];omega⟩ fun A19 c19 h19 Q19=>⟨rfl,?_⟩⟩
  rw[mkBl]at Q19
  change Sq h _ h19 (wC b true A19 c19 2 (l10++(G.opn 2 G.kEdge++[10])++(G.kv 4 G.kSource (G.dec u1)++[10])++(G.kv 4 G.kTarget (G.dec u2)++[10]))++_)at Q19
  have e19:(l10++(G.opn 2 G.kEdge++[10])++(G.kv 4 G.kSource (G.dec u1)++[10])++(G.kv 4 G.kTarget (G.dec u2)++[10])).length<=l10.length+100:=by rw[List.length_append,kv_len];show _+(4+6+_+2)<=_;omega
  generalize hl19:l10++(G.opn 2 G.kEdge++[10])++(G.kv 4 G.kSource (G.dec u1)++[10])++(G.kv 4 G.kTarget (G.dec u2)++[10])=l19 at*
  obtain⟨l20,hl20⟩:∃l20,l20=l19++G.linesT (match ws[j]? with | some x=>[G.kv 4 G.kWeight (tx x)] | none=>[]):=⟨_,rfl⟩
  have e20:l20.length<=l10.length+400:=by
   rw[hl20,List.length_append]
   cases q:ws[j]? with
   | none=>simp[G.linesT];omega
   | some x=>
    have:=(htw x (List.mem_of_getElem? q)).2
    simp only[G.linesT,List.flatMap_cons,List.flatMap_nil,List.append_nil]
    rw[kv_len]
    have:G.kWeight.length=6:=rfl
    omega
  refine⟨fun lz h'=>lz=[]/\∃A' c',Sq h (dV gl aE nE cE es aL nL cL ls aS nS cS ss aW nW cW ws) h' (wC b true A' c' 2 l20++(dB gl aE nE cE es aL nL cL ls aS nS cS ss aW nW cW ws h.size++[Ck.junk h10.size])),cnd_dec (fun q=>?_) fun q=>⟨rfl,A19,c19,?_⟩,?_⟩
  ·have hlen:j<ws.length:=by rcases hW with rfl | e<;>simp at* <;>omega
   have hxw:ws[j]? =some ws[j]:=List.getElem?_eq_getElem hlen
   generalize ws[j]=x at hxw
   obtain⟨t1,t2⟩:=htw x (List.mem_of_getElem? hxw)
   obtain⟨p,o,ea,_⟩:=Q19.sy.atV 6 rfl (i:=(j:Int)) (by omega) (by omega)
   refine⟨p,o,ea,by omega,by omega,x,Q19.sy.cellV 6 rfl ea (i:=j) (t:=0) hxw rfl,?_⟩
   refine callX_ofR [] (t1 _ (gB Q19)) (by simp) (fun _ _ r=>r.2) ?_
   rintro w h20 ⟨rfl,f20⟩
   refine⟨_,rfl,put2 (k:=⟨#[119,101,105,103,104,116]⟩) (Q19.gr f20) hd2 (by omega) (by omega) ⟨by decide,by rw[mkB_sz];omega⟩ fun A22 c22 h22 Q22=>⟨rfl,rfl,A22,c22,?_⟩⟩
   rw[mkBl]at Q22
   change Sq h _ h22 (wC b true A22 c22 2 (l19++(G.kv 4 G.kWeight (tx x)++[10]))++_)at Q22
   have e0:l20=l19++(G.kv 4 G.kWeight (tx x)++[10]):=by rw[hl20,hxw];simp[G.linesT]
   rw[e0];exact Q22
  ·have:ws[j]? =none:=by rw[List.getElem?_eq_none];omega
   have e0:l20=l19:=by rw[hl20,this];simp[G.linesT]
   rw[e0];exact Q19
  rintro h23 ⟨_,A23,c23,Q23⟩
  refine putC (d:=1) Q23 hd3 (by omega) (by omega) fun A24 c24 h24 Q24=>⟨rfl,?_⟩
  have hw:IntKind.i64.wrap ((j:Int)+1)=((j+1:Nat):Int):=by rw[wr (by omega) (by omega)];omega
  rw[hw]
  have Q25:Sq h (dV gl aE nE cE es aL nL cL ls aS nS cS ss aW nW cW ws) h24 (wC b true A24 c24 1 (l20++(G.cls 2++[10]))++dB gl aE nE cE es aL nL cL ls aS nS cS ss aW nW cW ws h.size):=Q24.pick [0,1,2,3,4,5,6,7] rfl
  refine⟨⟨j+1,A24,c24,_,rfl,by omega,Q25,?_,by rw[List.length_append,cls_len];omega⟩,by dsimp only;omega⟩
  have hxD:D.edges[j]? =some (u1,u2):=by
   rw[dE,List.getElem?_map,hx]
   simp[hu1,hu2]
  rw[edgesL_drop tx hxD]at e10
  rw[<-e10,hl20,<-hl19]
  have e0:G.linesT [G.cls 2]=G.cls 2++[10]:=by simp[G.linesT]
  unfold G.edgeL
  rw[G.linesT_app,G.linesT_cons,G.linesT_cons,G.linesT_cons,G.linesT_app,e0]
  simp only[List.append_assoc,List.cons_append,List.nil_append]
  rfl
 have hjE:j=es.length:=by omega
 have e10:l10=base2++G.linesT (G.edgesL tx D.edges ws):=by
  have h1:D.edges.drop j=[]:=List.drop_eq_nil_of_le (by rw[dE,List.length_map];omega)
  rw[h1]at e10
  simpa[G.edgesL,G.linesT]using e10
 refine putC (d:=0) Q10 hd (by omega) (by omega) fun A26 c26 h25 Q26=>⟨rfl,?_⟩
 have eW:l10++(G.cls (2*0)++[10])=G.wr tx D:=by
  have e0:G.linesT [G.cls 0]=G.cls 0++[10]:=by simp[G.linesT]
  unfold G.wr G.docL
  have dd:D.dir=dir:=by rw[hD];rfl
  rw[G.linesT_cons,G.linesT_cons,G.linesT_app,G.linesT_app,e0,e10,hb2,e8,hb,dN,dW,dd]
  simp only[List.append_assoc,List.cons_append,List.nil_append]
 rw[eW]at Q26
 have hv:wrV tx (k:Int) dir es ls ss ws=if 262144<(G.wr tx D).length then([],23)else(G.wr tx D,0):=by
  unfold wrV;rw[if_neg (by rw[q];decide),<-hD]
 refine callX_ofR (R:=fun v h'=>v= .int .i64 ((G.wr tx D).length:Int)/\Fr [] h25 h') [] ((ok43 (wC_pick Q26)).mono fun v h' r=>⟨r.1,by rw[r.2];exact Fr.refl _ _⟩) (by simp) (fun _ _ r=>r.2) ?_
 rintro v h26 ⟨rfl,f26⟩
 have Q27:=Q26.gr f26
 refine⟨_,rfl,cnd_dec (fun q2=>⟨?_,Q27.fr⟩) fun q2=>?_⟩
 ·rw [hv,if_pos (by omega)];rfl
 refine callX_ofR (owns (wC b true A26 c26 0 (G.wr tx D))) (ok44 (wC_pick Q27) ?_) (fun x hx=>(hd.apart Q27 x hx).2) (fun _ _ r=>r.2) ?_
 ·unfold G.wr G.docL;rw[G.linesT_cons];simp[G.opn,G.kv,G.kGraph]
 rintro v h27 ⟨rfl,f27⟩
 refine⟨_,rfl,?_,Sq.frA Q27 f27⟩
 rw[hv,if_neg (by omega)]
end
end Go.Proofs.YtlflalecmhgmjaaGreatDoor.N
namespace Go.Proofs.YtlflalecmhgmjaaGreatDoor.N
open Go.Proofs.YtlflalecmhgmjaaGreatDoor
open Go.X
set_option maxRecDepth 100000
set_option maxHeartbeats 2000000
def S113 (s1A:Option Addr) (s1L s1C:Nat) (s2A:Option Addr) (s2L s2C:Nat) (h:Heap) (R:Value->Heap->Prop):Prop:=
 cnd (((s1L:Nat):Int) != ((s2L:Nat):Int))
  (R (.bool false) h)
  (∃(d:List Value->Heap->Prop) (e:List Value->Heap->Nat),d [.int .i64 0] h/\
  ∀a:Int,∀c,d [.int .i64 a] c->
  cnd (decide (a<((s1L:Nat):Int)))
   (∃b o,s1A=some ⟨b,o,none⟩/\0<=a/\a<(s1L:Nat)/\∃f:Int,hcell c b (o+(Int.toNat a)*2)=some (.int .i64 f)/\∃g:Int,hcell c b ((o+(Int.toNat a)*2)+1)=some (.int .i64 g)/\∃b2 o2,s2A=some ⟨b2,o2,none⟩/\0<=a/\a<(s2L:Nat)/\∃i:Int,hcell c b2 (o2+(Int.toNat a)*2)=some (.int .i64 i)/\∃j:Int,hcell c b2 ((o2+(Int.toNat a)*2)+1)=some (.int .i64 j)/\cnd (!((f==i)&&(g==j)))
    (R (.bool false) c)
    (d [.int .i64 (IntKind.i64.wrap (a+(1:Int)))] c/\e [.int .i64 (IntKind.i64.wrap (a+(1:Int)))] c<e [.int .i64 a] c))
   (R (.bool true) c))
theorem calls113 {h:Heap} {R:Value->Heap->Prop} (s1A:Option Addr) (s1L s1C:Nat) (s2A:Option Addr) (s2L s2C:Nat) (H:S113 s1A s1L s1C s2A s2L s2C h R):CallsH Tryz.prog 113 #[.slice s1A s1L s1C,.slice s2A s2L s2C] h R:=by
 have e:S113 s1A s1L s1C s2A s2L s2C h R=FX (envX [] 26) {loops:=[(0,⟨[0,1,12],[13],[],[]⟩)],joins:=[],blocks:=[],draws:=[(6,⟨9,false⟩)]} Tryz.f113 (Tryz.f113.body.getD .skip) [.slice s1A s1L s1C,.slice s2A s2L s2C] h R:=by kernel_rfl
 exact calls_of_FX (envX_ok _ _) Tryz.func113 (by kernel_rfl) (by kernel_rfl) (by kernel_rfl) (e▸H)
def Ok113 (s1V:List (Int × Int)) (s2V:List (Int × Int)) (R:Bool->Prop):Prop:=
 ∀(h:Heap) (s1A:Option Addr) (s1L s1C:Nat) (s2A:Option Addr) (s2L s2C:Nat),Hp h [Ck.vw eP s1A s1L s1C s1V,Ck.vw eP s2A s2L s2C s2V]->CallsH Tryz.prog 113 #[.slice s1A s1L s1C,.slice s2A s2L s2C] h fun v h'=>∃(rV:Bool),Sy h [] h' []/\v= .bool rV/\R rV
def T113 (s1V:List (Int × Int)) (s2V:List (Int × Int)) (R:Bool->Prop):Prop:=
 cnd (((s1V.length:Nat):Int) != ((s2V.length:Nat):Int))
  (R false)
  (∃(b:Int->Prop) (e:Int->Nat),b 0/\
  ∀a:Int,b a->
  cnd (decide (a<((s1V.length:Nat):Int)))
   (0<=a/\a<((s1V.length:Nat):Int)/\∀c:(Int × Int),s1V[(Int.toNat a)]? =some c->0<=a/\a<((s2V.length:Nat):Int)/\∀d:(Int × Int),s2V[(Int.toNat a)]? =some d->cnd (!((c.1==d.1)&&(c.2==d.2)))
    (R false)
    (b (IntKind.i64.wrap (a+(1:Int)))/\e (IntKind.i64.wrap (a+(1:Int)))<e a))
   (R true))
theorem ok113 {s1V s2V} {R:Bool->Prop} (T:T113 s1V s2V R):Ok113 s1V s2V R:=by
 intro h s1A s1L s1C s2A s2L s2C H
 have Y:Sy h [] h _:=Sy.startM H rfl
 obtain rfl:=Y.lenV 0 rfl
 obtain rfl:=Y.lenV 1 rfl
 apply calls113
 unfold S113
 unfold T113 at T
 refine cnd_imp T (fun T=>?_) (fun T=>?_)
 ·exact ⟨_,Y.pick [] rfl,rfl,T⟩
 ·obtain ⟨Iv,m,T0,T1⟩:=T
  obtain⟨B,hB,YB⟩:=Y.cut [] [0,1] rfl
  obtain⟨JJ,hJJ⟩:∃JJ:Nat->List Value->Heap->Prop,JJ=(fun k lz h'=>∃(x:Int),lz=[.int .i64 x]/\Sy h [] h' ([]++B)/\Iv x/\m x=k):=⟨_,rfl⟩
  refine⟨fun lz h'=>∃k,JJ k lz h',Lm JJ,?_,?_⟩
  ·subst hJJ hB
   exact⟨_,_,rfl,YB,T0,rfl⟩
  ·clear YB T0 Y
   intro x hv hI
   obtain⟨k,hI,hm⟩:=loopIn hI
   subst hJJ hB
   obtain⟨x,e,Y,T,rfl⟩:=hI
   cases e
   replace T:=T1 x T
   have Y:Sy _ _ _ [_,_]:=Y
   refine cnd_imp T (fun T=>?_) (fun T=>?_)
   ·have Y0:=Y
    have F:Fr [] hv hv:=Fr.refl _ _
    obtain⟨q,q_2,T⟩:=T
    obtain⟨b_2,o_2,hb,hr,s,hx⟩:=Y0.atV 0 rfl q q_2
    refine⟨b_2,o_2,hb,q,q_2,?_⟩
    replace T:=T s hx
    refine⟨_,Y0.cellV 0 rfl hb (t:=0) hx rfl,?_⟩
    refine⟨_,Y0.cellV 0 rfl hb (t:=1) hx rfl,?_⟩
    obtain⟨q_3,q_4,T⟩:=T
    obtain⟨b_3,o_3,hb_2,hr_2,s_2,hx_2⟩:=Y0.atV 1 rfl q_3 q_4
    refine⟨b_3,o_3,hb_2,q_3,q_4,?_⟩
    replace T:=T s_2 hx_2
    refine⟨_,Y0.cellV 1 rfl hb_2 (t:=0) hx_2 rfl,?_⟩
    refine⟨_,Y0.cellV 1 rfl hb_2 (t:=1) hx_2 rfl,?_⟩
    refine cnd_imp T (fun T=>?_) (fun T=>?_)
    ·exact ⟨_,Y.pick [] rfl,rfl,T⟩
    ·exact loopBack hm ⟨_,rfl,Y.pick [0,1] rfl,T.1,rfl⟩ T.2
   ·exact ⟨_,Y.pick [] rfl,rfl,T⟩
def S61 (x:Nat) (y:Nat) (h:Heap) (R:Value->Heap->Prop):Prop:=
 let a:=fun(l:Bool) (f:Heap)=>
  (R (.bool l) f)
 cnd ((FloatKind.f64).format.order x x != some .eq)
  (cnd ((FloatKind.f64).format.order y y != some .eq)
   (R (.bool true) h)
   (callE Tryz.prog 101 #[.float .f64 x] fun g=>
   ∃b:Int,g= .int .u64 b/\
   callE Tryz.prog 101 #[.float .f64 y] fun i=>
   ∃c:Int,i= .int .u64 c/\
   a (b==c) h))
  (callE Tryz.prog 101 #[.float .f64 x] fun j=>
  ∃d:Int,j= .int .u64 d/\
  callE Tryz.prog 101 #[.float .f64 y] fun k=>
  ∃e:Int,k= .int .u64 e/\
  a (d==e) h)
theorem calls61 {h:Heap} {R:Value->Heap->Prop} (x:Nat) (y:Nat) (H:S61 x y h R):CallsH Tryz.prog 61 #[.float .f64 x,.float .f64 y] h R:=by
 have e:S61 x y h R=FX (envX [] 20) {loops:=[],joins:=[],blocks:=[],draws:=[]} Tryz.f61 (Tryz.f61.body.getD .skip) [.float .f64 x,.float .f64 y] h R:=by kernel_rfl
 exact calls_of_FX (envX_ok _ _) Tryz.func61 (by kernel_rfl) (by kernel_rfl) (by kernel_rfl) (e▸H)
def Ok61 (x:Nat) (y:Nat) (R:Bool->Prop):Prop:=
 ∀(h:Heap),Hp h []->CallsH Tryz.prog 61 #[.float .f64 x,.float .f64 y] h fun v h'=>∃(rV:Bool),Sy h [] h' []/\v= .bool rV/\R rV
def T61 (x:Nat) (y:Nat) (R:Bool->Prop):Prop:=
 ∃a:Bool->Prop,
 (cnd ((FloatKind.f64).format.order x x != some .eq)
   (cnd ((FloatKind.f64).format.order y y != some .eq)
    (R true)
    (callE Tryz.prog 101 #[.float .f64 x] fun g=>
    ∃b:Int,g= .int .u64 b/\
    callE Tryz.prog 101 #[.float .f64 y] fun h=>
    ∃c:Int,h= .int .u64 c/\
    a (b==c)))
   (callE Tryz.prog 101 #[.float .f64 x] fun i=>
   ∃d:Int,i= .int .u64 d/\
   callE Tryz.prog 101 #[.float .f64 y] fun j=>
   ∃e:Int,j= .int .u64 e/\
   a (d==e)))/\
 ∀f:Bool,a f->
 R f
theorem ok61 {x y} {R:Bool->Prop} (T:T61 x y R):Ok61 x y R:=by
 intro h H
 have Y:Sy h [] h _:=Sy.startM H rfl
 apply calls61
 unfold S61
 unfold T61 at T
 obtain⟨Jv,T0,T1⟩:=T
 obtain⟨B,hB,_⟩:=Y.cut [] [] rfl
 intro K
 have hK:∀(x2:Bool) (hv:Heap),(Sy h [] hv ([]++B)/\Jv x2)->K x2 hv:=by
  subst hB
  clear T0 Y
  rintro x2 hv ⟨Y,T⟩
  replace T:=T1 x2 T
  have Y:Sy _ _ _ []:=Y
  unfold K
  exact⟨_,Y.pick [] rfl,rfl,T⟩
 subst hB
 replace T:=T0
 clear T0 T1
 refine cnd_imp T (fun T=>?_) (fun T=>?_)
 ·refine cnd_imp T (fun T=>?_) (fun T=>?_)
  ·exact ⟨_,Y.pick [] rfl,rfl,T⟩
  ·obtain ⟨Rx_2,hx_2,T⟩:=T
   refine⟨Rx_2,hx_2,fun v hv=>?_⟩
   obtain⟨r,rfl,T⟩:=T v hv
   refine⟨r,rfl,?_⟩
   obtain⟨Rx,hx,T⟩:=T
   refine⟨Rx,hx,fun v2 hv=>?_⟩
   obtain⟨r2,rfl,T⟩:=T v2 hv
   refine⟨r2,rfl,?_⟩
   exact hK _ _ ⟨Y.pick [] rfl,T⟩
 ·obtain ⟨Rx_4,hx_4,T⟩:=T
  refine⟨Rx_4,hx_4,fun v3 hv=>?_⟩
  obtain⟨r3,rfl,T⟩:=T v3 hv
  refine⟨r3,rfl,?_⟩
  obtain⟨Rx_3,hx_3,T⟩:=T
  refine⟨Rx_3,hx_3,fun v4 hv=>?_⟩
  obtain⟨r4,rfl,T⟩:=T v4 hv
  refine⟨r4,rfl,?_⟩
  exact hK _ _ ⟨Y.pick [] rfl,T⟩
def S62 (a:Int) (aA:Option Addr) (aL aC:Nat) (b:Int) (bA:Option Addr) (bL bC:Nat) (h:Heap) (R:Value->Heap->Prop):Prop:=
 let c:Heap:=h.push (.cells #[.int .i64 a,.slice aA aL aC] 24)
 let d:Heap:=c.push (.cells #[.int .i64 b,.slice bA bL bC] 24)
 cnd (a==b)
  (callX Tryz.prog 113 #[.slice aA aL aC,.slice bA bL bC] d [c.size,h.size] fun g f=>
  ∃e:Bool,g= .bool e/\
  R (.bool e) f)
  (R (.bool false) d)
theorem calls62 {h:Heap} {R:Value->Heap->Prop} (a:Int) (aA:Option Addr) (aL aC:Nat) (b:Int) (bA:Option Addr) (bL bC:Nat) (H:S62 a aA aL aC b bA bL bC h R):CallsH Tryz.prog 62 #[.agg #[.int .i64 a,.slice aA aL aC],.agg #[.int .i64 b,.slice bA bL bC]] h R:=by
 have e:S62 a aA aL aC b bA bL bC h R=FX (envX [2,3] 17) {loops:=[],joins:=[],blocks:=[],draws:=[]} Tryz.f62 (Tryz.f62.body.getD .skip) [.agg #[.int .i64 a,.slice aA aL aC],.agg #[.int .i64 b,.slice bA bL bC]] h R:=by kernel_rfl
 exact calls_of_FX (envX_ok _ _) Tryz.func62 (by kernel_rfl) (by kernel_rfl) (by kernel_rfl) (e▸H)
def Ok62 (a:Int) (edgesV:List (Int × Int)) (b:Int) (edgesV2:List (Int × Int)) (R:Bool->Prop):Prop:=
 ∀(h:Heap) (aA:Option Addr) (aL aC:Nat) (bA:Option Addr) (bL bC:Nat),Hp h [Ck.vw eP aA aL aC edgesV,Ck.vw eP bA bL bC edgesV2]->CallsH Tryz.prog 62 #[.agg #[.int .i64 a,.slice aA aL aC],.agg #[.int .i64 b,.slice bA bL bC]] h fun v h'=>∃(rV:Bool),Sy h [] h' []/\v= .bool rV/\R rV
def T62 (a:Int) (edgesV:List (Int × Int)) (b:Int) (edgesV2:List (Int × Int)) (R:Bool->Prop):Prop:=
 cnd (a==b)
  (Ok113 edgesV edgesV2 (fun c=>
  R c))
  (R false)
theorem ok62 {a edgesV b edgesV2} {R:Bool->Prop} (T:T62 a edgesV b edgesV2 R):Ok62 a edgesV b edgesV2 R:=by
 intro h aA aL aC bA bL bC H
 have Y:Sy h [] h _:=Sy.startM H rfl
 obtain rfl:=Y.lenV 0 rfl
 obtain rfl:=Y.lenV 1 rfl
 apply calls62
 unfold S62
 unfold T62 at T
 intro hv
 have Y:Sy _ _ hv [_,_,_]:=Y.junk _
 clear_value hv
 intro hv2
 have Y:Sy _ _ hv2 [_,_,_,_]:=Y.junk _
 clear_value hv2
 refine cnd_imp T (fun T=>?_) (fun T=>?_)
 ·refine callX_sy (T _ _ _ _ _ _ _ (Y.pick [0,1] rfl).hp) (fun _ _ ⟨_,p,_⟩=>p.fr) (allc (fun h=>by cases h) (allc (fun h=>by cases h) alln)) ?_
  rintro v hv3 ⟨r,PP,rfl,T⟩
  have Y:Sy _ _ hv3 [_,_,_,_]:=Y.gr PP.fr
  clear PP
  refine⟨r,rfl,?_⟩
  exact⟨_,Y.pick [] rfl,rfl,T⟩
 ·exact ⟨_,Y.pick [] rfl,rfl,T⟩
def S63 (s1A:Option Addr) (s1L s1C:Nat) (s2A:Option Addr) (s2L s2C:Nat) (h:Heap) (R:Value->Heap->Prop):Prop:=
 cnd (((s1L:Nat):Int) != ((s2L:Nat):Int))
  (R (.bool false) h)
  (∃(d:List Value->Heap->Prop) (e:List Value->Heap->Nat),d [.int .i64 0] h/\
  ∀a:Int,∀c,d [.int .i64 a] c->
  cnd (decide (a<((s1L:Nat):Int)))
   (∃b o,s1A=some ⟨b,o,none⟩/\0<=a/\a<(s1L:Nat)/\∃f:ByteArray,hcell c b (o+(Int.toNat a)*1)=some (.string f)/\∃b2 o2,s2A=some ⟨b2,o2,none⟩/\0<=a/\a<(s2L:Nat)/\∃g:ByteArray,hcell c b2 (o2+(Int.toNat a)*1)=some (.string g)/\cnd (!(f.toList==g.toList))
    (R (.bool false) c)
    (d [.int .i64 (IntKind.i64.wrap (a+(1:Int)))] c/\e [.int .i64 (IntKind.i64.wrap (a+(1:Int)))] c<e [.int .i64 a] c))
   (R (.bool true) c))
theorem calls63 {h:Heap} {R:Value->Heap->Prop} (s1A:Option Addr) (s1L s1C:Nat) (s2A:Option Addr) (s2L s2C:Nat) (H:S63 s1A s1L s1C s2A s2L s2C h R):CallsH Tryz.prog 63 #[.slice s1A s1L s1C,.slice s2A s2L s2C] h R:=by
 have e:S63 s1A s1L s1C s2A s2L s2C h R=FX (envX [] 26) {loops:=[(0,⟨[0,1,12],[13],[],[]⟩)],joins:=[],blocks:=[],draws:=[(6,⟨9,false⟩)]} Tryz.f63 (Tryz.f63.body.getD .skip) [.slice s1A s1L s1C,.slice s2A s2L s2C] h R:=by kernel_rfl
 exact calls_of_FX (envX_ok _ _) Tryz.func63 (by kernel_rfl) (by kernel_rfl) (by kernel_rfl) (e▸H)
def Ok63 (s1V:List ByteArray) (s2V:List ByteArray) (R:Bool->Prop):Prop:=
 ∀(h:Heap) (s1A:Option Addr) (s1L s1C:Nat) (s2A:Option Addr) (s2L s2C:Nat),Hp h [Ck.vw eS s1A s1L s1C s1V,Ck.vw eS s2A s2L s2C s2V]->CallsH Tryz.prog 63 #[.slice s1A s1L s1C,.slice s2A s2L s2C] h fun v h'=>∃(rV:Bool),Sy h [] h' []/\v= .bool rV/\R rV
def T63 (s1V:List ByteArray) (s2V:List ByteArray) (R:Bool->Prop):Prop:=
 cnd (((s1V.length:Nat):Int) != ((s2V.length:Nat):Int))
  (R false)
  (∃(b:Int->Prop) (c:Int->Nat),b 0/\
  ∀a:Int,b a->
  cnd (decide (a<((s1V.length:Nat):Int)))
   (0<=a/\a<((s1V.length:Nat):Int)/\∀d:ByteArray,s1V[(Int.toNat a)]? =some d->0<=a/\a<((s2V.length:Nat):Int)/\∀e:ByteArray,s2V[(Int.toNat a)]? =some e->cnd (!(d.toList==e.toList))
    (R false)
    (b (IntKind.i64.wrap (a+(1:Int)))/\c (IntKind.i64.wrap (a+(1:Int)))<c a))
   (R true))
theorem ok63 {s1V s2V} {R:Bool->Prop} (T:T63 s1V s2V R):Ok63 s1V s2V R:=by
 intro h s1A s1L s1C s2A s2L s2C H
 have Y:Sy h [] h _:=Sy.startM H rfl
 obtain rfl:=Y.lenV 0 rfl
 obtain rfl:=Y.lenV 1 rfl
 apply calls63
 unfold S63
 unfold T63 at T
 refine cnd_imp T (fun T=>?_) (fun T=>?_)
 ·exact ⟨_,Y.pick [] rfl,rfl,T⟩
 ·obtain ⟨Iv,m,T0,T1⟩:=T
  obtain⟨B,hB,YB⟩:=Y.cut [] [0,1] rfl
  obtain⟨JJ,hJJ⟩:∃JJ:Nat->List Value->Heap->Prop,JJ=(fun k lz h'=>∃(x:Int),lz=[.int .i64 x]/\Sy h [] h' ([]++B)/\Iv x/\m x=k):=⟨_,rfl⟩
  refine⟨fun lz h'=>∃k,JJ k lz h',Lm JJ,?_,?_⟩
  ·subst hJJ hB
   exact⟨_,_,rfl,YB,T0,rfl⟩
  ·clear YB T0 Y
   intro x hv hI
   obtain⟨k,hI,hm⟩:=loopIn hI
   subst hJJ hB
   obtain⟨x,e,Y,T,rfl⟩:=hI
   cases e
   replace T:=T1 x T
   have Y:Sy _ _ _ [_,_]:=Y
   refine cnd_imp T (fun T=>?_) (fun T=>?_)
   ·have Y0:=Y
    have F:Fr [] hv hv:=Fr.refl _ _
    obtain⟨q,q_2,T⟩:=T
    obtain⟨b_2,o_2,hb,hr,s,hx⟩:=Y0.atV 0 rfl q q_2
    refine⟨b_2,o_2,hb,q,q_2,?_⟩
    replace T:=T s hx
    refine⟨_,Y0.cellV 0 rfl hb (t:=0) hx rfl,?_⟩
    obtain⟨q_3,q_4,T⟩:=T
    obtain⟨b_3,o_3,hb_2,hr_2,s_2,hx_2⟩:=Y0.atV 1 rfl q_3 q_4
    refine⟨b_3,o_3,hb_2,q_3,q_4,?_⟩
    replace T:=T s_2 hx_2
    refine⟨_,Y0.cellV 1 rfl hb_2 (t:=0) hx_2 rfl,?_⟩
    refine cnd_imp T (fun T=>?_) (fun T=>?_)
    ·exact ⟨_,Y.pick [] rfl,rfl,T⟩
    ·exact loopBack hm ⟨_,rfl,Y.pick [0,1] rfl,T.1,rfl⟩ T.2
   ·exact ⟨_,Y.pick [] rfl,rfl,T⟩
def S60 (x:Nat) (x2:Nat) (y:Nat) (y2:Nat) (h:Heap) (R:Value->Heap->Prop):Prop:=
 let a:Heap:=h.push (.cells #[.float .f64 x,.float .f64 x2] 78)
 let e:Heap:=a.push (.cells #[.float .f64 y,.float .f64 y2] 78)
 callX Tryz.prog 61 #[.float .f64 x,.float .f64 y] e [a.size,h.size] fun g b=>
 ∃c:Bool,g= .bool c/\
 cnd c
  (callX Tryz.prog 61 #[.float .f64 x2,.float .f64 y2] b [a.size,h.size] fun i f=>
  ∃d:Bool,i= .bool d/\
  R (.bool d) f)
  (R (.bool false) b)
theorem calls60 {h:Heap} {R:Value->Heap->Prop} (x:Nat) (x2:Nat) (y:Nat) (y2:Nat) (H:S60 x x2 y y2 h R):CallsH Tryz.prog 60 #[.agg #[.float .f64 x,.float .f64 x2],.agg #[.float .f64 y,.float .f64 y2]] h R:=by
 have e:S60 x x2 y y2 h R=FX (envX [2,3] 17) {loops:=[],joins:=[],blocks:=[],draws:=[]} Tryz.f60 (Tryz.f60.body.getD .skip) [.agg #[.float .f64 x,.float .f64 x2],.agg #[.float .f64 y,.float .f64 y2]] h R:=by kernel_rfl
 exact calls_of_FX (envX_ok _ _) Tryz.func60 (by kernel_rfl) (by kernel_rfl) (by kernel_rfl) (e▸H)
def S64 (s1A:Option Addr) (s1L s1C:Nat) (s2A:Option Addr) (s2L s2C:Nat) (eqF:Fn) (eqX eqY:Array Value) (h:Heap) (R:Value->Heap->Prop):Prop:=
 cnd (((s1L:Nat):Int) != ((s2L:Nat):Int))
  (R (.bool false) h)
  (∃(e:List Value->Heap->Prop) (l:List Value->Heap->Nat),e [.int .i64 0] h/\
  ∀a:Int,∀c,e [.int .i64 a] c->
  cnd (decide (a<((s1L:Nat):Int)))
   (∃b o,s1A=some ⟨b,o,none⟩/\0<=a/\a<(s1L:Nat)/\∃g:Nat,hcell c b (o+(Int.toNat a)*2)=some (.float .f64 g)/\∃i:Nat,hcell c b ((o+(Int.toNat a)*2)+1)=some (.float .f64 i)/\let n:Heap:=c.push (.cells #[.float .f64 0,.float .f64 0] 78)
   let d:Heap:=hset (hset n c.size 0 (.float .f64 g)) c.size (0+1) (.float .f64 i)
   ∃b2 o2,s2A=some ⟨b2,o2,none⟩/\0<=a/\a<(s2L:Nat)/\∃j:Nat,hcell d b2 (o2+(Int.toNat a)*2)=some (.float .f64 j)/\∃k:Nat,hcell d b2 ((o2+(Int.toNat a)*2)+1)=some (.float .f64 k)/\let p:Heap:=d.push (.cells #[.float .f64 0,.float .f64 0] 78)
   let q:Heap:=hset (hset p d.size 0 (.float .f64 j)) d.size (0+1) (.float .f64 k)
   callV Tryz.prog fnsX [] none eqF eqX eqY [.agg #[.float .f64 g,.float .f64 i],.agg #[.float .f64 j,.float .f64 k]] q [d.size,c.size] fun r f=>
   ∃m:Bool,r= .bool m/\
   cnd (!m)
    (R (.bool false) f)
    (e [.int .i64 (IntKind.i64.wrap (a+(1:Int)))] f/\l [.int .i64 (IntKind.i64.wrap (a+(1:Int)))] f<l [.int .i64 a] c))
   (R (.bool true) c))
theorem calls64 {h:Heap} {R:Value->Heap->Prop} (s1A:Option Addr) (s1L s1C:Nat) (s2A:Option Addr) (s2L s2C:Nat) (eqF:Fn) (eqX eqY:Array Value) (H:S64 s1A s1L s1C s2A s2L s2C eqF eqX eqY h R):CallsH Tryz.prog 64 #[.slice s1A s1L s1C,.slice s2A s2L s2C,.func eqF eqX eqY] h R:=by
 have e:S64 s1A s1L s1C s2A s2L s2C eqF eqX eqY h R=FX (envX [8,9] 32) {loops:=[(0,⟨[1,2,15,16],[17],[],[]⟩)],joins:=[],blocks:=[],draws:=[]} Tryz.f64 (Tryz.f64.body.getD .skip) [.slice s1A s1L s1C,.slice s2A s2L s2C,.func eqF eqX eqY] h R:=by kernel_rfl
 exact calls_of_FX (envX_ok _ _) Tryz.func64 (by kernel_rfl) (by kernel_rfl) (by kernel_rfl) (e▸H)
def S65 (s1A:Option Addr) (s1L s1C:Nat) (s2A:Option Addr) (s2L s2C:Nat) (eqF:Fn) (eqX eqY:Array Value) (h:Heap) (R:Value->Heap->Prop):Prop:=
 cnd (((s1L:Nat):Int) != ((s2L:Nat):Int))
  (R (.bool false) h)
  (∃(d:List Value->Heap->Prop) (f:List Value->Heap->Nat),d [.int .i64 0] h/\
  ∀a:Int,∀c,d [.int .i64 a] c->
  cnd (decide (a<((s1L:Nat):Int)))
   (∃b o,s1A=some ⟨b,o,none⟩/\0<=a/\a<(s1L:Nat)/\∃i:Nat,hcell c b (o+(Int.toNat a)*1)=some (.float .f64 i)/\∃b2 o2,s2A=some ⟨b2,o2,none⟩/\0<=a/\a<(s2L:Nat)/\∃j:Nat,hcell c b2 (o2+(Int.toNat a)*1)=some (.float .f64 j)/\callV Tryz.prog fnsX [] none eqF eqX eqY [.float .f64 i,.float .f64 j] c [] fun k e=>
   ∃g:Bool,k= .bool g/\
   cnd (!g)
    (R (.bool false) e)
    (d [.int .i64 (IntKind.i64.wrap (a+(1:Int)))] e/\f [.int .i64 (IntKind.i64.wrap (a+(1:Int)))] e<f [.int .i64 a] c))
   (R (.bool true) c))
theorem calls65 {h:Heap} {R:Value->Heap->Prop} (s1A:Option Addr) (s1L s1C:Nat) (s2A:Option Addr) (s2L s2C:Nat) (eqF:Fn) (eqX eqY:Array Value) (H:S65 s1A s1L s1C s2A s2L s2C eqF eqX eqY h R):CallsH Tryz.prog 65 #[.slice s1A s1L s1C,.slice s2A s2L s2C,.func eqF eqX eqY] h R:=by
 have e:S65 s1A s1L s1C s2A s2L s2C eqF eqX eqY h R=FX (envX [] 32) {loops:=[(0,⟨[1,2,15,16],[17],[],[]⟩)],joins:=[],blocks:=[],draws:=[]} Tryz.f65 (Tryz.f65.body.getD .skip) [.slice s1A s1L s1C,.slice s2A s2L s2C,.func eqF eqX eqY] h R:=by kernel_rfl
 exact calls_of_FX (envX_ok _ _) Tryz.func65 (by kernel_rfl) (by kernel_rfl) (by kernel_rfl) (e▸H)
def S24 (a:Int) (aA:Option Addr) (aL aC:Nat) (a2:Bool) (aA2:Option Addr) (aL2 aC2:Nat) (aA3:Option Addr) (aL3 aC3:Nat) (aA4:Option Addr) (aL4 aC4:Nat) (b:Int) (bA:Option Addr) (bL bC:Nat) (b2:Bool) (bA2:Option Addr) (bL2 bC2:Nat) (bA3:Option Addr) (bL3 bC3:Nat) (bA4:Option Addr) (bL4 bC4:Nat) (h:Heap) (R:Value->Heap->Prop):Prop:=
 let c:Heap:=h.push (.cells #[.int .i64 a,.slice aA aL aC,.bool a2,.slice aA2 aL2 aC2,.slice aA3 aL3 aC3,.slice aA4 aL4 aC4] 29)
 let m:Heap:=c.push (.cells #[.int .i64 b,.slice bA bL bC,.bool b2,.slice bA2 bL2 bC2,.slice bA3 bL3 bC3,.slice bA4 bL4 bC4] 29)
 let d:=fun(o:Heap)=>
  (R (.bool false) o)
 callX Tryz.prog 62 #[.agg #[.int .i64 a,.slice aA aL aC],.agg #[.int .i64 b,.slice bA bL bC]] m [c.size,h.size] fun p e=>
 ∃i:Bool,p= .bool i/\
 cnd i
  (cnd (a2==b2)
   (callX Tryz.prog 63 #[.slice aA2 aL2 aC2,.slice bA2 bL2 bC2] e [c.size,h.size] fun q f=>
   ∃j:Bool,q= .bool j/\
   cnd j
    (callX Tryz.prog 64 #[.slice aA3 aL3 aC3,.slice bA3 bL3 bC3,.func (.func 60) #[] #[]] f [c.size,h.size] fun r g=>
    ∃k:Bool,r= .bool k/\
    cnd k
     (callX Tryz.prog 65 #[.slice aA4 aL4 aC4,.slice bA4 bL4 bC4,.func (.func 61) #[] #[]] g [c.size,h.size] fun s n=>
     ∃l:Bool,s= .bool l/\
     R (.bool l) n)
     (d g))
    (d f))
   (d e))
  (d e)
theorem calls24 {h:Heap} {R:Value->Heap->Prop} (a:Int) (aA:Option Addr) (aL aC:Nat) (a2:Bool) (aA2:Option Addr) (aL2 aC2:Nat) (aA3:Option Addr) (aL3 aC3:Nat) (aA4:Option Addr) (aL4 aC4:Nat) (b:Int) (bA:Option Addr) (bL bC:Nat) (b2:Bool) (bA2:Option Addr) (bL2 bC2:Nat) (bA3:Option Addr) (bL3 bC3:Nat) (bA4:Option Addr) (bL4 bC4:Nat) (H:S24 a aA aL aC a2 aA2 aL2 aC2 aA3 aL3 aC3 aA4 aL4 aC4 b bA bL bC b2 bA2 bL2 bC2 bA3 bL3 bC3 bA4 bL4 bC4 h R):CallsH Tryz.prog 24 #[.agg #[.int .i64 a,.slice aA aL aC,.bool a2,.slice aA2 aL2 aC2,.slice aA3 aL3 aC3,.slice aA4 aL4 aC4],.agg #[.int .i64 b,.slice bA bL bC,.bool b2,.slice bA2 bL2 bC2,.slice bA3 bL3 bC3,.slice bA4 bL4 bC4]] h R:=by
 have e:S24 a aA aL aC a2 aA2 aL2 aC2 aA3 aL3 aC3 aA4 aL4 aC4 b bA bL bC b2 bA2 bL2 bC2 bA3 bL3 bC3 bA4 bL4 bC4 h R=FX (envX [2,3] 40) {loops:=[],joins:=[],blocks:=[],draws:=[]} Tryz.f24 (Tryz.f24.body.getD .skip) [.agg #[.int .i64 a,.slice aA aL aC,.bool a2,.slice aA2 aL2 aC2,.slice aA3 aL3 aC3,.slice aA4 aL4 aC4],.agg #[.int .i64 b,.slice bA bL bC,.bool b2,.slice bA2 bL2 bC2,.slice bA3 bL3 bC3,.slice bA4 bL4 bC4]] h R:=by kernel_rfl
 exact calls_of_FX (envX_ok _ _) Tryz.func24 (by kernel_rfl) (by kernel_rfl) (by kernel_rfl) (e▸H)
end Go.Proofs.YtlflalecmhgmjaaGreatDoor.N
namespace Go.Proofs.YtlflalecmhgmjaaGreatDoor.N
open Go.Proofs.YtlflalecmhgmjaaGreatDoor
open Go.X
set_option maxRecDepth 100000
set_option maxHeartbeats 2000000
def S269 (x:Nat) (h:Heap) (R:Value->Heap->Prop):Prop:=
 cnd ((FloatKind.f64).format.order x x != some .eq)
  (callE Tryz.prog 143 #[.int .u64 9221120237041090561] fun b=>
  ∃a:Nat,b= .float .f64 a/\
  R (.float .f64 a) h)
  (cnd ((FloatKind.f64).format.order x 0==some .eq)
   (R (.float .f64 0) h)
   (R (.float .f64 x) h))
theorem calls269 {h:Heap} {R:Value->Heap->Prop} (x:Nat) (H:S269 x h R):CallsH Tryz.prog 269 #[.float .f64 x] h R:=by
 have e:S269 x h R=FX (envX [] 10) {loops:=[],joins:=[],blocks:=[],draws:=[]} Tryz.f269 (Tryz.f269.body.getD .skip) [.float .f64 x] h R:=by kernel_rfl
 exact calls_of_FX (envX_ok _ _) Tryz.func269 (by kernel_rfl) (by kernel_rfl) (by kernel_rfl) (e▸H)
end Go.Proofs.YtlflalecmhgmjaaGreatDoor.N
namespace Go.Proofs.YtlflalecmhgmjaaGreatDoor.N
open Go.Proofs.YtlflalecmhgmjaaGreatDoor
open Go.X
set_option maxRecDepth 100000
def isNaN (x:Nat):Bool:=(FloatKind.f64.format.read x).isNaN
abbrev F64 :Ieee.Format:=FloatKind.f64.format
theorem order_self (x:Nat):F64.order x x=if isNaN x then none else some .eq:=by
 unfold Ieee.Format.order isNaN Ieee.Datum.order Ieee.Datum.isNaN
 cases F64.read x with
 | nan s t=>simp
 | infinity s=>simp[Std.compare_self]<;>cases s<;>rfl
 | number s m i=>simp[Std.compare_self]
theorem order_ne (x:Nat):(F64.order x x != some .eq)=isNaN x:=by
 rw[order_self];cases isNaN x<;>rfl
def cleanM (x:Nat):Nat:=if isNaN x then 9221120237041090561 else if F64.order x 0==some .eq then 0 else x
theorem ext_run {P:Program} {f:FuncId} {fn:Func} {e:Array Value->Sem Value} {args:Array Value} (hf:P.funcs[f]? =some fn) (hname:(fn.name== "runtime.NumGoroutine")=false) (hb:fn.body.isNone=true)
  (hn:Extern.findNext fn=none) (he:Extern.find fn=some e) (w:World):(callFunc f args).run P w=((e args).run P w).andThen fun v w'=>.ok (.value v) w':=by
 have h1:¬fn.name= "runtime.NumGoroutine" :=by simpa using hname
 have h2:fn.body=none:=by simpa using hb
 simp[callFunc,hf,hn,he,h1,h2]
theorem ext_pure {P:Program} {f:FuncId} {fn:Func} {e:Array Value->Sem Value} {args:Array Value} {v:Value} (hf:P.funcs[f]? =some fn) (hname:(fn.name== "runtime.NumGoroutine")=false) (hb:fn.body.isNone=true)
  (hn:Extern.findNext fn=none) (he:Extern.find fn=some e) (hv:e args=pure v):ExtH P f args (· =v):=by
 intro w
 refine⟨v,w,?_,rfl,Rest.refl w,rfl⟩
 rw[ext_run hf hname hb hn he,hv];simp
theorem from143 (n:Int):ExtH Tryz.prog 143 #[.int .u64 n] (· = .float .f64 n.toNat):=
 ext_pure Tryz.func143 (by kernel_rfl) (by kernel_rfl) (by kernel_rfl) (e:=Extern.MathFloatBits.float64frombits) (by kernel_rfl) rfl
theorem callE_of {f:FuncId} {args:Array Value} {v:Value} {K:Value->Prop} (h:ExtH Tryz.prog f args (· =v)) (k:K v):callE Tryz.prog f args K:=⟨_,h,fun _ e=>e▸k⟩
theorem ok269 :ClFn cleanM:=by
 intro x h
 apply calls269
 unfold S269
 rw[order_ne]
 refine cnd_b (fun hx=>callE_of (from143 _) ⟨_,rfl,?_⟩) fun hx=>cnd_b (fun h0=>?_) fun h0=>?_
 ·exact ⟨by simp[cleanM,hx],Fr.refl _ _⟩
 ·have h0:(F64.order x 0==some .eq)=true:=h0
  exact⟨by simp[cleanM,hx,h0],Fr.refl _ _⟩
 ·have h0:(F64.order x 0==some .eq)=false:=h0
  exact⟨by simp[cleanM,hx,h0],Fr.refl _ _⟩
theorem ok_clean :G.ClOK cleanM:=by
 have n1:isNaN 9221120237041090561=true:=by decide+kernel
 have n0:isNaN 0=false:=by decide+kernel
 have n2:isNaN G.one64=false:=by decide+kernel
 have o2:(F64.order G.one64 0==some .eq)=false:=by decide+kernel
 refine⟨fun x=>?_,?_,?_⟩
 ·unfold cleanM
  by_cases h:isNaN x=true
  ·simp [h,n1]
  ·by_cases h0:(F64.order x 0==some .eq)=true
   ·simp [h,h0,n0]
   ·simp [h,h0]
 ·simp [cleanM,n0]
 ·simp [cleanM,n2,o2]
end Go.Proofs.YtlflalecmhgmjaaGreatDoor.N
