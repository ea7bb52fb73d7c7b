/- The program's putting together of what has been read of GraphML, by the plain reader. Conditions: none. -/
import Derived.Test.YtemphinmoihdaaaGreatDoorQEdge
import Derived.Test.YtemphinmoihdaaaGreatDoorQData
import Derived.Tactics
import Derived.Tactics2
import Derived.Defers
import Derived.Recover
import Derived.Laws.Pointers
set_option linter.unusedVariables false
set_option linter.unusedSimpArgs false
open Go.IntKind (i64 u64 u8 i32)
namespace Go.Proofs.YtemphinmoihdaaaGreatDoor.N
open Go.Proofs.YtemphinmoihdaaaGreatDoor
open Go.X
set_option maxRecDepth 100000
theorem To.opt {α:Type} {E:En α} {ty:TypeId} {a:QR} {n c:Nat} {xs:List α} (w:Bool):To (Ck.sl E ty a n c xs) (Ck.sl E ty (if w=true then a else none) (if w=true then n else 0) (if w=true then c else 0) (if w=true then xs else [])):=by
 cases w with
 | true=>exact To.refl _
 | false=>exact⟨fun h _=>(Sy.nilS (⟨Fr.refl _ _,Hp.nil h,fun k c hk=>by simp at hk⟩:Sy h [] h []) E ty).ok (k:=0) rfl,fun b hb=>by simp[Ck.sl,ai]at hb,fun b hb=>by simp[Ck.sl]at hb⟩
theorem Br {l:List (ByteArray × Nat)} (hn:(l.map fun k=>k.1.data.toList).Nodup) {k:ByteArray × Nat} {x:ByteArray × Nat} (hk:k∈l) (h:G.eqB k.1 x.1=true):G.jj l x= .ok k.2:=by
 unfold G.jj
 cases hf:l.find? fun k=>G.eqB k.1 x.1 with
 | none=>exact absurd h (by simpa using List.find?_eq_none.1 hf k hk)
 | some k2=>
  have h2:=List.find?_some hf
  obtain⟨i,hi⟩:=List.mem_iff_getElem?.1 hk
  obtain⟨j,hj⟩:=List.mem_iff_getElem?.1 (List.mem_of_find?_eq_some hf)
  rw[fk]at h h2
  have e:=pv (p:=i) (q:=j) (x:=x.1.data.toList) hn (by rw[List.getElem?_map,hi,Option.map_some,of_decide_eq_true h]) (by rw[List.getElem?_map,hj,Option.map_some,of_decide_eq_true h2])
  subst e
  rw[hi]at hj
  cases hj
  rfl
theorem wQ {l:List (ByteArray × Nat)} {x:ByteArray × Nat} (h:(l.any fun k=>G.eqB k.1 x.1)=false):G.jj l x= .no (x.2,14):=by
 unfold G.jj
 rw[List.any_eq_false]at h
 rw[List.find?_eq_none.2 h]
theorem pB {ids:List (ByteArray × Nat)} {l:List (ByteArray × Nat)} {k:Nat} (h:2*k+1<l.length):
  G.dt ids (l.drop (2*k))=(G.jj ids l[2*k]).bind fun x=>(G.jj ids l[2*k+1]).bind fun y=>(G.dt ids (l.drop (2*(k+1)))).bind fun r=>.ok ((x,y)::r):=by
 have e1:l.drop (2*k)=l[2*k]::l[2*k+1]::l.drop (2*(k+1)):=by
  rw[List.drop_eq_getElem_cons Qz,List.drop_eq_getElem_cons Qz]
  rfl
 rw[e1,G.dt]
section
variable {gl:GL} {b:Nat} {s:ByteArray} {rd:ByteArray->Option (Nat × Nat)} {cl:Nat->Nat}
def prX (e:Nat × Nat):Int × Int:=((e.1:Int),(e.2:Int))
def rxG (s:ByteArray) (A:XA) (σ:G.Xd) (v3 v5 v6 v7:Value):List Value:=
 [.string s,QM (σ.i:Int),QM (σ.n:Int),v3,.bool σ.dir,v5,v6,v7,.bool σ.graph,.map (some A.mK),.map (some A.mN),
  .slice A.aE σ.ends.length A.cE,.slice A.aL σ.labels.length A.cL,.slice A.aS σ.spots.length A.cS,.slice A.aW σ.weights.length A.cW,.bool σ.h0,.bool σ.h1,.bool σ.h2]
def gX (gl:GL) (b:Nat) (s:ByteArray) (A:XA) (σ:G.Xd) (v3 v5 v6 v7:Value) (rest:List Ck):List Ck:=
 Ck.ob b 63 (rxG s A σ v3 v5 v6 v7)::Ck.mp A.mK (iC σ.keys)::Ck.mp A.mN (nB σ.ids)::Ck.sl eS 9 A.aL σ.labels.length A.cL σ.labels::Ck.sl eFF 68 A.aS σ.spots.length A.cS σ.spots::Ck.sl eF 66 A.aW σ.weights.length A.cW σ.weights::
  Ck.sl eN 114 A.aE σ.ends.length A.cE σ.ends::Ck.glob gl::rest
def dcX (gl:GL) (dc:G.Dc) (aD aL aS aW:QR) (nD cD nL cL nS cS nW cW:Nat):List Ck:=
 [Ck.sl eP 71 aD nD cD (dc.edges.map prX),Ck.sl eS 9 aL nL cL dc.labels,Ck.sl eFF 68 aS nS cS dc.spots,Ck.sl eF 66 aW nW cW dc.weights,Ck.glob gl]
def MY (σ:G.Xd) (es:List (Nat × Nat)):G.Dc:=⟨σ.n,σ.dir,es,if σ.h0=true then σ.labels else [],if σ.h1=true then σ.spots else [],if σ.h2=true then σ.weights else []⟩
def DcR (gl:GL) (C:List Ck) (h:ab) (dc:G.Dc) (v:Value) (h':ab):Prop:=
 ∃aD aL aS aW nD cD nL cL nS cS nW cW,v= .agg #[QM (dc.n:Int),.slice aD nD cD,.bool dc.dir,.slice aL nL cL,.slice aS nS cS,.slice aW nW cW]/\Sq h C h' (dcX gl dc aD aL aS aW nD cD nL cL nS cS nW cW)
set_option maxHeartbeats 1000000 in
theorem P4 (hs:s.size<=262144) {A:XA} {σ:G.Xd} {h:ab} (H:Hp h (stX gl b s A σ)) (ri:RX s σ):
  QJ 43 #[ptr b] h (fun v h'=>∃es,G.dt σ.ids σ.ends= .ok es/\DcR gl (stX gl b s A σ) h (MY σ es) v h') (fun v h'=>∃f,G.dt σ.ids σ.ends= .no f/\v=flx f/\Fr (aF (stX gl b s A σ)) h h'):=by
 generalize hC:stX gl b s A σ=C at H ⊢
 have Q0:Sq h C h (stX gl b s A σ):=by rw[hC];exact Sq.start H
 have hg:∀x∈glB gl,x∈rds C:=by
  intro x hx
  rw[<-hC]
  exact bR.2 ⟨7,_,rfl,hx⟩
 have hbl:b<h.size:=qI Q0.sy 0 rfl b (by simp[Ck.ob])
 apply G0
 unfold S43
 intro hv
 have Y0:Sy h (aF C) hv (gX gl b s A σ (.slice none 0 0) (.slice none 0 0) (.slice none 0 0) (.slice none 0 0) [Ck.junk h.size,Ck.sl eP 71 none 0 0 []]):=(Q0.sy.junk _).nilS eP 71
 clear_value hv
 have hel:=ri.e
 have hwl:=ri.w
 refine⟨fun l hv4=>∃(k:Nat) (es:List (Nat × Nat)) (aD:QR) (cD:Nat),l=[QM ((2*k:Nat):Int)]/\es.length=k/\2*k<=σ.ends.length/\
   Sy h (aF C) hv4 (gX gl b s A σ (.slice aD k cD) (.slice none 0 0) (.slice none 0 0) (.slice none 0 0) [Ck.junk h.size,Ck.sl eP 71 aD k cD (es.map prX)])/\
   G.dt σ.ids σ.ends=(G.dt σ.ids (σ.ends.drop (2*k))).bind fun l=>.ok (es++l),mI σ.ends.length,⟨0,[],none,0,rfl,rfl,Nat.zero_le _,Y0,?_⟩,?_⟩
 ·rw[Nat.mul_zero,List.drop_zero]
  cases G.dt σ.ids σ.ends<;>rfl
 rintro i hv4 ⟨k,es,aD,cD,ei,hk,hle,Y,hes⟩
 cases ei
 have sz4:h.size<hv4.size:=qI Y 8 rfl h.size (by simp[Ck.junk])
 refine⟨b,0,rfl,A.aE,σ.ends.length,A.cE,Y.cellO 0 rfl 11 rfl,?_⟩
 refine af (fun q=>?_) fun q=>?_
 ·--one edge
  have hlt:2*k+1<σ.ends.length:=by omega
  intro hv5
  have Y5:Sy h (aF C) hv5 (gX gl b s A σ (.slice aD k cD) (.slice none 0 0) (.slice none 0 0) (.slice none 0 0) [Ck.junk h.size,Ck.sl eP 71 aD k cD (es.map prX),Ck.ob hv4.size 71 [QM ((0:Nat):Int),QM ((0:Nat):Int)]]):=Sy.newO Y [QM ((0:Nat):Int),QM ((0:Nat):Int)]
  clear_value hv5
  have ew:i64.wrap (((2*k:Nat):Int)+(2:Int))=((2*k+2:Nat):Int):=by rw[wr Qz Qz];omega
  have e2:2*k+2-2*k=2:=by omega
  rw[ew,Int.toNat_natCast,Int.toNat_natCast,e2]
  have hcap:=Y5.capS 6 rfl
  refine⟨b,0,rfl,A.aE,σ.ends.length,A.cE,Y5.cellO 0 rfl 11 rfl,Qz,Qz,Qz,Qz,?_⟩
  refine⟨fun l hv6=>∃j p q:Nat,l=[QM (j:Int)]/\j<=2/\Sy h (aF C) hv6 (gX gl b s A σ (.slice aD k cD) (.slice none 0 0) (.slice none 0 0) (.slice none 0 0) [Ck.junk h.size,Ck.sl eP 71 aD k cD (es.map prX),Ck.ob hv4.size 71 [QM (p:Int),QM (q:Int)]])/\
    (1<=j->G.jj σ.ids σ.ends[2*k]= .ok p)/\(2<=j->G.jj σ.ids σ.ends[2*k+1]= .ok q),mI 2,⟨0,0,0,rfl,Qz,Y5,fun q=>Qz,fun q=>Qz⟩,?_⟩
  rintro x2 hv6 ⟨j,p,q2,e,hj,Y6,hp,hq⟩
  cases e
  have sz6:hv4.size<hv6.size:=qI Y6 10 rfl hv4.size (by simp[Ck.ob])
  refine af (fun q3=>?_) fun q3=>?_
  ·--one end
   have hj2:j<2:=by omega
   obtain⟨t,ht⟩:∃t,σ.ends[2*k+j]? =some t:=⟨_,List.getElem?_eq_getElem Qz⟩
   obtain⟨g,hg2,-,-⟩:=Y6.atS 6 rfl (i:=(0:Int)) Qz Qz
   have hcE:∀m u,(eN.enc t)[m]? =some u->ac hv6 g (0+2*k*2+j*2+m)=some u:=by
    intro m u hu
    have:=Y6.cellS 6 rfl hg2 ht hu
    have eo:0+(2*k+j)*eN.sz+m=0+2*k*2+j*2+m:=by show 0+(2*k+j)*2+m=_;omega
    rw[<-eo];exact this
   refine⟨g,0+2*k*2,by rw[if_neg Qz,hg2];simp[Addr.add];omega,Qz,q3,?_⟩
   rw[Int.toNat_natCast]
   refine⟨_,hcE 0 _ rfl,_,hcE 1 _ rfl,?_⟩
   intro hv7 hv8
   have Y8:Sy h (aF C) hv8 _:=Y6.gr ((((Fr.push hv6 _).hsetL (Nat.le_refl _)).hsetL (Nat.le_refl _)):Fr [] hv6 hv8)
   clear_value hv8
   clear hv7
   intro K
   have h01:j=0\/j=1:=by omega
   have bad:∀f,G.jj σ.ids t= .no f->G.dt σ.ids σ.ends= .no f:=by
    intro f hf
    rw[hes,pB hlt]
    rcases h01 with rfl | rfl
    ·have:σ.ends[2*k]=t:=(List.getElem?_eq_some_iff.1 ht).2
     rw[this,hf];rfl
    ·have:σ.ends[2*k+1]=t:=(List.getElem?_eq_some_iff.1 ht).2
     rw[this,hf,hp (Nat.le_refl _)];rfl
   have kt:∀(v:Nat),G.jj σ.ids t= .ok v->K (v:Int) true hv8:=by
    intro v hv'
    refine aq (fun _=>⟨rfl,Qz,Qz,Qz,Qz,?_⟩) fun z=>absurd z QA
    have ej:0+j*1=j:=by omega
    rw[ej]
    refine⟨?_,Y8.freeO 10 rfl j,?_⟩
    ·rcases h01 with rfl | rfl
     ·exact⟨_,Y8.cellO 10 rfl 0 rfl⟩
     ·exact⟨_,Y8.cellO 10 rfl 1 rfl⟩
    intro hv12
    have Y12:=Y8.stO 10 rfl j (QM (v:Int))
    rw[wrN Qz]
    refine⟨?_,by simp only[mI];omega⟩
    rcases h01 with rfl | rfl
    ·have e0:σ.ends[2*k]=t:=(List.getElem?_eq_some_iff.1 ht).2
     exact⟨1,v,q2,rfl,Qz,Y12,fun _=>by rw[e0];exact hv',fun z=>Qz⟩
    ·have e0:σ.ends[2*k+1]=t:=(List.getElem?_eq_some_iff.1 ht).2
     exact⟨2,p,v,rfl,Qz,Y12,fun _=>hp (Nat.le_refl _),fun _=>by rw[e0];exact hv'⟩
   refine⟨b,0,rfl,some A.mN,Y8.cellO 0 rfl 10 rfl,A.mN,rfl,_,_,Y8.mapM 2 rfl,oO _,fun ev he hk=>?_,fun hno=>?_⟩
   ·obtain⟨w,hw1,hw2,hw3⟩:=Af he hk
    exact⟨_,hw3,Fr.refl _ _,kt w.2 (Br ri.dn hw1 hw2)⟩
   ·exact⟨Fr.refl _ _,aq (fun z=>absurd z QA) fun _=>⟨_,bad _ (wQ (Ag hno)),rfl,Y8.fr⟩⟩
  ·--both
   have hj2:j=2:=by omega
   subst hj2
   have hD:∀x∈ai aD,x<hv6.size/\x≠b/\x≠h.size/\x≠hv4.size:=fun x hx=>⟨qI Y6 9 rfl x hx,Y6.ne 9 0 QA rfl rfl hx (by simp[Ck.ob]),Y6.ne 9 8 QA rfl rfl hx (by simp[Ck.junk]),Y6.ne 9 10 QA rfl rfl hx (by simp[Ck.ob])⟩
   refine⟨ai aD,fun x hx q=>?_,b,0,rfl,fun q=>(hD b q).2.1 rfl,aD,k,cD,Y6.cellO 0 rfl 3 rfl,fun q=>(hD _ q).2.2.2 rfl,_,Y6.cellO 10 rfl 0 rfl,_,Y6.cellO 10 rfl 1 rfl,?_⟩
   ·simp only[List.mem_singleton]at hx
    subst hx
    exact(hD _ q).2.2.1 rfl
   intro hv13
   have Y13:Sy h (aF C) hv13 _:=Y6.gr (Fr.push hv6 _)
   have f13:Fr (ai aD) hv6 hv13:=(Fr.push _ _).nil
   clear_value hv13
   refine⟨f13,_,Y13.ownS 9 rfl,fun x hx q=>?_,Qz,by simp only[maxLen];omega,fun sA sC hv14 ow f gg _=>?_⟩
   ·have:=hD x q
    simp only[List.mem_cons,List.not_mem_nil,or_false]at hx
    omega
   have Y14:=Y13.appS 9 rfl [((p:Int),(q2:Int))] ow f gg rfl rfl
   refine⟨f13.trans f,b,0,rfl,Qz,Qz,⟨_,Y14.cellO 0 rfl 3 rfl⟩,Y14.freeO 0 rfl 3,?_⟩
   intro hv15
   have Y15:Sy h (aF C) hv15 (gX gl b s A σ (.slice sA (k+1) sC) (.slice none 0 0) (.slice none 0 0) (.slice none 0 0) [Ck.junk h.size,Ck.sl eP 71 sA (k+1) sC (es.map prX++[((p:Int),(q2:Int))]),Ck.ob hv4.size 71 [QM (p:Int),QM (q2:Int)]]):=Y14.stO 0 rfl 3 (.slice sA (k+1) sC)
   have em:es.map prX++[((p:Int),(q2:Int))]=(es++[(p,q2)]).map prX:=by simp[prX]
   rw[em]at Y15
   refine⟨⟨k+1,es++[(p,q2)],sA,sC,rfl,by simp[hk],Qz,Y15.pick [0,1,2,3,4,5,6,7,8,9] rfl,?_⟩,by simp only[mI];omega⟩
   rw[hes,pB hlt,hp Qz,hq (Nat.le_refl _)]
   simp only[G.Er.bind]
   cases G.dt σ.ids (σ.ends.drop (2*(k+1)))<;>simp[G.Er.bind]
 ·--done
  have hend:2*k=σ.ends.length:=by omega
  have hed:G.dt σ.ids σ.ends= .ok es:=by
   rw[hes,hend,List.drop_length]
   simp[G.dt,G.Er.bind]
  refine⟨b,0,rfl,σ.h0,Y.cellO 0 rfl 15 rfl,?_⟩
  refine⟨fun _ h'=>Sy h (aF C) h' (gX gl b s A σ (.slice aD k cD) (.slice (if σ.h0=true then A.aL else none) (if σ.h0=true then σ.labels.length else 0) (if σ.h0=true then A.cL else 0)) (.slice none 0 0) (.slice none 0 0) [Ck.junk h.size,Ck.sl eP 71 aD k cD (es.map prX)]),?_,?_⟩
  ·refine cd (fun q=>?_) fun q=>?_
   ·refine⟨b,0,rfl,A.aL,σ.labels.length,A.cL,Y.cellO 0 rfl 12 rfl,b,0,rfl,Qz,⟨_,Y.cellO 0 rfl 5 rfl⟩,Y.freeO 0 rfl 5,?_⟩
    rw[if_pos q,if_pos q,if_pos q]
    exact Y.stO 0 rfl 5 _
   ·rw[q];exact Y
  intro hv17 Y17
  refine⟨b,0,rfl,σ.h1,Y17.cellO 0 rfl 16 rfl,?_⟩
  refine⟨fun _ h'=>Sy h (aF C) h' (gX gl b s A σ (.slice aD k cD) (.slice (if σ.h0=true then A.aL else none) (if σ.h0=true then σ.labels.length else 0) (if σ.h0=true then A.cL else 0)) (.slice (if σ.h1=true then A.aS else none) (if σ.h1=true then σ.spots.length else 0) (if σ.h1=true then A.cS else 0)) (.slice none 0 0) [Ck.junk h.size,Ck.sl eP 71 aD k cD (es.map prX)]),?_,?_⟩
  ·refine cd (fun q=>?_) fun q=>?_
   ·refine⟨b,0,rfl,A.aS,σ.spots.length,A.cS,Y17.cellO 0 rfl 13 rfl,b,0,rfl,Qz,⟨_,Y17.cellO 0 rfl 6 rfl⟩,Y17.freeO 0 rfl 6,?_⟩
    rw[if_pos q,if_pos q,if_pos q]
    exact Y17.stO 0 rfl 6 _
   ·rw[q];exact Y17
  intro hv19 Y19
  refine⟨b,0,rfl,σ.h2,Y19.cellO 0 rfl 17 rfl,?_⟩
  refine⟨fun _ h'=>Sy h (aF C) h' (gX gl b s A σ (.slice aD k cD) (.slice (if σ.h0=true then A.aL else none) (if σ.h0=true then σ.labels.length else 0) (if σ.h0=true then A.cL else 0)) (.slice (if σ.h1=true then A.aS else none) (if σ.h1=true then σ.spots.length else 0) (if σ.h1=true then A.cS else 0))
   (.slice (if σ.h2=true then A.aW else none) (if σ.h2=true then σ.weights.length else 0) (if σ.h2=true then A.cW else 0)) [Ck.junk h.size,Ck.sl eP 71 aD k cD (es.map prX)]),?_,?_⟩
  ·refine cd (fun q=>?_) fun q=>?_
   ·refine⟨b,0,rfl,A.aW,σ.weights.length,A.cW,Y19.cellO 0 rfl 14 rfl,b,0,rfl,Qz,⟨_,Y19.cellO 0 rfl 7 rfl⟩,Y19.freeO 0 rfl 7,?_⟩
    rw[if_pos q,if_pos q,if_pos q]
    exact Y19.stO 0 rfl 7 _
   ·rw[q];exact Y19
  intro hv21 Y21
  refine⟨b,0,rfl,_,Y21.cellO 0 rfl 2 rfl,_,_,_,Y21.cellO 0 rfl 3 rfl,_,Y21.cellO 0 rfl 4 rfl,_,_,_,Y21.cellO 0 rfl 5 rfl,_,_,_,Y21.cellO 0 rfl 6 rfl,_,_,_,Y21.cellO 0 rfl 7 rfl,?_⟩
  intro hv22
  have Y22:Sy h (aF C) hv22 _:=(((((Y21.stJ 8 rfl 0 _).stJ 8 rfl (0+1) _).stJ 8 rfl ((0+1)+1) _).stJ 8 rfl (((0+1)+1)+1) _).stJ 8 rfl ((((0+1)+1)+1)+1) _).stJ 8 rfl (((((0+1)+1)+1)+1)+1) _
  clear_value hv22
  have Z1:=Y22.turn 3 rfl (To.opt σ.h0)
  have Z2:=Z1.turn 4 rfl (To.opt σ.h1)
  have Z3:=Z2.turn 5 rfl (To.opt σ.h2)
  have Z4:=Z3.pick [9,3,4,5,7] rfl
  refine⟨es,hed,aD,_,_,_,_,_,_,_,_,_,_,_,rfl,⟨Z4,fun x hx=>?_⟩⟩
  have hx2:x∈glB gl:=by simpa[rds,dcX,Ck.sl,Ck.glob]using hx
  exact .inl (hg x hx2)
end
section
variable {gl:GL} {b:Nat} {s:ByteArray} {rd:ByteArray->Option (Nat × Nat)} {cl:Nat->Nat}
theorem JC (hs:s.size<=262144) (hn:oQ gl rd cl) {xR:Nat}:qH gl b s none [(xR,0,ptr b)] [] (IX s) (.func 38) #[] #[ptr xR] (G.sP s rd cl):=
 MG (lvX s) (JO hs (lvX s) (MF (Gh hs) (Ge hs fun xR=>JK (Gi hs hn) (Gb hs hn))))
theorem PI (hs:s.size<=262144) (hn:oQ gl rd cl) {A:XA} {h:ab} (H:Hp h (stX gl b s A G.ba)) (hu:G.fL s rd cl≠ .un):
  QJ 19 #[ptr b] h (fun v h'=>∃dc,G.fL s rd cl= .ok dc/\DcR gl (stX gl b s A G.ba) h dc v h') (fun v h'=>∃f,G.fL s rd cl= .no f/\v=flx f/\Fr (aF (stX gl b s A G.ba)) h h'):=by
 generalize hC:stX gl b s A G.ba=C at H ⊢
 have Q0:Sq h C h (stX gl b s A G.ba):=by rw[hC];exact Sq.start H
 have eR:G.fL s rd cl=(G.head s).bind fun i=>(G.qB s rd cl i).bind fun r=>G.bJ r.graph (s.size,14) <| (G.dt r.ids r.ends).bind fun es=>.ok (MY r es):=by
  unfold G.fL
  rw[decide_eq_true hs];rfl
 apply G2
 unfold S19
 intro hv hv2
 have Q1:=Q0.add1 (Q0.sy.newO (ty:=55) [ptr b]) rfl
 have Q2:Sq h C hv2 (stX gl b s A G.ba++[Ck.ob h.size 55 [ptr b],Ck.junk hv.size]):=Q1.add1 (Q1.sy.junk _) rfl
 clear_value hv2
 have c2:ac hv2 h.size 0=some (ptr b):=Q2.sy.cellO 8 rfl 0 rfl
 have Q3:Sq h C hv2 (chX gl b s none [(h.size,0,ptr b)] [] A ([],G.ba)++[Ck.junk hv.size]):=(Q2.cutY [0,1,2,3,4,5,6,7,9] rfl none [(h.size,0,ptr b)] [] (fun p hp=>by cases hp) (fun f hf=>by
  simp only[List.mem_singleton]at hf
  subst hf
  exact⟨c2,8,_,rfl,.inl ⟨by simp[Ck.ob],QA⟩⟩) (fun m hm=>by cases hm) fun p hp=>by cases hp).pick [0,1,2,3,4,5,6,7,9,8] rfl
 have nb:∀z∈([hv.size]:List Nat),z∉[b]:=by
  intro z hz q
  simp only[List.mem_singleton]at hz q
  subst hz
  exact Q3.sy.neJ 0 9 rfl rfl rfl (x:=b) (by simp[Ck.ob]) q.symm
 have f92:∀{h':ab},Fr [b] hv2 h'->Fr (aF C) h h':=fun f=>Sq.frT Q3 (f.mono fun y hy=>yU hy)
 refine⟨_,c2,az [b] (PJ (Q3.sy.lx 0 rfl) (Q3.sy.glo 7 rfl) hs) nb (fun _ _ r=>by obtain⟨_,_,_,_,m⟩:=r;exact m.fr) (fun _ _ r=>by obtain⟨_,_,_,m⟩:=r;exact m) (fun v hv3 r=>?_) fun v hv3 r=>?_⟩
 rotate_left
 ·obtain⟨f,e,rfl,f1⟩:=r
  exact⟨f,by rw[eR,e];rfl,rfl,f92 f1⟩
 obtain⟨j,e1,rfl,hj,M⟩:=r
 rw[e1]at eR
 simp only[G.Er.bind]at eR
 have Q4:=Sq.mvX Q3 M
 have c3:ac hv3 h.size 0=some (ptr b):=Q4.sy.factY 8 rfl 0 rfl
 have L4:Lx hv3 b s j:=Q4.sy.lx 0 rfl
 refine⟨rfl,?_⟩
 intro K
 have eW:G.qB s rd cl j=(G.dS s (s.size+1) j).bind fun o=>
  match o with
  | none=>.no (s.size,15)
  | some i=>(G.elem s (G.sP s rd cl) ([],{G.ba with i:=i})).bind fun x=>(G.dS s (s.size+1) x.2.i).bind fun o=>
   match o with
   | some i=>(G.elem s G.kP (x.at i)).bind fun _=>.un
   | none=>.ok x.2:=rfl
 have hun:G.dS s (s.size+1) j≠ .un:=by
  intro z
  rw[eR,eW,z]at hu
  exact hu rfl
 have bg:b∉glB gl:=(Q4.hp.ap 0 7 _ _ QA rfl rfl b (by simp[Ck.ob])).2
 have c93:=JD L4 (Q4.sy.glo 7 rfl) bg hj hs hun
 have f93:∀{h':ab},Fr [b] hv3 h'->Fr (aF C) h h':=fun f=>Sq.frT Q4 (f.mono fun y hy=>yU hy)
 have kk:∀(hv4:ab) (o:Option Nat) (k:Nat),G.dS s (s.size+1) j= .ok o->k<=s.size->(∀i,o=some i->k=i/\j<k)->Mv b hv3 hv4 k->o.isSome=true->K hv4:=by
  intro hv4 o k e2 k2 k3 M2 ho
  obtain⟨i2,rfl⟩:=Option.isSome_iff_exists.1 ho
  obtain⟨rfl,k4⟩:=k3 i2 rfl
  rw[e2]at eW
  simp only[G.Er.bind]at eW
  have Q5:Sq h C hv4 (chX gl b s none [(h.size,0,ptr b)] [] A ([],{G.ba with i:=k})++[Ck.junk hv.size]):=Sq.mvX Q4 M2
  have i5:IX s ([],{G.ba with i:=k}):=⟨k2,by show 0<=1024;omega,rfl,rfl,List.nodup_nil,(fun p hp=>by cases hp),by show 0<=3072;omega,rfl,List.nodup_nil⟩
  have hu5:G.elem s (G.sP s rd cl) ([],{G.ba with i:=k})≠ .un:=by
   intro z
   rw[eR,eW,z]at hu
   exact hu rfl
  dsimp-zeta only[K]
  refine⟨_,Q5.sy.factY 8 rfl 0 rfl,?_⟩
  refine az _ (JM hs (lvX s) (JC hs hn) (Q5.pick [0,1,2,3,4,5,6,7,8] rfl).hp i5 (by show 1<=k;omega) hu5) ?_ (fun _ _ r=>by obtain⟨_,_,_,_,m,_⟩:=r;exact m.fr) (fun _ _ r=>by obtain⟨_,_,_,m⟩:=r;exact m) (fun v hv9 r=>?_) fun v hv9 r=>?_
  ·intro z hz
   simp only[List.mem_singleton]at hz
   subst hz
   exact Q5.sy.nO 9 [0,1,2,3,4,5,6,7,8] rfl rfl
  rotate_left
  ·obtain⟨e,q1,rfl,q2⟩:=r
   exact⟨e,by rw[eR,eW,q1],rfl,Sq.frA Q5 q2⟩
  obtain⟨x,A2,q1,rfl,P,ix,p2⟩:=r
  rw[q1]at eW
  simp only[G.Er.bind]at eW
  have Q6:Sq h C hv9 (chX gl b s none [(h.size,0,ptr b)] [] A2 x++[Ck.junk hv.size]):=Sq.call Q5 P
  refine⟨rfl,fun _ h'=>h'=hv9,fun _ _=>0,rfl,?_⟩
  rintro hv10 rfl
  have hun6:G.dS s (s.size+1) x.2.i≠ .un:=by
   intro z
   rw[eR,eW,z]at hu
   exact hu rfl
  refine⟨_,Q6.sy.factY 8 rfl 0 rfl,b,0,rfl,?_⟩
  refine az [b] (JD (Q6.sy.lx 0 rfl) (Q6.sy.glo 7 rfl) bg ix.i hs hun6) nb (fun _ _ r=>by obtain⟨_,_,_,_,_,_,_,_,m⟩:=r;exact m.fr) (fun _ _ r=>by obtain⟨_,_,_,m⟩:=r;exact m) (fun v hv11 r=>?_) fun v hv11 r=>?_
  rotate_left
  ·obtain⟨f,e,rfl,f1⟩:=r
   exact⟨f,by rw[eR,eW,e],rfl,Sq.frT Q6 (f1.mono fun y hy=>yU hy)⟩
  obtain⟨o,m,e7,rfl,m1,m2,m3,m4,M7⟩:=r
  rw[e7]at eW
  simp only[G.Er.bind]at eW
  have Q7:=Sq.mvX Q6 M7
  refine⟨_,rfl,cd (fun q=>?_) fun q=>?_⟩
  ·obtain⟨i8,rfl⟩:=Option.isSome_iff_exists.1 q
   obtain⟨rfl,m5⟩:=m3 i8 rfl
   simp only at eW
   have hu8:G.elem s G.kP (x.at m)≠ .un:=by
    intro z
    rw[eR,eW,z]at hu
    exact hu rfl
   refine⟨_,Q7.sy.factY 8 rfl 0 rfl,?_⟩
   refine az _ (JM hs (lvX s) ME (x:=x.at m) (A:=A2) (Q7.pick [0,1,2,3,4,5,6,7,8] rfl).hp (RX.at ix m2) (by show 1<=m;omega) hu8) ?_ (fun _ _ r=>by obtain⟨_,_,_,_,m,_⟩:=r;exact m.fr) (fun _ _ r=>by obtain⟨_,_,_,m⟩:=r;exact m) (fun v hv12 r=>?_) fun v hv12 r=>?_
   ·intro z hz
    simp only[List.mem_singleton]at hz
    subst hz
    exact Q7.sy.nO 9 [0,1,2,3,4,5,6,7,8] rfl rfl
   ·obtain⟨_,_,q8,_⟩:=r
    rw[eR,eW,q8]at hu
    exact absurd rfl hu
   ·obtain⟨e,q8,rfl,f8⟩:=r
    exact⟨e,by rw[eR,eW,q8],rfl,Sq.frA Q7 f8⟩
  ·cases o with
   | some _=>cases q
   | none=>
   simp only at eW
   rw[eW]at eR
   simp only at eR
   have c7:ac hv11 h.size 0=some (ptr b):=Q7.sy.factY 8 rfl 0 rfl
   refine⟨_,c7,b,0,rfl,_,Q7.sy.cellO 0 rfl 8 rfl,_,c7,b,0,rfl,_,Q7.sy.cellO 0 rfl 0 rfl,aq (fun z=>⟨rfl,Fr.refl _ _,_,c7,?_⟩) fun z=>⟨_,?_,rfl,Q7.fr⟩⟩
   rotate_left
   ·have z:x.2.graph=false:=z
    rw[eR,z];rfl
   have z:x.2.graph=true:=z
   rw[z]at eR
   simp only[G.bJ]at eR
   have H7:Hp hv11 (stX gl b s A2 (x.at m).2):=(Q7.pick [0,1,2,3,4,5,6,7] rfl).hp
   refine az _ (P4 hs H7 (RX.at ix m2)) ?_ (fun _ _ r=>by obtain⟨_,_,_,_,_,_,_,_,_,_,_,_,_,_,_,m⟩:=r;exact m.fr) (fun _ _ r=>by obtain⟨_,_,_,m⟩:=r;exact m) (fun v hv14 r=>?_) fun v hv14 r=>?_
   ·intro z hz
    simp only[List.mem_singleton]at hz
    subst hz
    exact Q7.sy.nO 9 [0,1,2,3,4,5,6,7] rfl rfl
   rotate_left
   ·obtain⟨f,q9,rfl,f9⟩:=r
    have q9:G.dt x.2.ids x.2.ends= .no f:=q9
    have Q8:Sq h C hv11 (stX gl b s A2 (x.at m).2++[Ck.junk hv.size]):=Q7.pick [0,1,2,3,4,5,6,7,9] rfl
    exact⟨f,by rw[eR,q9],rfl,Sq.frA Q8 f9⟩
   obtain⟨es,q9,aD,aL,aS,aW,nD,cD,nL,cL,nS,cS,nW,cW,rfl,P9⟩:=r
   have q9:G.dt x.2.ids x.2.ends= .ok es:=q9
   rw[q9]at eR
   simp only[G.Er.bind]at eR
   have Q8:Sq h C hv11 (stX gl b s A2 (x.at m).2++[Ck.junk hv.size]):=Q7.pick [0,1,2,3,4,5,6,7,9] rfl
   have Q9:=Sq.call Q8 P9
   refine⟨_,_,_,_,_,_,_,_,_,_,_,_,_,_,rfl,?_⟩
   intro hv15
   have Y15:Sy h (aF C) hv15 _:=(((((Q9.sy.stJ 5 rfl 0 _).stJ 5 rfl (0+1) _).stJ 5 rfl ((0+1)+1) _).stJ 5 rfl (((0+1)+1)+1) _).stJ 5 rfl ((((0+1)+1)+1)+1) _).stJ 5 rfl (((((0+1)+1)+1)+1)+1) _
   exact⟨_,eR,aD,aL,aS,aW,nD,cD,nL,cL,nS,cS,nW,cW,rfl,(⟨Y15,Q9.ri⟩:Sq h C hv15 _).pick [0,1,2,3,4] rfl⟩
 have bad:∀(hv4:ab) (o:Option Nat),G.dS s (s.size+1) j= .ok o->Fr [b] hv3 hv4->o.isSome=false->∃e,G.fL s rd cl= .no e/\flx (s.size,15)=flx e/\Fr (aF C) h hv4:=by
  intro hv4 o e2 f ho
  cases o with
  | some _=>cases ho
  | none=>
   rw[eR,eW,e2]
   exact⟨_,rfl,rfl,f93 f⟩
 have er:∀(v:Value) (h':ab),(∃f,G.dS s (s.size+1) j= .no f/\v=flx f/\Fr [b] hv3 h')->∃e,G.fL s rd cl= .no e/\v=flx e/\Fr (aF C) h h':=fun v h' r=>by
  obtain⟨f,q1,rfl,q2⟩:=r
  exact⟨f,by rw[eR,eW,q1];rfl,rfl,f93 q2⟩
 have hb3:h.size∉[b]:=by
  have:=qI Q0.sy 0 rfl b (by simp[Ck.ob])
  simp only[List.mem_singleton]
  omega
 refine⟨[b],nb,hb3,_,c3,b,0,rfl,hb3,_,c3,b,0,rfl,?_,?_⟩
 ·refine az [b] c93 nb (fun _ _ r=>by obtain⟨_,_,_,_,_,_,_,_,m⟩:=r;exact m.fr) (fun _ _ r=>by obtain⟨_,_,_,m⟩:=r;exact m) (fun v hv4 r=>?_) er
  obtain⟨o,k,e2,rfl,k1,k2,k3,k4,M2⟩:=r
  exact⟨_,rfl,M2.fr,_,(L4.mv M2).c0,M2.fr,aq (fun z=>⟨rfl,M2.fr,kk _ o k e2 k2 (fun i hi=>k3 i hi) M2 z⟩) fun z=>bad _ o e2 M2.fr z⟩
 ·refine⟨_,L4.c0,Fr.refl _ _,az [b] c93 nb (fun _ _ r=>by obtain⟨_,_,_,_,_,_,_,_,m⟩:=r;exact m.fr) (fun _ _ r=>by obtain⟨_,_,_,m⟩:=r;exact m) (fun v hv4 r=>?_) er⟩
  obtain⟨o,k,e2,rfl,k1,k2,k3,k4,M2⟩:=r
  exact⟨_,rfl,M2.fr,aq (fun z=>⟨rfl,M2.fr,kk _ o k e2 k2 (fun i hi=>by obtain⟨a1,a2⟩:=k3 i hi;exact⟨a1,a2⟩) M2 z⟩) fun z=>bad _ o e2 M2.fr z⟩
end
end Go.Proofs.YtemphinmoihdaaaGreatDoor.N
namespace Go.X
end Go.X
namespace Go.Proofs.YtemphinmoihdaaaGreatDoor.N
open Go.Proofs.YtemphinmoihdaaaGreatDoor
open Go.X
set_option maxRecDepth 100000
abbrev pt (b:Nat):Value:=.pointer (some ⟨b,0,none⟩)
section
variable {gl:GL} {b d:Nat} {s:ByteArray}
end
section
variable {gl:GL} {b d:Nat} {s:ByteArray}
end
section
variable {gl:GL} {b d:Nat} {s:ByteArray}
end
section
variable {gl:GL} {b d:Nat} {s:ByteArray}
end
section
variable {gl:GL} {b d:Nat} {s:ByteArray}
end
section
variable {gl:GL} {b d:Nat} {s:ByteArray}
end
def Mg (cl:Nat->Nat):Prop:=∀(x:Nat) (h:ab),QH 151 #[QQ x] h fun v h'=>v= QQ (cl x)/\Fr [] h h'
theorem Py {s:ByteArray} {h:ab} (hs:s.size<=9223372036854775807):QH 26 #[.string s] h fun v h'=>v= .bool (s.data.toList.all (fun c=>G.bO c.toNat)&&decide (s.size<=256))/\h'=h:=by
 apply Gw
 unfold S26
 refine⟨fun l h'=>h'=h/\∃i:Nat,l=[QM (i:Int)]/\i<=s.size/\(s.data.toList.take i).all (fun c=>G.bO c.toNat)=true,fun l _=>match l with
  | [.int _ i]=>s.size-i.toNat
  | _=>0,⟨rfl,0,rfl,Nat.zero_le _,QB⟩,?_⟩
 rintro x hv ⟨rfl,i,e,hi,ha⟩
 cases e
 refine af (fun q=>?_) fun q=>?_
 ·have hlt:i<s.size:=by omega
  obtain⟨c,hc,hb⟩:=get_at hlt
  refine⟨Qz,q,c,QD,?_⟩
  refine fQ Px ⟨_,rfl,?_⟩
  have hcl:s.data.toList[i]? =some c:=by
   rw[<-hc]
   have:s[i]? =s.data[i]? :=by
    rw[getElem?_pos s i hlt,getElem?_pos s.data i hlt];rfl
   rw[this];simp
  refine bo (fun q1=>?_) fun q1=>?_
  ·grind
  ·rw[show i64.wrap ((i:Int)+1)=((i+1:Nat):Int) by rw[wr Qz Qz];omega]
   refine⟨⟨rfl,i+1,rfl,hlt,?_⟩,?_⟩
   ·grind [List.take_add_one]
   grind
 ·refine⟨?_,rfl⟩
  have:i=s.size:=by omega
  subst this
  have e:s.data.toList.take s.size=s.data.toList:=List.take_of_length_le (Nat.le_refl _)
  rw[e]at ha
  rw[ha,Bool.true_and]
  congr 1
  grind
section
variable {gl:GL} {b d:Nat} {s:ByteArray} {cl:Nat->Nat} {tfs:Fs} {h:ab}
end
section
variable {gl:GL} {b d:Nat} {s:ByteArray} {cl:Nat->Nat} {h:ab}
end
section
variable (gl:GL) (b:Nat) (s:ByteArray) (rd:ByteArray->Option (Nat × Nat)) (cl:Nat->Nat)
end
section
variable {gl:GL} {b:Nat} {s:ByteArray} {rd:ByteArray->Option (Nat × Nat)} {cl:Nat->Nat}
end
section
variable {gl:GL} {b:Nat} {s:ByteArray} {rd:ByteArray->Option (Nat × Nat)} {cl:Nat->Nat}
end
end Go.Proofs.YtemphinmoihdaaaGreatDoor.N
namespace Go.Proofs.YtemphinmoihdaaaGreatDoor.G
variable {s:ByteArray} {rd:ByteArray->Option (Nat × Nat)} {cl:Nat->Nat}
end Go.Proofs.YtemphinmoihdaaaGreatDoor.G
namespace Go.Proofs.YtemphinmoihdaaaGreatDoor.N
open Go.Proofs.YtemphinmoihdaaaGreatDoor
open Go.X
set_option maxRecDepth 100000
section
variable {gl:GL} {b:Nat} {s:ByteArray} {rd:ByteArray->Option (Nat × Nat)} {cl:Nat->Nat}
def pr (e:Nat × Nat):Int × Int:=((e.1:Int),(e.2:Int))
end
def oG (n:Nat):Code->Option (Array Oper)
 | .seq x y=>(oG n x).or (oG n y)
 | .cond _ x y=>(oG n x).or (oG n y)
 | .block _ x=>oG n x
 | .region k ops _=>if k=n then some ops else none
 | _=>none
theorem gq {k t:Nat} {v y:AVal} {r:List (Nat × AVal)} (h:Go.X.look ((k,v)::r) t=some y):(t=k/\y=v)\/Go.X.look r t=some y:=by
 unfold Go.X.look at h
 split at h
 ·rename_i hb
  exact .inl ⟨(Nat.eq_of_beq_eq_true hb).symm,(Option.some.inj h).symm⟩
 ·exact .inr h
def nk (h:ab) (p1 p2 p3:Nat) (x x2:Int):ab:=
 am (am (am (am (am (am (am (am h p1 0 (QM 0)) p1 (0+1) (.slice none 0 0)) p1 ((0+1)+1) (.bool false)) p1 (((0+1)+1)+1) (.slice none 0 0)) p1 ((((0+1)+1)+1)+1) (.slice none 0 0)) p1 (((((0+1)+1)+1)+1)+1) (.slice none 0 0)) p2 0 (QM x)) p3 0 (QM x2)
noncomputable def IW : Array Oper := ((Tryz.f17.body.bind (oG 7)).getD #[])
def MS (p1 p2 p3 q:Nat) (h:ab) (K:ab->Prop):Prop:=
 ∃c:List Nat,(∀b∈([]:List Nat),b∉c)/\
 q∉c/\∃g:Int,ac h q 0=some (QM g)/\q∉c/\∃i:Int,ac h q (0+1)=some (QM i)/\(∃a,ac h p1 0=some a)/\au h p1 0=true/\(∃a,ac h p1 (0+1)=some a)/\au h p1 (0+1)=true/\(∃a,ac h p1 ((0+1)+1)=some a)/\au h p1 ((0+1)+1)=true/\(∃a,ac h p1 (((0+1)+1)+1)=some a)/\au h p1 (((0+1)+1)+1)=true/\(∃a,ac h p1 ((((0+1)+1)+1)+1)=some a)/\au h p1 ((((0+1)+1)+1)+1)=true/\(∃a,ac h p1 (((((0+1)+1)+1)+1)+1)=some a)/\au h p1 (((((0+1)+1)+1)+1)+1)=true/\let d:ab:=am (am (am (am (am (am h p1 0 (QM 0)) p1 (0+1) (.slice none 0 0)) p1 ((0+1)+1) (.bool false)) p1 (((0+1)+1)+1) (.slice none 0 0)) p1 ((((0+1)+1)+1)+1) (.slice none 0 0)) p1 (((((0+1)+1)+1)+1)+1) (.slice none 0 0)
 Fr c h d/\
 (∃a,ac d p2 0=some a)/\au d p2 0=true/\let e:ab:=am d p2 0 (QM g)
 Fr c h e/\
 (∃a,ac e p3 0=some a)/\au e p3 0=true/\let f:ab:=am e p3 0 (QM i)
 Fr c h f/\
 K f
theorem MT {Q:Exit->Act->World->Prop} {a:Act} {w:World} {p1 p2 p3 q:Nat} {x x2:Int} (hn:a.tmps.size=17) (hd:a.defers=[]) (t0:a.tmps[0]? =some (pt p1)) (t1:a.tmps[1]? =some (pt p2)) (t2:a.tmps[2]? =some (pt p3)) (t4:a.tmps[4]? =some (pt q))
  (c0:ac w.heap q 0=some (QM x)) (c1:ac w.heap q 1=some (QM x2))
  (h1:w.heap[p1]? =some (.cells #[QM 0,.slice none 0 0,.bool false,.slice none 0 0,.slice none 0 0,.slice none 0 0] 29 (0,0))) (h2:w.heap[p2]? =some (.cells #[QM 0] 3 (0,0))) (h3:w.heap[p3]? =some (.cells #[QM 0] 32 (0,0)))
  (n1:q≠p1/\q≠p2/\q≠p3) (n2:p1≠p2/\p1≠p3/\p2≠p3)
  (k:∀a' w',a'.defers=[]->Go.X.Rest w w'->w'.heap=nk w.heap p1 p2 p3 x x2->Q .normal a' w'):(Code.region 7 IW true).wp Tryz.prog Q a w:=by
 have s:MS p1 p2 p3 q w.heap fun h'=>h'=nk w.heap p1 p2 p3 x x2:=by
  have f1:∀o,au w.heap p1 o=true:=fun o=>lK h1 o
  have cc:∀(o:Nat) (u:Value),(#[QM 0,.slice none 0 0,.bool false,.slice none 0 0,.slice none 0 0,.slice none 0 0]:Array Value)[o]? =some u->ac w.heap p1 o=some u:=fun o u hu=>(aQ h1 o).trans hu
  refine⟨[p1,p2,p3],QB,by simp[n1],x,c0,by simp[n1],x2,c1,⟨_,cc 0 _ rfl⟩,f1 _,⟨_,cc 1 _ rfl⟩,f1 _,⟨_,cc 2 _ rfl⟩,f1 _,⟨_,cc 3 _ rfl⟩,f1 _,⟨_,cc 4 _ rfl⟩,f1 _,⟨_,cc 5 _ rfl⟩,f1 _,?_⟩
  intro hv
  have F:Fr [p1] w.heap hv:=((((((Fr.refl _ _:Fr [p1] w.heap w.heap).hsetr (.inr QB)).hsetr (.inr QB)).hsetr (.inr QB)).hsetr (.inr QB)).hsetr (.inr QB)).hsetr (.inr QB)
  have g2:hv[p2]? =some (.cells #[QM 0] 3 (0,0)):=F.blk_some h2 (by simp[Ne.symm n2.1])
  have g3:hv[p3]? =some (.cells #[QM 0] 32 (0,0)):=F.blk_some h3 (by simp[Ne.symm n2.2.1])
  have F3:Fr [p1,p2,p3] w.heap hv:=F.mono QB
  refine⟨F3,⟨_,(aQ g2 0).trans rfl⟩,lK g2 0,?_⟩
  intro hv2
  have F2:Fr [p2] hv hv2:=Fr.hset _ _ _ _
  have k3:hv2[p3]? =some (.cells #[QM 0] 32 (0,0)):=F2.blk_some g3 (by simp[Ne.symm n2.2.2])
  exact⟨F3.hsetr (.inr QB),⟨_,(aQ k3 0).trans rfl⟩,lK k3 0,(F3.hsetr (.inr QB)).hsetr (.inr QB),rfl⟩
 have e:MS p1 p2 p3 q w.heap (fun h'=>h'=nk w.heap p1 p2 p3 x x2)=XD (sU [] 17) ⟨[],[],[]⟩ ⟨8,true⟩ IW.toList.toArray ⟨[(0,.ptr p1 0),(1,.ptr p2 0),(2,.ptr p3 0),(4,.ptr q 0)],[]⟩ w.heap (fun _ h'=>h'=nk w.heap p1 p2 p3 x x2):=by kernel_rfl
 have r:Rel ⟨[(0,.ptr p1 0),(1,.ptr p2 0),(2,.ptr p3 0),(4,.ptr q 0)],[]⟩ a w:=by
  refine⟨fun t y hy=>?_,fun s p hp=>by simp[av]at hp,fun s t p q hp=>by simp[av]at hp,hd⟩
  rcases gq hy with⟨rfl,rfl⟩ | hy
  ·exact⟨_,rfl,t0⟩
  rcases gq hy with⟨rfl,rfl⟩ | hy
  ·exact⟨_,rfl,t1⟩
  rcases gq hy with⟨rfl,rfl⟩ | hy
  ·exact⟨_,rfl,t2⟩
  rcases gq hy with⟨rfl,rfl⟩ | hy
  ·exact⟨_,rfl,t4⟩
  cases hy
 refine Code.wp_mono (fun e a' w' hq=>?_) (ye (lV _ _) (e▸s) r hn)
 cases e with
 | normal=>
  obtain⟨st,r,q1,q2,q3,q4⟩:=hq
  exact k a' w' r.df q1 q4
 | panic ch=>obtain⟨E',v,q1,_⟩:=hq;cases q1
 | _=>exact hq.elim
open Go.Proofs
set_option maxHeartbeats 4000000 in
theorem JL (p1 p2 p3:Addr) (w:World):CallsD Tryz.prog 17 #[.pointer (some p1),.pointer (some p2),.pointer (some p3)] .returning w fun e u' w'=>e= .returned (.tuple #[])/\u'= .returning/\w'=w:=by
 refine callsD_of_wpS Tryz.func17 rfl fun c₀ cs hu=>?_
 apply wpS_seq
 apply wpS_region
 simp[wpOpsS,go_sem,recoverD,hu,Tryz.ntmps17,Exit.thenS]
 refine wpS_of_wp ?_
 go_wp2_with (fail)
 refine⟨rfl,.returning,?_,.tuple #[],results_none rfl _ _ _,rfl,rfl,rfl⟩
 rw[<-hu]
set_option maxHeartbeats 4000000 in
theorem Gf (p1 p2 p3:Nat) (a e:Nat) (w:World) (h1:w.heap[p1]? =some (.cells #[QM 0,.slice none 0 0,.bool false,.slice none 0 0,.slice none 0 0,.slice none 0 0] 29 (0,0)))
  (h2:w.heap[p2]? =some (.cells #[QM 0] 3 (0,0))) (h3:w.heap[p3]? =some (.cells #[QM 0] 32 (0,0))) (n12:p1≠p2) (n13:p1≠p3) (n23:p2≠p3):
  CallsD Tryz.prog 17 #[pt p1,pt p2,pt p3] (.panicking [{v:=flx (a,e),recovered:=false}]) w fun x u' w'=>
   x= .returned (.tuple #[])/\u'= .panicking [{v:=flx (a,e),recovered:=true}]/\Go.X.Rest w w'/\w'.heap=nk (w.heap.push (.cells #[QM (a:Int),QM (e:Int)] 53)) p1 p2 p3 (a:Int) (e:Int):=by
 have hta:∀v:Value,(Instr.typeAssert (.iface 53 v) 20 53 true).run Tryz.prog w= .ok (.tuple #[v,.bool true]) w:=fun v=>by
  simp[Instr.typeAssert]
 refine callsD_of_wpS Tryz.func17 rfl fun c₀ cs hu=>?_
 apply wpS_seq
 apply wpS_region
 simp[wpOpsS,go_sem,recoverD,hu,Tryz.ntmps17,Exit.thenS,flx]
 refine wpS_of_wp ?_
 go_wp2_with (fail)
 refine MT (p1:=p1) (p2:=p2) (p3:=p3) (q:=w.heap.size) (x:=(a:Int)) (x2:=(e:Int)) QB rfl QB QB QB QB ?_ ?_ ?_ ?_ ?_ ?_ ?_ fun a' w' d1 d2 d3=>?_
 ·exact(aQ (h:=w.heap.push _) (c:=#[QM (a:Int),QM (e:Int)]) (t:=53) (f:=(0,0)) QB 0).trans rfl
 ·exact(aQ (h:=w.heap.push _) (c:=#[QM (a:Int),QM (e:Int)]) (t:=53) (f:=(0,0)) QB 1).trans rfl
 ·exact(Fr.push w.heap _).blk_some h1 QB
 ·exact(Fr.push w.heap _).blk_some h2 QB
 ·exact(Fr.push w.heap _).blk_some h3 QB
 ·have l1:=(Array.getElem?_eq_some_iff.1 h1).1
  have l2:=(Array.getElem?_eq_some_iff.1 h2).1
  have l3:=(Array.getElem?_eq_some_iff.1 h3).1
  exact⟨Qz,Qz,Qz⟩
 ·exact⟨n12,n13,n23⟩
 ·exact⟨d1,_,rfl,.tuple #[],results_none rfl _ _ _,rfl,rfl,(Go.X.Rest.alloc w _).trans d2,d3⟩
set_option maxHeartbeats 2000000 in
theorem MW {tmps:Array Value} {w:World} {p1 p2 p3:Nat} {c0 x y:Int} {a1 a4 a5 a6:QR} {n1 k1 n4 k4 n5 k5 n6 k6:Nat} {c2:Bool} (t2:tmps[2]? =some (pt p1)) (t3:tmps[3]? =some (pt p2)) (t4:tmps[4]? =some (pt p3))
  (h1:w.heap[p1]? =some (.cells #[QM c0,.slice a1 n1 k1,.bool c2,.slice a4 n4 k4,.slice a5 n5 k5,.slice a6 n6 k6] 29 (0,0))) (h2:w.heap[p2]? =some (.cells #[QM x] 3 (0,0))) (h3:w.heap[p3]? =some (.cells #[QM y] 32 (0,0))):
  (results Tryz.f7 tmps).run Tryz.prog w= .ok (.tuple #[.agg #[QM c0,.slice a1 n1 k1,.bool c2,.slice a4 n4 k4,.slice a5 n5 k5,.slice a6 n6 k6],QM x,QM y]) w:=by
 have r:Rel ⟨[(2,.ptr p1 0),(3,.ptr p2 0),(4,.ptr p3 0)],[]⟩ (⟨tmps,[]⟩:Act) w:=by
  refine⟨fun t v hy=>?_,fun s p hp=>by simp[av]at hp,fun s t p q hp=>by simp[av]at hp,rfl⟩
  rcases gq hy with⟨rfl,rfl⟩ | hy
  ·exact⟨_,rfl,t2⟩
  rcases gq hy with⟨rfl,rfl⟩ | hy
  ·exact⟨_,rfl,t3⟩
  rcases gq hy with⟨rfl,rfl⟩ | hy
  ·exact⟨_,rfl,t4⟩
  cases hy
 have cc:∀(o:Nat) (u:Value),(#[QM c0,.slice a1 n1 k1,.bool c2,.slice a4 n4 k4,.slice a5 n5 k5,.slice a6 n6 k6]:Array Value)[o]? =some u->ac w.heap p1 o=some u:=fun o u hu=>(aQ h1 o).trans hu
 have S:∀R:Value->Prop,R (.tuple #[.agg #[QM c0,.slice a1 n1 k1,.bool c2,.slice a4 n4 k4,.slice a5 n5 k5,.slice a6 n6 k6],QM x,QM y])->
   vO (sU [] 19).T ⟨[(2,.ptr p1 0),(3,.ptr p2 0),(4,.ptr p3 0)],[]⟩ w.heap Tryz.f7.results.toList fun vs=>R (one vs):=by
  intro R hR
  refine Eq.mp (α:=∃x12:Int,ac w.heap p1 0=some (QM x12)/\∃(xA7:QR) (xL7 xC7:Nat),ac w.heap p1 (0+1)=some (.slice xA7 xL7 xC7)/\∃x13:Bool,ac w.heap p1 ((0+1)+1)=some (.bool x13)/\∃(xA8:QR) (xL8 xC8:Nat),ac w.heap p1 (((0+1)+1)+1)=some (.slice xA8 xL8 xC8)/\
   ∃(xA9:QR) (xL9 xC9:Nat),ac w.heap p1 ((((0+1)+1)+1)+1)=some (.slice xA9 xL9 xC9)/\∃(xA10:QR) (xL10 xC10:Nat),ac w.heap p1 (((((0+1)+1)+1)+1)+1)=some (.slice xA10 xL10 xC10)/\
   ∃x:Int,ac w.heap p2 0=some (QM x)/\∃y:Int,ac w.heap p3 0=some (QM y)/\
   R (.tuple #[.agg #[QM x12,.slice xA7 xL7 xC7,.bool x13,.slice xA8 xL8 xC8,.slice xA9 xL9 xC9,.slice xA10 xL10 xC10],QM x,QM y])) QC ?_
  exact⟨c0,cc 0 _ rfl,a1,n1,k1,cc 1 _ rfl,c2,cc 2 _ rfl,a4,n4,k4,cc 3 _ rfl,a5,n5,k5,cc 4 _ rfl,a6,n6,k6,cc 5 _ rfl,x,(aQ h2 0).trans rfl,y,(aQ h3 0).trans rfl,hR⟩
 have hT:bn Tryz.prog (sU [] 19).T:=(lV [] 19).T
 obtain⟨v,e1,e2⟩:=gY (P:=Tryz.prog) (T:=(sU [] 19).T) (st:=⟨[(2,.ptr p1 0),(3,.ptr p2 0),(4,.ptr p3 0)],[]⟩) (w:=w) (fn:=Tryz.f7) (a:=⟨tmps,[]⟩) (R:=fun v=>v= .tuple #[.agg #[QM c0,.slice a1 n1 k1,.bool c2,.slice a4 n4 k4,.slice a5 n5 k5,.slice a6 n6 k6],QM x,QM y]) hT r (S (fun v=>v= .tuple #[.agg #[QM c0,.slice a1 n1 k1,.bool c2,.slice a4 n4 k4,.slice a5 n5 k5,.slice a6 n6 k6],QM x,QM y]) rfl)
 rw[<-e2]
 exact e1
section
variable {gl:GL} {s:ByteArray} {rd:ByteArray->Option (Nat × Nat)} {cl:Nat->Nat}
def z29 :List Value:=[QM 0,.slice none 0 0,.bool false,.slice none 0 0,.slice none 0 0,.slice none 0 0]
theorem Sq.drop {h0 h h':ab} {C A B:List Ck} (q:Sq h0 C h (A++B)) (f:Fr (aF A) h h'):Sq h0 C h' B:=by
 have p:Sq h A h' []:=⟨⟨f,Hp.nil _,fun k c hk=>by simp at hk⟩,fun b hb=>by simp[rds]at hb⟩
 simpa using Sq.call q p
theorem Mf (h:ab) (a b c:Obj):(((h.push a).push b).push c)[h.size]? =some a/\(((h.push a).push b).push c)[h.size+1]? =some b/\(((h.push a).push b).push c)[h.size+1+1]? =some c:=by
 grind
theorem Ci {h:ab} {p1 p2 p3:Nat} {x y:Int} (h1:h[p1]? =some (.cells z29.toArray 29 (0,0))) (h2:h[p2]? =some (.cells #[QM 0] 3 (0,0))) (h3:h[p3]? =some (.cells #[QM 0] 32 (0,0))) (n2:p1≠p2/\p1≠p3/\p2≠p3):
  (nk h p1 p2 p3 x y)[p1]? =some (.cells #[QM 0,.slice none 0 0,.bool false,.slice none 0 0,.slice none 0 0,.slice none 0 0] 29 (0,0))/\(nk h p1 p2 p3 x y)[p2]? =some (.cells #[QM x] 3 (0,0))/\(nk h p1 p2 p3 x y)[p3]? =some (.cells #[QM y] 32 (0,0)):=by
 unfold nk
 have a:=cJ (cJ (cJ (cJ (cJ (cJ h1 (o:=0) (v:=QM 0)) (o:=0+1) (v:=.slice none 0 0)) (o:=(0+1)+1) (v:=.bool false)) (o:=((0+1)+1)+1) (v:=.slice none 0 0)) (o:=(((0+1)+1)+1)+1) (v:=.slice none 0 0)) (o:=((((0+1)+1)+1)+1)+1) (v:=.slice none 0 0)
 generalize hq:am (am (am (am (am (am h p1 0 (QM 0)) p1 (0+1) (.slice none 0 0)) p1 ((0+1)+1) (.bool false)) p1 (((0+1)+1)+1) (.slice none 0 0)) p1 ((((0+1)+1)+1)+1) (.slice none 0 0)) p1 (((((0+1)+1)+1)+1)+1) (.slice none 0 0)=hv at a ⊢
 have F:Fr [p1] h hv:=by
  subst hq
  exact((((((Fr.refl _ _:Fr [p1] h h).hsetr (.inr QB)).hsetr (.inr QB)).hsetr (.inr QB)).hsetr (.inr QB)).hsetr (.inr QB)).hsetr (.inr QB)
 have g2:hv[p2]? =some (.cells #[QM 0] 3 (0,0)):=F.blk_some h2 QD
 have g3:hv[p3]? =some (.cells #[QM 0] 32 (0,0)):=F.blk_some h3 QD
 refine⟨?_,?_,?_⟩
 ·rw[gI n2.2.1,gI n2.1];exact a
 ·rw[gI n2.2.2];exact cJ g2
 ·have:=(Fr.hset hv p2 0 (QM x)).blk_some g3 QD
  exact cJ this
end
end Go.Proofs.YtemphinmoihdaaaGreatDoor.N
