/- The whole document. Conditions: what Clean tells, what a number's text reads as. -/
import Derived.Test.YtlflalecmhgmjaaGreatDoorHEa
import Derived.Tactics
import Derived.Tactics2
import Derived.Defers
import Derived.Recover
import Derived.Laws.Pointers
set_option linter.unusedVariables false
set_option linter.unusedSimpArgs false
namespace Go.Proofs.YtlflalecmhgmjaaGreatDoor.N
open Go.Proofs.YtlflalecmhgmjaaGreatDoor
open Go.X
set_option maxRecDepth 100000
theorem To.if {α:Type} {E:En α} {ty:TypeId} {a:Option Addr} {n c:Nat} {xs:List α} (w:Bool):To (Ck.sl E ty a n c xs) (Ck.sl E ty (if w=true then a else none) (if w=true then n else 0) (if w=true then c else 0) (if w=true then xs else [])):=by
 cases w with
 | true=>exact To.refl _
 | false=>exact⟨fun h _=>(Sy.nilS (⟨Fr.refl _ _,Hp.nil h,fun k c hk=>by simp at hk⟩:Sy h [] h []) E ty).ok (k:=0) rfl,fun b hb=>by simp[Ck.sl,blkOf]at hb,fun b hb=>by simp[Ck.sl]at hb⟩
section
variable {gl:GL} {b:Nat} {s:ByteArray} {rd:ByteArray->Option (Nat × Nat)} {cl:Nat->Nat}
def pr (e:Nat × Nat):Int × Int:=((e.1:Int),(e.2:Int))
def rcG (s:ByteArray) (A:AD) (σ:G.Rd) (v4 v6 v7 v8:Value):List Value:=
 [.string s,.int .i64 (σ.i:Int),.int .i64 ((0:Nat):Int),.int .i64 (σ.n:Int),v4,.bool σ.dir,v6,v7,v8,.bool σ.graph,.map (some A.mp),
  .slice A.aL σ.labels.length A.cL,.slice A.aS σ.spots.length A.cS,.slice A.aW σ.weights.length A.cW,.bool σ.h0,.bool σ.h1,.bool σ.h2,.slice A.aE σ.ends.length A.cE]
def gC (gl:GL) (b:Nat) (s:ByteArray) (A:AD) (σ:G.Rd) (v4 v6 v7 v8:Value) (rest:List Ck):List Ck:=
 Ck.ob b 95 (rcG s A σ v4 v6 v7 v8)::Ck.mp A.mp (idsV σ.ids)::Ck.sl eS 9 A.aL σ.labels.length A.cL σ.labels::Ck.sl eFF 78 A.aS σ.spots.length A.cS σ.spots::Ck.sl eF 76 A.aW σ.weights.length A.cW σ.weights::
  Ck.sl eT 156 A.aE σ.ends.length A.cE σ.ends::Ck.glob gl::rest
def dC (gl:GL) (dc:G.Dc) (aD aL aS aW:Option Addr) (nD cD nL cL nS cS nW cW:Nat):List Ck:=
 [Ck.sl eP 48 aD nD cD (dc.edges.map pr),Ck.sl eS 9 aL nL cL dc.labels,Ck.sl eFF 78 aS nS cS dc.spots,Ck.sl eF 76 aW nW cW dc.weights,Ck.glob gl]
def aR (gl:GL) (s:ByteArray) (rd:ByteArray->Option (Nat × Nat)) (cl:Nat->Nat) (C:List Ck) (h:Heap) (v:Value) (h':Heap):Prop:=
 ∃dc aD aL aS aW nD cD nL cL nS cS nW cW,G.readL rd cl s= .ok dc/\v= .agg #[.int .i64 (dc.n:Int),.slice aD nD cD,.bool dc.dir,.slice aL nL cL,.slice aS nS cS,.slice aW nW cW]/\
  Sq h C h' (dC gl dc aD aL aS aW nD cD nL cL nS cS nW cW)
def aE (s:ByteArray) (rd:ByteArray->Option (Nat × Nat)) (cl:Nat->Nat) (C:List Ck) (h:Heap) (v:Value) (h':Heap):Prop:=
 ∃f,G.readL rd cl s= .no f/\v=flt f/\Fr (owns C) h h'
theorem find_of {ids:List (Int × Nat)} (nd:(ids.map (·.1)).Nodup) {w:Int × Nat} (hw:w∈ids):G.find ids w.1=some w.2:=by
 unfold G.find
 cases q:ids.find? (fun p=>p.1==w.1)with
 | none=>
  have:=List.find?_eq_none.1 q w hw
  simp at this
 | some p=>
  have h1:=List.mem_of_find?_eq_some q
  have h2:=List.find?_some q
  have h2:p.1=w.1:=eq_of_beq h2
  obtain⟨i,hi⟩:=List.mem_iff_getElem?.1 h1
  obtain⟨j,hj⟩:=List.mem_iff_getElem?.1 hw
  have e:i=j:=nodup_inj nd (x:=w.1) (by rw[List.getElem?_map,hi];simp[h2]) (by rw[List.getElem?_map,hj];rfl)
  subst e
  rw[hi]at hj
  cases hj
  rfl
theorem find_no {ids:List (Int × Nat)} {n:Int} (h:∀w∈ids,w.1≠n):G.find ids n=none:=by
 unfold G.find
 rw[List.find?_eq_none.2 (fun w hw=>by simpa using h w hw)]
 rfl
set_option maxHeartbeats 1000000 in
theorem ok59 (hr:RdOK rd gl) (hc:G.ClOK cl) (hcl:ClFn cl) (hs:s.size<=262144) {A:AD} {h:Heap} (H:Hp h (stC gl b s A G.start 0)) (hu:G.readL rd cl s≠ .un):
  CallsP Tryz.prog 59 #[pt b] h (aR gl s rd cl (stC gl b s A G.start 0) h) (aE s rd cl (stC gl b s A G.start 0) h):=by
 generalize hC:stC gl b s A G.start 0=C at H ⊢
 have Q0:Sq h C h (stC gl b s A G.start 0):=by rw[hC];exact Sq.start H
 have hg:∀x∈glB gl,x∈rds C:=by
  intro x hx
  rw[<-hC]
  exact mem_rds.2 ⟨6,_,rfl,hx⟩
 have hbl:b<h.size:=sybl Q0.sy 0 rfl b (by simp[Ck.ob])
 apply calls59
 unfold S59
 intro hv
 have s1:hv.size=h.size+1:=by simp[hv]
 have Q1:Sq h C hv ((stC gl b s A G.start 0++[Ck.fx none []])++[Ck.junk h.size]):=by
  refine⟨Sy.junk (Q0.sy.addN (Ck.fx none []) ⟨fun p hp=>(by cases hp),fun f hf=>(by cases hf)⟩ rfl rfl) _,fun x hx=>?_⟩
  refine Q0.ri x ?_
  simpa[rds,Ck.fx,Ck.junk]using hx
 clear_value hv
 have nin:∀z∈([h.size]:List Nat),z∉owns (stC gl b s A G.start 0++[Ck.fx none []]):=by
  intro z hz q
  simp only[List.mem_singleton]at hz
  subst hz
  obtain⟨k,c,h1,h2⟩:=memOwns.1 q
  rcases app_or h1 with h1 | ⟨_,h1⟩
  ·have:=sybl Q0.sy k h1 _ h2;omega
  ·obtain ⟨e,rfl⟩:=List.getElem?_eq_some_iff.1 h1
   simp[Ck.fx]at h2
 have HA:Hp hv (stC gl b s A G.start 0++[Ck.fx none []]):=(Q1.pick [0,1,2,3,4,5,6,7] rfl).hp
 have hun:G.list s rd cl (s.size+1) .top 0 G.start≠ .un:=by
  intro q
  unfold G.readL at hu
  rw[q]at hu
  exact hu rfl
 have ri0:G.RI cl s G.start:=G.start_ri
 refine callP_of _ (okList hr hc hcl hs (s.size+1) .top 0 G.start A hv _ .nilFunc none [] HA ⟨rfl,rfl,rfl⟩ ri0 trivial (by decide) hun) nin (fun _ _ r=>by obtain⟨_,_,_,_,_,_,_,q,_⟩:=r;exact q.fr) (fun _ _ r=>by obtain⟨_,_,_,q⟩:=r;exact q) (fun w hv2 r=>?_) fun w hv2 r=>?_
 rotate_left
 ·obtain ⟨f,q1,rfl,q2⟩:=r
  exact⟨f,by unfold G.readL;rw[q1];rfl,rfl,Q1.frA q2⟩
 obtain⟨e,l',σ,A',mo',q1,rfl,q2,q3,-⟩:=r
 have ea:G.EA σ:=G.list_ea (rd:=rd) (cl:=cl) (s:=s) _ _ _ _ ⟨by simp[G.start],by simp[G.start]⟩ _ q1
 have ri:G.RI cl s σ:=((G.list_all (rd:=rd) hc (s.size+1) .top 0 G.start ri0 trivial).1 _ q1).2.2.1
 have Q2:Sq h C hv2 (stC gl b s A' σ 0++[Ck.junk h.size]):=(Sq.call Q1 q2).pick [0,1,2,3,4,5,6,8] rfl
 have hL:G.readL rd cl s=G.must σ.graph (e,14) ((G.edges σ.ids σ.ends).bind fun es=>.ok ⟨σ.n,σ.dir,es,if σ.h0=true then σ.labels else [],if σ.h1=true then σ.spots else [],if σ.h2=true then σ.weights else []⟩):=by
  unfold G.readL;rw[q1];rfl
 clear Q1 Q0 q2
 refine⟨(e:Int),rfl,b,0,rfl,σ.graph,Q2.sy.cellO 0 rfl 9 rfl,?_⟩
 refine callMust (fun q=>?_) fun q=>⟨_,by rw[hL,q];rfl,rfl,Q2.fr⟩
 rw[q]at hL
 simp only[G.must]at hL
 refine⟨rfl,?_⟩
 have hel:=ri.el
 have hwl:=ri.wl
 have Y0:Sy h (owns C) hv2 (gC gl b s A' σ (.slice none 0 0) (.slice none 0 0) (.slice none 0 0) (.slice none 0 0) [Ck.junk h.size,Ck.sl eP 48 none 0 0 []]):=Q2.sy.nilS eP 48
 clear Q2
 refine⟨fun l hv4=>∃(k:Nat) (es:List (Nat × Nat)) (aD:Option Addr) (cD:Nat),l=[.int .i64 ((2*k:Nat):Int)]/\es.length=k/\2*k<=σ.ends.length/\
   Sy h (owns C) hv4 (gC gl b s A' σ (.slice aD k cD) (.slice none 0 0) (.slice none 0 0) (.slice none 0 0) [Ck.junk h.size,Ck.sl eP 48 aD k cD (es.map pr)])/\
   G.edges σ.ids σ.ends=(G.edges σ.ids (σ.ends.drop (2*k))).bind fun l=>.ok (es++l),fun l _=>match l with
  | [.int _ i]=>σ.ends.length-i.toNat
  | _=>0,⟨0,[],none,0,rfl,rfl,Nat.zero_le _,Y0,?_⟩,?_⟩
 ·rw [Nat.mul_zero,List.drop_zero]
  cases G.edges σ.ids σ.ends<;>rfl
 rintro i hv4 ⟨k,es,aD,cD,ei,hk,hle,Y,hes⟩
 cases ei
 have sz4:h.size<hv4.size:=sybl Y 7 rfl h.size (by simp[Ck.junk])
 refine⟨b,0,rfl,A'.aE,σ.ends.length,A'.cE,Y.cellO 0 rfl 17 rfl,?_⟩
 refine cnd_dec (fun q=>?_) fun q=>?_
 ·--one edge
  have hlt:2*k+1<σ.ends.length:=by omega
  intro hv5
  have Y5:Sy h (owns C) hv5 (gC gl b s A' σ (.slice aD k cD) (.slice none 0 0) (.slice none 0 0) (.slice none 0 0) [Ck.junk h.size,Ck.sl eP 48 aD k cD (es.map pr),Ck.ob hv4.size 48 [.int .i64 ((0:Nat):Int),.int .i64 ((0:Nat):Int)]]):=Sy.newO Y [.int .i64 ((0:Nat):Int),.int .i64 ((0:Nat):Int)]
  clear_value hv5
  have ew:IntKind.i64.wrap (((2*k:Nat):Int)+(2:Int))=((2*k+2:Nat):Int):=by rw[wr (by omega) (by omega)];omega
  have e2:2*k+2-2*k=2:=by omega
  rw[ew,Int.toNat_natCast,Int.toNat_natCast,e2]
  have hcap:=Y5.capS 5 rfl
  refine⟨b,0,rfl,A'.aE,σ.ends.length,A'.cE,Y5.cellO 0 rfl 17 rfl,by omega,by omega,by omega,by omega,?_⟩
  refine⟨fun l hv6=>∃j p q:Nat,l=[.int .i64 (j:Int)]/\j<=2/\Sy h (owns C) hv6 (gC gl b s A' σ (.slice aD k cD) (.slice none 0 0) (.slice none 0 0) (.slice none 0 0) [Ck.junk h.size,Ck.sl eP 48 aD k cD (es.map pr),Ck.ob hv4.size 48 [.int .i64 (p:Int),.int .i64 (q:Int)]])/\
    (1<=j->G.endOf σ.ids σ.ends[2*k]= .ok p)/\(2<=j->G.endOf σ.ids σ.ends[2*k+1]= .ok q),fun l _=>match l with
   | [.int _ i]=>2-i.toNat
   | _=>0,⟨0,0,0,rfl,by omega,Y5,fun q=>(by omega),fun q=>(by omega)⟩,?_⟩
  rintro x2 hv6 ⟨j,p,q2,e,hj,Y6,hp,hq⟩
  cases e
  have sz6:hv4.size<hv6.size:=sybl Y6 9 rfl hv4.size (by simp[Ck.ob])
  refine cnd_dec (fun q3=>?_) fun q3=>?_
  ·--one end
   have hj2:j<2:=by omega
   obtain⟨t,ht⟩:∃t,σ.ends[2*k+j]? =some t:=⟨_,List.getElem?_eq_getElem (by omega)⟩
   obtain⟨g,hg2,-,-⟩:=Y6.atS 5 rfl (i:=(0:Int)) (by omega) (by omega)
   have hcE:∀m u,(eT.enc t)[m]? =some u->hcell hv6 g (0+2*k*4+j*4+m)=some u:=by
    intro m u hu
    have:=Y6.cellS 5 rfl hg2 ht hu
    have eo:0+(2*k+j)*eT.sz+m=0+2*k*4+j*4+m:=by show 0+(2*k+j)*4+m=_;omega
    rwa[eo]at this
   have tin:t∈σ.ends:=List.mem_of_getElem? ht
   have tsz:t.says.size<=262144:=by have:=ea.1 t tin;omega
   refine⟨g,0+2*k*4,by rw[if_neg (by omega),hg2];simp[Addr.add];omega,by omega,q3,?_⟩
   rw[Int.toNat_natCast]
   refine⟨_,hcE 0 _ rfl,_,hcE 1 _ rfl,_,hcE 2 _ rfl,_,hcE 3 _ rfl,?_⟩
   intro hv7 hv8
   have Y8:Sy h (owns C) hv8 _:=Y6.gr ((((((Fr.push hv6 _).hsetL (Nat.le_refl _)).hsetL (Nat.le_refl _)).hsetL (Nat.le_refl _)).hsetL (Nat.le_refl _)):Fr [] hv6 hv8)
   clear_value hv8
   clear hv7
   intro K
   have eE:G.endOf σ.ids t=(match G.whole t.l with
    | some n=>(match G.find σ.ids n with
     | some v=>.ok v
     | none=>.no (t.at_,14))
    | none=>.no (t.at_,17)):=rfl
   have bad:∀f,G.endOf σ.ids t= .no f->G.readL rd cl s= .no f:=by
    intro f hf
    rw[hL,hes,G.edges_step hlt]
    have h01:j=0\/j=1:=by omega
    rcases h01 with rfl | rfl
    ·have:σ.ends[2*k]=t:=(List.getElem?_eq_some_iff.1 ht).2
     rw[this,hf];rfl
    ·have:σ.ends[2*k+1]=t:=(List.getElem?_eq_some_iff.1 ht).2
     rw[this,hf,hp (Nat.le_refl _)];rfl
   have kt:∀(v:Nat) (hv9:Heap),G.endOf σ.ids t= .ok v->Fr [] hv8 hv9->K (v:Int) true hv9:=by
    intro v hv9 hv' f9
    have Y9:Sy h (owns C) hv9 _:=Y8.gr f9
    refine callMust (fun _=>⟨rfl,by omega,by omega,by omega,by omega,?_⟩) fun z=>absurd z (by decide)
    have ej:0+j*1=j:=by omega
    rw[ej]
    refine⟨?_,Y9.freeO 9 rfl j,?_⟩
    ·have h01:j=0\/j=1:=by omega
     rcases h01 with rfl | rfl
     ·exact ⟨_,Y9.cellO 9 rfl 0 rfl⟩
     ·exact ⟨_,Y9.cellO 9 rfl 1 rfl⟩
    intro hv12
    have Y12:=Y9.stO 9 rfl j (.int .i64 (v:Int))
    rw[wrN (by omega)]
    refine⟨?_,?_⟩
    ·have h01:j=0\/j=1:=by omega
     rcases h01 with rfl | rfl
     ·have e0:σ.ends[2*k]=t:=(List.getElem?_eq_some_iff.1 ht).2
      exact⟨1,v,q2,rfl,by omega,Y12,fun _=>by rw[e0];exact hv',fun z=>(by omega)⟩
     ·have e0:σ.ends[2*k+1]=t:=(List.getElem?_eq_some_iff.1 ht).2
      exact⟨2,p,v,rfl,by omega,Y12,fun _=>hp (Nat.le_refl _),fun _=>by rw[e0];exact hv'⟩
    ·show 2-((j+1:Nat):Int).toNat<2-(j:Int).toNat
     omega
   refine⟨b,0,rfl,some A'.mp,Y8.cellO 0 rfl 10 rfl,?_⟩
   refine callP_of [] (ok112 (t:=t) (Y8.glo 6 rfl) tsz) (by simp) (fun _ _ r=>r.choose_spec.2.2) (fun _ _ r=>r.2.2) (fun w hv9 r=>?_) fun w hv9 r=>?_
   ·obtain ⟨n,qn,rfl,f9⟩:=r
    have Y9:Sy h (owns C) hv9 _:=Y8.gr f9
    rw[qn]at eE
    simp only at eE
    refine⟨n,rfl,f9,A'.mp,rfl,_,_,Y9.mapM 1 rfl,ids_keys _,?_,?_⟩
    ·intro ev he hk
     obtain⟨jj,pp,h3,rfl⟩:=Ent_mem he
     obtain⟨w,h4,rfl⟩:=ids_get h3
     injection hk with _ hk
     refine⟨(w.2:Int),rfl,f9,kt w.2 hv9 ?_ f9⟩
     rw[eE,<-hk,find_of ea.2 (List.mem_of_getElem? h4)]
    ·intro hn
     refine⟨f9,?_⟩
     refine callMust (fun z=>absurd z (by decide)) fun _=>⟨_,bad _ ?_,rfl,Y9.fr⟩
     rw[eE,find_no fun w hw e=>?_]
     obtain⟨jj,hjj⟩:=List.mem_iff_getElem?.1 hw
     exact hn _ (ids_in hjj) (by rw[e])
   ·obtain ⟨qn,rfl,f9⟩:=r
    rw[qn]at eE
    exact⟨_,bad _ eE,rfl,Y8.fr.trans f9.nil⟩
  ·--both
   have hj2:j=2:=by omega
   subst hj2
   have hD:∀x∈blkOf aD,x<hv6.size/\x≠b/\x≠h.size/\x≠hv4.size:=fun x hx=>⟨sybl Y6 8 rfl x hx,fun e=>(Y6.hp.ap 8 0 _ _ (by decide) rfl rfl x hx).1 (by simp[Ck.ob,e]),
    fun e=>(Y6.hp.ap 8 7 _ _ (by decide) rfl rfl x hx).1 (by simp[Ck.junk,e]),fun e=>(Y6.hp.ap 8 9 _ _ (by decide) rfl rfl x hx).1 (by simp[Ck.ob,e])⟩
   refine⟨blkOf aD,fun x hx q=>?_,b,0,rfl,fun q=>(hD b q).2.1 rfl,aD,k,cD,Y6.cellO 0 rfl 4 rfl,fun q=>(hD _ q).2.2.2 rfl,_,Y6.cellO 9 rfl 0 rfl,_,Y6.cellO 9 rfl 1 rfl,?_⟩
   ·simp only[List.mem_singleton]at hx
    exact(hD x q).2.2.1 hx
   intro hv13
   have Y13:Sy h (owns C) hv13 _:=Y6.gr (Fr.push hv6 _)
   have f13:Fr (blkOf aD) hv6 hv13:=(Fr.push _ _).nil
   clear_value hv13
   refine⟨f13,_,Y13.ownS 8 rfl,fun x hx q=>?_,by omega,by simp only[maxLen];omega,fun sA sC hv14 ow f gg _=>?_⟩
   ·have:=hD x q
    simp only[List.mem_cons,List.not_mem_nil,or_false]at hx
    omega
   have Y14:=Y13.appS 8 rfl [((p:Int),(q2:Int))] ow f gg rfl rfl
   refine⟨f13.trans f,b,0,rfl,by omega,by omega,⟨_,Y14.cellO 0 rfl 4 rfl⟩,Y14.freeO 0 rfl 4,?_⟩
   intro hv15
   have Y15:Sy h (owns C) hv15 (gC gl b s A' σ (.slice sA (k+1) sC) (.slice none 0 0) (.slice none 0 0) (.slice none 0 0) [Ck.junk h.size,Ck.sl eP 48 sA (k+1) sC (es.map pr++[((p:Int),(q2:Int))]),Ck.ob hv4.size 48 [.int .i64 (p:Int),.int .i64 (q2:Int)]]):=Y14.stO 0 rfl 4 (.slice sA (k+1) sC)
   have em:es.map pr++[((p:Int),(q2:Int))]=(es++[(p,q2)]).map pr:=by simp[pr]
   rw[em]at Y15
   refine⟨⟨k+1,es++[(p,q2)],sA,sC,rfl,by simp[hk],by omega,Y15.pick [0,1,2,3,4,5,6,7,8] rfl,?_⟩,?_⟩
   ·rw [hes,G.edges_step hlt,hp (by omega),hq (Nat.le_refl _)]
    simp only[G.Er.bind]
    cases G.edges σ.ids (σ.ends.drop (2*(k+1)))<;>simp[G.Er.bind]
   ·show σ.ends.length-((2*k+2:Nat):Int).toNat<σ.ends.length-((2*k:Nat):Int).toNat
    omega
 ·--done
  have hend:2*k=σ.ends.length:=by omega
  have hed:G.edges σ.ids σ.ends= .ok es:=by
   rw[hes,List.drop_of_length_le (by omega)]
   simp[G.edges,G.Er.bind]
  rw[hed]at hL
  simp only[G.Er.bind]at hL
  clear hes
  refine⟨b,0,rfl,σ.h0,Y.cellO 0 rfl 14 rfl,?_⟩
  refine⟨fun _ h'=>Sy h (owns C) h' (gC gl b s A' σ (.slice aD k cD) (.slice (if σ.h0=true then A'.aL else none) (if σ.h0=true then σ.labels.length else 0) (if σ.h0=true then A'.cL else 0)) (.slice none 0 0) (.slice none 0 0) [Ck.junk h.size,Ck.sl eP 48 aD k cD (es.map pr)]),?_,?_⟩
  ·refine cnd_b (fun q=>?_) fun q=>?_
   ·refine ⟨b,0,rfl,A'.aL,σ.labels.length,A'.cL,Y.cellO 0 rfl 11 rfl,b,0,rfl,by omega,⟨_,Y.cellO 0 rfl 6 rfl⟩,Y.freeO 0 rfl 6,?_⟩
    rw[if_pos q,if_pos q,if_pos q]
    exact Y.stO 0 rfl 6 _
   ·have q:¬σ.h0=true:=by rw[q];decide
    rw[if_neg q,if_neg q,if_neg q]
    exact Y
  intro hv17 Y17
  refine⟨b,0,rfl,σ.h1,Y17.cellO 0 rfl 15 rfl,?_⟩
  refine⟨fun _ h'=>Sy h (owns C) h' (gC gl b s A' σ (.slice aD k cD) (.slice (if σ.h0=true then A'.aL else none) (if σ.h0=true then σ.labels.length else 0) (if σ.h0=true then A'.cL else 0)) (.slice (if σ.h1=true then A'.aS else none) (if σ.h1=true then σ.spots.length else 0) (if σ.h1=true then A'.cS else 0)) (.slice none 0 0) [Ck.junk h.size,Ck.sl eP 48 aD k cD (es.map pr)]),?_,?_⟩
  ·refine cnd_b (fun q=>?_) fun q=>?_
   ·refine ⟨b,0,rfl,A'.aS,σ.spots.length,A'.cS,Y17.cellO 0 rfl 12 rfl,b,0,rfl,by omega,⟨_,Y17.cellO 0 rfl 7 rfl⟩,Y17.freeO 0 rfl 7,?_⟩
    rw[if_pos q,if_pos q,if_pos q]
    exact Y17.stO 0 rfl 7 _
   ·have q:¬σ.h1=true:=by rw[q];decide
    rw[if_neg q,if_neg q,if_neg q]
    exact Y17
  intro hv19 Y19
  refine⟨b,0,rfl,σ.h2,Y19.cellO 0 rfl 16 rfl,?_⟩
  refine⟨fun _ h'=>Sy h (owns C) h' (gC gl b s A' σ (.slice aD k cD) (.slice (if σ.h0=true then A'.aL else none) (if σ.h0=true then σ.labels.length else 0) (if σ.h0=true then A'.cL else 0)) (.slice (if σ.h1=true then A'.aS else none) (if σ.h1=true then σ.spots.length else 0) (if σ.h1=true then A'.cS else 0))
   (.slice (if σ.h2=true then A'.aW else none) (if σ.h2=true then σ.weights.length else 0) (if σ.h2=true then A'.cW else 0)) [Ck.junk h.size,Ck.sl eP 48 aD k cD (es.map pr)]),?_,?_⟩
  ·refine cnd_b (fun q=>?_) fun q=>?_
   ·refine ⟨b,0,rfl,A'.aW,σ.weights.length,A'.cW,Y19.cellO 0 rfl 13 rfl,b,0,rfl,by omega,⟨_,Y19.cellO 0 rfl 8 rfl⟩,Y19.freeO 0 rfl 8,?_⟩
    rw[if_pos q,if_pos q,if_pos q]
    exact Y19.stO 0 rfl 8 _
   ·have q:¬σ.h2=true:=by rw[q];decide
    rw[if_neg q,if_neg q,if_neg q]
    exact Y19
  intro hv21 Y21
  refine⟨b,0,rfl,_,Y21.cellO 0 rfl 3 rfl,_,_,_,Y21.cellO 0 rfl 4 rfl,_,Y21.cellO 0 rfl 5 rfl,_,_,_,Y21.cellO 0 rfl 6 rfl,_,_,_,Y21.cellO 0 rfl 7 rfl,_,_,_,Y21.cellO 0 rfl 8 rfl,?_⟩
  intro hv22
  have Y22:Sy h (owns C) hv22 _:=(((((Y21.stJ 7 rfl 0 _).stJ 7 rfl (0+1) _).stJ 7 rfl ((0+1)+1) _).stJ 7 rfl (((0+1)+1)+1) _).stJ 7 rfl ((((0+1)+1)+1)+1) _).stJ 7 rfl (((((0+1)+1)+1)+1)+1) _
  clear_value hv22
  have Z1:=Y22.turn 2 rfl (To.if σ.h0)
  have Z2:=Z1.turn 3 rfl (To.if σ.h1)
  have Z3:=Z2.turn 4 rfl (To.if σ.h2)
  have Z4:=Z3.pick [8,2,3,4,6] rfl
  refine⟨⟨σ.n,σ.dir,es,if σ.h0=true then σ.labels else [],if σ.h1=true then σ.spots else [],if σ.h2=true then σ.weights else []⟩,aD,_,_,_,_,_,_,_,_,_,_,_,hL,rfl,⟨Z4,fun x hx=>?_⟩⟩
  have:x∈glB gl:=by simpa[rds,dC,Ck.sl,Ck.glob]using hx
  exact .inl (hg x this)
end
end Go.Proofs.YtlflalecmhgmjaaGreatDoor.N
namespace Go.Proofs.YtlflalecmhgmjaaGreatDoor.N
open Go.Proofs.YtlflalecmhgmjaaGreatDoor
open Go.X
set_option maxRecDepth 100000
def regOps (n:Nat):Code->Option (Array Oper)
 | .seq x y=>(regOps n x).or (regOps n y)
 | .cond _ x y=>(regOps n x).or (regOps n y)
 | .block _ x=>regOps n x
 | .region k ops _=>if k=n then some ops else none
 | _=>none
noncomputable def ops57 : Array Oper := ((Tryz.f57.body.bind (regOps 7)).getD #[])
def S57r (p1 p2 p3 q:Nat) (h:Heap) (K:Heap->Prop):Prop:=
 ∃c:List Nat,(∀b∈([]:List Nat),b∉c)/\
 q∉c/\∃g:Int,hcell h q 0=some (.int .i64 g)/\q∉c/\∃i:Int,hcell h q (0+1)=some (.int .i64 i)/\(∃a,hcell h p1 0=some a)/\hfree h p1 0=true/\(∃a,hcell h p1 (0+1)=some a)/\hfree h p1 (0+1)=true/\(∃a,hcell h p1 ((0+1)+1)=some a)/\hfree h p1 ((0+1)+1)=true/\(∃a,hcell h p1 (((0+1)+1)+1)=some a)/\hfree h p1 (((0+1)+1)+1)=true/\(∃a,hcell h p1 ((((0+1)+1)+1)+1)=some a)/\hfree h p1 ((((0+1)+1)+1)+1)=true/\(∃a,hcell h p1 (((((0+1)+1)+1)+1)+1)=some a)/\hfree h p1 (((((0+1)+1)+1)+1)+1)=true/\let d:Heap:=hset (hset (hset (hset (hset (hset h p1 0 (.int .i64 0)) p1 (0+1) (.slice none 0 0)) p1 ((0+1)+1) (.bool false)) p1 (((0+1)+1)+1) (.slice none 0 0)) p1 ((((0+1)+1)+1)+1) (.slice none 0 0)) p1 (((((0+1)+1)+1)+1)+1) (.slice none 0 0)
 Fr c h d/\
 (∃a,hcell d p2 0=some a)/\hfree d p2 0=true/\let e:Heap:=hset d p2 0 (.int .i64 g)
 Fr c h e/\
 (∃a,hcell e p3 0=some a)/\hfree e p3 0=true/\let f:Heap:=hset e p3 0 (.int .i64 i)
 Fr c h f/\
 K f
theorem look_cons {k t:Nat} {v y:AVal} {r:List (Nat × AVal)} (h:Go.X.look ((k,v)::r) t=some y):(t=k/\y=v)\/Go.X.look r t=some y:=by
 unfold Go.X.look at h
 split at h
 ·rename_i hb
  exact .inl ⟨(Nat.eq_of_beq_eq_true hb).symm,(Option.some.inj h).symm⟩
 ·exact .inr h
def put57 (h:Heap) (p1 p2 p3:Nat) (x x2:Int):Heap:=
 hset (hset (hset (hset (hset (hset (hset (hset h p1 0 (.int .i64 0)) p1 (0+1) (.slice none 0 0)) p1 ((0+1)+1) (.bool false)) p1 (((0+1)+1)+1) (.slice none 0 0)) p1 ((((0+1)+1)+1)+1) (.slice none 0 0)) p1 (((((0+1)+1)+1)+1)+1) (.slice none 0 0)) p2 0 (.int .i64 x)) p3 0 (.int .i64 x2)
theorem reg57 {Q:Exit->Act->World->Prop} {a:Act} {w:World} {p1 p2 p3 q:Nat} {x x2:Int} (hn:a.tmps.size=17) (hd:a.defers=[]) (t0:a.tmps[0]? =some (pt p1)) (t1:a.tmps[1]? =some (pt p2)) (t2:a.tmps[2]? =some (pt p3)) (t4:a.tmps[4]? =some (pt q))
  (c0:hcell w.heap q 0=some (.int .i64 x)) (c1:hcell w.heap q 1=some (.int .i64 x2))
  (h1:w.heap[p1]? =some (.cells #[.int .i64 0,.slice none 0 0,.bool false,.slice none 0 0,.slice none 0 0,.slice none 0 0] 29 (0,0))) (h2:w.heap[p2]? =some (.cells #[.int .i64 0] 3 (0,0))) (h3:w.heap[p3]? =some (.cells #[.int .i64 0] 32 (0,0)))
  (n1:q≠p1/\q≠p2/\q≠p3) (n2:p1≠p2/\p1≠p3/\p2≠p3)
  (k:∀a' w',a'.defers=[]->Go.X.Rest w w'->w'.heap=put57 w.heap p1 p2 p3 x x2->Q .normal a' w'):(Code.region 7 ops57 true).wp Tryz.prog Q a w:=by
 have s:S57r p1 p2 p3 q w.heap fun h'=>h'=put57 w.heap p1 p2 p3 x x2:=by
  have f1:∀o,hfree w.heap p1 o=true:=fun o=>hfree_of h1 o
  have cc:∀(o:Nat) (u:Value),(#[.int .i64 0,.slice none 0 0,.bool false,.slice none 0 0,.slice none 0 0,.slice none 0 0]:Array Value)[o]? =some u->hcell w.heap p1 o=some u:=fun o u hu=>(hcell_of h1 o).trans hu
  refine⟨[p1,p2,p3],by simp,by simp[n1],x,c0,by simp[n1],x2,c1,⟨_,cc 0 _ rfl⟩,f1 _,⟨_,cc 1 _ rfl⟩,f1 _,⟨_,cc 2 _ rfl⟩,f1 _,⟨_,cc 3 _ rfl⟩,f1 _,⟨_,cc 4 _ rfl⟩,f1 _,⟨_,cc 5 _ rfl⟩,f1 _,?_⟩
  intro hv
  have F:Fr [p1] w.heap hv:=((((((Fr.refl _ _:Fr [p1] w.heap w.heap).hsetr (.inr (by simp))).hsetr (.inr (by simp))).hsetr (.inr (by simp))).hsetr (.inr (by simp))).hsetr (.inr (by simp))).hsetr (.inr (by simp))
  have g2:hv[p2]? =some (.cells #[.int .i64 0] 3 (0,0)):=F.blk_some h2 (by simp[Ne.symm n2.1])
  have g3:hv[p3]? =some (.cells #[.int .i64 0] 32 (0,0)):=F.blk_some h3 (by simp[Ne.symm n2.2.1])
  have F3:Fr [p1,p2,p3] w.heap hv:=F.mono (by simp)
  refine⟨F3,⟨_,(hcell_of g2 0).trans rfl⟩,hfree_of g2 0,?_⟩
  intro hv2
  have F2:Fr [p2] hv hv2:=Fr.hset _ _ _ _
  have k3:hv2[p3]? =some (.cells #[.int .i64 0] 32 (0,0)):=F2.blk_some g3 (by simp[Ne.symm n2.2.2])
  exact⟨F3.hsetr (.inr (by simp)),⟨_,(hcell_of k3 0).trans rfl⟩,hfree_of k3 0,(F3.hsetr (.inr (by simp))).hsetr (.inr (by simp)),rfl⟩
 have e:S57r p1 p2 p3 q w.heap (fun h'=>h'=put57 w.heap p1 p2 p3 x x2)=XD (envX [] 17) ⟨[],[],[]⟩ ⟨8,true⟩ ops57.toList.toArray ⟨[(0,.ptr p1 0),(1,.ptr p2 0),(2,.ptr p3 0),(4,.ptr q 0)],[]⟩ w.heap (fun _ h'=>h'=put57 w.heap p1 p2 p3 x x2):=by kernel_rfl
 have r:Rel ⟨[(0,.ptr p1 0),(1,.ptr p2 0),(2,.ptr p3 0),(4,.ptr q 0)],[]⟩ a w:=by
  refine⟨fun t y hy=>?_,fun s p hp=>by simp[plook]at hp,fun s t p q hp=>by simp[plook]at hp,hd⟩
  rcases look_cons hy with⟨rfl,rfl⟩ | hy
  ·exact ⟨_,rfl,t0⟩
  rcases look_cons hy with⟨rfl,rfl⟩ | hy
  ·exact ⟨_,rfl,t1⟩
  rcases look_cons hy with⟨rfl,rfl⟩ | hy
  ·exact ⟨_,rfl,t2⟩
  rcases look_cons hy with⟨rfl,rfl⟩ | hy
  ·exact ⟨_,rfl,t4⟩
  cases hy
 refine Code.wp_mono (fun e a' w' hq=>?_) (XD_sound (envX_ok _ _) (e▸s) r hn)
 cases e with
 | normal=>
  obtain⟨st,r,q1,q2,q3,q4⟩:=hq
  exact k a' w' r.df q1 q4
 | panic ch=>obtain⟨E',v,q1,_⟩:=hq;cases q1
 | _=>exact hq.elim
end Go.Proofs.YtlflalecmhgmjaaGreatDoor.N
namespace Go.Proofs.YtlflalecmhgmjaaGreatDoor.N
open Go.Proofs.YtlflalecmhgmjaaGreatDoor
open Go.X
open Go.Proofs
set_option maxRecDepth 100000
set_option maxHeartbeats 4000000 in
theorem idle57 (p1 p2 p3:Addr) (w:World):CallsD Tryz.prog 57 #[.pointer (some p1),.pointer (some p2),.pointer (some p3)] .returning w fun e u' w'=>e= .returned (.tuple #[])/\u'= .returning/\w'=w:=by
 refine callsD_of_wpS Tryz.func57 rfl fun c₀ cs hu=>?_
 apply wpS_seq
 apply wpS_region
 simp[wpOpsS,go_sem,recoverD,hu,Tryz.ntmps57,Exit.thenS]
 refine wpS_of_wp ?_
 go_wp2_with (fail)
 refine⟨rfl,.returning,?_,.tuple #[],results_none rfl _ _ _,rfl,rfl,rfl⟩
 rw[<-hu]
set_option maxHeartbeats 4000000 in
theorem catch57 (p1 p2 p3:Nat) (a e:Nat) (w:World) (h1:w.heap[p1]? =some (.cells #[.int .i64 0,.slice none 0 0,.bool false,.slice none 0 0,.slice none 0 0,.slice none 0 0] 29 (0,0)))
  (h2:w.heap[p2]? =some (.cells #[.int .i64 0] 3 (0,0))) (h3:w.heap[p3]? =some (.cells #[.int .i64 0] 32 (0,0))) (n12:p1≠p2) (n13:p1≠p3) (n23:p2≠p3):
  CallsD Tryz.prog 57 #[pt p1,pt p2,pt p3] (.panicking [{v:=flt (a,e),recovered:=false}]) w fun x u' w'=>
   x= .returned (.tuple #[])/\u'= .panicking [{v:=flt (a,e),recovered:=true}]/\Go.X.Rest w w'/\w'.heap=put57 (w.heap.push (.cells #[.int .i64 (a:Int),.int .i64 (e:Int)] 88)) p1 p2 p3 (a:Int) (e:Int):=by
 have hta:∀v:Value,(Instr.typeAssert (.iface 88 v) 20 88 true).run Tryz.prog w= .ok (.tuple #[v,.bool true]) w:=fun v=>by
  simp[Instr.typeAssert]
 refine callsD_of_wpS Tryz.func57 rfl fun c₀ cs hu=>?_
 apply wpS_seq
 apply wpS_region
 simp[wpOpsS,go_sem,recoverD,hu,Tryz.ntmps57,Exit.thenS,flt]
 refine wpS_of_wp ?_
 go_wp2_with (fail)
 refine reg57 (p1:=p1) (p2:=p2) (p3:=p3) (q:=w.heap.size) (x:=(a:Int)) (x2:=(e:Int)) (by simp) rfl (by simp) (by simp) (by simp) (by simp) ?_ ?_ ?_ ?_ ?_ ?_ ?_ fun a' w' d1 d2 d3=>?_
 ·exact (hcell_of (h:=w.heap.push _) (c:=#[.int .i64 (a:Int),.int .i64 (e:Int)]) (t:=88) (f:=(0,0)) (by simp) 0).trans rfl
 ·exact (hcell_of (h:=w.heap.push _) (c:=#[.int .i64 (a:Int),.int .i64 (e:Int)]) (t:=88) (f:=(0,0)) (by simp) 1).trans rfl
 ·exact (Fr.push w.heap _).blk_some h1 (by simp)
 ·exact (Fr.push w.heap _).blk_some h2 (by simp)
 ·exact (Fr.push w.heap _).blk_some h3 (by simp)
 ·have l1:=(Array.getElem?_eq_some_iff.1 h1).1
  have l2:=(Array.getElem?_eq_some_iff.1 h2).1
  have l3:=(Array.getElem?_eq_some_iff.1 h3).1
  exact⟨by omega,by omega,by omega⟩
 ·exact ⟨n12,n13,n23⟩
 ·exact ⟨d1,_,rfl,.tuple #[],results_none rfl _ _ _,rfl,rfl,(Go.X.Rest.alloc w _).trans d2,d3⟩
end Go.Proofs.YtlflalecmhgmjaaGreatDoor.N
namespace Go.Proofs.YtlflalecmhgmjaaGreatDoor.N
open Go.Proofs.YtlflalecmhgmjaaGreatDoor
open Go.X
set_option maxRecDepth 100000
set_option maxHeartbeats 2000000 in
theorem res23 {tmps:Array Value} {w:World} {p1 p2 p3:Nat} {c0 x y:Int} {a1 a4 a5 a6:Option Addr} {n1 k1 n4 k4 n5 k5 n6 k6:Nat} {c2:Bool} (t2:tmps[2]? =some (pt p1)) (t3:tmps[3]? =some (pt p2)) (t4:tmps[4]? =some (pt p3))
  (h1:w.heap[p1]? =some (.cells #[.int .i64 c0,.slice a1 n1 k1,.bool c2,.slice a4 n4 k4,.slice a5 n5 k5,.slice a6 n6 k6] 29 (0,0))) (h2:w.heap[p2]? =some (.cells #[.int .i64 x] 3 (0,0))) (h3:w.heap[p3]? =some (.cells #[.int .i64 y] 32 (0,0))):
  (results Tryz.f23 tmps).run Tryz.prog w= .ok (.tuple #[.agg #[.int .i64 c0,.slice a1 n1 k1,.bool c2,.slice a4 n4 k4,.slice a5 n5 k5,.slice a6 n6 k6],.int .i64 x,.int .i64 y]) w:=by
 have r:Rel ⟨[(2,.ptr p1 0),(3,.ptr p2 0),(4,.ptr p3 0)],[]⟩ (⟨tmps,[]⟩:Act) w:=by
  refine⟨fun t v hy=>?_,fun s p hp=>by simp[plook]at hp,fun s t p q hp=>by simp[plook]at hp,rfl⟩
  rcases look_cons hy with⟨rfl,rfl⟩ | hy
  ·exact ⟨_,rfl,t2⟩
  rcases look_cons hy with⟨rfl,rfl⟩ | hy
  ·exact ⟨_,rfl,t3⟩
  rcases look_cons hy with⟨rfl,rfl⟩ | hy
  ·exact ⟨_,rfl,t4⟩
  cases hy
 have cc:∀(o:Nat) (u:Value),(#[.int .i64 c0,.slice a1 n1 k1,.bool c2,.slice a4 n4 k4,.slice a5 n5 k5,.slice a6 n6 k6]:Array Value)[o]? =some u->hcell w.heap p1 o=some u:=fun o u hu=>(hcell_of h1 o).trans hu
 have S:∀R:Value->Prop,R (.tuple #[.agg #[.int .i64 c0,.slice a1 n1 k1,.bool c2,.slice a4 n4 k4,.slice a5 n5 k5,.slice a6 n6 k6],.int .i64 x,.int .i64 y])->
   resV (envX [] 18).T ⟨[(2,.ptr p1 0),(3,.ptr p2 0),(4,.ptr p3 0)],[]⟩ w.heap Tryz.f23.results.toList fun vs=>R (one vs):=by
  intro R hR
  refine Eq.mp (α:=∃x12:Int,hcell w.heap p1 0=some (.int .i64 x12)/\∃(xA7:Option Addr) (xL7 xC7:Nat),hcell w.heap p1 (0+1)=some (.slice xA7 xL7 xC7)/\∃x13:Bool,hcell w.heap p1 ((0+1)+1)=some (.bool x13)/\∃(xA8:Option Addr) (xL8 xC8:Nat),hcell w.heap p1 (((0+1)+1)+1)=some (.slice xA8 xL8 xC8)/\
   ∃(xA9:Option Addr) (xL9 xC9:Nat),hcell w.heap p1 ((((0+1)+1)+1)+1)=some (.slice xA9 xL9 xC9)/\∃(xA10:Option Addr) (xL10 xC10:Nat),hcell w.heap p1 (((((0+1)+1)+1)+1)+1)=some (.slice xA10 xL10 xC10)/\
   ∃x:Int,hcell w.heap p2 0=some (.int .i64 x)/\∃y:Int,hcell w.heap p3 0=some (.int .i64 y)/\
   R (.tuple #[.agg #[.int .i64 x12,.slice xA7 xL7 xC7,.bool x13,.slice xA8 xL8 xC8,.slice xA9 xL9 xC9,.slice xA10 xL10 xC10],.int .i64 x,.int .i64 y])) (by kernel_rfl) ?_
  exact⟨c0,cc 0 _ rfl,a1,n1,k1,cc 1 _ rfl,c2,cc 2 _ rfl,a4,n4,k4,cc 3 _ rfl,a5,n5,k5,cc 4 _ rfl,a6,n6,k6,cc 5 _ rfl,x,(hcell_of h2 0).trans rfl,y,(hcell_of h3 0).trans rfl,hR⟩
 have hT:TabOK Tryz.prog (envX [] 18).T:=(envX_ok [] 18).T
 obtain⟨v,e1,e2⟩:=results_run (P:=Tryz.prog) (T:=(envX [] 18).T) (st:=⟨[(2,.ptr p1 0),(3,.ptr p2 0),(4,.ptr p3 0)],[]⟩) (w:=w) (fn:=Tryz.f23) (a:=⟨tmps,[]⟩) (R:=fun v=>v= .tuple #[.agg #[.int .i64 c0,.slice a1 n1 k1,.bool c2,.slice a4 n4 k4,.slice a5 n5 k5,.slice a6 n6 k6],.int .i64 x,.int .i64 y]) hT r (S (fun v=>v= .tuple #[.agg #[.int .i64 c0,.slice a1 n1 k1,.bool c2,.slice a4 n4 k4,.slice a5 n5 k5,.slice a6 n6 k6],.int .i64 x,.int .i64 y]) rfl)
 rw[<-e2]
 exact e1
end Go.Proofs.YtlflalecmhgmjaaGreatDoor.N
namespace Go.Proofs.YtlflalecmhgmjaaGreatDoor.N
open Go.Proofs.YtlflalecmhgmjaaGreatDoor
open Go.X
open Go.Proofs
set_option maxRecDepth 100000
theorem ok58 {b:Bool} {a e:Nat} {h:Heap}:CallsP Tryz.prog 58 #[.bool b,.int .i64 (a:Int),.int .i64 (e:Int)] h (fun v h'=>b=true/\v= .tuple #[]/\h'=h) (fun v h'=>b=false/\v=flt (a,e)/\h'=h):=by
 apply calls58
 unfold S58
 refine⟨fun _ h'=>b=true/\h'=h,cnd_not (fun q=>?_) fun q=>⟨q,rfl⟩,fun h' q=>⟨q.1,rfl,q.2⟩⟩
 exact callFail ⟨q,rfl,rfl⟩
def rdR (gl:GL) (s:ByteArray) (rd:ByteArray->Option (Nat × Nat)) (cl:Nat->Nat) (h:Heap) (v:Value) (h':Heap):Prop:=
 (∃dc aD aL aS aW nD cD nL cL nS cS nW cW,G.read rd cl s= .ok dc/\v= .tuple #[.agg #[.int .i64 (dc.n:Int),.slice aD nD cD,.bool dc.dir,.slice aL nL cL,.slice aS nS cS,.slice aW nW cW],.int .i64 0,.int .i64 0]/\
  Sq h [Ck.glob gl] h' (dC gl dc aD aL aS aW nD cD nL cL nS cS nW cW))\/
 ∃f,G.read rd cl s= .no f/\v= .tuple #[.agg #[.int .i64 0,.slice none 0 0,.bool false,.slice none 0 0,.slice none 0 0,.slice none 0 0],.int .i64 (f.1:Int),.int .i64 (f.2:Int)]/\Fr [] h h'
section
variable {gl:GL} {s:ByteArray} {rd:ByteArray->Option (Nat × Nat)} {cl:Nat->Nat}
def z29 :List Value:=[.int .i64 0,.slice none 0 0,.bool false,.slice none 0 0,.slice none 0 0,.slice none 0 0]
theorem startQ {h h5:Heap} (g:Gl gl h) (e:h5=((((h.push (.cells z29.toArray 29)).push (.cells #[.int .i64 0] 3)).push (.cells #[.int .i64 0] 32)).push (.map #[] 0)).push (.cells (rc s ⟨h.size+1+1+1,none,0,none,0,none,0,none,0⟩ G.start 0).toArray 95)):
  Sq h [Ck.glob gl] h5 (stC gl (h.size+1+1+1+1) s ⟨h.size+1+1+1,none,0,none,0,none,0,none,0⟩ G.start 0++[Ck.ob h.size 29 z29,Ck.ob (h.size+1) 3 [.int .i64 0],Ck.ob (h.size+1+1) 32 [.int .i64 0]]):=by
 have Y0:Sy h (owns [Ck.glob gl]) h [Ck.glob gl]:=Sy.start (Hp.one g)
 have Y1:=Sy.newO (ty:=29) Y0 z29
 have Y2:=Sy.newO (ty:=3) Y1 [.int .i64 0]
 have Y3:=Sy.newO (ty:=32) Y2 [.int .i64 0]
 have Y4:=Sy.newM Y3
 have Y5:=Sy.newO (ty:=95) Y4 (rc s ⟨h.size+1+1+1,none,0,none,0,none,0,none,0⟩ G.start 0)
 have Y6:=(((Y5.nilS eS 9).nilS eFF 78).nilS eF 76).nilS eT 156
 simp only[Array.size_push]at Y6
 subst e
 have Z:=Y6.pick [5,4,6,7,8,9,0,1,2,3] rfl
 exact⟨Z,fun x hx=>.inl (by simpa[rds,stC,Ck.ob,Ck.mp,Ck.sl,Ck.glob]using hx)⟩
theorem Sq.drop {h0 h h':Heap} {C A B:List Ck} (q:Sq h0 C h (A++B)) (f:Fr (owns A) h h'):Sq h0 C h' B:=by
 have p:Sq h A h' []:=⟨⟨f,Hp.nil _,fun k c hk=>by simp at hk⟩,fun b hb=>by simp[rds]at hb⟩
 simpa using Sq.call q p
theorem push3 (h:Heap) (a b c:Obj):(((h.push a).push b).push c)[h.size]? =some a/\(((h.push a).push b).push c)[h.size+1]? =some b/\(((h.push a).push b).push c)[h.size+1+1]? =some c:=by
 refine⟨?_,?_,?_⟩
 ·rw [Array.getElem?_push,if_neg (by simp;omega),Array.getElem?_push,if_neg (by simp),Array.getElem?_push,if_pos rfl]
 ·rw [Array.getElem?_push,if_neg (by simp),Array.getElem?_push,if_pos (by simp)]
 ·rw [Array.getElem?_push,if_pos (by simp)]
theorem put57_at {h:Heap} {p1 p2 p3:Nat} {x y:Int} (h1:h[p1]? =some (.cells z29.toArray 29 (0,0))) (h2:h[p2]? =some (.cells #[.int .i64 0] 3 (0,0))) (h3:h[p3]? =some (.cells #[.int .i64 0] 32 (0,0))) (n2:p1≠p2/\p1≠p3/\p2≠p3):
  (put57 h p1 p2 p3 x y)[p1]? =some (.cells #[.int .i64 0,.slice none 0 0,.bool false,.slice none 0 0,.slice none 0 0,.slice none 0 0] 29 (0,0))/\(put57 h p1 p2 p3 x y)[p2]? =some (.cells #[.int .i64 x] 3 (0,0))/\(put57 h p1 p2 p3 x y)[p3]? =some (.cells #[.int .i64 y] 32 (0,0)):=by
 unfold put57
 have a:=hset_of (hset_of (hset_of (hset_of (hset_of (hset_of h1 (o:=0) (v:=.int .i64 0)) (o:=0+1) (v:=.slice none 0 0)) (o:=(0+1)+1) (v:=.bool false)) (o:=((0+1)+1)+1) (v:=.slice none 0 0)) (o:=(((0+1)+1)+1)+1) (v:=.slice none 0 0)) (o:=((((0+1)+1)+1)+1)+1) (v:=.slice none 0 0)
 generalize hq:hset (hset (hset (hset (hset (hset h p1 0 (.int .i64 0)) p1 (0+1) (.slice none 0 0)) p1 ((0+1)+1) (.bool false)) p1 (((0+1)+1)+1) (.slice none 0 0)) p1 ((((0+1)+1)+1)+1) (.slice none 0 0)) p1 (((((0+1)+1)+1)+1)+1) (.slice none 0 0)=hv at a ⊢
 have F:Fr [p1] h hv:=by
  subst hq
  exact((((((Fr.refl _ _:Fr [p1] h h).hsetr (.inr (by simp))).hsetr (.inr (by simp))).hsetr (.inr (by simp))).hsetr (.inr (by simp))).hsetr (.inr (by simp))).hsetr (.inr (by simp))
 have g2:hv[p2]? =some (.cells #[.int .i64 0] 3 (0,0)):=F.blk_some h2 (by simp[Ne.symm n2.1])
 have g3:hv[p3]? =some (.cells #[.int .i64 0] 32 (0,0)):=F.blk_some h3 (by simp[Ne.symm n2.2.1])
 refine⟨?_,?_,?_⟩
 ·rw [hset_ne n2.2.1,hset_ne n2.1];exact a
 ·rw [hset_ne n2.2.2];exact hset_of g2
 ·have:=(Fr.hset hv p2 0 (.int .i64 x)).blk_some g3 (by simp[Ne.symm n2.2.2])
  exact hset_of this
theorem fault23 {w w2:World} {p1 p2 p3:Nat} {f:G.F} {tmps:Array Value} (t2:tmps[2]? =some (pt p1)) (t3:tmps[3]? =some (pt p2)) (t4:tmps[4]? =some (pt p3)) (r:Go.X.Rest w w2) (F:Fr [] w.heap w2.heap)
  (h1:w2.heap[p1]? =some (.cells z29.toArray 29 (0,0))) (h2:w2.heap[p2]? =some (.cells #[.int .i64 0] 3 (0,0))) (h3:w2.heap[p3]? =some (.cells #[.int .i64 0] 32 (0,0))) (n2:p1≠p2/\p1≠p3/\p2≠p3) (l:w.heap.size<=p1/\w.heap.size<=p2/\w.heap.size<=p3)
  (hrd:G.read rd cl s= .no f):Leaves Tryz.prog Tryz.f23 tmps (fun e w'=>∃v,e=Ending.returned v/\Go.X.Rest w w'/\rdR gl s rd cl w.heap v w'.heap) [{target:=.fn (.func 57) #[pt p1,pt p2,pt p3],args:=#[]}] (.panicking [{v:=flt f,recovered:=false}]) w2:=by
 obtain⟨at_,e⟩:=f
 refine leaves_cons (f:=57) (args:=#[pt p1,pt p2,pt p3]) (by simp) (by simp[go_sem]) ?_
 refine(catch57 p1 p2 p3 at_ e w2 h1 h2 h3 n2.1 n2.2.1 n2.2.2).mono ?_
 rintro e' u' w3 ⟨rfl,rfl,r3,e3⟩
 have F2:Fr [] w.heap (w2.heap.push (.cells #[.int .i64 (at_:Int),.int .i64 (e:Int)] 88)):=F.pushr _
 obtain⟨q1,q2,q3⟩:=put57_at (x:=(at_:Int)) (y:=(e:Int)) ((Fr.push w2.heap (.cells #[.int .i64 (at_:Int),.int .i64 (e:Int)] 88)).blk_some h1 (by simp)) ((Fr.push w2.heap _).blk_some h2 (by simp)) ((Fr.push w2.heap _).blk_some h3 (by simp)) n2
 rw[<-e3]at q1 q2 q3
 refine⟨_,res23 t2 t3 t4 q1 q2 q3,_,rfl,r.trans r3,.inr ⟨(at_,e),hrd,rfl,?_⟩⟩
 rw[e3]
 exact(((((((F2.hsetL l.1).hsetL l.1).hsetL l.1).hsetL l.1).hsetL l.1).hsetL l.1).hsetL l.2.1).hsetL l.2.2
set_option maxHeartbeats 1000000 in
theorem ok23 (hr:RdOK rd gl) (hc:G.ClOK cl) (hcl:ClFn cl) {h:Heap} (g:Gl gl h) (hsz:s.size<=9223372036854775807) (hu:G.read rd cl s≠ .un):CallsH Tryz.prog 23 #[.string s] h (rdR gl s rd cl h):=by
 intro w hwh
 subst hwh
 have hmf:∀(fn:Fn) (first cap:Array Value) (w:World),(Instr.makeFunc fn first cap).run Tryz.prog w= .ok (.func fn first cap) w:=fun _ _ _ _=>rfl
 have hmm:∀(t:TypeId) (w:World),(Instr.makeMap t none).run Tryz.prog w= .ok (.map (some w.heap.size)) (w.alloc (.map #[] 0)):=fun _ _=>rfl
 go_enter_defers Tryz.func23,Tryz.ntmps23
 go_wp2_with (fail)
 refine(ok58 (b:=decide ((s.size:Int)<=262144)) (a:=0) (e:=23) _ rfl).mono fun e w2 r=>?_
 obtain⟨rest,r⟩:=r
 rcases r with⟨v,rfl,hb,rfl,hw⟩ | ⟨v,rfl,hb,rfl,hw⟩
 ·have hs:s.size<=262144:=by have:=of_decide_eq_true hb;omega
  have hrd:G.read rd cl s=G.readL rd cl s:=by
   rw[G.read_eq,decide_eq_true hs];rfl
  go_wp2_with (fail)
  have hw':w2.heap=((w.heap.push (.cells z29.toArray 29)).push (.cells #[.int .i64 0] 3)).push (.cells #[.int .i64 0] 32):=hw
  have r2:Go.X.Rest w w2:=(((Go.X.Rest.alloc w _).trans (Go.X.Rest.alloc _ _)).trans (Go.X.Rest.alloc _ _)).trans rest
  have Q:=startQ (s:=s) (h5:=(w2.heap.push (.map #[] 0)).push (.cells (rc s ⟨w.heap.size+1+1+1,none,0,none,0,none,0,none,0⟩ G.start 0).toArray 95)) g (by rw[hw'])
  have HA:Hp _ (stC gl (w.heap.size+1+1+1+1) s ⟨w.heap.size+1+1+1,none,0,none,0,none,0,none,0⟩ G.start 0):=(Q.pick [0,1,2,3,4,5,6] rfl).hp
  rw[hrd]at hu
  refine(ok59 hr hc hcl hs HA hu _ rfl).mono fun e w4 r=>?_
  obtain⟨rest4,r⟩:=r
  have r4:Go.X.Rest w w4:=((r2.trans (Go.X.Rest.alloc _ _)).trans (Go.X.Rest.alloc _ _)).trans rest4
  rcases r with⟨v,rfl,dc,aD,aL,aS,aW,nD,cD,nL,cL,nS,cS,nW,cW,hL,rfl,q⟩ | ⟨v,rfl,f,hL,rfl,q⟩
  ·have Q2:=Sq.call Q q
   have t1:w4.heap[w.heap.size]? =some (.cells #[.int .i64 0,.slice none 0 0,.bool false,.slice none 0 0,.slice none 0 0,.slice none 0 0] 29 (0,0)):=Q2.sy.ok (k:=5) rfl
   have t2:w4.heap[w.heap.size+1]? =some (.cells #[.int .i64 0] 3 (0,0)):=Q2.sy.ok (k:=6) rfl
   have t3:w4.heap[w.heap.size+1+1]? =some (.cells #[.int .i64 0] 32 (0,0)):=Q2.sy.ok (k:=7) rfl
   have k0:w4.cell? ⟨w.heap.size,0,none⟩=some (.int .i64 0):=by simp[World.cell?,t1]
   have k1:w4.cell? ⟨w.heap.size,1,none⟩=some (.slice none 0 0):=by simp[World.cell?,t1]
   have k2:w4.cell? ⟨w.heap.size,2,none⟩=some (.bool false):=by simp[World.cell?,t1]
   have k3:w4.cell? ⟨w.heap.size,3,none⟩=some (.slice none 0 0):=by simp[World.cell?,t1]
   have k4:w4.cell? ⟨w.heap.size,4,none⟩=some (.slice none 0 0):=by simp[World.cell?,t1]
   have k5:w4.cell? ⟨w.heap.size,5,none⟩=some (.slice none 0 0):=by simp[World.cell?,t1]
   have k6:w4.cell? ⟨w.heap.size+1,0,none⟩=some (.int .i64 0):=by simp[World.cell?,t2]
   have k7:w4.cell? ⟨w.heap.size+1+1,0,none⟩=some (.int .i64 0):=by simp[World.cell?,t3]
   have z0:∀o,w4.frozen? ⟨w.heap.size,o,none⟩=false:=fun o=>by simp[World.frozen?,t1]
   have z1:∀o,w4.frozen? ⟨w.heap.size+1,o,none⟩=false:=fun o=>by simp[World.frozen?,t2]
   have z2:∀o,w4.frozen? ⟨w.heap.size+1+1,o,none⟩=false:=fun o=>by simp[World.frozen?,t3]
   go_wp2_with (fail)
   refine leaves_cons (f:=57) (args:=#[pt w.heap.size,pt (w.heap.size+1),pt (w.heap.size+1+1)]) (by simp) (by simp[go_sem]) ?_
   refine(idle57 ⟨w.heap.size,0,none⟩ ⟨w.heap.size+1,0,none⟩ ⟨w.heap.size+1+1,0,none⟩ _).mono ?_
   rintro e' u' w5 ⟨rfl,rfl,e5⟩
   have Y:=(((((((Q2.sy.stO 5 rfl 0 (.int .i64 (dc.n:Int))).stO 5 rfl 1 (.slice aD nD cD)).stO 5 rfl 2 (.bool dc.dir)).stO 5 rfl 3 (.slice aL nL cL)).stO 5 rfl 4 (.slice aS nS cS)).stO 5 rfl 5 (.slice aW nW cW)).stO 6 rfl 0 (.int .i64 0)).stO 7 rfl 0 (.int .i64 0)
   have h5:w5.heap=hset (hset (hset (hset (hset (hset (hset (hset w4.heap w.heap.size 0 (.int .i64 (dc.n:Int))) w.heap.size 1 (.slice aD nD cD)) w.heap.size 2 (.bool dc.dir)) w.heap.size 3 (.slice aL nL cL)) w.heap.size 4 (.slice aS nS cS)) w.heap.size 5 (.slice aW nW cW)) (w.heap.size+1) 0 (.int .i64 0)) (w.heap.size+1+1) 0 (.int .i64 0):=by
    rw[e5,heap_setCell,heap_setCell,heap_setCell,heap_setCell,heap_setCell,heap_setCell,heap_setCell,heap_setCell]
   rw[<-h5]at Y
   have r5:Go.X.Rest w w5:=by
    rw[e5]
    exact(((((((r4.trans (Go.X.Rest.setCell _ _ _)).trans (Go.X.Rest.setCell _ _ _)).trans (Go.X.Rest.setCell _ _ _)).trans (Go.X.Rest.setCell _ _ _)).trans (Go.X.Rest.setCell _ _ _)).trans (Go.X.Rest.setCell _ _ _)).trans (Go.X.Rest.setCell _ _ _)).trans (Go.X.Rest.setCell _ _ _)
   clear e5 h5
   have c1:=Y.ok (k:=5) (c:=Ck.ob w.heap.size 29 [.int .i64 (dc.n:Int),.slice aD nD cD,.bool dc.dir,.slice aL nL cL,.slice aS nS cS,.slice aW nW cW]) rfl
   have c2:=Y.ok (k:=6) (c:=Ck.ob (w.heap.size+1) 3 [.int .i64 0]) rfl
   have c3:=Y.ok (k:=7) (c:=Ck.ob (w.heap.size+1+1) 32 [.int .i64 0]) rfl
   refine⟨_,res23 (c0:=(dc.n:Int)) (a1:=aD) (n1:=nD) (k1:=cD) (c2:=dc.dir) (a4:=aL) (n4:=nL) (k4:=cL) (a5:=aS) (n5:=nS) (k5:=cS) (a6:=aW) (n6:=nW) (k6:=cW) (x:=0) (y:=0) (p1:=w.heap.size) (p2:=w.heap.size+1) (p3:=w.heap.size+1+1) rfl rfl rfl c1 c2 c3,_,rfl,r5,.inl ⟨dc,aD,aL,aS,aW,nD,cD,nL,cL,nS,cS,nW,cW,hrd.trans hL,rfl,?_⟩⟩
   ·exact ⟨Y.pick [0,1,2,3,4] rfl,fun x hx=>.inl (by simpa[rds,dC,Ck.sl,Ck.glob]using hx)⟩
  ·have Q3:=Sq.drop Q q
   exact fault23 (f:=f) rfl rfl rfl r4 Q3.fr (Q3.sy.ok (k:=0) rfl) (Q3.sy.ok (k:=1) rfl) (Q3.sy.ok (k:=2) rfl) ⟨by omega,by omega,by omega⟩ ⟨by omega,by omega,by omega⟩ (hrd.trans hL)
 ·have hs:¬s.size<=262144:=by have:=of_decide_eq_false hb;omega
  have hw':w2.heap=((w.heap.push (.cells z29.toArray 29)).push (.cells #[.int .i64 0] 3)).push (.cells #[.int .i64 0] 32):=hw
  obtain⟨t1,t2,t3⟩:=push3 w.heap (.cells z29.toArray 29) (.cells #[.int .i64 0] 3) (.cells #[.int .i64 0] 32)
  rw[<-hw']at t1 t2 t3
  refine fault23 (f:=(0,23)) rfl rfl rfl ((((Go.X.Rest.alloc w _).trans (Go.X.Rest.alloc _ _)).trans (Go.X.Rest.alloc _ _)).trans rest) ?_ t1 t2 t3 ⟨by omega,by omega,by omega⟩ ⟨by omega,by omega,by omega⟩ ?_
  ·rw [hw'];exact((Fr.push _ _).pushr _).pushr _
  ·rw [G.read_eq,decide_eq_false hs];rfl
end
end Go.Proofs.YtlflalecmhgmjaaGreatDoor.N
