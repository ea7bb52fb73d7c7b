/- gml.Read: what goes up is caught. Conditions: what Clean tells, what a number's text reads as. -/
import Derived.Test.YtmmmmjcfojhiaaaGreatDoorHRes
set_option linter.unusedVariables false
set_option linter.unusedSimpArgs false
set_option maxRecDepth 100000
set_option maxHeartbeats 2000000
namespace Go.Proofs.YtmmmmjcfojhiaaaGreatDoor.N
open Go.Proofs.YtmmmmjcfojhiaaaGreatDoor
open Go.X
open Go.Proofs
theorem OO {b:Bool} {a e:Nat} {h:ab}:PM 11 #[PV b,PN (a:Int),PN (e:Int)] h (fun v h'=>b=true/\v= .tuple #[]/\h'=h) (fun v h'=>b=false/\v=flt (a,e)/\h'=h):=by
 apply yH
 unfold S11
 refine⟨fun _ h'=>b=true/\h'=h,bj (fun q=>?_) fun q=>⟨q,rfl⟩,fun h' q=>⟨q.1,rfl,q.2⟩⟩
 exact jw ⟨q,rfl,rfl⟩
def rdR (gl:GL) (s:P0) (rd:P0->Option (Nat × Nat)) (cl:Nat->Nat) (h:ab) (v:Value) (h':ab):Prop:=
 (∃dc aD aL aS aW nD cD nL cL nS cS nW cW,G.read rd cl s= .ok dc/\v= .tuple #[.agg #[PN (dc.n:Int),PT aD nD cD,PV dc.dir,PT aL nL cL,PT aS nS cS,PT aW nW cW],PN 0,PN 0]/\
  Sq h [Ck.glob gl] h' (dC gl dc aD aL aS aW nD cD nL cL nS cS nW cW))\/
 ∃f,G.read rd cl s= .no f/\v= .tuple #[.agg #[PN 0,PT none 0 0,PV false,PT none 0 0,PT none 0 0,PT none 0 0],PN (f.1:Int),PN (f.2:Int)]/\Fr [] h h'
section
variable {gl:GL} {s:P0} {rd:P0->Option (Nat × Nat)} {cl:Nat->Nat}
def z29 :List Value:=[PN 0,PT none 0 0,PV false,PT none 0 0,PT none 0 0,PT none 0 0]
theorem I3 {h h5:ab} (g:Gl gl h) (e:h5=((((h.push (.cells z29.toArray 30)).push (.cells #[PN 0] 3)).push (.cells #[PN 0] 31)).push (.map #[] 0)).push (.cells (rc s ⟨h.size+1+1+1,none,0,none,0,none,0,none,0⟩ G.start 0).toArray 49)):
  Sq h [Ck.glob gl] h5 (stC gl (h.size+1+1+1+1) s ⟨h.size+1+1+1,none,0,none,0,none,0,none,0⟩ G.start 0++[Ck.ob h.size 30 z29,Ck.ob (h.size+1) 3 [PN 0],Ck.ob (h.size+1+1) 31 [PN 0]]):=by
 have Y0:Sy h (ao [Ck.glob gl]) h [Ck.glob gl]:=Sy.start (Hp.one g)
 have Y1:=Sy.newO (ty:=30) Y0 z29
 have Y2:=Sy.newO (ty:=3) Y1 [PN 0]
 have Y3:=Sy.newO (ty:=31) Y2 [PN 0]
 have Y4:=Sy.newM Y3
 have Y5:=Sy.newO (ty:=49) Y4 (rc s ⟨h.size+1+1+1,none,0,none,0,none,0,none,0⟩ G.start 0)
 have Y6:=(((Y5.nilS eS 9).nilS eFF 53).nilS eF 51).nilS eT 81
 simp only[Array.size_push]at Y6
 subst e
 have Z:=Y6.pick [5,4,6,7,8,9,0,1,2,3] rfl
 exact⟨Z,fun x hx=>.inl (by simpa[rds,stC,Ck.ob,Ck.mp,Ck.sl,Ck.glob]using hx)⟩
theorem Sq.drop {h0 h h':ab} {C A B:List Ck} (q:Sq h0 C h (A++B)) (f:Fr (ao A) h h'):Sq h0 C h' B:=by
 have p:Sq h A h' []:=⟨⟨f,Hp.nil _,fun k c hk=>by simp at hk⟩,fun b hb=>by simp[rds]at hb⟩
 simpa using Sq.call q p
theorem Lp (h:ab) (a b c:Obj):(((h.push a).push b).push c)[h.size]? =some a/\(((h.push a).push b).push c)[h.size+1]? =some b/\(((h.push a).push b).push c)[h.size+1+1]? =some c:=by
 grind
theorem BB {h:ab} {p1 p2 p3:Nat} {x y:Int} (h1:h[p1]? =some (.cells z29.toArray 30 (0,0))) (h2:h[p2]? =some (.cells #[PN 0] 3 (0,0))) (h3:h[p3]? =some (.cells #[PN 0] 31 (0,0))) (n2:p1≠p2/\p1≠p3/\p2≠p3):
  (lq h p1 p2 p3 x y)[p1]? =some (.cells #[PN 0,PT none 0 0,PV false,PT none 0 0,PT none 0 0,PT none 0 0] 30 (0,0))/\(lq h p1 p2 p3 x y)[p2]? =some (.cells #[PN x] 3 (0,0))/\(lq h p1 p2 p3 x y)[p3]? =some (.cells #[PN y] 31 (0,0)):=by
 unfold lq
 have a:=bO (bO (bO (bO (bO (bO h1 (o:=0) (v:=PN 0)) (o:=0+1) (v:=PT none 0 0)) (o:=(0+1)+1) (v:=PV false)) (o:=((0+1)+1)+1) (v:=PT none 0 0)) (o:=(((0+1)+1)+1)+1) (v:=PT none 0 0)) (o:=((((0+1)+1)+1)+1)+1) (v:=PT none 0 0)
 generalize hq:aj (aj (aj (aj (aj (aj h p1 0 (PN 0)) p1 (0+1) (PT none 0 0)) p1 ((0+1)+1) (PV false)) p1 (((0+1)+1)+1) (PT none 0 0)) p1 ((((0+1)+1)+1)+1) (PT none 0 0)) p1 (((((0+1)+1)+1)+1)+1) (PT none 0 0)=hv at a ⊢
 have F:Fr [p1] h hv:=by
  subst hq
  exact((((((Fr.refl _ _:Fr [p1] h h).hsetr (.inr PC)).hsetr (.inr PC)).hsetr (.inr PC)).hsetr (.inr PC)).hsetr (.inr PC)).hsetr (.inr PC)
 have g2:hv[p2]? =some (.cells #[PN 0] 3 (0,0)):=F.blk_some h2 PE
 have g3:hv[p3]? =some (.cells #[PN 0] 31 (0,0)):=F.blk_some h3 PE
 refine⟨?_,?_,?_⟩
 ·rw[fI n2.2.1,fI n2.1];exact a
 ·rw[fI n2.2.2];exact bO g2
 ·have:=(Fr.hset hv p2 0 (PN x)).blk_some g3 PE
  exact bO this
theorem BC {w w2:World} {p1 p2 p3:Nat} {f:G.F} {tmps:Array Value} (t2:tmps[2]? =some (pt p1)) (t3:tmps[3]? =some (pt p2)) (t4:tmps[4]? =some (pt p3)) (r:Go.X.Rest w w2) (F:Fr [] w.heap w2.heap)
  (h1:w2.heap[p1]? =some (.cells z29.toArray 30 (0,0))) (h2:w2.heap[p2]? =some (.cells #[PN 0] 3 (0,0))) (h3:w2.heap[p3]? =some (.cells #[PN 0] 31 (0,0))) (n2:p1≠p2/\p1≠p3/\p2≠p3) (l:w.heap.size<=p1/\w.heap.size<=p2/\w.heap.size<=p3)
  (hrd:G.read rd cl s= .no f):Leaves Tryz.prog Tryz.f5 tmps (fun e w'=>∃v,e=Ending.returned v/\Go.X.Rest w w'/\rdR gl s rd cl w.heap v w'.heap) [{target:=.fn (.func 10) #[pt p1,pt p2,pt p3],args:=#[]}] (.panicking [{v:=flt f,recovered:=false}]) w2:=by
 obtain⟨at_,e⟩:=f
 refine leaves_cons (f:=10) (args:=#[pt p1,pt p2,pt p3]) PC (by simp[go_sem]) ?_
 refine(Ff p1 p2 p3 at_ e w2 h1 h2 h3 n2.1 n2.2.1 n2.2.2).mono ?_
 rintro e' u' w3 ⟨rfl,rfl,r3,e3⟩
 have F2:Fr [] w.heap (w2.heap.push (.cells #[PN (at_:Int),PN (e:Int)] 40)):=F.pushr _
 obtain⟨q1,q2,q3⟩:=BB (x:=(at_:Int)) (y:=(e:Int)) ((Fr.push w2.heap (.cells #[PN (at_:Int),PN (e:Int)] 40)).blk_some h1 PC) ((Fr.push w2.heap _).blk_some h2 PC) ((Fr.push w2.heap _).blk_some h3 PC) n2
 rw[<-e3]at q1 q2 q3
 refine⟨_,Ls t2 t3 t4 q1 q2 q3,_,rfl,r.trans r3,.inr ⟨(at_,e),hrd,rfl,?_⟩⟩
 rw[e3]
 exact(((((((F2.hsetL l.1).hsetL l.1).hsetL l.1).hsetL l.1).hsetL l.1).hsetL l.1).hsetL l.2.1).hsetL l.2.2
theorem ok5 (hr:qO rd gl) (hc:G.ClOK cl) (hcl:qP cl) {h:ab} (g:Gl gl h) (hsz:s.size<=9223372036854775807) (hu:G.read rd cl s≠ .un):PJ 5 #[PU s] h (rdR gl s rd cl h):=by
 intro w hwh
 subst hwh
 have hmf:∀(fn:Fn) (first cap:Array Value) (w:World),(Instr.makeFunc fn first cap).run Tryz.prog w= .ok (.func fn first cap) w:=fun _ _ _ _=>rfl
 have hmm:∀(t:TypeId) (w:World),(Instr.makeMap t none).run Tryz.prog w= .ok (.map (some w.heap.size)) (w.alloc (.map #[] 0)):=fun _ _=>rfl
 go_enter_defers Tryz.func5,Tryz.ntmps5
 go_wp2_with (fail)
 refine(OO (b:=decide ((s.size:Int)<=262144)) (a:=0) (e:=23) _ rfl).mono fun e w2 r=>?_
 obtain⟨rest,r⟩:=r
 rcases r with⟨v,rfl,hb,rfl,hw⟩ | ⟨v,rfl,hb,rfl,hw⟩
 ·have hs:s.size<=262144:=by grind
  have hrd:G.read rd cl s=G.ku rd cl s:=by
   rw[G.yB,decide_eq_true hs];rfl
  go_wp2_with (fail)
  have hw':w2.heap=((w.heap.push (.cells z29.toArray 30)).push (.cells #[PN 0] 3)).push (.cells #[PN 0] 31):=hw
  have r2:Go.X.Rest w w2:=(((Go.X.Rest.alloc w _).trans (Go.X.Rest.alloc _ _)).trans (Go.X.Rest.alloc _ _)).trans rest
  have Q:=I3 (s:=s) (h5:=(w2.heap.push (.map #[] 0)).push (.cells (rc s ⟨w.heap.size+1+1+1,none,0,none,0,none,0,none,0⟩ G.start 0).toArray 49)) g (by rw[hw'])
  have HA:Hp _ (stC gl (w.heap.size+1+1+1+1) s ⟨w.heap.size+1+1+1,none,0,none,0,none,0,none,0⟩ G.start 0):=(Q.pick [0,1,2,3,4,5,6] rfl).hp
  rw[hrd]at hu
  refine(OB hr hc hcl hs HA hu _ rfl).mono fun e w4 r=>?_
  obtain⟨rest4,r⟩:=r
  have r4:Go.X.Rest w w4:=((r2.trans (Go.X.Rest.alloc _ _)).trans (Go.X.Rest.alloc _ _)).trans rest4
  rcases r with⟨v,rfl,dc,aD,aL,aS,aW,nD,cD,nL,cL,nS,cS,nW,cW,hL,rfl,q⟩ | ⟨v,rfl,f,hL,rfl,q⟩
  ·have Q2:=Sq.call Q q
   have t1:w4.heap[w.heap.size]? =some (.cells #[PN 0,PT none 0 0,PV false,PT none 0 0,PT none 0 0,PT none 0 0] 30 (0,0)):=Q2.sy.ok (k:=5) rfl
   have t2:w4.heap[w.heap.size+1]? =some (.cells #[PN 0] 3 (0,0)):=Q2.sy.ok (k:=6) rfl
   have t3:w4.heap[w.heap.size+1+1]? =some (.cells #[PN 0] 31 (0,0)):=Q2.sy.ok (k:=7) rfl
   have k0:w4.cell? ⟨w.heap.size,0,none⟩=some (PN 0):=by simp[World.cell?,t1]
   have k1:w4.cell? ⟨w.heap.size,1,none⟩=some (PT none 0 0):=by simp[World.cell?,t1]
   have k2:w4.cell? ⟨w.heap.size,2,none⟩=some (PV false):=by simp[World.cell?,t1]
   have k3:w4.cell? ⟨w.heap.size,3,none⟩=some (PT none 0 0):=by simp[World.cell?,t1]
   have k4:w4.cell? ⟨w.heap.size,4,none⟩=some (PT none 0 0):=by simp[World.cell?,t1]
   have k5:w4.cell? ⟨w.heap.size,5,none⟩=some (PT none 0 0):=by simp[World.cell?,t1]
   have k6:w4.cell? ⟨w.heap.size+1,0,none⟩=some (PN 0):=by simp[World.cell?,t2]
   have k7:w4.cell? ⟨w.heap.size+1+1,0,none⟩=some (PN 0):=by simp[World.cell?,t3]
   have z0:∀o,w4.frozen? ⟨w.heap.size,o,none⟩=false:=fun o=>by simp[World.frozen?,t1]
   have z1:∀o,w4.frozen? ⟨w.heap.size+1,o,none⟩=false:=fun o=>by simp[World.frozen?,t2]
   have z2:∀o,w4.frozen? ⟨w.heap.size+1+1,o,none⟩=false:=fun o=>by simp[World.frozen?,t3]
   go_wp2_with (fail)
   refine leaves_cons (f:=10) (args:=#[pt w.heap.size,pt (w.heap.size+1),pt (w.heap.size+1+1)]) PC (by simp[go_sem]) ?_
   refine(IU ⟨w.heap.size,0,none⟩ ⟨w.heap.size+1,0,none⟩ ⟨w.heap.size+1+1,0,none⟩ _).mono ?_
   rintro e' u' w5 ⟨rfl,rfl,e5⟩
   have Y:=(((((((Q2.sy.stO 5 rfl 0 (PN (dc.n:Int))).stO 5 rfl 1 (PT aD nD cD)).stO 5 rfl 2 (PV dc.dir)).stO 5 rfl 3 (PT aL nL cL)).stO 5 rfl 4 (PT aS nS cS)).stO 5 rfl 5 (PT aW nW cW)).stO 6 rfl 0 (PN 0)).stO 7 rfl 0 (PN 0)
   have h5:w5.heap=aj (aj (aj (aj (aj (aj (aj (aj w4.heap w.heap.size 0 (PN (dc.n:Int))) w.heap.size 1 (PT aD nD cD)) w.heap.size 2 (PV dc.dir)) w.heap.size 3 (PT aL nL cL)) w.heap.size 4 (PT aS nS cS)) w.heap.size 5 (PT aW nW cW)) (w.heap.size+1) 0 (PN 0)) (w.heap.size+1+1) 0 (PN 0):=by
    grind [heap_setCell]
   rw[<-h5]at Y
   have r5:Go.X.Rest w w5:=by
    rw[e5]
    exact(((((((r4.trans (Go.X.Rest.setCell _ _ _)).trans (Go.X.Rest.setCell _ _ _)).trans (Go.X.Rest.setCell _ _ _)).trans (Go.X.Rest.setCell _ _ _)).trans (Go.X.Rest.setCell _ _ _)).trans (Go.X.Rest.setCell _ _ _)).trans (Go.X.Rest.setCell _ _ _)).trans (Go.X.Rest.setCell _ _ _)
   clear e5 h5
   have c1:=Y.ok (k:=5) (c:=Ck.ob w.heap.size 30 [PN (dc.n:Int),PT aD nD cD,PV dc.dir,PT aL nL cL,PT aS nS cS,PT aW nW cW]) rfl
   have c2:=Y.ok (k:=6) (c:=Ck.ob (w.heap.size+1) 3 [PN 0]) rfl
   have c3:=Y.ok (k:=7) (c:=Ck.ob (w.heap.size+1+1) 31 [PN 0]) rfl
   refine⟨_,Ls (c0:=(dc.n:Int)) (a1:=aD) (n1:=nD) (k1:=cD) (c2:=dc.dir) (a4:=aL) (n4:=nL) (k4:=cL) (a5:=aS) (n5:=nS) (k5:=cS) (a6:=aW) (n6:=nW) (k6:=cW) (x:=0) (y:=0) (p1:=w.heap.size) (p2:=w.heap.size+1) (p3:=w.heap.size+1+1) rfl rfl rfl c1 c2 c3,_,rfl,r5,.inl ⟨dc,aD,aL,aS,aW,nD,cD,nL,cL,nS,cS,nW,cW,hrd.trans hL,rfl,?_⟩⟩
   ·exact⟨Y.pick [0,1,2,3,4] rfl,fun x hx=>.inl (by simpa[rds,dC,Ck.sl,Ck.glob]using hx)⟩
  ·have Q3:=Sq.drop Q q
   exact BC (f:=f) rfl rfl rfl r4 Q3.fr (Q3.sy.ok (k:=0) rfl) (Q3.sy.ok (k:=1) rfl) (Q3.sy.ok (k:=2) rfl) ⟨PA,PA,PA⟩ ⟨PA,PA,PA⟩ (hrd.trans hL)
 ·have hs:¬s.size<=262144:=by grind
  have hw':w2.heap=((w.heap.push (.cells z29.toArray 30)).push (.cells #[PN 0] 3)).push (.cells #[PN 0] 31):=hw
  obtain⟨t1,t2,t3⟩:=Lp w.heap (.cells z29.toArray 30) (.cells #[PN 0] 3) (.cells #[PN 0] 31)
  rw[<-hw']at t1 t2 t3
  refine BC (f:=(0,23)) rfl rfl rfl ((((Go.X.Rest.alloc w _).trans (Go.X.Rest.alloc _ _)).trans (Go.X.Rest.alloc _ _)).trans rest) ?_ t1 t2 t3 ⟨PA,PA,PA⟩ ⟨PA,PA,PA⟩ ?_
  ·rw[hw'];exact((Fr.push _ _).pushr _).pushr _
  ·rw[G.yB,decide_eq_false hs];rfl
end
structure Fast (b:P0) (st:RS) (rest:PZ):Prop where
 t:Txt b st rest
 tr:st.tr=false
 e1: -345<=bx st rest
 e2:bx st rest<=310
 x:st.m≠0->(cm st.m (bx st rest) (av b.data.toList).1).2=true
def scB (b:P0):RS × PZ:=scan RS0 (b.data.toList.drop (av b.data.toList).2)
def fsV (b:P0):Nat:=pv (scB b).1.m (bx (scB b).1 (scB b).2) (av b.data.toList).1
open Classical in
noncomputable def rdF (b : ByteArray) : Option (Nat × Nat) :=
 if b.size<=262144/\(fF b.data.toList=true->b.size<=64->Fast b (scB b).1 (scB b).2)then some ((cf b.data.toList (fsV b)).1,(cf b.data.toList (fsV b)).2.toNat)else none
theorem pN (l:PZ) (V:Nat):0<=(cf l V).2:=by
 unfold cf
 split
 ·decide
 split
 ·decide
 split
 ·decide
 split
 ·decide
 split
 ·decide
 split<;>simp
theorem D3 (gl:GL):qO rdF gl:=by
 intro t x e ht h g
 unfold rdF at ht
 split at ht
 ·rename_i hc
  obtain⟨h1,h2⟩:=hc
  simp only[Option.some.injEq,Prod.mk.injEq]at ht
  obtain⟨rfl,rfl⟩:=ht
  rw[Rb (pN _ _)]
  refine xD (V:=fsV t) g PA fun q1 q2=>?_
  have f:=h2 q1 q2
  exact⟨none,.inl rfl,fun R r=>Kq f.t f.tr f.e1 f.e2 f.x r⟩
 ·cases ht
def fDg (D:PZ):RS:=D.foldl (fun s c=>aN s (dgt c)) RS0
theorem D4 :∀(D:PZ) (s:RS),(∀c∈D,isD c=true)->s.nm+D.length<=19->s.nd=s.nm->s.m<10^s.nm->s.tr=false->s.dot=false->
  (fun q:RS=>q.nd=q.nm/\q.nm<=s.nm+D.length/\q.m<10^q.nm/\q.tr=false/\q.dot=false) (D.foldl (fun s c=>aN s (dgt c)) s)
 | [],s,_,_,h1,h2,h3,h4=>⟨h1,PC,h2,h3,h4⟩
 | c::D,s,hD,hl,h1,h2,h3,h4=>by
  have hc:=cb.1 (hD c PC)
  have hd:dgt c<=9:=by unfold dgt;omega
  simp only[Qk]at hl
  rw[List.foldl_cons]
  have hs:(fun q:RS=>q.nd=q.nm/\q.nm<=s.nm+1/\q.m<10^q.nm/\q.tr=false/\q.dot=false) (aN s (dgt c)):=by
   unfold aN
   split
   ·exact⟨h1,PC,h2,h3,h4⟩
   ·rw[if_pos PA]
    refine⟨by show s.nd+1=s.nm+1;omega,P3 _,?_,h3,h4⟩
    show s.m*10+dgt c<10^(s.nm+1)
    rw[QR];omega
  obtain⟨k1,k2,k3,k4,k5⟩:=hs
  obtain⟨j1,j2,j3,j4,j5⟩:=D4 D (aN s (dgt c)) (fun d hd=>hD d (by simp[hd])) PA k1 k3 k4 k5
  exact⟨j1,by simp only[Qk];omega,j3,j4,j5⟩
theorem D5 (k:Nat) {m n:Nat} (h:m<=n):m*2^k<=n*2^k:=P1 _ h
theorem Aq (a:Nat) {i j:Nat} (h:i<=j):a*2^i<=a*2^j:=QP _ (P7 PB h)
theorem D6 {m:Nat} (ng:Bool) (hm:m<2^53):isInf (jk (if ng then Op.negFloat .f64 (FloatKind.f64.nearest (m:Int))else FloatKind.f64.nearest (m:Int)))=false:=by
 have hk:=sf (s:=false) (m:=m) (k:=0) (i:=0) hm PB PB
 rw[RA,Qy,show((0:Int)-((0:Nat):Int))=0 by decide,<-pI]at hk
 obtain⟨hk,hn⟩:=hk
 generalize hx:(if ng then Op.negFloat .f64 (FloatKind.f64.nearest (m:Int))else FloatKind.f64.nearest (m:Int))=x
 have hxk:(key x).natAbs=(Ieee.signed false m (0+1074:Int).toNat).natAbs/\isNaN x=false:=by
  rw[<-hx]
  cases ng
  ·rw[if_neg PB];exact⟨by rw[hk],hn⟩
  ·rw[if_pos rfl]
   exact⟨by rw[show Op.negFloat .f64 (FloatKind.f64.nearest (m:Int))=fh (FloatKind.f64.nearest (m:Int))from rfl,zc,Int.natAbs_neg,hk],by rw[<-hn];exact ox _⟩
 unfold isInf
 rw[py (by rw[DG];exact hxk.2) PB,Hl,hxk.1]
 refine decide_eq_false ?_
 rw[bS]
 have hmax:key Hy=((9007199254740991*2^2045:Nat):Int):=by decide+kernel
 rw[hmax]
 have h1:=D5 1074 (show m<=9007199254740991 by omega)
 have h2:=Aq 9007199254740991 (show 1074<=2045 by decide)
 have e:(0+1074:Int).toNat=1074:=by decide
 rw[e,if_neg PB,Sf]
 generalize m*2^1074=a at*
 generalize 9007199254740991*2^1074=b at*
 generalize 9007199254740991*2^2045=c at*
 omega
theorem zh :∀D:PZ,(∀c∈D,isD c=true)->dgN D=D.length
 | [],_=>rfl
 | c::D,h=>by
  have ih:=zh D fun d hd=>h d (by simp[hd])
  unfold dgN at ih ⊢
  rw[RX,if_pos (h c PC),Qk,Qk,ih]
theorem HB {D:PZ} (ng:Bool) (hD:∀c∈D,isD c=true) (h0:D≠[]) (hl:D.length<=15) {b:P0} (hb:b.data.toList=(if ng then [45]else [])++D):∃v,rdF b=some (v,0):=by
 obtain⟨a,r,hDr⟩:=RH h0
 have ha:isD a=true:=hD a (by rw[hDr];simp)
 have ha2:=cb.1 ha
 have na43:a≠43:=fun e=>by subst e;exact absurd ha2 PB
 have na45:a≠45:=fun e=>by subst e;exact absurd ha2 PB
 have hsg:(av b.data.toList)=(ng,if ng then 1 else 0):=by
  rw[hb,hDr]
  cases ng
  ·simp[av,na43,na45]
  ·simp[av]
 have hdr:aI b.data.toList=D:=by
  rw[hb]
  cases ng
  ·rw[hDr];simp[aI,na43,na45]
  ·simp[aI]
 have hdn:dgN D=D.length:=by
  exact zh D hD
 have hnum:fF b.data.toList=true:=by
  unfold fF
  rw[hdr,hdn,if_neg (by rw[hDr];simp),List.drop_length]
  rfl
 have hsz:b.size=b.data.toList.length:=rfl
 have hlen:b.data.toList.length<=16:=by
  rw[hb,P9]
  cases ng<;>simp<;>omega
 have hsc:scB b=(fDg D,[]):=by
  unfold scB
  rw[pJ,hdr]
  have:=iI D RS0 [] hD
  rw[QZ]at this
  rw[this];rfl
 obtain⟨q1,q2,q3,q4,q5⟩:=D4 D RS0 hD (by show 0+D.length<=19;omega) rfl PB rfl rfl
 change (fDg D).nd=(fDg D).nm at q1
 change (fDg D).nm<=0+D.length at q2
 change (fDg D).m<10^(fDg D).nm at q3
 change (fDg D).tr=false at q4
 change (fDg D).dot=false at q5
 have hm:(fDg D).m<1000000000000000:=by
  have:=P7 (n:=10) PB (show(fDg D).nm<=15 by omega)
  omega
 have hex:bx (fDg D) []=0:=by
  unfold bx
  split
  ·rw[q5,if_neg PB];simp[cZ];omega
  ·rfl
 have hxF:cm (fDg D).m 0 ng=(if ng then Op.negFloat .f64 (FloatKind.f64.nearest ((fDg D).m:Int))else FloatKind.f64.nearest ((fDg D).m:Int),true):=by
  unfold cm
  rw[if_neg PA]
  simp
 obtain⟨st,rest,T⟩:=kK (s:=b) PA hnum
 have hst:(st,rest)=(fDg D,[]):=by rw[<-hsc];exact T.sc.symm
 obtain⟨rfl,rfl⟩:=Prod.mk.inj hst
 have F:Fast b (fDg D) []:=⟨T,q4,by rw[hex];decide,by rw[hex];decide,fun _=>by rw[hex,hsg,hxF]⟩
 have hV:fsV b=if(fDg D).m=0 then(bits .or .u64 (cd ng:Int) 0).toNat else(if ng then Op.negFloat .f64 (FloatKind.f64.nearest ((fDg D).m:Int))else FloatKind.f64.nearest ((fDg D).m:Int)):=by
  unfold fsV pv
  rw[hsc]
  show(if(fDg D).m=0 then _ else(cm (fDg D).m (bx (fDg D) []) _).1)=_
  rw[hex,hsg,hxF]
 have hfin:isInf (jk (fsV b))=false:=by
  rw[hV]
  split
  ·cases ng<;>decide+kernel
  ·exact D6 ng PA
 have n1:b.data.toList≠[78,97,78]/\b.data.toList≠[73,78,70]/\b.data.toList≠[45,73,78,70]:=by
  rw[hb,hDr]
  cases ng
  ·refine⟨fun e=>?_,fun e=>?_,fun e=>?_⟩
   ·have:a=78:=(List.cons.inj e).1
    rw[this]at ha2;exact absurd ha2 PB
   ·have:a=73:=(List.cons.inj e).1
    rw[this]at ha2;exact absurd ha2 PB
   ·have:a=45:=(List.cons.inj e).1
    rw[this]at ha2;exact absurd ha2 PB
  ·refine⟨fun e=>?_,fun e=>?_,fun e=>?_⟩
   ·have:(45:UInt8)=78:=(List.cons.inj e).1
    exact absurd this PB
   ·have:(45:UInt8)=73:=(List.cons.inj e).1
    exact absurd this PB
   ·have:a=73:=(List.cons.inj (List.cons.inj e).2).1
    rw[this]at ha2;exact absurd ha2 PB
 have hr:cf b.data.toList (fsV b)=(fsV b,0):=by
  unfold cf
  rw[if_neg n1.1,if_neg n1.2.1,if_neg n1.2.2,if_neg (by rw[hnum];decide),if_neg PA,if_neg (by rw[hfin];decide)]
 refine⟨fsV b,?_⟩
 unfold rdF
 rw[if_pos ⟨PA,fun _ _=>by rw[hsc];exact F⟩,hr]
 rfl
theorem HC {c:UInt8} (h:G.dy c.toNat=true):isD c=true:=cb.2 (by simpa[G.dy]using h)
theorem D7 (x:Int) (hx:x.natAbs<=2147483648):∃v,G.ji rdF (G.idt x) v:=by
 have hd:∀c∈G.dec x.natAbs,isD c=true:=fun c hc=>HC (G.lh _ c hc)
 have hl:=G.td 9 x.natAbs PA
 have e:G.idt x=(if decide (x<0)then [45]else [])++G.dec x.natAbs:=by
  unfold G.idt;split<;>simp[*]
 obtain⟨v,hv⟩:=HB (decide (x<0)) hd (G.wU _) PA (b:=G.mkB (G.idt x)) (by rw[<-e];simp[G.mkB])
 refine⟨v,.inl (G.E5 x),fun b hb=>?_⟩
 have:b=G.mkB (G.idt x):=by
  apply ByteArray.ext;apply Array.ext';rw[hb];simp[G.mkB]
 rw[this];exact hv
theorem vK (n:Nat) (hn:n<=2147483648):∃v,G.ji rdF (G.dec n) v:=by
 have:=D7 (n:Int) PA
 have e:G.idt (n:Int)=G.dec n:=by unfold G.idt;rw[if_neg PA];rfl
 rwa[e]at this
end Go.Proofs.YtmmmmjcfojhiaaaGreatDoor.N
namespace Go.Proofs.YtmmmmjcfojhiaaaGreatDoor.G
def EW :PZ:=[103,114,97,112,104,32,91,32,110,111,100,101,32,91,32,105,100,32,53,32,93,32,101,100,103,101,32,91,32,115,111,117,114,99,101,32,53,32,116,97,114,103,101,116,32,53,32,93,32,93]
def yr :PZ:=[103,114,97,112,104,32,91,32,110,111,100,101,32,91,32,93,32,93]
section
variable {s:P0} {rd:P0->Option (Nat × Nat)} {cl:Nat->Nat}
theorem sS :whole [53]=some 5:=by decide
theorem zF {x:Nat} (h5:ji rd [53] x) (ht:s.data.toList=EW):read rd cl s= .ok ⟨1,false,[(0,0)],[],[],[]⟩:=by
 have hsz:s.size=50:=by rw[js,ht];rfl
 have a0:At s 0 ([]++(it++([32]++91::([32]++(ib++([32]++91::([32]++(kId++([32]++([53]++([32]++93::([32]++(fL++([32]++91::([32]++(bp++([32]++([53]++([32]++(bw++([32]++([53]++([32]++93::([32]++93::[])))))))))))))))))))))))):=by
  have:=At.start s;rw[ht]at this;exact this
 let z:Tok:=⟨0,0,noB,0⟩
 have key0:cT s rd cl .top 0 start fun e l r=>∃(u u':Tok) (i:Nat),u.l=[53]/\u'.l=[53]/\r=⟨i,1,false,true,[(5,0)],[noB],[(0,0)],[fK],false,false,false,[u,u']⟩:=by
  refine oI (σ:=start) (σ1:=fun j=>{start with i:=j,graph:=true}) (l2:=some (.graph false)) (l':=.top) a0 .nil (sQ _ (fJ _)) bl1 PB (fun t j e=>by simp[key,e,start,aB]) (fun j=>rfl) fun j0 j1 lt1 a=>?_
  let σ1:Nat->Rd:=fun j=>⟨j,1,false,true,[],[noB],[(0,0)],[],false,false,false,[]⟩
  refine oI (σ1:=σ1) (l2:=some (.node 0 false false false)) (l':=.graph false) a bl1 (wN _ (fJ _)) bl1 PB (fun t j e=>(oL e (by show 0<1024;omega)).trans rfl) (fun j=>rfl) fun j0 j2 lt2 a=>?_
  refine sU (x:=.id 0) (l':=.node 0 true false false) (σ1:=σ1) a bl1 (Lg _ (fJ _)) bl1 h5 (fJ _).numb (fJ _).word (fun t j e=>by simp[key,e,aB];rfl) (fun j=>rfl) (.inr rfl) fun u j0 j3 u1 u2 u3 lt3 a=>?_
  let σ2:Nat->Rd:=fun j=>⟨j,1,false,true,[(5,0)],[noB],[(0,0)],[],false,false,false,[]⟩
  refine⟨σ2 j3,by simp only[bX,u1,sS];rfl,rfl,?_⟩
  refine mC a bl1 rfl fun e j4 lt4 a=>⟨σ2 j4,rfl,?_,a.1,?_⟩
  ·grind
  let σ3:List Tok->Nat->Rd:=fun l j=>⟨j,1,false,true,[(5,0)],[noB],[(0,0)],[fK],false,false,false,l⟩
  have a:At s (σ2 j4).i ([32]++(fL++([32]++91::([32]++(bp++([32]++([53]++([32]++(bw++([32]++([53]++([32]++93::([32]++93::[]))))))))))))):=a
  refine oI (σ1:=σ3 [z,z]) (l2:=some (.edge 0 false false false)) (l':=.graph false) a bl1 (AX _ (fJ _)) bl1 PB (fun t j e=>(uE e PE).trans rfl) (fun j=>rfl) fun j0 j5 lt5 a=>?_
  refine sU (x:=.fin 0) (l':=.edge 0 true false false) (σ1:=σ3 [z,z]) a bl1 (uw _ (fJ _)) bl1 h5 (fJ _).numb (fJ _).word (fun t j e=>by simp[key,e,aB];rfl) (fun j=>rfl) (.inr rfl) fun u j0 j6 v1 v2 v3 lt6 a=>?_
  refine⟨σ3 [u,z] j6,by simp only[bX,v1,sS];rfl,rfl,?_⟩
  refine sU (x:=.fin 1) (l':=.edge 0 true true false) (σ1:=σ3 [u,z]) a bl1 (uz _ (fJ _)) bl1 h5 (fJ _).numb (fJ _).word (fun t j e=>by simp[key,e,bp,bw,aB];rfl) (fun j=>rfl) (.inr rfl) fun u' j0 j7 w1 w2 w3 lt7 a=>?_
  refine⟨σ3 [u,u'] j7,by simp only[bX,w1,sS];rfl,rfl,?_⟩
  refine mC a bl1 rfl fun e j8 lt8 a=>⟨σ3 [u,u'] j8,rfl,?_,a.1,?_⟩
  ·grind
  have a:At s (σ3 [u,u'] j8).i ([32]++93::[]):=a
  refine mC a bl1 rfl fun e j9 lt9 a=>⟨σ3 [u,u'] j9,rfl,?_,a.1,?_⟩
  ·grind
  exact⟨_,_,_,yy .nil a,u,u',s.size,v1,w1,rfl⟩
 obtain⟨e,l,r,hb,u,u',i,e1,e2,rfl⟩:=key0
 unfold read
 rw[gF (decide_eq_true PA),hb (s.size+1) (by simp[start])]
 simp only[aB,Er.bind]
 have f5:∀t:Tok,t.l=[53]->eV [(5,0)] t= .ok 0:=by
  intro t ht
  unfold eV
  rw[ht,sS];rfl
 simp only[edges,f5 u e1,f5 u' e2,Er.bind]
 rfl
theorem zG (ht:s.data.toList=yr):read rd cl s= .no (15,14):=by
 have hsz:s.size=18:=by rw[js,ht];rfl
 have a0:At s 0 ([]++(it++([32]++91::([32]++(ib++([32]++91::([32]++93::([32]++93::[])))))))):=by
  have:=At.start s;rw[ht]at this;exact this
 obtain⟨t1,n1,k1,l1,a1⟩:=jX .nil (sQ _ (fJ _)) a0
 obtain⟨n2,a2⟩:=jW bl1 a1
 obtain⟨t3,n3,k3,l3,a3⟩:=jX bl1 (wN _ (fJ _)) a2
 obtain⟨n4,a4⟩:=jW bl1 a3
 obtain⟨n5,a5⟩:=oM bl1 a4
 simp only[List.length_nil,Rs,RU,Qu,show it.length=5 from rfl,show ib.length=4 from rfl]at n1 n2 n3 n4 n5
 have k1':∀r:Rd,r.graph=false->key .top t1 r= .ok (.list (.graph false),.top,{r with graph:=true}):=by
  intro r hr
  simp[key,l1,hr,aB]
 have in3:∀n (r:Rd),r.i=14->list s rd cl (n+1) (.node 0 false false false) 2 r= .ok (15,.node 0 false false false,{r with i:=16}):=by
  grind [list,Er.bind,bV]
 have in2:∀n (r:Rd),r.i=7->r.n=0->list s rd cl (n+2) (.graph false) 1 r= .no (15,14):=by
  intro n r hr hn
  rw[list,hr,n3]
  simp only[Er.bind,k3,bV]
  rw[if_neg PC,gF PC,oL l3 PE]
  simp only[]
  unfold value
  simp only[n4,Er.bind]
  simp only[bn,Tk.kind]
  rw[if_neg PC,if_neg PC,if_neg PC]
  simp only[]
  rw[gF PC,gF PC,if_pos trivial,hn,in3 n _ rfl]
  simp[Er.bind,behind,aB]
 unfold read
 rw[gF (decide_eq_true PA),hsz,list]
 have i0:start.i=0:=rfl
 rw[i0,n1]
 simp only[Er.bind,k1,bV]
 rw[if_neg PC,gF PC,k1' _ rfl]
 simp only[]
 unfold value
 simp only[n2,Er.bind]
 simp only[bn,Tk.kind]
 rw[if_neg PC,if_neg PC,if_neg PC]
 simp only[]
 rw[gF PC,gF PC,if_pos trivial,in2 16 _ rfl rfl]
end
end Go.Proofs.YtmmmmjcfojhiaaaGreatDoor.G
namespace Go.Proofs.YtmmmmjcfojhiaaaGreatDoor.N
open Go.Proofs.YtmmmmjcfojhiaaaGreatDoor
open Go.X
def S4 (h:ab) (R:VP):Prop:=PI 5 #[PU ⟨#[103,114,97,112,104,32,91,32,110,111,100,101,32,91,32,105,100,32,53,32,93,32,101,100,103,101,32,91,32,115,111,117,114,99,101,32,53,32,116,97,114,103,101,116,32,53,32,93,32,93]⟩] h [] fun X a=>∃e:Int,∃(i:PY) (f m:Nat),∃g:Bool,∃(j:PY) (q n:Nat),∃(k:PY) (r o:Nat),∃(l:PY) (s p:Nat),∃L:Int,∃O:Int,X= .tuple #[.agg #[PN e,PT i f m,PV g,PT j q n,PT k r o,PT l s p],PN L,PN O]/\let S:ab:=a.push (.cells #[PN 0,PT none 0 0,PV false,PT none 0 0,PT none 0 0,PT none 0 0] 30);let T:ab:=aj (aj (aj (aj (aj (aj S a.size 0 (PN e)) a.size (0+1) (PT i f m)) a.size ((0+1)+1) (PV g)) a.size (((0+1)+1)+1) (PT j q n)) a.size ((((0+1)+1)+1)+1) (PT k r o)) a.size (((((0+1)+1)+1)+1)+1) (PT l s p);PI 5 #[PU ⟨#[103,114,97,112,104,32,91,32,110,111,100,101,32,91,32,93,32,93]⟩] T [a.size] fun Y b=>∃w:Int,∃(z:PY) (H D:Nat),∃x:Bool,∃(A:PY) (I E:Nat),∃(B:PY) (J F:Nat),∃(C:PY) (K G:Nat),∃M:Int,∃P:Int,Y= .tuple #[.agg #[PN w,PT z H D,PV x,PT A I E,PT B J F,PT C K G],PN M,PN P]/\let U:ab:=b.push (.cells #[PN 0,PT none 0 0,PV false,PT none 0 0,PT none 0 0,PT none 0 0] 30);let V:ab:=aj (aj (aj (aj (aj (aj U b.size 0 (PN w)) b.size (0+1) (PT z H D)) b.size ((0+1)+1) (PV x)) b.size (((0+1)+1)+1) (PT A I E)) b.size ((((0+1)+1)+1)+1) (PT B J F)) b.size (((((0+1)+1)+1)+1)+1) (PT C K G);PI 7 #[.agg #[PN e,PT i f m,PV g,PT j q n,PT k r o,PT l s p]] V [b.size,a.size] fun Z d=>∃y:P0,∃N:Int,Z= .tuple #[PU y,PN N]/\let c:=fun(Q:ab)=>(R (PV false) Q);cnd (e==1) (cnd ((f:Int)==(1:Int)) (cnd (L==0) (cnd (O==0) (cnd (M==15) (cnd (P==14) (cnd (decide ((y.size:Int)>(40:Int))) (cnd (N==0) (PI 9 #[.agg #[PN e,PT i f m,PV g,PT j q n,PT k r o,PT l s p]] d [b.size,a.size] fun a0 t=>∃u:Bool,a0= PV u/\cnd u (PI 6 #[.agg #[PN e,PT i f m,PV g,PT j q n,PT k r o,PT l s p],.agg #[PN e,PT i f m,PV g,PT j q n,PT k r o,PT l s p]] t [b.size,a.size] fun a1 W=>∃v:Bool,a1= PV v/\R (PV v) W) (c t)) (c d)) (c d)) (c d)) (c d)) (c d)) (c d)) (c d)) (c d)
theorem Jk {h:ab} {R:VP} (H:S4 h R):PJ 4 #[] h R:=ba [1,4] 69 [] [] [] [] Tryz.func4 PD PD H
open Go.Proofs
def mdR (dc:G.Dc):MD:=⟨(dc.n:Int),dc.dir,dc.edges.map pr,dc.labels,dc.spots,dc.weights⟩
theorem OV :G.dec 5=[53]:=by rw[G.dec];rfl
theorem OW :G.dec 0=[48]:=by rw[G.dec];rfl
def tx0 :Nat->PZ:=fun _=>[]
def dc5 :G.Dc:=⟨1,false,[(0,0)],[],[],[]⟩
theorem wr5 :(G.wr tx0 dc5).length=84:=by
 simp[G.wr,G.aO,G.wK,dc5,G.iq,G.nr,G.fW,G.rk,G.opn,G.kv,G.cls,G.ind,OW,G.it,G.dj,G.ib,G.kId,G.fL,G.bp,G.bw]
theorem hd1 {gl:GL} {h:ab} (g:Gl gl h):PJ 4 #[] h fun v h'=>v= PV true/\Fr [] h h':=by
 apply Jk
 unfold S4
 obtain⟨x5,h5⟩:=vK 5 PB
 rw[OV]at h5
 have rA:G.read rdF bF (G.mkB G.EW)= .ok dc5:=G.zF h5 (uV _)
 have rB:G.read rdF bF (G.mkB G.yr)= .no (15,14):=G.zG (uV _)
 refine ak (R:=rdR gl (G.mkB G.EW) rdF bF h) [] (ok5 (s:=G.mkB G.EW) (D3 gl) iD yA g PB (by rw[rA];simp)) PC ?_ ?_
 ·rintro v h' (⟨dc,aD,aL,aS,aW,nD,cD,nL,cL,nS,cS,nW,cW,_,_,q⟩ | ⟨f,_,_,q⟩)
  ·exact q.fr
  ·exact q
 rintro v h1 (⟨dc,aD,aL,aS,aW,nD,cD,nL,cL,nS,cS,nW,cW,e,rfl,q⟩ | ⟨f,e,_,q⟩)
 rotate_left
 ·rw[rA]at e
  cases e
 rw[rA]at e
 obtain rfl:dc5=dc:=by injection e
 refine⟨1,aD,nD,cD,false,aL,nL,cL,aS,nS,cS,aW,nW,cW,0,0,rfl,?_⟩
 intro h2 h3
 have f3:Fr [] h1 h3:=((((((Fr.push h1 _).hsetL (P3 _)).hsetL (P3 _)).hsetL (P3 _)).hsetL (P3 _)).hsetL (P3 _)).hsetL (P3 _)
 have s3:h1.size<h3.size:=by simp[h3,h2]
 clear_value h3
 have Q3:Sq h [Ck.glob gl] h3 (dC gl dc5 aD aL aS aW nD cD nL cL nS cS nW cW):=q.gr f3
 have g3:Gl gl h3:=Q3.sy.ok (k:=4) (c:=Ck.glob gl) rfl
 refine ak (R:=rdR gl (G.mkB G.yr) rdF bF h3) [] (ok5 (s:=G.mkB G.yr) (D3 gl) iD yA g3 PB (by rw[rB];simp)) PC ?_ ?_
 ·rintro v h' (⟨dc,aD,aL,aS,aW,nD,cD,nL,cL,nS,cS,nW,cW,_,_,q⟩ | ⟨f,_,_,q⟩)
  ·exact q.fr
  ·exact q
 rintro v h4 (⟨dc,_,_,_,_,_,_,_,_,_,_,_,_,e,rfl,q⟩ | ⟨f,e,rfl,f4⟩)
 ·rw[rB]at e;cases e
 rw[rB]at e
 obtain rfl:((15,14):G.F)=f:=by injection e
 refine⟨0,none,0,0,false,none,0,0,none,0,0,none,0,0,15,14,rfl,?_⟩
 intro h5 h6
 have f6:Fr [] h4 h6:=((((((Fr.push h4 _).hsetL (P3 _)).hsetL (P3 _)).hsetL (P3 _)).hsetL (P3 _)).hsetL (P3 _)).hsetL (P3 _)
 clear_value h6
 have Q6:=(Q3.gr f4).gr f6
 have l0:=Q6.sy.lenS 0 rfl
 have Q7:Sq h [Ck.glob gl] h6 (dV gl aD nD cD (dc5.edges.map pr) aL nL cL dc5.labels aS nS cS dc5.spots aW nW cW dc5.weights):=by
  have Y:=((((Q6.sy.turn 0 rfl To.slvw).turn 1 rfl To.slvw).turn 2 rfl To.slvw).turn 3 rfl To.slvw).pick [4,0,1,2,3] rfl
  refine⟨Y,fun x hx=>?_⟩
  have hx:x∈glB gl++(mB aD nD++(mB aL nL++(mB aS nS++mB aW nW))):=by simpa[rds,dV,Ck.vw,Ck.glob]using hx
  simp only[Qe]at hx
  rcases hx with hx | hx | hx | hx | hx
  ·exact .inl (by simpa[rds,Ck.glob]using hx)
  ·exact .inr (Q6.sy.ow 0 _ rfl x (jS hx))
  ·exact .inr (Q6.sy.ow 1 _ rfl x (jS hx))
  ·exact .inr (Q6.sy.ow 2 _ rfl x (jS hx))
  ·exact .inr (Q6.sy.ow 3 _ rfl x (jS hx))
 have eD:iY 1 false (dc5.edges.map pr) dc5.labels dc5.spots dc5.weights=dc5:=rfl
 have eB:gn 1 (dc5.edges.map pr) dc5.labels dc5.spots dc5.weights=true:=by decide
 have eW:wrV tx0 1 false (dc5.edges.map pr) dc5.labels dc5.spots dc5.weights=(G.wr tx0 dc5,0):=by
  unfold wrV
  rw[eB,if_neg PB,eD,wr5,if_neg PB]
 refine ak (R:=fun v h'=>v= .tuple #[PU (G.mkB (G.wr tx0 dc5)),PN 0]/\Fr [] h6 h') [] ?_ PC (fun _ _ r=>r.2) ?_
 ·have:=ok7 (tx:=tx0) (n:=1) (dir:=false) Q7.hp (by simp[dc5]) PB (by simp[dc5]) (by simp[dc5])
  rw[eW]at this;exact this
 rintro v h7 ⟨rfl,f7⟩
 refine⟨_,0,rfl,?_⟩
 intro K
 have nD1:nD=1:=l0
 subst nD1
 have F7:Fr [] h h7:=Q7.fr.trans f7
 have Q8:=Q7.gr f7
 refine aJ rfl (aJ rfl (aJ rfl (aJ rfl (aJ rfl (aJ rfl (aJ ?_ (aJ rfl ?_)))))))
 ·rw[gJ,wr5];decide
 refine ak (R:=fun v h'=>v= PV true/\Fr [] h7 h') [] ?_ PC (fun _ _ r=>r.2) ?_
 ·refine(BS (n:=1) (es:=dc5.edges.map pr) (dr:=false) (ls:=dc5.labels) (ss:=dc5.spots) (ws:=dc5.weights) (R:=fun r=>r=true) (by simp[dc5]) PB eB h7 _ _ _ _ _ _ _ _ _ _ _ _ (Q8.pick [1,2,3,4] rfl).hp).mono ?_
  rintro v h' ⟨r,Y,rfl,rfl⟩
  exact⟨rfl,Y.fr⟩
 rintro v h8 ⟨rfl,f8⟩
 have Q9:=Q8.gr f8
 refine⟨true,rfl,aJ rfl ?_⟩
 let t:MDs:=⟨aD,1,cD,aL,nL,cL,aS,nS,cS,aW,nW,cW⟩
 have Hd:Hp h8 ((mdR dc5).vw t++(mdR dc5).vw t):=by
  have P:=(Q9.pick [1,2,3,4] rfl).hp
  refine⟨fun k c hk=>?_,fun i j c d _ hi hj x hx=>?_⟩
  ·rcases dY hk with hk | ⟨_,hk⟩
   ·exact P.ok k c hk
   ·exact P.ok _ c hk
  ·have:c.own=[]:=by
    have hm:c∈(mdR dc5).vw t++(mdR dc5).vw t:=Qa hi
    simp only[MD.vw,Qe,Qd,Qh,or_false]at hm
    rcases hm with(rfl | rfl | rfl | rfl) | rfl | rfl | rfl | rfl<;>rfl
   rw[this]at hx;cases hx
 refine ak (R:=fun v h'=>v= PV true/\Fr [] h8 h') [] ?_ PC (fun _ _ r=>r.2) ?_
 ·have:=ok6 Hd PB
  have es:eM (mdR dc5) (mdR dc5)=true:=by decide
  rw[es]at this;exact this
 rintro v h9 ⟨rfl,f9⟩
 exact⟨true,rfl,rfl,(F7.trans f8).trans f9⟩
section
variable {gl:GL} {h:ab} {aL:PY} {nL cL:Nat} {ls:List ByteArray}
end
theorem LB {a b:Int} {xs ys:Es} (hx:xs.length<=9223372036854775807) {R:Bool->Prop} (r:R (decide (a=b)&&decide (xs=ys))):JT a xs b ys R:=by
 apply Pi
 unfold T47
 refine cn (fun h=>?_) fun h=>?_
 ·rw[decide_eq_false h,Bool.false_and]at r;exact r
 rw[decide_eq_true h,Rn,<-tp]at r
 refine cn (fun h=>?_) fun h=>?_
 ·rw[ig PA]at r;exact r
 refine⟨fun i=>∃k:Nat,i=k/\k<=xs.length/\((xs.zip ys).take k).all (fun p=>decide (p.1=p.2))=true,fun i=>((xs.length:Int)-i).toNat,⟨0,rfl,PA,PC⟩,?_⟩
 rintro _ ⟨k,rfl,hk,ha⟩
 refine ae (fun hlt=>⟨PA,hlt,fun x hx=>⟨PA,PA,fun y hy=>?_⟩⟩) fun hlt=>?_
 ·have hx:xs[k]? =some x:=by simpa using hx
  have hy:ys[k]? =some y:=by simpa using hy
  have e:((x.1==y.1)&&(x.2==y.2))=decide (x=y):=by
   rw[Rr];simp[Prod.ext_iff]
  rw[e]
  refine bj (fun q=>?_) fun q=>?_
  ·rw[iX (f:=fun x y=>decide (x=y)) hx hy q]at r;exact r
  ·rw[wr PA PA]
   exact⟨⟨k+1,PC,PA,fO (f:=fun x y=>decide (x=y)) hx hy q ha⟩,by dsimp only;omega⟩
 ·rw[ii (f:=fun x y=>decide (x=y)) PA (show xs.length<=k by omega) ha]at r;exact r
section
variable {h0 h:ab} {C B:List Ck} {H:List Nat} {A:PY} {n c:Nat} {l:PZ}
end
section
variable {gl:GL} {h:ab} {gA:PY} {gL gC:Nat} {es:Es} {g k:Int} {up:Bool}
end
theorem BM {x y:Nat} {R:Bool->Prop} (r:R (x==y)):Gv x y R:=by
 apply Pc
 unfold T28
 have e:(((x:Int))==((y:Int)))=(x==y):=by grind
 refine bh (jZ _) ⟨_,rfl,bh (jZ _) ⟨_,rfl,?_⟩⟩
 rw[e];exact r
theorem BN {x y:Nat} {R:Bool->Prop} (r:R (fe x y)):Cm x y R:=by
 apply Pd
 unfold T48
 rw[iC,iC]
 unfold fe at r
 refine⟨fun b=>b=(x==y)/\(isNaN x&&isNaN y)=false,aU (fun h1=>aU (fun h2=>?_) fun h2=>BM ⟨rfl,PE⟩) fun h1=>BM ⟨rfl,by rw[h1];rfl⟩,?_⟩
 ·grind
 grind
theorem LA {a b:MD} {R:Bool->Prop} (hl:a.es.length<=9223372036854775806/\a.ls.length<=9223372036854775806/\a.ss.length<=9223372036854775806/\a.ws.length<=9223372036854775806) (r:R (eM a b)):Mh a.n a.es a.dir a.ls a.ss a.ws b.n b.es b.dir b.ls b.ss b.ws R:=by
 obtain⟨n,dr,es,ls,ss,ws⟩:=a
 obtain⟨n2,dr2,es2,ls2,ss2,ws2⟩:=b
 obtain⟨h1,h2,h3,h4⟩:=hl
 dsimp only at*
 apply Pe
 unfold T27
 have sB:∀v,eM ⟨n,dr,es,ls,ss,ws⟩ ⟨n2,dr2,es2,ls2,ss2,ws2⟩=v->R v:=fun v e=>e▸r
 refine⟨eM ⟨n,dr,es,ls,ss,ws⟩ ⟨n2,dr2,es2,ls2,ss2,ws2⟩=false,LB PA (bj (fun q=>?_) fun q1=>bj (fun q=>?_) fun q2=>cn (fun q=>?_) fun q3=>cn (fun q=>?_) fun q4=>cn (fun q=>?_) fun q5=>?_),sB false⟩
 ·unfold eM;grind
 ·unfold eM;grind
 ·grind [eM]
 ·grind [eM,ig]
 ·grind [eM,ig]
 have eA:eM ⟨n,dr,es,ls,ss,ws⟩ ⟨n2,dr2,es2,ls2,ss2,ws2⟩=(eqL (fun x y=>decide (x=y)) ls ls2&&(eqL fe2 ss ss2&&eqL fe ws ws2)):=by
  grind [eM,tp]
 rw[eA]at sB
 refine⟨fun i=>∃k:Nat,i=k/\k<=ls.length/\((ls.zip ls2).take k).all (fun p=>decide (p.1=p.2))=true,fun i=>((ls.length:Int)-i).toNat,⟨0,rfl,PA,PC⟩,?_⟩
 rintro _ ⟨k,rfl,hk,ha⟩
 refine ae (fun hlt=>⟨PA,hlt,fun x hx=>⟨PA,PA,fun y hy=>?_⟩⟩) fun hlt=>?_
 ·have hx:ls[k]? =some x:=by simpa using hx
  have hy:ls2[k]? =some y:=by simpa using hy
  rw[BT]
  refine bj (fun q=>sB false ?_) fun q=>?_
  ·grind [iX]
  ·rw[wr PA PA]
   exact⟨⟨k+1,PC,PA,fO (f:=fun x y=>decide (x=y)) hx hy q ha⟩,PE⟩
 rw[ii (f:=fun x y=>decide (x=y)) (show ls.length=ls2.length by omega) (show ls.length<=k by omega) ha,Rn]at sB
 clear ha hk hlt
 refine⟨fun i=>∃k:Nat,i=k/\k<=ss.length/\((ss.zip ss2).take k).all (fun p=>fe2 p.1 p.2)=true,fun i=>((ss.length:Int)-i).toNat,⟨0,rfl,PA,PC⟩,?_⟩
 rintro _ ⟨k,rfl,hk,ha⟩
 refine ae (fun hlt=>⟨PA,hlt,fun x hx=>⟨PA,PA,fun y hy=>?_⟩⟩) fun hlt=>?_
 ·have hx:ss[k]? =some x:=by simpa using hx
  have hy:ss2[k]? =some y:=by simpa using hy
  refine BN (bj (fun q=>sB false ?_) fun q=>BN (bj (fun q'=>sB false ?_) fun q'=>?_))
  ·grind [iX,fe2]
  ·grind [iX,fe2]
  ·rw[wr PA PA]
   exact⟨⟨k+1,PC,PA,fO (f:=fe2) hx hy (by unfold fe2;rw[q,q'];rfl) ha⟩,PE⟩
 rw[ii (f:=fe2) (show ss.length=ss2.length by omega) (show ss.length<=k by omega) ha,Rn]at sB
 clear ha hk hlt
 refine⟨fun i=>∃k:Nat,i=k/\k<=ws.length/\((ws.zip ws2).take k).all (fun p=>fe p.1 p.2)=true,fun i=>((ws.length:Int)-i).toNat,⟨0,rfl,PA,PC⟩,?_⟩
 rintro _ ⟨k,rfl,hk,ha⟩
 refine ae (fun hlt=>⟨PA,hlt,fun x hx=>⟨PA,PA,fun y hy=>?_⟩⟩) fun hlt=>sB true (ii (f:=fe) (show ws.length=ws2.length by omega) (show ws.length<=k by omega) ha)
 have hx:ws[k]? =some x:=by simpa using hx
 have hy:ws2[k]? =some y:=by simpa using hy
 refine BN (bj (fun q=>sB false (iX hx hy q)) fun q=>?_)
 rw[wr PA PA]
 exact⟨⟨k+1,PC,PA,fO hx hy q ha⟩,PE⟩
end Go.Proofs.YtmmmmjcfojhiaaaGreatDoor.N
