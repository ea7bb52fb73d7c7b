/- gml.Read: what goes up is caught. Conditions: what Clean tells, what a number's text reads as. -/
import Derived.Test.YtemclecmafjjfaaGreatDoorHRes
import Derived.Tactics
import Derived.Tactics2
import Derived.Defers
import Derived.Recover
import Derived.Laws.Pointers
import Derived.Test.YtemclecmafjjfaaGreatDoorHVal
import Derived.Test.YtemclecmafjjfaaGreatDoorXU
import Derived.Test.YtemclecmafjjfaaGreatDoorSBk
import Derived.Test.YtemclecmafjjfaaGreatDoorWPre
import Derived.Test.YtemclecmafjjfaaGreatDoorHOnce
import Derived.Test.YtemclecmafjjfaaGreatDoorTGw
set_option linter.unusedVariables false
set_option linter.unusedSimpArgs false
namespace Go.Proofs.YtemclecmafjjfaaGreatDoor.N
open Go.Proofs.YtemclecmafjjfaaGreatDoor
open Go.X
open Go.Proofs
set_option maxRecDepth 100000
theorem MG {b:Bool} {a e:Nat} {h:ab}:aB Tryz.prog 23 #[.bool b,.int .i64 (a:Int),.int .i64 (e:Int)] h (fun v h'=>b=true/\v= .tuple #[]/\h'=h) (fun v h'=>b=false/\v=flt (a,e)/\h'=h):=by
 apply xB
 unfold S23
 refine⟨fun _ h'=>b=true/\h'=h,aV (fun q=>?_) fun q=>⟨q,rfl⟩,fun h' q=>⟨q.1,rfl,q.2⟩⟩
 exact jf ⟨q,rfl,rfl⟩
def rdR (gl:GL) (s:ByteArray) (rd:ByteArray->Option (Nat × Nat)) (cl:Nat->Nat) (h:ab) (v:Value) (h':ab):Prop:=
 (∃dc aD aL aS aW nD cD nL cL nS cS nW cW,G.read rd cl s= .ok dc/\v= .tuple #[.agg #[.int .i64 (dc.n:Int),.slice aD nD cD,.bool dc.dir,.slice aL nL cL,.slice aS nS cS,.slice aW nW cW],.int .i64 0,.int .i64 0]/\
  Sq h [Ck.glob gl] h' (dC gl dc aD aL aS aW nD cD nL cL nS cS nW cW))\/
 ∃f,G.read rd cl s= .no f/\v= .tuple #[.agg #[.int .i64 0,.slice none 0 0,.bool false,.slice none 0 0,.slice none 0 0,.slice none 0 0],.int .i64 (f.1:Int),.int .i64 (f.2:Int)]/\Fr [] h h'
section
variable {gl:GL} {s:ByteArray} {rd:ByteArray->Option (Nat × Nat)} {cl:Nat->Nat}
def z29 :List Value:=[.int .i64 0,.slice none 0 0,.bool false,.slice none 0 0,.slice none 0 0,.slice none 0 0]
theorem Hn {h h5:ab} (g:Gl gl h) (e:h5=((((h.push (.cells z29.toArray 29)).push (.cells #[.int .i64 0] 3)).push (.cells #[.int .i64 0] 32)).push (.map #[] 0)).push (.cells (rc s ⟨h.size+1+1+1,none,0,none,0,none,0,none,0⟩ G.start 0).toArray 67)):
  Sq h [Ck.glob gl] h5 (stC gl (h.size+1+1+1+1) s ⟨h.size+1+1+1,none,0,none,0,none,0,none,0⟩ G.start 0++[Ck.ob h.size 29 z29,Ck.ob (h.size+1) 3 [.int .i64 0],Ck.ob (h.size+1+1) 32 [.int .i64 0]]):=by
 have Y0:Sy h (ao [Ck.glob gl]) h [Ck.glob gl]:=Sy.start (Hp.one g)
 have Y1:=Sy.newO (ty:=29) Y0 z29
 have Y2:=Sy.newO (ty:=3) Y1 [.int .i64 0]
 have Y3:=Sy.newO (ty:=32) Y2 [.int .i64 0]
 have Y4:=Sy.newM Y3
 have Y5:=Sy.newO (ty:=67) Y4 (rc s ⟨h.size+1+1+1,none,0,none,0,none,0,none,0⟩ G.start 0)
 have Y6:=(((Y5.nilS eS 9).nilS eFF 71).nilS eF 54).nilS eT 97
 simp only[Array.size_push]at Y6
 subst e
 have Z:=Y6.pick [5,4,6,7,8,9,0,1,2,3] rfl
 exact⟨Z,fun x hx=>.inl (by simpa[rds,stC,Ck.ob,Ck.mp,Ck.sl,Ck.glob]using hx)⟩
theorem Sq.drop {h0 h h':ab} {C A B:List Ck} (q:Sq h0 C h (A++B)) (f:Fr (ao A) h h'):Sq h0 C h' B:=by
 have p:Sq h A h' []:=⟨⟨f,Hp.nil _,fun k c hk=>by simp at hk⟩,fun b hb=>by simp[rds]at hb⟩
 simpa using Sq.call q p
theorem JE (h:ab) (a b c:Obj):(((h.push a).push b).push c)[h.size]? =some a/\(((h.push a).push b).push c)[h.size+1]? =some b/\(((h.push a).push b).push c)[h.size+1+1]? =some c:=by
 grind
theorem Au {h:ab} {p1 p2 p3:Nat} {x y:Int} (h1:h[p1]? =some (.cells z29.toArray 29 (0,0))) (h2:h[p2]? =some (.cells #[.int .i64 0] 3 (0,0))) (h3:h[p3]? =some (.cells #[.int .i64 0] 32 (0,0))) (n2:p1≠p2/\p1≠p3/\p2≠p3):
  (kJ h p1 p2 p3 x y)[p1]? =some (.cells #[.int .i64 0,.slice none 0 0,.bool false,.slice none 0 0,.slice none 0 0,.slice none 0 0] 29 (0,0))/\(kJ h p1 p2 p3 x y)[p2]? =some (.cells #[.int .i64 x] 3 (0,0))/\(kJ h p1 p2 p3 x y)[p3]? =some (.cells #[.int .i64 y] 32 (0,0)):=by
 unfold kJ
 have a:=bV (bV (bV (bV (bV (bV h1 (o:=0) (v:=.int .i64 0)) (o:=0+1) (v:=.slice none 0 0)) (o:=(0+1)+1) (v:=.bool false)) (o:=((0+1)+1)+1) (v:=.slice none 0 0)) (o:=(((0+1)+1)+1)+1) (v:=.slice none 0 0)) (o:=((((0+1)+1)+1)+1)+1) (v:=.slice none 0 0)
 generalize hq:am (am (am (am (am (am h p1 0 (.int .i64 0)) p1 (0+1) (.slice none 0 0)) p1 ((0+1)+1) (.bool false)) p1 (((0+1)+1)+1) (.slice none 0 0)) p1 ((((0+1)+1)+1)+1) (.slice none 0 0)) p1 (((((0+1)+1)+1)+1)+1) (.slice none 0 0)=hv at a ⊢
 have F:Fr [p1] h hv:=by
  subst hq
  exact((((((Fr.refl _ _:Fr [p1] h h).hsetr (.inr (by simp))).hsetr (.inr (by simp))).hsetr (.inr (by simp))).hsetr (.inr (by simp))).hsetr (.inr (by simp))).hsetr (.inr (by simp))
 have g2:hv[p2]? =some (.cells #[.int .i64 0] 3 (0,0)):=F.blk_some h2 (by grind)
 have g3:hv[p3]? =some (.cells #[.int .i64 0] 32 (0,0)):=F.blk_some h3 (by grind)
 refine⟨?_,?_,?_⟩
 ·rw[fh n2.2.1,fh n2.1];exact a
 ·rw[fh n2.2.2];exact bV g2
 ·have:=(Fr.hset hv p2 0 (.int .i64 x)).blk_some g3 (by grind)
  exact bV this
theorem Av {w w2:World} {p1 p2 p3:Nat} {f:G.F} {tmps:Array Value} (t2:tmps[2]? =some (pt p1)) (t3:tmps[3]? =some (pt p2)) (t4:tmps[4]? =some (pt p3)) (r:Go.X.Rest w w2) (F:Fr [] w.heap w2.heap)
  (h1:w2.heap[p1]? =some (.cells z29.toArray 29 (0,0))) (h2:w2.heap[p2]? =some (.cells #[.int .i64 0] 3 (0,0))) (h3:w2.heap[p3]? =some (.cells #[.int .i64 0] 32 (0,0))) (n2:p1≠p2/\p1≠p3/\p2≠p3) (l:w.heap.size<=p1/\w.heap.size<=p2/\w.heap.size<=p3)
  (hrd:G.read rd cl s= .no f):Leaves Tryz.prog Tryz.f8 tmps (fun e w'=>∃v,e=Ending.returned v/\Go.X.Rest w w'/\rdR gl s rd cl w.heap v w'.heap) [{target:=.fn (.func 22) #[pt p1,pt p2,pt p3],args:=#[]}] (.panicking [{v:=flt f,recovered:=false}]) w2:=by
 obtain⟨at_,e⟩:=f
 refine leaves_cons (f:=22) (args:=#[pt p1,pt p2,pt p3]) (by simp) (by simp[go_sem]) ?_
 refine(DM p1 p2 p3 at_ e w2 h1 h2 h3 n2.1 n2.2.1 n2.2.2).mono ?_
 rintro e' u' w3 ⟨rfl,rfl,r3,e3⟩
 have F2:Fr [] w.heap (w2.heap.push (.cells #[.int .i64 (at_:Int),.int .i64 (e:Int)] 58)):=F.pushr _
 obtain⟨q1,q2,q3⟩:=Au (x:=(at_:Int)) (y:=(e:Int)) ((Fr.push w2.heap (.cells #[.int .i64 (at_:Int),.int .i64 (e:Int)] 58)).blk_some h1 (by simp)) ((Fr.push w2.heap _).blk_some h2 (by simp)) ((Fr.push w2.heap _).blk_some h3 (by simp)) n2
 rw[<-e3]at q1 q2 q3
 refine⟨_,JH t2 t3 t4 q1 q2 q3,_,rfl,r.trans r3,.inr ⟨(at_,e),hrd,rfl,?_⟩⟩
 rw[e3]
 exact(((((((F2.hsetL l.1).hsetL l.1).hsetL l.1).hsetL l.1).hsetL l.1).hsetL l.1).hsetL l.2.1).hsetL l.2.2
set_option maxHeartbeats 1000000 in
theorem ok8 (hr:rR rd gl) (hc:G.ClOK cl) (hcl:pZ cl) {h:ab} (g:Gl gl h) (hsz:s.size<=9223372036854775807) (hu:G.read rd cl s≠ .un):ae Tryz.prog 8 #[.string s] h (rdR gl s rd cl h):=by
 intro w hwh
 subst hwh
 have hmf:∀(fn:Fn) (first cap:Array Value) (w:World),(Instr.makeFunc fn first cap).run Tryz.prog w= .ok (.func fn first cap) w:=fun _ _ _ _=>rfl
 have hmm:∀(t:TypeId) (w:World),(Instr.makeMap t none).run Tryz.prog w= .ok (.map (some w.heap.size)) (w.alloc (.map #[] 0)):=fun _ _=>rfl
 go_enter_defers Tryz.func8,Tryz.ntmps8
 go_wp2_with (fail)
 refine(MG (b:=decide ((s.size:Int)<=262144)) (a:=0) (e:=23) _ rfl).mono fun e w2 r=>?_
 obtain⟨rest,r⟩:=r
 rcases r with⟨v,rfl,hb,rfl,hw⟩ | ⟨v,rfl,hb,rfl,hw⟩
 ·have hs:s.size<=262144:=by grind
  have hrd:G.read rd cl s=G.jT rd cl s:=by
   rw[G.xq,decide_eq_true hs];rfl
  go_wp2_with (fail)
  have hw':w2.heap=((w.heap.push (.cells z29.toArray 29)).push (.cells #[.int .i64 0] 3)).push (.cells #[.int .i64 0] 32):=hw
  have r2:Go.X.Rest w w2:=(((Go.X.Rest.alloc w _).trans (Go.X.Rest.alloc _ _)).trans (Go.X.Rest.alloc _ _)).trans rest
  have Q:=Hn (s:=s) (h5:=(w2.heap.push (.map #[] 0)).push (.cells (rc s ⟨w.heap.size+1+1+1,none,0,none,0,none,0,none,0⟩ G.start 0).toArray 67)) g (by rw[hw'])
  have HA:Hp _ (stC gl (w.heap.size+1+1+1+1) s ⟨w.heap.size+1+1+1,none,0,none,0,none,0,none,0⟩ G.start 0):=(Q.pick [0,1,2,3,4,5,6] rfl).hp
  rw[hrd]at hu
  refine(Mw hr hc hcl hs HA hu _ rfl).mono fun e w4 r=>?_
  obtain⟨rest4,r⟩:=r
  have r4:Go.X.Rest w w4:=((r2.trans (Go.X.Rest.alloc _ _)).trans (Go.X.Rest.alloc _ _)).trans rest4
  rcases r with⟨v,rfl,dc,aD,aL,aS,aW,nD,cD,nL,cL,nS,cS,nW,cW,hL,rfl,q⟩ | ⟨v,rfl,f,hL,rfl,q⟩
  ·have Q2:=Sq.call Q q
   have t1:w4.heap[w.heap.size]? =some (.cells #[.int .i64 0,.slice none 0 0,.bool false,.slice none 0 0,.slice none 0 0,.slice none 0 0] 29 (0,0)):=Q2.sy.ok (k:=5) rfl
   have t2:w4.heap[w.heap.size+1]? =some (.cells #[.int .i64 0] 3 (0,0)):=Q2.sy.ok (k:=6) rfl
   have t3:w4.heap[w.heap.size+1+1]? =some (.cells #[.int .i64 0] 32 (0,0)):=Q2.sy.ok (k:=7) rfl
   have k0:w4.cell? ⟨w.heap.size,0,none⟩=some (.int .i64 0):=by simp[World.cell?,t1]
   have k1:w4.cell? ⟨w.heap.size,1,none⟩=some (.slice none 0 0):=by simp[World.cell?,t1]
   have k2:w4.cell? ⟨w.heap.size,2,none⟩=some (.bool false):=by simp[World.cell?,t1]
   have k3:w4.cell? ⟨w.heap.size,3,none⟩=some (.slice none 0 0):=by simp[World.cell?,t1]
   have k4:w4.cell? ⟨w.heap.size,4,none⟩=some (.slice none 0 0):=by simp[World.cell?,t1]
   have k5:w4.cell? ⟨w.heap.size,5,none⟩=some (.slice none 0 0):=by simp[World.cell?,t1]
   have k6:w4.cell? ⟨w.heap.size+1,0,none⟩=some (.int .i64 0):=by simp[World.cell?,t2]
   have k7:w4.cell? ⟨w.heap.size+1+1,0,none⟩=some (.int .i64 0):=by simp[World.cell?,t3]
   have z0:∀o,w4.frozen? ⟨w.heap.size,o,none⟩=false:=fun o=>by simp[World.frozen?,t1]
   have z1:∀o,w4.frozen? ⟨w.heap.size+1,o,none⟩=false:=fun o=>by simp[World.frozen?,t2]
   have z2:∀o,w4.frozen? ⟨w.heap.size+1+1,o,none⟩=false:=fun o=>by simp[World.frozen?,t3]
   go_wp2_with (fail)
   refine leaves_cons (f:=22) (args:=#[pt w.heap.size,pt (w.heap.size+1),pt (w.heap.size+1+1)]) (by simp) (by simp[go_sem]) ?_
   refine(Hc ⟨w.heap.size,0,none⟩ ⟨w.heap.size+1,0,none⟩ ⟨w.heap.size+1+1,0,none⟩ _).mono ?_
   rintro e' u' w5 ⟨rfl,rfl,e5⟩
   have Y:=(((((((Q2.sy.stO 5 rfl 0 (.int .i64 (dc.n:Int))).stO 5 rfl 1 (.slice aD nD cD)).stO 5 rfl 2 (.bool dc.dir)).stO 5 rfl 3 (.slice aL nL cL)).stO 5 rfl 4 (.slice aS nS cS)).stO 5 rfl 5 (.slice aW nW cW)).stO 6 rfl 0 (.int .i64 0)).stO 7 rfl 0 (.int .i64 0)
   have h5:w5.heap=am (am (am (am (am (am (am (am w4.heap w.heap.size 0 (.int .i64 (dc.n:Int))) w.heap.size 1 (.slice aD nD cD)) w.heap.size 2 (.bool dc.dir)) w.heap.size 3 (.slice aL nL cL)) w.heap.size 4 (.slice aS nS cS)) w.heap.size 5 (.slice aW nW cW)) (w.heap.size+1) 0 (.int .i64 0)) (w.heap.size+1+1) 0 (.int .i64 0):=by
    grind [heap_setCell]
   rw[<-h5]at Y
   have r5:Go.X.Rest w w5:=by
    rw[e5]
    exact(((((((r4.trans (Go.X.Rest.setCell _ _ _)).trans (Go.X.Rest.setCell _ _ _)).trans (Go.X.Rest.setCell _ _ _)).trans (Go.X.Rest.setCell _ _ _)).trans (Go.X.Rest.setCell _ _ _)).trans (Go.X.Rest.setCell _ _ _)).trans (Go.X.Rest.setCell _ _ _)).trans (Go.X.Rest.setCell _ _ _)
   clear e5 h5
   have c1:=Y.ok (k:=5) (c:=Ck.ob w.heap.size 29 [.int .i64 (dc.n:Int),.slice aD nD cD,.bool dc.dir,.slice aL nL cL,.slice aS nS cS,.slice aW nW cW]) rfl
   have c2:=Y.ok (k:=6) (c:=Ck.ob (w.heap.size+1) 3 [.int .i64 0]) rfl
   have c3:=Y.ok (k:=7) (c:=Ck.ob (w.heap.size+1+1) 32 [.int .i64 0]) rfl
   refine⟨_,JH (c0:=(dc.n:Int)) (a1:=aD) (n1:=nD) (k1:=cD) (c2:=dc.dir) (a4:=aL) (n4:=nL) (k4:=cL) (a5:=aS) (n5:=nS) (k5:=cS) (a6:=aW) (n6:=nW) (k6:=cW) (x:=0) (y:=0) (p1:=w.heap.size) (p2:=w.heap.size+1) (p3:=w.heap.size+1+1) rfl rfl rfl c1 c2 c3,_,rfl,r5,.inl ⟨dc,aD,aL,aS,aW,nD,cD,nL,cL,nS,cS,nW,cW,hrd.trans hL,rfl,?_⟩⟩
   ·exact⟨Y.pick [0,1,2,3,4] rfl,fun x hx=>.inl (by simpa[rds,dC,Ck.sl,Ck.glob]using hx)⟩
  ·have Q3:=Sq.drop Q q
   exact Av (f:=f) rfl rfl rfl r4 Q3.fr (Q3.sy.ok (k:=0) rfl) (Q3.sy.ok (k:=1) rfl) (Q3.sy.ok (k:=2) rfl) ⟨by omega,by omega,by omega⟩ ⟨by omega,by omega,by omega⟩ (hrd.trans hL)
 ·have hs:¬s.size<=262144:=by grind
  have hw':w2.heap=((w.heap.push (.cells z29.toArray 29)).push (.cells #[.int .i64 0] 3)).push (.cells #[.int .i64 0] 32):=hw
  obtain⟨t1,t2,t3⟩:=JE w.heap (.cells z29.toArray 29) (.cells #[.int .i64 0] 3) (.cells #[.int .i64 0] 32)
  rw[<-hw']at t1 t2 t3
  refine Av (f:=(0,23)) rfl rfl rfl ((((Go.X.Rest.alloc w _).trans (Go.X.Rest.alloc _ _)).trans (Go.X.Rest.alloc _ _)).trans rest) ?_ t1 t2 t3 ⟨by omega,by omega,by omega⟩ ⟨by omega,by omega,by omega⟩ ?_
  ·rw[hw'];exact((Fr.push _ _).pushr _).pushr _
  ·rw[G.xq,decide_eq_false hs];rfl
end
set_option maxHeartbeats 1000000
structure Fast (b:ByteArray) (st:RS) (rest:List UInt8):Prop where
 t:Txt b st rest
 tr:st.tr=false
 e1: -345<=cf st rest
 e2:cf st rest<=310
 x:st.m≠0->(ci st.m (cf st rest) (bz b.data.toList).1).2=true
def scB (b:ByteArray):RS × List UInt8:=scan RS0 (b.data.toList.drop (bz b.data.toList).2)
def fsV (b:ByteArray):Nat:=oB (scB b).1.m (cf (scB b).1 (scB b).2) (bz b.data.toList).1
open Classical in
noncomputable def rdF (b : ByteArray) : Option (Nat × Nat) :=
 if b.size<=262144/\(fG b.data.toList=true->b.size<=64->Fast b (scB b).1 (scB b).2)then some ((bX b.data.toList (fsV b)).1,(bX b.data.toList (fsV b)).2.toNat)else none
theorem uE (l:List UInt8) (V:Nat):0<=(bX l V).2:=by
 unfold bX
 split
 ·decide
 split
 ·decide
 split
 ·decide
 split
 ·decide
 split
 ·decide
 split<;>simp
theorem CM (gl:GL):rR rdF gl:=by
 intro t x e ht h g
 unfold rdF at ht
 split at ht
 ·rename_i hc
  obtain⟨h1,h2⟩:=hc
  simp only[Option.some.injEq,Prod.mk.injEq]at ht
  obtain⟨rfl,rfl⟩:=ht
  rw[Int.toNat_of_nonneg (uE _ _)]
  refine CJ (V:=fsV t) g (by omega) fun q1 q2=>?_
  have f:=h2 q1 q2
  exact⟨none,.inl rfl,fun R r=>IJ f.t f.tr f.e1 f.e2 f.x r⟩
 ·cases ht
def fDg (D:List UInt8):RS:=D.foldl (fun s c=>bj s (dgt c)) RS0
theorem CN :∀(D:List UInt8) (s:RS),(∀c∈D,isD c=true)->s.nm+D.length<=19->s.nd=s.nm->s.m<10^s.nm->s.tr=false->s.dot=false->
  (fun q:RS=>q.nd=q.nm/\q.nm<=s.nm+D.length/\q.m<10^q.nm/\q.tr=false/\q.dot=false) (D.foldl (fun s c=>bj s (dgt c)) s)
 | [],s,_,_,h1,h2,h3,h4=>⟨h1,by simp,h2,h3,h4⟩
 | c::D,s,hD,hl,h1,h2,h3,h4=>by
  have hc:=cg.1 (hD c (by simp))
  have hd:dgt c<=9:=by unfold dgt;omega
  simp only[List.length_cons]at hl
  rw[List.foldl_cons]
  have hs:(fun q:RS=>q.nd=q.nm/\q.nm<=s.nm+1/\q.m<10^q.nm/\q.tr=false/\q.dot=false) (bj s (dgt c)):=by
   unfold bj
   split
   ·exact⟨h1,by simp,h2,h3,h4⟩
   ·rw[if_pos (by omega)]
    refine⟨by show s.nd+1=s.nm+1;omega,Nat.le_refl _,?_,h3,h4⟩
    show s.m*10+dgt c<10^(s.nm+1)
    rw[Nat.pow_succ];omega
  obtain⟨k1,k2,k3,k4,k5⟩:=hs
  obtain⟨j1,j2,j3,j4,j5⟩:=CN D (bj s (dgt c)) (fun d hd=>hD d (by simp[hd])) (by omega) k1 k3 k4 k5
  exact⟨j1,by simp only[List.length_cons];omega,j3,j4,j5⟩
theorem CO (k:Nat) {m n:Nat} (h:m<=n):m*2^k<=n*2^k:=Nat.mul_le_mul_right _ h
theorem zp (a:Nat) {i j:Nat} (h:i<=j):a*2^i<=a*2^j:=Nat.mul_le_mul_left _ (Nat.pow_le_pow_right (by decide) h)
theorem CP {m:Nat} (ng:Bool) (hm:m<2^53):isInf (iU (if ng then Op.negFloat .f64 (FloatKind.f64.nearest (m:Int))else FloatKind.f64.nearest (m:Int)))=false:=by
 have hk:=qP (s:=false) (m:=m) (k:=0) (i:=0) hm (by decide) (by decide)
 rw[Nat.pow_zero,Nat.mul_one,show((0:Int)-((0:Nat):Int))=0 by decide,<-oQ]at hk
 obtain⟨hk,hn⟩:=hk
 generalize hx:(if ng then Op.negFloat .f64 (FloatKind.f64.nearest (m:Int))else FloatKind.f64.nearest (m:Int))=x
 have hxk:(key x).natAbs=(Ieee.signed false m (0+1074:Int).toNat).natAbs/\isNaN x=false:=by
  rw[<-hx]
  cases ng
  ·rw[if_neg (by decide)];exact⟨by rw[hk],hn⟩
  ·rw[if_pos rfl]
   exact⟨by rw[show Op.negFloat .f64 (FloatKind.f64.nearest (m:Int))=eG (FloatKind.f64.nearest (m:Int))from rfl,yf,Int.natAbs_neg,hk],by rw[<-hn];exact nu _⟩
 unfold isInf
 rw[oG (by rw[Co];exact hxk.2) (by decide),FN,hxk.1]
 refine decide_eq_false ?_
 rw[bJ]
 have hmax:key FZ=((9007199254740991*2^2045:Nat):Int):=by decide+kernel
 rw[hmax]
 have h1:=CO 1074 (show m<=9007199254740991 by omega)
 have h2:=zp 9007199254740991 (show 1074<=2045 by decide)
 have e:(0+1074:Int).toNat=1074:=by decide
 rw[e,if_neg (by decide),Int.natAbs_natCast]
 generalize m*2^1074=a at*
 generalize 9007199254740991*2^1074=b at*
 generalize 9007199254740991*2^2045=c at*
 omega
theorem yj :∀D:List UInt8,(∀c∈D,isD c=true)->dgN D=D.length
 | [],_=>rfl
 | c::D,h=>by
  have ih:=yj D fun d hd=>h d (by simp[hd])
  unfold dgN at ih ⊢
  rw[List.takeWhile_cons,if_pos (h c (by simp)),List.length_cons,List.length_cons,ih]
theorem F0 {D:List UInt8} (ng:Bool) (hD:∀c∈D,isD c=true) (h0:D≠[]) (hl:D.length<=15) {b:ByteArray} (hb:b.data.toList=(if ng then [45]else [])++D):∃v,rdF b=some (v,0):=by
 obtain⟨a,r,hDr⟩:=List.exists_cons_of_ne_nil h0
 have ha:isD a=true:=hD a (by rw[hDr];simp)
 have ha2:=cg.1 ha
 have na43:a≠43:=fun e=>by subst e;exact absurd ha2 (by decide)
 have na45:a≠45:=fun e=>by subst e;exact absurd ha2 (by decide)
 have hsg:(bz b.data.toList)=(ng,if ng then 1 else 0):=by
  rw[hb,hDr]
  cases ng
  ·simp[bz,na43,na45]
  ·simp[bz]
 have hdr:aI b.data.toList=D:=by
  rw[hb]
  cases ng
  ·rw[hDr];simp[aI,na43,na45]
  ·simp[aI]
 have hdn:dgN D=D.length:=by
  exact yj D hD
 have hnum:fG b.data.toList=true:=by
  unfold fG
  rw[hdr,hdn,if_neg (by rw[hDr];simp),List.drop_length]
  rfl
 have hsz:b.size=b.data.toList.length:=rfl
 have hlen:b.data.toList.length<=16:=by
  rw[hb,List.length_append]
  cases ng<;>simp<;>omega
 have hsc:scB b=(fDg D,[]):=by
  unfold scB
  rw[oS,hdr]
  have:=iq D RS0 [] hD
  rw[List.append_nil]at this
  rw[this];rfl
 obtain⟨q1,q2,q3,q4,q5⟩:=CN D RS0 hD (by show 0+D.length<=19;omega) rfl (by decide) rfl rfl
 change (fDg D).nd=(fDg D).nm at q1
 change (fDg D).nm<=0+D.length at q2
 change (fDg D).m<10^(fDg D).nm at q3
 change (fDg D).tr=false at q4
 change (fDg D).dot=false at q5
 have hm:(fDg D).m<1000000000000000:=by
  have:=Nat.pow_le_pow_right (n:=10) (by decide) (show(fDg D).nm<=15 by omega)
  omega
 have hex:cf (fDg D) []=0:=by
  unfold cf
  split
  ·rw[q5,if_neg (by decide)];simp[hO];omega
  ·rfl
 have hxF:ci (fDg D).m 0 ng=(if ng then Op.negFloat .f64 (FloatKind.f64.nearest ((fDg D).m:Int))else FloatKind.f64.nearest ((fDg D).m:Int),true):=by
  unfold ci
  rw[if_neg (by omega)]
  simp
 obtain⟨st,rest,T⟩:=oV (s:=b) (by omega) hnum
 have hst:(st,rest)=(fDg D,[]):=by rw[<-hsc];exact T.sc.symm
 obtain⟨rfl,rfl⟩:=Prod.mk.inj hst
 have F:Fast b (fDg D) []:=⟨T,q4,by rw[hex];decide,by rw[hex];decide,fun _=>by rw[hex,hsg,hxF]⟩
 have hV:fsV b=if(fDg D).m=0 then(bits .or .u64 (gM ng:Int) 0).toNat else(if ng then Op.negFloat .f64 (FloatKind.f64.nearest ((fDg D).m:Int))else FloatKind.f64.nearest ((fDg D).m:Int)):=by
  unfold fsV oB
  rw[hsc]
  show(if(fDg D).m=0 then _ else(ci (fDg D).m (cf (fDg D) []) _).1)=_
  rw[hex,hsg,hxF]
 have hfin:isInf (iU (fsV b))=false:=by
  rw[hV]
  split
  ·cases ng<;>decide+kernel
  ·exact CP ng (by omega)
 have n1:b.data.toList≠[78,97,78]/\b.data.toList≠[73,78,70]/\b.data.toList≠[45,73,78,70]:=by
  rw[hb,hDr]
  cases ng
  ·refine⟨fun e=>?_,fun e=>?_,fun e=>?_⟩
   ·have:a=78:=(List.cons.inj e).1
    rw[this]at ha2;exact absurd ha2 (by decide)
   ·have:a=73:=(List.cons.inj e).1
    rw[this]at ha2;exact absurd ha2 (by decide)
   ·have:a=45:=(List.cons.inj e).1
    rw[this]at ha2;exact absurd ha2 (by decide)
  ·refine⟨fun e=>?_,fun e=>?_,fun e=>?_⟩
   ·have:(45:UInt8)=78:=(List.cons.inj e).1
    exact absurd this (by decide)
   ·have:(45:UInt8)=73:=(List.cons.inj e).1
    exact absurd this (by decide)
   ·have:a=73:=(List.cons.inj (List.cons.inj e).2).1
    rw[this]at ha2;exact absurd ha2 (by decide)
 have hr:bX b.data.toList (fsV b)=(fsV b,0):=by
  unfold bX
  rw[if_neg n1.1,if_neg n1.2.1,if_neg n1.2.2,if_neg (by rw[hnum];decide),if_neg (by omega),if_neg (by rw[hfin];decide)]
 refine⟨fsV b,?_⟩
 unfold rdF
 rw[if_pos ⟨by omega,fun _ _=>by rw[hsc];exact F⟩,hr]
 rfl
theorem F1 {c:UInt8} (h:G.cQ c.toNat=true):isD c=true:=cg.2 (by simpa[G.cQ]using h)
theorem CQ (x:Int) (hx:x.natAbs<=2147483648):∃v,G.iT rdF (G.idt x) v:=by
 have hd:∀c∈G.dec x.natAbs,isD c=true:=fun c hc=>F1 (G.jH _ c hc)
 have hl:=G.rN 9 x.natAbs (by omega)
 have e:G.idt x=(if decide (x<0)then [45]else [])++G.dec x.natAbs:=by
  unfold G.idt;split<;>simp[*]
 obtain⟨v,hv⟩:=F0 (decide (x<0)) hd (G.vJ _) (by omega) (b:=G.mkB (G.idt x)) (by rw[<-e];simp[G.mkB])
 refine⟨v,.inl (G.DG x),fun b hb=>?_⟩
 have:b=G.mkB (G.idt x):=by
  apply ByteArray.ext;apply Array.ext';rw[hb];simp[G.mkB]
 rw[this];exact hv
theorem uF (n:Nat) (hn:n<=2147483648):∃v,G.iT rdF (G.dec n) v:=by
 have:=CQ (n:Int) (by omega)
 have e:G.idt (n:Int)=G.dec n:=by unfold G.idt;rw[if_neg (by omega)];rfl
 rwa[e]at this
end Go.Proofs.YtemclecmafjjfaaGreatDoor.N
namespace Go.Proofs.YtemclecmafjjfaaGreatDoor.G
def DE :List UInt8:=[103,114,97,112,104,32,91,32,110,111,100,101,32,91,32,105,100,32,53,32,93,32,101,100,103,101,32,91,32,115,111,117,114,99,101,32,53,32,116,97,114,103,101,116,32,53,32,93,32,93]
def xh :List UInt8:=[103,114,97,112,104,32,91,32,110,111,100,101,32,91,32,93,32,93]
section
variable {s:ByteArray} {rd:ByteArray->Option (Nat × Nat)} {cl:Nat->Nat}
theorem rE :whole [53]=some 5:=by decide
theorem yH {x:Nat} (h5:iT rd [53] x) (ht:s.data.toList=DE):read rd cl s= .ok ⟨1,false,[(0,0)],[],[],[]⟩:=by
 have hsz:s.size=50:=by rw[jb,ht];rfl
 have a0:At s 0 ([]++(gf++([32]++91::([32]++(gh++([32]++91::([32]++(kId++([32]++([53]++([32]++93::([32]++(eH++([32]++91::([32]++(bc++([32]++([53]++([32]++(bi++([32]++([53]++([32]++93::([32]++93::[])))))))))))))))))))))))):=by
  have:=At.start s;rw[ht]at this;exact this
 let z:Tok:=⟨0,0,noB,0⟩
 have key0:cG s rd cl .top 0 start fun e l r=>∃(u u':Tok) (i:Nat),u.l=[53]/\u'.l=[53]/\r=⟨i,1,false,true,[(5,0)],[noB],[(0,0)],[fk],false,false,false,[u,u']⟩:=by
  refine nK (σ:=start) (σ1:=fun j=>{start with i:=j,graph:=true}) (l2:=some (.graph false)) (l':=.top) a0 .nil (ry _ (fj _)) bl1 (by decide) (fun t j e=>by simp[key,e,start,az]) (fun j=>rfl) fun j0 j1 lt1 a=>?_
  let σ1:Nat->Rd:=fun j=>⟨j,1,false,true,[],[noB],[(0,0)],[],false,false,false,[]⟩
  refine nK (σ1:=σ1) (l2:=some (.node 0 false false false)) (l':=.graph false) a bl1 (vC _ (fj _)) bl1 (by decide) (fun t j e=>(nQ e (by show 0<1024;omega)).trans rfl) (fun j=>rfl) fun j0 j2 lt2 a=>?_
  refine rF (x:=.id 0) (l':=.node 0 true false false) (σ1:=σ1) a bl1 (Jt _ (fj _)) bl1 h5 (fj _).numb (fj _).word (fun t j e=>by simp[key,e,az];rfl) (fun j=>rfl) (.inr rfl) fun u j0 j3 u1 u2 u3 lt3 a=>?_
  let σ2:Nat->Rd:=fun j=>⟨j,1,false,true,[(5,0)],[noB],[(0,0)],[],false,false,false,[]⟩
  refine⟨σ2 j3,by simp only[bW,u1,rE];rfl,rfl,?_⟩
  refine lQ a bl1 rfl fun e j4 lt4 a=>⟨σ2 j4,rfl,?_,a.1,?_⟩
  ·grind
  let σ3:List Tok->Nat->Rd:=fun l j=>⟨j,1,false,true,[(5,0)],[noB],[(0,0)],[fk],false,false,false,l⟩
  have a:At s (σ2 j4).i ([32]++(eH++([32]++91::([32]++(bc++([32]++([53]++([32]++(bi++([32]++([53]++([32]++93::([32]++93::[]))))))))))))):=a
  refine nK (σ1:=σ3 [z,z]) (l2:=some (.edge 0 false false false)) (l':=.graph false) a bl1 (zR _ (fj _)) bl1 (by decide) (fun t j e=>(tC e (by grind)).trans rfl) (fun j=>rfl) fun j0 j5 lt5 a=>?_
  refine rF (x:=.fin 0) (l':=.edge 0 true false false) (σ1:=σ3 [z,z]) a bl1 (tw _ (fj _)) bl1 h5 (fj _).numb (fj _).word (fun t j e=>by simp[key,e,az];rfl) (fun j=>rfl) (.inr rfl) fun u j0 j6 v1 v2 v3 lt6 a=>?_
  refine⟨σ3 [u,z] j6,by simp only[bW,v1,rE];rfl,rfl,?_⟩
  refine rF (x:=.fin 1) (l':=.edge 0 true true false) (σ1:=σ3 [u,z]) a bl1 (tz _ (fj _)) bl1 h5 (fj _).numb (fj _).word (fun t j e=>by simp[key,e,bc,bi,az];rfl) (fun j=>rfl) (.inr rfl) fun u' j0 j7 w1 w2 w3 lt7 a=>?_
  refine⟨σ3 [u,u'] j7,by simp only[bW,w1,rE];rfl,rfl,?_⟩
  refine lQ a bl1 rfl fun e j8 lt8 a=>⟨σ3 [u,u'] j8,rfl,?_,a.1,?_⟩
  ·grind
  have a:At s (σ3 [u,u'] j8).i ([32]++93::[]):=a
  refine lQ a bl1 rfl fun e j9 lt9 a=>⟨σ3 [u,u'] j9,rfl,?_,a.1,?_⟩
  ·grind
  exact⟨_,_,_,xn .nil a,u,u',s.size,v1,w1,rfl⟩
 obtain⟨e,l,r,hb,u,u',i,e1,e2,rfl⟩:=key0
 unfold read
 rw[fY (decide_eq_true (by omega)),hb (s.size+1) (by simp[start])]
 simp only[az,Er.bind]
 have f5:∀t:Tok,t.l=[53]->ik [(5,0)] t= .ok 0:=by
  intro t ht
  unfold ik
  rw[ht,rE];rfl
 simp only[edges,f5 u e1,f5 u' e2,Er.bind]
 rfl
theorem yI (ht:s.data.toList=xh):read rd cl s= .no (15,14):=by
 have hsz:s.size=18:=by rw[jb,ht];rfl
 have a0:At s 0 ([]++(gf++([32]++91::([32]++(gh++([32]++91::([32]++93::([32]++93::[])))))))):=by
  have:=At.start s;rw[ht]at this;exact this
 obtain⟨t1,n1,k1,l1,a1⟩:=jG .nil (ry _ (fj _)) a0
 obtain⟨n2,a2⟩:=jF bl1 a1
 obtain⟨t3,n3,k3,l3,a3⟩:=jG bl1 (vC _ (fj _)) a2
 obtain⟨n4,a4⟩:=jF bl1 a3
 obtain⟨n5,a5⟩:=nR bl1 a4
 simp only[List.length_nil,List.length_singleton,Nat.add_zero,Nat.zero_add,show gf.length=5 from rfl,show gh.length=4 from rfl]at n1 n2 n3 n4 n5
 have k1':∀r:Rd,r.graph=false->key .top t1 r= .ok (.list (.graph false),.top,{r with graph:=true}):=by
  intro r hr
  simp[key,l1,hr,az]
 have in3:∀n (r:Rd),r.i=14->list s rd cl (n+1) (.node 0 false false false) 2 r= .ok (15,.node 0 false false false,{r with i:=16}):=by
  grind [list,Er.bind,bN]
 have in2:∀n (r:Rd),r.i=7->r.n=0->list s rd cl (n+2) (.graph false) 1 r= .no (15,14):=by
  intro n r hr hn
  rw[list,hr,n3]
  simp only[Er.bind,k3,bN]
  rw[if_neg (by simp),fY (by simp),nQ l3 (by grind)]
  simp only[]
  unfold value
  simp only[n4,Er.bind]
  simp only[bw,Tk.kind]
  rw[if_neg (by simp),if_neg (by simp),if_neg (by simp)]
  simp only[]
  rw[fY (by simp),fY (by simp),if_pos trivial,hn,in3 n _ rfl]
  simp[Er.bind,behind,az]
 unfold read
 rw[fY (decide_eq_true (by omega)),hsz,list]
 have i0:start.i=0:=rfl
 rw[i0,n1]
 simp only[Er.bind,k1,bN]
 rw[if_neg (by simp),fY (by simp),k1' _ rfl]
 simp only[]
 unfold value
 simp only[n2,Er.bind]
 simp only[bw,Tk.kind]
 rw[if_neg (by simp),if_neg (by simp),if_neg (by simp)]
 simp only[]
 rw[fY (by simp),fY (by simp),if_pos trivial,in2 16 _ rfl rfl]
end
end Go.Proofs.YtemclecmafjjfaaGreatDoor.G
namespace Go.Proofs.YtemclecmafjjfaaGreatDoor.N
open Go.Proofs.YtemclecmafjjfaaGreatDoor
open Go.X
set_option maxRecDepth 100000
set_option maxHeartbeats 2000000
def S5 (h:ab) (R:VP):Prop:=ai Tryz.prog 8 #[.string ⟨#[103,114,97,112,104,32,91,32,110,111,100,101,32,91,32,105,100,32,53,32,93,32,101,100,103,101,32,91,32,115,111,117,114,99,101,32,53,32,116,97,114,103,101,116,32,53,32,93,32,93]⟩] h [] fun X a=>∃e:Int,∃(i:Option Addr) (f m:Nat),∃g:Bool,∃(j:Option Addr) (q n:Nat),∃(k:Option Addr) (r o:Nat),∃(l:Option Addr) (s p:Nat),∃L:Int,∃O:Int,X= .tuple #[.agg #[.int .i64 e,.slice i f m,.bool g,.slice j q n,.slice k r o,.slice l s p],.int .i64 L,.int .i64 O]/\let S:ab:=a.push (.cells #[.int .i64 0,.slice none 0 0,.bool false,.slice none 0 0,.slice none 0 0,.slice none 0 0] 29);let T:ab:=am (am (am (am (am (am S a.size 0 (.int .i64 e)) a.size (0+1) (.slice i f m)) a.size ((0+1)+1) (.bool g)) a.size (((0+1)+1)+1) (.slice j q n)) a.size ((((0+1)+1)+1)+1) (.slice k r o)) a.size (((((0+1)+1)+1)+1)+1) (.slice l s p);ai Tryz.prog 8 #[.string ⟨#[103,114,97,112,104,32,91,32,110,111,100,101,32,91,32,93,32,93]⟩] T [a.size] fun Y b=>∃w:Int,∃(z:Option Addr) (H D:Nat),∃x:Bool,∃(A:Option Addr) (I E:Nat),∃(B:Option Addr) (J F:Nat),∃(C:Option Addr) (K G:Nat),∃M:Int,∃P:Int,Y= .tuple #[.agg #[.int .i64 w,.slice z H D,.bool x,.slice A I E,.slice B J F,.slice C K G],.int .i64 M,.int .i64 P]/\let U:ab:=b.push (.cells #[.int .i64 0,.slice none 0 0,.bool false,.slice none 0 0,.slice none 0 0,.slice none 0 0] 29);let V:ab:=am (am (am (am (am (am U b.size 0 (.int .i64 w)) b.size (0+1) (.slice z H D)) b.size ((0+1)+1) (.bool x)) b.size (((0+1)+1)+1) (.slice A I E)) b.size ((((0+1)+1)+1)+1) (.slice B J F)) b.size (((((0+1)+1)+1)+1)+1) (.slice C K G);ai Tryz.prog 7 #[.agg #[.int .i64 e,.slice i f m,.bool g,.slice j q n,.slice k r o,.slice l s p]] V [b.size,a.size] fun Z d=>∃y:ByteArray,∃N:Int,Z= .tuple #[.string y,.int .i64 N]/\let c:=fun(Q:ab)=>(R (.bool false) Q);cnd (e==1) (cnd ((f:Int)==(1:Int)) (cnd (L==0) (cnd (O==0) (cnd (M==15) (cnd (P==14) (cnd (decide ((y.size:Int)>(40:Int))) (cnd (N==0) (ai Tryz.prog 11 #[.agg #[.int .i64 e,.slice i f m,.bool g,.slice j q n,.slice k r o,.slice l s p]] d [b.size,a.size] fun a0 t=>∃u:Bool,a0= .bool u/\cnd u (ai Tryz.prog 12 #[.agg #[.int .i64 e,.slice i f m,.bool g,.slice j q n,.slice k r o,.slice l s p],.agg #[.int .i64 e,.slice i f m,.bool g,.slice j q n,.slice k r o,.slice l s p]] t [b.size,a.size] fun a1 W=>∃v:Bool,a1= .bool v/\R (.bool v) W) (c t)) (c d)) (c d)) (c d)) (c d)) (c d)) (c d)) (c d)) (c d)
theorem HB {h:ab} {R:VP} (H:S5 h R):ae Tryz.prog 5 #[] h R:=aN [1,4] 69 [] [] [] [] Tryz.func5 (by kernel_rfl) (by kernel_rfl) H
open Go.Proofs
def mdR (dc:G.Dc):MD:=⟨(dc.n:Int),dc.dir,dc.edges.map pr,dc.labels,dc.spots,dc.weights⟩
theorem MM :G.dec 5=[53]:=by rw[G.dec];rfl
theorem MN :G.dec 0=[48]:=by rw[G.dec];rfl
def tx0 :Nat->List UInt8:=fun _=>[]
def dc5 :G.Dc:=⟨1,false,[(0,0)],[],[],[]⟩
theorem wr5 :(G.wr tx0 dc5).length=84:=by
 simp[G.wr,G.aJ,G.pY,dc5,G.fV,G.kB,G.eM,G.qo,G.opn,G.kv,G.cls,G.ind,MN,G.gf,G.cr,G.gh,G.kId,G.eH,G.bc,G.bi]
theorem hd1 {gl:GL} {h:ab} (g:Gl gl h):ae Tryz.prog 5 #[] h fun v h'=>v= .bool true/\Fr [] h h':=by
 apply HB
 unfold S5
 obtain⟨x5,h5⟩:=uF 5 (by decide)
 rw[MM]at h5
 have rA:G.read rdF bg (G.mkB G.DE)= .ok dc5:=G.yH h5 (qb _)
 have rB:G.read rdF bg (G.mkB G.xh)= .no (15,14):=G.yI (qb _)
 refine ak (R:=rdR gl (G.mkB G.DE) rdF bg h) [] (ok8 (s:=G.mkB G.DE) (CM gl) kH xp g (by decide) (by rw[rA];simp)) (by simp) ?_ ?_
 ·rintro v h' (⟨dc,aD,aL,aS,aW,nD,cD,nL,cL,nS,cS,nW,cW,_,_,q⟩ | ⟨f,_,_,q⟩)
  ·exact q.fr
  ·exact q
 rintro v h1 (⟨dc,aD,aL,aS,aW,nD,cD,nL,cL,nS,cS,nW,cW,e,rfl,q⟩ | ⟨f,e,_,q⟩)
 rotate_left
 ·rw[rA]at e
  cases e
 rw[rA]at e
 obtain rfl:dc5=dc:=by injection e
 refine⟨1,aD,nD,cD,false,aL,nL,cL,aS,nS,cS,aW,nW,cW,0,0,rfl,?_⟩
 intro h2 h3
 have f3:Fr [] h1 h3:=((((((Fr.push h1 _).hsetL (Nat.le_refl _)).hsetL (Nat.le_refl _)).hsetL (Nat.le_refl _)).hsetL (Nat.le_refl _)).hsetL (Nat.le_refl _)).hsetL (Nat.le_refl _)
 have s3:h1.size<h3.size:=by simp[h3,h2]
 clear_value h3
 have Q3:Sq h [Ck.glob gl] h3 (dC gl dc5 aD aL aS aW nD cD nL cL nS cS nW cW):=q.gr f3
 have g3:Gl gl h3:=Q3.sy.ok (k:=4) (c:=Ck.glob gl) rfl
 refine ak (R:=rdR gl (G.mkB G.xh) rdF bg h3) [] (ok8 (s:=G.mkB G.xh) (CM gl) kH xp g3 (by decide) (by rw[rB];simp)) (by simp) ?_ ?_
 ·rintro v h' (⟨dc,aD,aL,aS,aW,nD,cD,nL,cL,nS,cS,nW,cW,_,_,q⟩ | ⟨f,_,_,q⟩)
  ·exact q.fr
  ·exact q
 rintro v h4 (⟨dc,_,_,_,_,_,_,_,_,_,_,_,_,e,rfl,q⟩ | ⟨f,e,rfl,f4⟩)
 ·rw[rB]at e;cases e
 rw[rB]at e
 obtain rfl:((15,14):G.F)=f:=by injection e
 refine⟨0,none,0,0,false,none,0,0,none,0,0,none,0,0,15,14,rfl,?_⟩
 intro h5 h6
 have f6:Fr [] h4 h6:=((((((Fr.push h4 _).hsetL (Nat.le_refl _)).hsetL (Nat.le_refl _)).hsetL (Nat.le_refl _)).hsetL (Nat.le_refl _)).hsetL (Nat.le_refl _)).hsetL (Nat.le_refl _)
 clear_value h6
 have Q6:=(Q3.gr f4).gr f6
 have l0:=Q6.sy.lenS 0 rfl
 have Q7:Sq h [Ck.glob gl] h6 (dV gl aD nD cD (dc5.edges.map pr) aL nL cL dc5.labels aS nS cS dc5.spots aW nW cW dc5.weights):=by
  have Y:=((((Q6.sy.turn 0 rfl To.slvw).turn 1 rfl To.slvw).turn 2 rfl To.slvw).turn 3 rfl To.slvw).pick [4,0,1,2,3] rfl
  refine⟨Y,fun x hx=>?_⟩
  have hx:x∈glB gl++(lO aD nD++(lO aL nL++(lO aS nS++lO aW nW))):=by simpa[rds,dV,Ck.vw,Ck.glob]using hx
  simp only[List.mem_append]at hx
  rcases hx with hx | hx | hx | hx | hx
  ·exact .inl (by simpa[rds,Ck.glob]using hx)
  ·exact .inr (Q6.sy.ow 0 _ rfl x (jD hx))
  ·exact .inr (Q6.sy.ow 1 _ rfl x (jD hx))
  ·exact .inr (Q6.sy.ow 2 _ rfl x (jD hx))
  ·exact .inr (Q6.sy.ow 3 _ rfl x (jD hx))
 have eD:iC 1 false (dc5.edges.map pr) dc5.labels dc5.spots dc5.weights=dc5:=rfl
 have eB:gk 1 (dc5.edges.map pr) dc5.labels dc5.spots dc5.weights=true:=by decide
 have eW:wrV tx0 1 false (dc5.edges.map pr) dc5.labels dc5.spots dc5.weights=(G.wr tx0 dc5,0):=by
  unfold wrV
  rw[eB,if_neg (by decide),eD,wr5,if_neg (by decide)]
 refine ak (R:=fun v h'=>v= .tuple #[.string (G.mkB (G.wr tx0 dc5)),.int .i64 0]/\Fr [] h6 h') [] ?_ (by simp) (fun _ _ r=>r.2) ?_
 ·have:=ok7 (tx:=tx0) (n:=1) (dir:=false) Q7.hp (by simp[dc5]) (by decide) (by simp[dc5]) (by simp[dc5])
  rw[eW]at this;exact this
 rintro v h7 ⟨rfl,f7⟩
 refine⟨_,0,rfl,?_⟩
 intro K
 have nD1:nD=1:=l0
 subst nD1
 have F7:Fr [] h h7:=Q7.fr.trans f7
 have Q8:=Q7.gr f7
 refine aO rfl (aO rfl (aO rfl (aO rfl (aO rfl (aO rfl (aO ?_ (aO rfl ?_)))))))
 ·rw[dM,wr5];decide
 refine ak (R:=fun v h'=>v= .bool true/\Fr [] h7 h') [] ?_ (by simp) (fun _ _ r=>r.2) ?_
 ·refine(GC (n:=1) (es:=dc5.edges.map pr) (dr:=false) (ls:=dc5.labels) (ss:=dc5.spots) (ws:=dc5.weights) (R:=fun r=>r=true) (by simp[dc5]) (by decide) eB h7 _ _ _ _ _ _ _ _ _ _ _ _ (Q8.pick [1,2,3,4] rfl).hp).mono ?_
  rintro v h' ⟨r,Y,rfl,rfl⟩
  exact⟨rfl,Y.fr⟩
 rintro v h8 ⟨rfl,f8⟩
 have Q9:=Q8.gr f8
 refine⟨true,rfl,aO rfl ?_⟩
 let t:MDs:=⟨aD,1,cD,aL,nL,cL,aS,nS,cS,aW,nW,cW⟩
 have Hd:Hp h8 ((mdR dc5).vw t++(mdR dc5).vw t):=by
  have P:=(Q9.pick [1,2,3,4] rfl).hp
  refine⟨fun k c hk=>?_,fun i j c d _ hi hj x hx=>?_⟩
  ·rcases dq hk with hk | ⟨_,hk⟩
   ·exact P.ok k c hk
   ·exact P.ok _ c hk
  ·have:c.own=[]:=by
    have hm:c∈(mdR dc5).vw t++(mdR dc5).vw t:=List.mem_of_getElem? hi
    simp only[MD.vw,List.mem_append,List.mem_cons,List.not_mem_nil,or_false]at hm
    rcases hm with(rfl | rfl | rfl | rfl) | rfl | rfl | rfl | rfl<;>rfl
   rw[this]at hx;cases hx
 refine ak (R:=fun v h'=>v= .bool true/\Fr [] h8 h') [] ?_ (by simp) (fun _ _ r=>r.2) ?_
 ·have:=MT Hd (by decide)
  have es:dJ (mdR dc5) (mdR dc5)=true:=by decide
  rw[es]at this;exact this
 rintro v h9 ⟨rfl,f9⟩
 exact⟨true,rfl,rfl,(F7.trans f8).trans f9⟩
section
variable {gl:GL} {h:ab} {aL:Option Addr} {nL cL:Nat} {ls:List ByteArray}
end
theorem D2 (xs:List Int):(strOf xs).data.toList=xs.map fun n=>UInt8.ofNat n.toNat:=by
 have gen:∀(xs:List Int) (b:ByteArray),(xs.foldl (fun r n=>r.push (UInt8.ofNat n.toNat)) b).data.toList=b.data.toList++xs.map fun n=>UInt8.ofNat n.toNat:=by
  intro xs
  induction xs with
  | nil=>intro b;simp
  | cons x xs ih=>intro b;rw[List.foldl_cons,ih];simp[ByteArray.push]
 have:=gen xs ByteArray.empty
 unfold strOf
 rw[this];rfl
theorem AK (l:List UInt8):strOf (bI l)=G.mkB l:=by
 apply ByteArray.ext;apply Array.ext'
 rw[D2,qb,bI,List.map_map]
 conv=>rhs;rw[<-List.map_id l]
 apply List.map_congr_left
 intro x _
 simp
theorem JR {a b:Int} {xs ys:Es} (hx:xs.length<=9223372036854775807) {R:Bool->Prop} (r:R (decide (a=b)&&decide (xs=ys))):Ib a xs b ys R:=by
 apply Np
 unfold T51
 refine cC (fun h=>?_) fun h=>?_
 ·rw[decide_eq_false h,Bool.false_and]at r;exact r
 rw[decide_eq_true h,Bool.true_and,<-sf]at r
 refine cC (fun h=>?_) fun h=>?_
 ·rw[gQ (by omega)]at r;exact r
 refine⟨fun i=>∃k:Nat,i=k/\k<=xs.length/\((xs.zip ys).take k).all (fun p=>decide (p.1=p.2))=true,fun i=>((xs.length:Int)-i).toNat,⟨0,rfl,by omega,by simp⟩,?_⟩
 rintro _ ⟨k,rfl,hk,ha⟩
 refine ag (fun hlt=>⟨by omega,hlt,fun x hx=>⟨by omega,by omega,fun y hy=>?_⟩⟩) fun hlt=>?_
 ·have hx:xs[k]? =some x:=by simpa using hx
  have hy:ys[k]? =some y:=by simpa using hy
  have e:((x.1==y.1)&&(x.2==y.2))=decide (x=y):=by
   rw[Bool.eq_iff_iff];simp[Prod.ext_iff]
  rw[e]
  refine aV (fun q=>?_) fun q=>?_
  ·rw[iB (f:=fun x y=>decide (x=y)) hx hy q]at r;exact r
  ·rw[wr (by omega) (by omega)]
   exact⟨⟨k+1,by simp,by omega,fm (f:=fun x y=>decide (x=y)) hx hy q ha⟩,by dsimp only;omega⟩
 ·rw[gR (f:=fun x y=>decide (x=y)) (by omega) (show xs.length<=k by omega) ha]at r;exact r
section
variable {h0 h:ab} {C B:List Ck} {H:List Nat} {A:Option Addr} {n c:Nat} {l:List UInt8}
end
section
variable {gl:GL} {h:ab} {gA:Option Addr} {gL gC:Nat} {es:Es} {g k:Int} {up:Bool}
end
theorem AH {x y:Nat} {R:Bool->Prop} (r:R (x==y)):EO x y R:=by
 apply Nb
 unfold T26
 have e:(((x:Int))==((y:Int)))=(x==y):=by grind
 refine bf (jJ _) ⟨_,rfl,bf (jJ _) ⟨_,rfl,?_⟩⟩
 rw[e];exact r
theorem AI {x y:Nat} {R:Bool->Prop} (r:R (fe x y)):Bk x y R:=by
 apply Nf
 unfold T52
 rw[gj,gj]
 unfold fe at r
 refine⟨fun b=>b=(x==y)/\(isNaN x&&isNaN y)=false,bp (fun h1=>bp (fun h2=>?_) fun h2=>AH ⟨rfl,by grind⟩) fun h1=>AH ⟨rfl,by rw[h1];rfl⟩,?_⟩
 ·grind
 grind
theorem AJ {x:Nat} {R:Nat->Prop} (r:R (bg x)):Bj x R:=by
 apply Nc
 unfold T28
 rw[gj]
 unfold bg at r
 refine bp (fun h=>Na (bf (lZ _) ⟨_,rfl,?_⟩)) fun h=>?_
 ·grind
 ·rw[if_neg (by rw[h];decide)]at r
  refine bp (fun h0=>?_) fun h0=>?_
  ·grind
  grind
theorem JO {n:Int} {es:Es} {R:Int->Es->Prop} (he:es.length<1000000000000) (r:R n es):HJ n es R:=by
 grind [Nd,T27]
theorem MO {n:Int} {es:Es} {dr:Bool} {ls:List ByteArray} {ss:List (Nat × Nat)} {ws:List Nat} {R:Bool->Prop} (r:∀b,(b=true->es.length<=300/\ls.length<=2000/\ss.length<=2000/\ws.length<=4000)->R b):Ok6 n es dr ls ss ws R:=by
 apply ok6
 unfold T6
 have no:R false:=r false (fun h=>by cases h)
 refine⟨fun _=>True,⟨fun _ i=>∃k:Nat,i=k/\k<=ls.length,fun _ i=>((ls.length:Int)-i).toNat,⟨0,rfl,by omega⟩,?_⟩,?_⟩
 ·rintro m _ ⟨k,rfl,hk⟩
  refine ag (fun hlt=>ag (fun h2=>⟨by omega,hlt,fun x hx=>?_⟩) fun _=>trivial) fun _=>trivial
  rw[wr (x:=(k:Int)+1) (by omega) (by omega)]
  exact⟨⟨k+1,by simp,by omega⟩,by grind⟩
 grind [ag,Hu]
theorem JP {n:Int} {es:Es} {dr:Bool} {ls:List ByteArray} {ss:List (Nat × Nat)} {ws:List Nat} {R:Int->Es->Bool->List ByteArray->List (Nat × Nat)->List Nat->Prop} (h1:es.length<=300) (h2:ls.length<=2000) (h3:ss.length<=2000) (h4:ws.length<=4000)
  (r:R n es dr ls (ss.map fun p=>(bg p.1,bg p.2)) (ws.map bg)):Kr n es dr ls ss ws R:=by
 apply Ng
 unfold T10
 refine⟨fun x x2 x3=>n=x/\es=x2/\ls=x3,JO (by omega) ⟨by omega,rfl,rfl,(List.nil_append _).symm⟩,?_⟩
 rintro _ _ _ ⟨rfl,rfl,rfl⟩
 refine⟨fun i a b c d e f=>∃k:Nat,i=k/\k<=ss.length/\n=a/\es=b/\dr=c/\ls=d/\e=(ss.take k).map (fun p=>(bg p.1,bg p.2))/\f=[],fun i _ _ _ _ _ _=>((ss.length:Int)-i).toNat,⟨0,rfl,by omega,rfl,rfl,rfl,rfl,rfl,rfl⟩,?_⟩
 rintro _ _ _ _ _ _ _ ⟨k,rfl,hk,rfl,rfl,rfl,rfl,rfl,rfl⟩
 refine ag (fun hlt=>⟨by omega,hlt,fun p hp=>AJ (AJ ⟨?_,?_,?_⟩)⟩) fun hlt=>?_
 ·grind
 ·rw[wr (by omega) (by omega)]
  have hp:ss[k]? =some p:=by simpa using hp
  exact⟨k+1,by simp,by omega,rfl,rfl,rfl,rfl,by rw[List.take_add_one,hp];simp,rfl⟩
 ·grind [wr]
 have hk':ss.take k=ss:=List.take_of_length_le (by omega)
 refine⟨fun i a b c d e f=>∃k:Nat,i=k/\k<=ws.length/\n=a/\es=b/\dr=c/\ls=d/\e=ss.map (fun p=>(bg p.1,bg p.2))/\f=(ws.take k).map bg,fun i _ _ _ _ _ _=>((ws.length:Int)-i).toNat,⟨0,rfl,by omega,rfl,rfl,rfl,rfl,by rw[hk'],rfl⟩,?_⟩
 rintro _ _ _ _ _ _ _ ⟨j,rfl,hj,rfl,rfl,rfl,rfl,rfl,rfl⟩
 refine ag (fun hlt=>⟨by omega,hlt,fun p hp=>AJ ⟨?_,?_,?_⟩⟩) fun hlt=>?_
 ·grind
 ·rw[wr (by omega) (by omega)]
  have hp:ws[j]? =some p:=by simpa using hp
  exact⟨j+1,by simp,by omega,rfl,rfl,rfl,rfl,rfl,by rw[List.take_add_one,hp];simp⟩
 ·grind [wr]
 grind
theorem JQ {a b:MD} {R:Bool->Prop} (hl:a.es.length<=9223372036854775806/\a.ls.length<=9223372036854775806/\a.ss.length<=9223372036854775806/\a.ws.length<=9223372036854775806) (r:R (dJ a b)):Ks a.n a.es a.dir a.ls a.ss a.ws b.n b.es b.dir b.ls b.ss b.ws R:=by
 obtain⟨n,dr,es,ls,ss,ws⟩:=a
 obtain⟨n2,dr2,es2,ls2,ss2,ws2⟩:=b
 obtain⟨h1,h2,h3,h4⟩:=hl
 dsimp only at*
 apply Nh
 unfold T25
 have sB:∀v,dJ ⟨n,dr,es,ls,ss,ws⟩ ⟨n2,dr2,es2,ls2,ss2,ws2⟩=v->R v:=fun v e=>e▸r
 refine⟨dJ ⟨n,dr,es,ls,ss,ws⟩ ⟨n2,dr2,es2,ls2,ss2,ws2⟩=false,JR (by omega) (aV (fun q=>?_) fun q1=>aV (fun q=>?_) fun q2=>cC (fun q=>?_) fun q3=>cC (fun q=>?_) fun q4=>cC (fun q=>?_) fun q5=>?_),sB false⟩
 ·unfold dJ;grind
 ·unfold dJ;grind
 ·grind [dJ]
 ·grind [dJ,gQ]
 ·grind [dJ,gQ]
 have eA:dJ ⟨n,dr,es,ls,ss,ws⟩ ⟨n2,dr2,es2,ls2,ss2,ws2⟩=(eqL (fun x y=>decide (x=y)) ls ls2&&(eqL fe2 ss ss2&&eqL fe ws ws2)):=by
  grind [dJ,sf]
 rw[eA]at sB
 refine⟨fun i=>∃k:Nat,i=k/\k<=ls.length/\((ls.zip ls2).take k).all (fun p=>decide (p.1=p.2))=true,fun i=>((ls.length:Int)-i).toNat,⟨0,rfl,by omega,by simp⟩,?_⟩
 rintro _ ⟨k,rfl,hk,ha⟩
 refine ag (fun hlt=>⟨by omega,hlt,fun x hx=>⟨by omega,by omega,fun y hy=>?_⟩⟩) fun hlt=>?_
 ·have hx:ls[k]? =some x:=by simpa using hx
  have hy:ls2[k]? =some y:=by simpa using hy
  rw[sj]
  refine aV (fun q=>sB false ?_) fun q=>?_
  ·grind [iB]
  ·rw[wr (by omega) (by omega)]
   exact⟨⟨k+1,by simp,by omega,fm (f:=fun x y=>decide (x=y)) hx hy q ha⟩,by grind⟩
 rw[gR (f:=fun x y=>decide (x=y)) (show ls.length=ls2.length by omega) (show ls.length<=k by omega) ha,Bool.true_and]at sB
 clear ha hk hlt
 refine⟨fun i=>∃k:Nat,i=k/\k<=ss.length/\((ss.zip ss2).take k).all (fun p=>fe2 p.1 p.2)=true,fun i=>((ss.length:Int)-i).toNat,⟨0,rfl,by omega,by simp⟩,?_⟩
 rintro _ ⟨k,rfl,hk,ha⟩
 refine ag (fun hlt=>⟨by omega,hlt,fun x hx=>⟨by omega,by omega,fun y hy=>?_⟩⟩) fun hlt=>?_
 ·have hx:ss[k]? =some x:=by simpa using hx
  have hy:ss2[k]? =some y:=by simpa using hy
  refine AI (aV (fun q=>sB false ?_) fun q=>AI (aV (fun q'=>sB false ?_) fun q'=>?_))
  ·grind [iB,fe2]
  ·grind [iB,fe2]
  ·rw[wr (by omega) (by omega)]
   exact⟨⟨k+1,by simp,by omega,fm (f:=fe2) hx hy (by unfold fe2;rw[q,q'];rfl) ha⟩,by grind⟩
 rw[gR (f:=fe2) (show ss.length=ss2.length by omega) (show ss.length<=k by omega) ha,Bool.true_and]at sB
 clear ha hk hlt
 refine⟨fun i=>∃k:Nat,i=k/\k<=ws.length/\((ws.zip ws2).take k).all (fun p=>fe p.1 p.2)=true,fun i=>((ws.length:Int)-i).toNat,⟨0,rfl,by omega,by simp⟩,?_⟩
 rintro _ ⟨k,rfl,hk,ha⟩
 refine ag (fun hlt=>⟨by omega,hlt,fun x hx=>⟨by omega,by omega,fun y hy=>?_⟩⟩) fun hlt=>sB true (gR (f:=fe) (show ws.length=ws2.length by omega) (show ws.length<=k by omega) ha)
 have hx:ws[k]? =some x:=by simpa using hx
 have hy:ws2[k]? =some y:=by simpa using hy
 refine AI (aV (fun q=>sB false (iB hx hy q)) fun q=>?_)
 rw[wr (by omega) (by omega)]
 exact⟨⟨k+1,by simp,by omega,fm hx hy q ha⟩,by grind⟩
end Go.Proofs.YtemclecmafjjfaaGreatDoor.N
