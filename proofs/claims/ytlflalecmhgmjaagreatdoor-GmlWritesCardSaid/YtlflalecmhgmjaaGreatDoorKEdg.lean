/- gml.Read: what goes up is caught. Conditions: what Clean tells, what a number's text reads as. -/
import Derived.Test.YtlflalecmhgmjaaGreatDoorHRes
import Derived.Tactics
import Derived.Tactics2
import Derived.Defers
import Derived.Recover
import Derived.Laws.Pointers
import Derived.Test.YtlflalecmhgmjaaGreatDoorHVal
import Derived.Test.YtlflalecmhgmjaaGreatDoorWEnv
import Derived.Test.YtlflalecmhgmjaaGreatDoorYGl
import Derived.Test.YtlflalecmhgmjaaGreatDoorWPre
import Derived.Test.YtlflalecmhgmjaaGreatDoorTPlain
import Derived.Test.YtlflalecmhgmjaaGreatDoorGWr
set_option linter.unusedVariables false
set_option linter.unusedSimpArgs false
open Go.IntKind (i64 u64 u8 i32)
namespace Go.Proofs.YtlflalecmhgmjaaGreatDoor.N
open Go.Proofs.YtlflalecmhgmjaaGreatDoor
open Go.X
open Go.Proofs
set_option maxRecDepth 100000
theorem I0 {b:Bool} {a e:Nat} {h:ab}:az Tryz.prog 58 #[.bool b,.int .i64 (a:Int),.int .i64 (e:Int)] h (fun v h'=>b=true/\v= .tuple #[]/\h'=h) (fun v h'=>b=false/\v=flt (a,e)/\h'=h):=by
 apply tK
 unfold S58
 refine⟨fun _ h'=>b=true/\h'=h,aK (fun q=>?_) fun q=>⟨q,rfl⟩,fun h' q=>⟨q.1,rfl,q.2⟩⟩
 exact gM ⟨q,rfl,rfl⟩
def rdR (gl:GL) (s:ByteArray) (rd:ByteArray->Option (Nat × Nat)) (cl:Nat->Nat) (h:ab) (v:Value) (h':ab):Prop:=
 (∃dc aD aL aS aW nD cD nL cL nS cS nW cW,G.read rd cl s= .ok dc/\v= .tuple #[.agg #[.int .i64 (dc.n:Int),.slice aD nD cD,.bool dc.dir,.slice aL nL cL,.slice aS nS cS,.slice aW nW cW],.int .i64 0,.int .i64 0]/\
  Sq h [Ck.glob gl] h' (dC gl dc aD aL aS aW nD cD nL cL nS cS nW cW))\/
 ∃f,G.read rd cl s= .no f/\v= .tuple #[.agg #[.int .i64 0,.slice none 0 0,.bool false,.slice none 0 0,.slice none 0 0,.slice none 0 0],.int .i64 (f.1:Int),.int .i64 (f.2:Int)]/\Fr [] h h'
section
variable {gl:GL} {s:ByteArray} {rd:ByteArray->Option (Nat × Nat)} {cl:Nat->Nat}
def z29 :List Value:=[.int .i64 0,.slice none 0 0,.bool false,.slice none 0 0,.slice none 0 0,.slice none 0 0]
theorem Dv {h h5:ab} (g:Gl gl h) (e:h5=((((h.push (.cells z29.toArray 29)).push (.cells #[.int .i64 0] 3)).push (.cells #[.int .i64 0] 32)).push (.map #[] 0)).push (.cells (rc s ⟨h.size+1+1+1,none,0,none,0,none,0,none,0⟩ G.start 0).toArray 95)):
  Sq h [Ck.glob gl] h5 (stC gl (h.size+1+1+1+1) s ⟨h.size+1+1+1,none,0,none,0,none,0,none,0⟩ G.start 0++[Ck.ob h.size 29 z29,Ck.ob (h.size+1) 3 [.int .i64 0],Ck.ob (h.size+1+1) 32 [.int .i64 0]]):=by
 have Y0:Sy h (ao [Ck.glob gl]) h [Ck.glob gl]:=Sy.start (Hp.one g)
 have Y1:=Sy.newO (ty:=29) Y0 z29
 have Y2:=Sy.newO (ty:=3) Y1 [.int .i64 0]
 have Y3:=Sy.newO (ty:=32) Y2 [.int .i64 0]
 have Y4:=Sy.newM Y3
 have Y5:=Sy.newO (ty:=95) Y4 (rc s ⟨h.size+1+1+1,none,0,none,0,none,0,none,0⟩ G.start 0)
 have Y6:=(((Y5.nilS eS 9).nilS eFF 78).nilS eF 76).nilS eT 156
 simp only[Array.size_push]at Y6
 subst e
 have Z:=Y6.pick [5,4,6,7,8,9,0,1,2,3] rfl
 exact⟨Z,fun x hx=>.inl (by simpa[rds,stC,Ck.ob,Ck.mp,Ck.sl,Ck.glob]using hx)⟩
theorem Sq.drop {h0 h h':ab} {C A B:List Ck} (q:Sq h0 C h (A++B)) (f:Fr (ao A) h h'):Sq h0 C h' B:=by
 have p:Sq h A h' []:=⟨⟨f,Hp.nil _,fun k c hk=>by simp at hk⟩,fun b hb=>by simp[rds]at hb⟩
 simpa using Sq.call q p
theorem FJ (h:ab) (a b c:Obj):(((h.push a).push b).push c)[h.size]? =some a/\(((h.push a).push b).push c)[h.size+1]? =some b/\(((h.push a).push b).push c)[h.size+1+1]? =some c:=by
 refine⟨?_,?_,?_⟩
 ·rw[Array.getElem?_push,if_neg (by simp;omega),Array.getElem?_push,if_neg (by simp),Array.getElem?_push,if_pos rfl]
 ·rw[Array.getElem?_push,if_neg (by simp),Array.getElem?_push,if_pos (by simp)]
 ·rw[Array.getElem?_push,if_pos (by simp)]
theorem wJ {h:ab} {p1 p2 p3:Nat} {x y:Int} (h1:h[p1]? =some (.cells z29.toArray 29 (0,0))) (h2:h[p2]? =some (.cells #[.int .i64 0] 3 (0,0))) (h3:h[p3]? =some (.cells #[.int .i64 0] 32 (0,0))) (n2:p1≠p2/\p1≠p3/\p2≠p3):
  (jf h p1 p2 p3 x y)[p1]? =some (.cells #[.int .i64 0,.slice none 0 0,.bool false,.slice none 0 0,.slice none 0 0,.slice none 0 0] 29 (0,0))/\(jf h p1 p2 p3 x y)[p2]? =some (.cells #[.int .i64 x] 3 (0,0))/\(jf h p1 p2 p3 x y)[p3]? =some (.cells #[.int .i64 y] 32 (0,0)):=by
 unfold jf
 have a:=bR (bR (bR (bR (bR (bR h1 (o:=0) (v:=.int .i64 0)) (o:=0+1) (v:=.slice none 0 0)) (o:=(0+1)+1) (v:=.bool false)) (o:=((0+1)+1)+1) (v:=.slice none 0 0)) (o:=(((0+1)+1)+1)+1) (v:=.slice none 0 0)) (o:=((((0+1)+1)+1)+1)+1) (v:=.slice none 0 0)
 generalize hq:ak (ak (ak (ak (ak (ak h p1 0 (.int .i64 0)) p1 (0+1) (.slice none 0 0)) p1 ((0+1)+1) (.bool false)) p1 (((0+1)+1)+1) (.slice none 0 0)) p1 ((((0+1)+1)+1)+1) (.slice none 0 0)) p1 (((((0+1)+1)+1)+1)+1) (.slice none 0 0)=hv at a ⊢
 have F:Fr [p1] h hv:=by
  subst hq
  exact((((((Fr.refl _ _:Fr [p1] h h).hsetr (.inr (by simp))).hsetr (.inr (by simp))).hsetr (.inr (by simp))).hsetr (.inr (by simp))).hsetr (.inr (by simp))).hsetr (.inr (by simp))
 have g2:hv[p2]? =some (.cells #[.int .i64 0] 3 (0,0)):=F.blk_some h2 (by simp[Ne.symm n2.1])
 have g3:hv[p3]? =some (.cells #[.int .i64 0] 32 (0,0)):=F.blk_some h3 (by simp[Ne.symm n2.2.1])
 refine⟨?_,?_,?_⟩
 ·rw[dz n2.2.1,dz n2.1];exact a
 ·rw[dz n2.2.2];exact bR g2
 ·have:=(Fr.hset hv p2 0 (.int .i64 x)).blk_some g3 (by simp[Ne.symm n2.2.2])
  exact bR this
theorem tG {w w2:World} {p1 p2 p3:Nat} {f:G.F} {tmps:Array Value} (t2:tmps[2]? =some (pt p1)) (t3:tmps[3]? =some (pt p2)) (t4:tmps[4]? =some (pt p3)) (r:Go.X.Rest w w2) (F:Fr [] w.heap w2.heap)
  (h1:w2.heap[p1]? =some (.cells z29.toArray 29 (0,0))) (h2:w2.heap[p2]? =some (.cells #[.int .i64 0] 3 (0,0))) (h3:w2.heap[p3]? =some (.cells #[.int .i64 0] 32 (0,0))) (n2:p1≠p2/\p1≠p3/\p2≠p3) (l:w.heap.size<=p1/\w.heap.size<=p2/\w.heap.size<=p3)
  (hrd:G.read rd cl s= .no f):Leaves Tryz.prog Tryz.f23 tmps (fun e w'=>∃v,e=Ending.returned v/\Go.X.Rest w w'/\rdR gl s rd cl w.heap v w'.heap) [{target:=.fn (.func 57) #[pt p1,pt p2,pt p3],args:=#[]}] (.panicking [{v:=flt f,recovered:=false}]) w2:=by
 obtain⟨at_,e⟩:=f
 refine leaves_cons (f:=57) (args:=#[pt p1,pt p2,pt p3]) (by simp) (by simp[go_sem]) ?_
 refine(AC p1 p2 p3 at_ e w2 h1 h2 h3 n2.1 n2.2.1 n2.2.2).mono ?_
 rintro e' u' w3 ⟨rfl,rfl,r3,e3⟩
 have F2:Fr [] w.heap (w2.heap.push (.cells #[.int .i64 (at_:Int),.int .i64 (e:Int)] 88)):=F.pushr _
 obtain⟨q1,q2,q3⟩:=wJ (x:=(at_:Int)) (y:=(e:Int)) ((Fr.push w2.heap (.cells #[.int .i64 (at_:Int),.int .i64 (e:Int)] 88)).blk_some h1 (by simp)) ((Fr.push w2.heap _).blk_some h2 (by simp)) ((Fr.push w2.heap _).blk_some h3 (by simp)) n2
 rw[<-e3]at q1 q2 q3
 refine⟨_,CK t2 t3 t4 q1 q2 q3,_,rfl,r.trans r3,.inr ⟨(at_,e),hrd,rfl,?_⟩⟩
 rw[e3]
 exact(((((((F2.hsetL l.1).hsetL l.1).hsetL l.1).hsetL l.1).hsetL l.1).hsetL l.1).hsetL l.2.1).hsetL l.2.2
set_option maxHeartbeats 1000000 in
theorem FK (hr:pX rd gl) (hc:G.ClOK cl) (hcl:nf cl) {h:ab} (g:Gl gl h) (hsz:s.size<=9223372036854775807) (hu:G.read rd cl s≠ .un):af Tryz.prog 23 #[.string s] h (rdR gl s rd cl h):=by
 intro w hwh
 subst hwh
 have hmf:∀(fn:Fn) (first cap:Array Value) (w:World),(Instr.makeFunc fn first cap).run Tryz.prog w= .ok (.func fn first cap) w:=fun _ _ _ _=>rfl
 have hmm:∀(t:TypeId) (w:World),(Instr.makeMap t none).run Tryz.prog w= .ok (.map (some w.heap.size)) (w.alloc (.map #[] 0)):=fun _ _=>rfl
 go_enter_defers Tryz.func23,Tryz.ntmps23
 go_wp2_with (fail)
 refine(I0 (b:=decide ((s.size:Int)<=262144)) (a:=0) (e:=23) _ rfl).mono fun e w2 r=>?_
 obtain⟨rest,r⟩:=r
 rcases r with⟨v,rfl,hb,rfl,hw⟩ | ⟨v,rfl,hb,rfl,hw⟩
 ·have hs:s.size<=262144:=by have:=of_decide_eq_true hb;omega
  have hrd:G.read rd cl s=G.iB rd cl s:=by
   rw[G.tA,decide_eq_true hs];rfl
  go_wp2_with (fail)
  have hw':w2.heap=((w.heap.push (.cells z29.toArray 29)).push (.cells #[.int .i64 0] 3)).push (.cells #[.int .i64 0] 32):=hw
  have r2:Go.X.Rest w w2:=(((Go.X.Rest.alloc w _).trans (Go.X.Rest.alloc _ _)).trans (Go.X.Rest.alloc _ _)).trans rest
  have Q:=Dv (s:=s) (h5:=(w2.heap.push (.map #[] 0)).push (.cells (rc s ⟨w.heap.size+1+1+1,none,0,none,0,none,0,none,0⟩ G.start 0).toArray 95)) g (by rw[hw'])
  have HA:Hp _ (stC gl (w.heap.size+1+1+1+1) s ⟨w.heap.size+1+1+1,none,0,none,0,none,0,none,0⟩ G.start 0):=(Q.pick [0,1,2,3,4,5,6] rfl).hp
  rw[hrd]at hu
  refine(IZ hr hc hcl hs HA hu _ rfl).mono fun e w4 r=>?_
  obtain⟨rest4,r⟩:=r
  have r4:Go.X.Rest w w4:=((r2.trans (Go.X.Rest.alloc _ _)).trans (Go.X.Rest.alloc _ _)).trans rest4
  rcases r with⟨v,rfl,dc,aD,aL,aS,aW,nD,cD,nL,cL,nS,cS,nW,cW,hL,rfl,q⟩ | ⟨v,rfl,f,hL,rfl,q⟩
  ·have Q2:=Sq.call Q q
   have t1:w4.heap[w.heap.size]? =some (.cells #[.int .i64 0,.slice none 0 0,.bool false,.slice none 0 0,.slice none 0 0,.slice none 0 0] 29 (0,0)):=Q2.sy.ok (k:=5) rfl
   have t2:w4.heap[w.heap.size+1]? =some (.cells #[.int .i64 0] 3 (0,0)):=Q2.sy.ok (k:=6) rfl
   have t3:w4.heap[w.heap.size+1+1]? =some (.cells #[.int .i64 0] 32 (0,0)):=Q2.sy.ok (k:=7) rfl
   have k0:w4.cell? ⟨w.heap.size,0,none⟩=some (.int .i64 0):=by simp[World.cell?,t1]
   have k1:w4.cell? ⟨w.heap.size,1,none⟩=some (.slice none 0 0):=by simp[World.cell?,t1]
   have k2:w4.cell? ⟨w.heap.size,2,none⟩=some (.bool false):=by simp[World.cell?,t1]
   have k3:w4.cell? ⟨w.heap.size,3,none⟩=some (.slice none 0 0):=by simp[World.cell?,t1]
   have k4:w4.cell? ⟨w.heap.size,4,none⟩=some (.slice none 0 0):=by simp[World.cell?,t1]
   have k5:w4.cell? ⟨w.heap.size,5,none⟩=some (.slice none 0 0):=by simp[World.cell?,t1]
   have k6:w4.cell? ⟨w.heap.size+1,0,none⟩=some (.int .i64 0):=by simp[World.cell?,t2]
   have k7:w4.cell? ⟨w.heap.size+1+1,0,none⟩=some (.int .i64 0):=by simp[World.cell?,t3]
   have z0:∀o,w4.frozen? ⟨w.heap.size,o,none⟩=false:=fun o=>by simp[World.frozen?,t1]
   have z1:∀o,w4.frozen? ⟨w.heap.size+1,o,none⟩=false:=fun o=>by simp[World.frozen?,t2]
   have z2:∀o,w4.frozen? ⟨w.heap.size+1+1,o,none⟩=false:=fun o=>by simp[World.frozen?,t3]
   go_wp2_with (fail)
   refine leaves_cons (f:=57) (args:=#[pt w.heap.size,pt (w.heap.size+1),pt (w.heap.size+1+1)]) (by simp) (by simp[go_sem]) ?_
   refine(Dp ⟨w.heap.size,0,none⟩ ⟨w.heap.size+1,0,none⟩ ⟨w.heap.size+1+1,0,none⟩ _).mono ?_
   rintro e' u' w5 ⟨rfl,rfl,e5⟩
   have Y:=(((((((Q2.sy.stO 5 rfl 0 (.int .i64 (dc.n:Int))).stO 5 rfl 1 (.slice aD nD cD)).stO 5 rfl 2 (.bool dc.dir)).stO 5 rfl 3 (.slice aL nL cL)).stO 5 rfl 4 (.slice aS nS cS)).stO 5 rfl 5 (.slice aW nW cW)).stO 6 rfl 0 (.int .i64 0)).stO 7 rfl 0 (.int .i64 0)
   have h5:w5.heap=ak (ak (ak (ak (ak (ak (ak (ak w4.heap w.heap.size 0 (.int .i64 (dc.n:Int))) w.heap.size 1 (.slice aD nD cD)) w.heap.size 2 (.bool dc.dir)) w.heap.size 3 (.slice aL nL cL)) w.heap.size 4 (.slice aS nS cS)) w.heap.size 5 (.slice aW nW cW)) (w.heap.size+1) 0 (.int .i64 0)) (w.heap.size+1+1) 0 (.int .i64 0):=by
    rw[e5,heap_setCell,heap_setCell,heap_setCell,heap_setCell,heap_setCell,heap_setCell,heap_setCell,heap_setCell]
   rw[<-h5]at Y
   have r5:Go.X.Rest w w5:=by
    rw[e5]
    exact(((((((r4.trans (Go.X.Rest.setCell _ _ _)).trans (Go.X.Rest.setCell _ _ _)).trans (Go.X.Rest.setCell _ _ _)).trans (Go.X.Rest.setCell _ _ _)).trans (Go.X.Rest.setCell _ _ _)).trans (Go.X.Rest.setCell _ _ _)).trans (Go.X.Rest.setCell _ _ _)).trans (Go.X.Rest.setCell _ _ _)
   clear e5 h5
   have c1:=Y.ok (k:=5) (c:=Ck.ob w.heap.size 29 [.int .i64 (dc.n:Int),.slice aD nD cD,.bool dc.dir,.slice aL nL cL,.slice aS nS cS,.slice aW nW cW]) rfl
   have c2:=Y.ok (k:=6) (c:=Ck.ob (w.heap.size+1) 3 [.int .i64 0]) rfl
   have c3:=Y.ok (k:=7) (c:=Ck.ob (w.heap.size+1+1) 32 [.int .i64 0]) rfl
   refine⟨_,CK (c0:=(dc.n:Int)) (a1:=aD) (n1:=nD) (k1:=cD) (c2:=dc.dir) (a4:=aL) (n4:=nL) (k4:=cL) (a5:=aS) (n5:=nS) (k5:=cS) (a6:=aW) (n6:=nW) (k6:=cW) (x:=0) (y:=0) (p1:=w.heap.size) (p2:=w.heap.size+1) (p3:=w.heap.size+1+1) rfl rfl rfl c1 c2 c3,_,rfl,r5,.inl ⟨dc,aD,aL,aS,aW,nD,cD,nL,cL,nS,cS,nW,cW,hrd.trans hL,rfl,?_⟩⟩
   ·exact⟨Y.pick [0,1,2,3,4] rfl,fun x hx=>.inl (by simpa[rds,dC,Ck.sl,Ck.glob]using hx)⟩
  ·have Q3:=Sq.drop Q q
   exact tG (f:=f) rfl rfl rfl r4 Q3.fr (Q3.sy.ok (k:=0) rfl) (Q3.sy.ok (k:=1) rfl) (Q3.sy.ok (k:=2) rfl) ⟨by omega,by omega,by omega⟩ ⟨by omega,by omega,by omega⟩ (hrd.trans hL)
 ·have hs:¬s.size<=262144:=by have:=of_decide_eq_false hb;omega
  have hw':w2.heap=((w.heap.push (.cells z29.toArray 29)).push (.cells #[.int .i64 0] 3)).push (.cells #[.int .i64 0] 32):=hw
  obtain⟨t1,t2,t3⟩:=FJ w.heap (.cells z29.toArray 29) (.cells #[.int .i64 0] 3) (.cells #[.int .i64 0] 32)
  rw[<-hw']at t1 t2 t3
  refine tG (f:=(0,23)) rfl rfl rfl ((((Go.X.Rest.alloc w _).trans (Go.X.Rest.alloc _ _)).trans (Go.X.Rest.alloc _ _)).trans rest) ?_ t1 t2 t3 ⟨by omega,by omega,by omega⟩ ⟨by omega,by omega,by omega⟩ ?_
  ·rw[hw'];exact((Fr.push _ _).pushr _).pushr _
  ·rw[G.tA,decide_eq_false hs];rfl
end
set_option maxHeartbeats 1000000
structure Fast (b:ByteArray) (st:RS) (rest:List UInt8):Prop where
 t:Txt b st rest
 tr:st.tr=false
 e1: -345<=fB st rest
 e2:fB st rest<=310
 x:st.m≠0->(fa st.m (fB st rest) (bS b.data.toList).1).2=true
def scB (b:ByteArray):RS × List UInt8:=scan RS0 (b.data.toList.drop (bS b.data.toList).2)
def fsV (b:ByteArray):Nat:=nU (scB b).1.m (fB (scB b).1 (scB b).2) (bS b.data.toList).1
open Classical in
noncomputable def rdF (b : ByteArray) : Option (Nat × Nat) :=
 if b.size<=262144/\(kI b.data.toList=true->b.size<=64->Fast b (scB b).1 (scB b).2)then some ((dm b.data.toList (fsV b)).1,(dm b.data.toList (fsV b)).2.toNat)else none
theorem zA (l:List UInt8) (V:Nat):0<=(dm l V).2:=by
 unfold dm
 split
 ·decide
 split
 ·decide
 split
 ·decide
 split
 ·decide
 split
 ·decide
 split<;>simp
theorem zB (gl:GL):pX rdF gl:=by
 intro t x e ht h g
 unfold rdF at ht
 split at ht
 ·rename_i hc
  obtain⟨h1,h2⟩:=hc
  simp only[Option.some.injEq,Prod.mk.injEq]at ht
  obtain⟨rfl,rfl⟩:=ht
  rw[Int.toNat_of_nonneg (zA _ _)]
  refine EK (V:=fsV t) g (by omega) fun q1 q2=>?_
  have f:=h2 q1 q2
  exact⟨none,.inl rfl,fun R r=>EB f.t f.tr f.e1 f.e2 f.x r⟩
 ·cases ht
def fDg (D:List UInt8):RS:=D.foldl (fun s c=>bD s (dgt c)) RS0
theorem zC :∀(D:List UInt8) (s:RS),(∀c∈D,isD c=true)->s.nm+D.length<=19->s.nd=s.nm->s.m<10^s.nm->s.tr=false->s.dot=false->
  (fun q:RS=>q.nd=q.nm/\q.nm<=s.nm+D.length/\q.m<10^q.nm/\q.tr=false/\q.dot=false) (D.foldl (fun s c=>bD s (dgt c)) s)
 | [],s,_,_,h1,h2,h3,h4=>⟨h1,by simp,h2,h3,h4⟩
 | c::D,s,hD,hl,h1,h2,h3,h4=>by
  have hc:=eH.1 (hD c (by simp))
  have hd:dgt c<=9:=by unfold dgt;omega
  simp only[List.length_cons]at hl
  rw[List.foldl_cons]
  have hs:(fun q:RS=>q.nd=q.nm/\q.nm<=s.nm+1/\q.m<10^q.nm/\q.tr=false/\q.dot=false) (bD s (dgt c)):=by
   unfold bD
   split
   ·exact⟨h1,by simp,h2,h3,h4⟩
   ·rw[if_pos (by omega)]
    refine⟨by show s.nd+1=s.nm+1;omega,Nat.le_refl _,?_,h3,h4⟩
    show s.m*10+dgt c<10^(s.nm+1)
    rw[Nat.pow_succ];omega
  obtain⟨k1,k2,k3,k4,k5⟩:=hs
  obtain⟨j1,j2,j3,j4,j5⟩:=zC D (bD s (dgt c)) (fun d hd=>hD d (by simp[hd])) (by omega) k1 k3 k4 k5
  exact⟨j1,by simp only[List.length_cons];omega,j3,j4,j5⟩
theorem zD (k:Nat) {m n:Nat} (h:m<=n):m*2^k<=n*2^k:=Nat.mul_le_mul_right _ h
theorem vm (a:Nat) {i j:Nat} (h:i<=j):a*2^i<=a*2^j:=Nat.mul_le_mul_left _ (Nat.pow_le_pow_right (by decide) h)
theorem zE {m:Nat} (ng:Bool) (hm:m<2^53):isInf (iJ (if ng then Op.negFloat .f64 (FloatKind.f64.nearest (m:Int))else FloatKind.f64.nearest (m:Int)))=false:=by
 have hk:=vg (s:=false) (m:=m) (k:=0) (i:=0) hm (by decide) (by decide)
 rw[Nat.pow_zero,Nat.mul_one,show((0:Int)-((0:Nat):Int))=0 by decide,<-zu]at hk
 obtain⟨hk,hn⟩:=hk
 generalize hx:(if ng then Op.negFloat .f64 (FloatKind.f64.nearest (m:Int))else FloatKind.f64.nearest (m:Int))=x
 have hxk:(key x).natAbs=(Ieee.signed false m (0+1074:Int).toNat).natAbs/\isNaN x=false:=by
  rw[<-hx]
  cases ng
  ·rw[if_neg (by decide)];exact⟨by rw[hk],hn⟩
  ·rw[if_pos rfl]
   exact⟨by rw[show Op.negFloat .f64 (FloatKind.f64.nearest (m:Int))=jo (FloatKind.f64.nearest (m:Int))from rfl,B1,Int.natAbs_neg,hk],by rw[<-hn];exact ua _⟩
 unfold isInf
 rw[zp (by rw[zk];exact hxk.2) (by decide),BZ,hxk.1]
 refine decide_eq_false ?_
 rw[da]
 have hmax:key IB=((9007199254740991*2^2045:Nat):Int):=by decide+kernel
 rw[hmax]
 have h1:=zD 1074 (show m<=9007199254740991 by omega)
 have h2:=vm 9007199254740991 (show 1074<=2045 by decide)
 have e:(0+1074:Int).toNat=1074:=by decide
 rw[e,if_neg (by decide),Int.natAbs_natCast]
 generalize m*2^1074=a at*
 generalize 9007199254740991*2^1074=b at*
 generalize 9007199254740991*2^2045=c at*
 omega
theorem ue :∀D:List UInt8,(∀c∈D,isD c=true)->dgN D=D.length
 | [],_=>rfl
 | c::D,h=>by
  have ih:=ue D fun d hd=>h d (by simp[hd])
  unfold dgN at ih ⊢
  rw[List.takeWhile_cons,if_pos (h c (by simp)),List.length_cons,List.length_cons,ih]
theorem B7 {D:List UInt8} (ng:Bool) (hD:∀c∈D,isD c=true) (h0:D≠[]) (hl:D.length<=15) {b:ByteArray} (hb:b.data.toList=(if ng then [45]else [])++D):∃v,rdF b=some (v,0):=by
 obtain⟨a,r,hDr⟩:=List.exists_cons_of_ne_nil h0
 have ha:isD a=true:=hD a (by rw[hDr];simp)
 have ha2:=eH.1 ha
 have na43:a≠43:=fun e=>by subst e;exact absurd ha2 (by decide)
 have na45:a≠45:=fun e=>by subst e;exact absurd ha2 (by decide)
 have hsg:(bS b.data.toList)=(ng,if ng then 1 else 0):=by
  rw[hb,hDr]
  cases ng
  ·simp[bS,na43,na45]
  ·simp[bS]
 have hdr:aQ b.data.toList=D:=by
  rw[hb]
  cases ng
  ·rw[hDr];simp[aQ,na43,na45]
  ·simp[aQ]
 have hdn:dgN D=D.length:=by
  exact ue D hD
 have hnum:kI b.data.toList=true:=by
  unfold kI
  rw[hdr,hdn,if_neg (by rw[hDr];simp),List.drop_length]
  rfl
 have hsz:b.size=b.data.toList.length:=rfl
 have hlen:b.data.toList.length<=16:=by
  rw[hb,List.length_append]
  cases ng<;>simp<;>omega
 have hsc:scB b=(fDg D,[]):=by
  unfold scB
  rw[qv,hdr]
  have:=jp D RS0 [] hD
  rw[List.append_nil]at this
  rw[this];rfl
 obtain⟨q1,q2,q3,q4,q5⟩:=zC D RS0 hD (by show 0+D.length<=19;omega) rfl (by decide) rfl rfl
 change (fDg D).nd=(fDg D).nm at q1
 change (fDg D).nm<=0+D.length at q2
 change (fDg D).m<10^(fDg D).nm at q3
 change (fDg D).tr=false at q4
 change (fDg D).dot=false at q5
 have hm:(fDg D).m<1000000000000000:=by
  have:=Nat.pow_le_pow_right (n:=10) (by decide) (show(fDg D).nm<=15 by omega)
  omega
 have hex:fB (fDg D) []=0:=by
  unfold fB
  split
  ·rw[q5,if_neg (by decide)];simp[iz];omega
  ·rfl
 have hxF:fa (fDg D).m 0 ng=(if ng then Op.negFloat .f64 (FloatKind.f64.nearest ((fDg D).m:Int))else FloatKind.f64.nearest ((fDg D).m:Int),true):=by
  unfold fa
  rw[if_neg (by omega)]
  simp
 obtain⟨st,rest,T⟩:=sn (s:=b) (by omega) hnum
 have hst:(st,rest)=(fDg D,[]):=by rw[<-hsc];exact T.sc.symm
 obtain⟨rfl,rfl⟩:=Prod.mk.inj hst
 have F:Fast b (fDg D) []:=⟨T,q4,by rw[hex];decide,by rw[hex];decide,fun _=>by rw[hex,hsg,hxF]⟩
 have hV:fsV b=if(fDg D).m=0 then(bits .or .u64 (Ey ng:Int) 0).toNat else(if ng then Op.negFloat .f64 (FloatKind.f64.nearest ((fDg D).m:Int))else FloatKind.f64.nearest ((fDg D).m:Int)):=by
  unfold fsV nU
  rw[hsc]
  show(if(fDg D).m=0 then _ else(fa (fDg D).m (fB (fDg D) []) _).1)=_
  rw[hex,hsg,hxF]
 have hfin:isInf (iJ (fsV b))=false:=by
  rw[hV]
  split
  ·cases ng<;>decide+kernel
  ·exact zE ng (by omega)
 have n1:b.data.toList≠[78,97,78]/\b.data.toList≠[73,78,70]/\b.data.toList≠[45,73,78,70]:=by
  rw[hb,hDr]
  cases ng
  ·refine⟨fun e=>?_,fun e=>?_,fun e=>?_⟩
   ·have:a=78:=(List.cons.inj e).1
    rw[this]at ha2;exact absurd ha2 (by decide)
   ·have:a=73:=(List.cons.inj e).1
    rw[this]at ha2;exact absurd ha2 (by decide)
   ·have:a=45:=(List.cons.inj e).1
    rw[this]at ha2;exact absurd ha2 (by decide)
  ·refine⟨fun e=>?_,fun e=>?_,fun e=>?_⟩
   ·have:(45:UInt8)=78:=(List.cons.inj e).1
    exact absurd this (by decide)
   ·have:(45:UInt8)=73:=(List.cons.inj e).1
    exact absurd this (by decide)
   ·have:a=73:=(List.cons.inj (List.cons.inj e).2).1
    rw[this]at ha2;exact absurd ha2 (by decide)
 have hr:dm b.data.toList (fsV b)=(fsV b,0):=by
  unfold dm
  rw[if_neg n1.1,if_neg n1.2.1,if_neg n1.2.2,if_neg (by rw[hnum];decide),if_neg (by omega),if_neg (by rw[hfin];decide)]
 refine⟨fsV b,?_⟩
 unfold rdF
 rw[if_pos ⟨by omega,fun _ _=>by rw[hsc];exact F⟩,hr]
 rfl
theorem B8 {c:UInt8} (h:G.cJ c.toNat=true):isD c=true:=eH.2 (by simpa[G.cJ]using h)
theorem zF (x:Int) (hx:x.natAbs<=2147483648):∃v,G.wo rdF (G.idt x) v:=by
 have hd:∀c∈G.dec x.natAbs,isD c=true:=fun c hc=>B8 (G.jc _ c hc)
 have hl:=G.kN 9 x.natAbs (by omega)
 have e:G.idt x=(if decide (x<0)then [45]else [])++G.dec x.natAbs:=by
  unfold G.idt;split<;>simp[*]
 obtain⟨v,hv⟩:=B7 (decide (x<0)) hd (G.rJ _) (by omega) (b:=G.mkB (G.idt x)) (by rw[<-e];simp[G.mkB])
 refine⟨v,.inl (G.Aw x),fun b hb=>?_⟩
 have:b=G.mkB (G.idt x):=by
  apply ByteArray.ext;apply Array.ext';rw[hb];simp[G.mkB]
 rw[this];exact hv
theorem zG (n:Nat) (hn:n<=2147483648):∃v,G.wo rdF (G.dec n) v:=by
 have:=zF (n:Int) (by omega)
 have e:G.idt (n:Int)=G.dec n:=by unfold G.idt;rw[if_neg (by omega)];rfl
 rwa[e]at this
end Go.Proofs.YtlflalecmhgmjaaGreatDoor.N
namespace Go.Proofs.YtlflalecmhgmjaaGreatDoor.G
def Aq :List UInt8:=[103,114,97,112,104,32,91,32,110,111,100,101,32,91,32,105,100,32,53,32,93,32,101,100,103,101,32,91,32,115,111,117,114,99,101,32,53,32,116,97,114,103,101,116,32,53,32,93,32,93]
def tt :List UInt8:=[103,114,97,112,104,32,91,32,110,111,100,101,32,91,32,93,32,93]
section
variable {s:ByteArray} {rd:ByteArray->Option (Nat × Nat)} {cl:Nat->Nat}
theorem oG :whole [53]=some 5:=by decide
theorem uC {x:Nat} (h5:wo rd [53] x) (ht:s.data.toList=Aq):read rd cl s= .ok ⟨1,false,[(0,0)],[],[],[]⟩:=by
 have hsz:s.size=50:=by rw[gF,ht];rfl
 have a0:At s 0 ([]++(eQ++([32]++91::([32]++(eR++([32]++91::([32]++(kId++([32]++([53]++([32]++93::([32]++(dj++([32]++91::([32]++(bd++([32]++([53]++([32]++(bj++([32]++([53]++([32]++93::([32]++93::[])))))))))))))))))))))))):=by
  have:=At.start s;rw[ht]at this;exact this
 let z:Tok:=⟨0,0,noB,0⟩
 have key0:ry s rd cl .top 0 start fun e l r=>∃(u u':Tok) (i:Nat),u.l=[53]/\u'.l=[53]/\r=⟨i,1,false,true,[(5,0)],[noB],[(0,0)],[kV],false,false,false,[u,u']⟩:=by
  refine kW (σ:=start) (σ1:=fun j=>{start with i:=j,graph:=true}) (l2:=some (.graph false)) (l':=.top) a0 .nil (tq _ (fC _)) bl1 (by decide) (fun t j e=>by simp[key,e,start,aG]) (fun j=>rfl) fun j0 j1 lt1 a=>?_
  let σ1:Nat->Rd:=fun j=>⟨j,1,false,true,[],[noB],[(0,0)],[],false,false,false,[]⟩
  refine kW (σ1:=σ1) (l2:=some (.node 0 false false false)) (l':=.graph false) a bl1 (vV _ (fC _)) bl1 (by decide) (fun t j e=>(pO e (by show 0<1024;omega)).trans rfl) (fun j=>rfl) fun j0 j2 lt2 a=>?_
  refine oH (x:=.id 0) (l':=.node 0 true false false) (σ1:=σ1) a bl1 (IY _ (fC _)) bl1 h5 (fC _).numb (fC _).word (fun t j e=>by simp[key,e,aG];rfl) (fun j=>rfl) (.inr rfl) fun u j0 j3 u1 u2 u3 lt3 a=>?_
  let σ2:Nat->Rd:=fun j=>⟨j,1,false,true,[(5,0)],[noB],[(0,0)],[],false,false,false,[]⟩
  refine⟨σ2 j3,by simp only[cM,u1,oG];rfl,rfl,?_⟩
  refine jJ a bl1 rfl fun e j4 lt4 a=>⟨σ2 j4,rfl,?_,a.1,?_⟩
  ·grind
  let σ3:List Tok->Nat->Rd:=fun l j=>⟨j,1,false,true,[(5,0)],[noB],[(0,0)],[kV],false,false,false,l⟩
  have a:At s (σ2 j4).i ([32]++(dj++([32]++91::([32]++(bd++([32]++([53]++([32]++(bj++([32]++([53]++([32]++93::([32]++93::[]))))))))))))):=a
  refine kW (σ1:=σ3 [z,z]) (l2:=some (.edge 0 false false false)) (l':=.graph false) a bl1 (Di _ (fC _)) bl1 (by decide) (fun t j e=>(wh e (by grind)).trans rfl) (fun j=>rfl) fun j0 j5 lt5 a=>?_
  refine oH (x:=.fin 0) (l':=.edge 0 true false false) (σ1:=σ3 [z,z]) a bl1 (vW _ (fC _)) bl1 h5 (fC _).numb (fC _).word (fun t j e=>by simp[key,e,aG];rfl) (fun j=>rfl) (.inr rfl) fun u j0 j6 v1 v2 v3 lt6 a=>?_
  refine⟨σ3 [u,z] j6,by simp only[cM,v1,oG];rfl,rfl,?_⟩
  refine oH (x:=.fin 1) (l':=.edge 0 true true false) (σ1:=σ3 [u,z]) a bl1 (vX _ (fC _)) bl1 h5 (fC _).numb (fC _).word (fun t j e=>by simp[key,e,bd,bj,aG];rfl) (fun j=>rfl) (.inr rfl) fun u' j0 j7 w1 w2 w3 lt7 a=>?_
  refine⟨σ3 [u,u'] j7,by simp only[cM,w1,oG];rfl,rfl,?_⟩
  refine jJ a bl1 rfl fun e j8 lt8 a=>⟨σ3 [u,u'] j8,rfl,?_,a.1,?_⟩
  ·grind
  have a:At s (σ3 [u,u'] j8).i ([32]++93::[]):=a
  refine jJ a bl1 rfl fun e j9 lt9 a=>⟨σ3 [u,u'] j9,rfl,?_,a.1,?_⟩
  ·grind
  exact⟨_,_,_,Au .nil a,u,u',s.size,v1,w1,rfl⟩
 obtain⟨e,l,r,hb,u,u',i,e1,e2,rfl⟩:=key0
 unfold read
 rw[fM (decide_eq_true (by omega)),hb (s.size+1) (by simp[start])]
 simp only[aG,Er.bind]
 have f5:∀t:Tok,t.l=[53]->gI [(5,0)] t= .ok 0:=by
  intro t ht
  unfold gI
  rw[ht,oG];rfl
 simp only[edges,f5 u e1,f5 u' e2,Er.bind]
 rfl
theorem uD (ht:s.data.toList=tt):read rd cl s= .no (15,14):=by
 have hsz:s.size=18:=by rw[gF,ht];rfl
 have a0:At s 0 ([]++(eQ++([32]++91::([32]++(eR++([32]++91::([32]++93::([32]++93::[])))))))):=by
  have:=At.start s;rw[ht]at this;exact this
 obtain⟨t1,n1,k1,l1,a1⟩:=ik .nil (tq _ (fC _)) a0
 obtain⟨n2,a2⟩:=ij bl1 a1
 obtain⟨t3,n3,k3,l3,a3⟩:=ik bl1 (vV _ (fC _)) a2
 obtain⟨n4,a4⟩:=ij bl1 a3
 obtain⟨n5,a5⟩:=lg bl1 a4
 simp only[List.length_nil,List.length_singleton,Nat.add_zero,Nat.zero_add,show eQ.length=5 from rfl,show eR.length=4 from rfl]at n1 n2 n3 n4 n5
 have k1':∀r:Rd,r.graph=false->key .top t1 r= .ok (.list (.graph false),.top,{r with graph:=true}):=by
  intro r hr
  simp[key,l1,hr,aG]
 have in3:∀n (r:Rd),r.i=14->list s rd cl (n+1) (.node 0 false false false) 2 r= .ok (15,.node 0 false false false,{r with i:=16}):=by
  grind [list,Er.bind,bJ]
 have in2:∀n (r:Rd),r.i=7->r.n=0->list s rd cl (n+2) (.graph false) 1 r= .no (15,14):=by
  intro n r hr hn
  rw[list,hr,n3]
  simp only[Er.bind,k3,bJ]
  rw[if_neg (by simp),fM (by simp),pO l3 (by grind)]
  simp only[]
  unfold value
  simp only[n4,Er.bind]
  simp only[bs,Tk.kind]
  rw[if_neg (by simp),if_neg (by simp),if_neg (by simp)]
  simp only[]
  rw[fM (by simp),fM (by simp),if_pos trivial,hn,in3 n _ rfl]
  simp[Er.bind,behind,aG]
 unfold read
 rw[fM (decide_eq_true (by omega)),hsz,list]
 have i0:start.i=0:=rfl
 rw[i0,n1]
 simp only[Er.bind,k1,bJ]
 rw[if_neg (by simp),fM (by simp),k1' _ rfl]
 simp only[]
 unfold value
 simp only[n2,Er.bind]
 simp only[bs,Tk.kind]
 rw[if_neg (by simp),if_neg (by simp),if_neg (by simp)]
 simp only[]
 rw[fM (by simp),fM (by simp),if_pos trivial,in2 16 _ rfl rfl]
end
end Go.Proofs.YtlflalecmhgmjaaGreatDoor.G
namespace Go.Proofs.YtlflalecmhgmjaaGreatDoor.N
open Go.Proofs.YtlflalecmhgmjaaGreatDoor
open Go.X
set_option maxRecDepth 100000
set_option maxHeartbeats 2000000
def S26 (h:ab) (R:VP):Prop:=ah Tryz.prog 23 #[.string ⟨#[103,114,97,112,104,32,91,32,110,111,100,101,32,91,32,105,100,32,53,32,93,32,101,100,103,101,32,91,32,115,111,117,114,99,101,32,53,32,116,97,114,103,101,116,32,53,32,93,32,93]⟩] h [] fun X a=>∃e:Int,∃(i:Option Addr) (f m:Nat),∃g:Bool,∃(j:Option Addr) (q n:Nat),∃(k:Option Addr) (r o:Nat),∃(l:Option Addr) (s p:Nat),∃L:Int,∃O:Int,X= .tuple #[.agg #[.int .i64 e,.slice i f m,.bool g,.slice j q n,.slice k r o,.slice l s p],.int .i64 L,.int .i64 O]/\let S:ab:=a.push (.cells #[.int .i64 0,.slice none 0 0,.bool false,.slice none 0 0,.slice none 0 0,.slice none 0 0] 29);let T:ab:=ak (ak (ak (ak (ak (ak S a.size 0 (.int .i64 e)) a.size (0+1) (.slice i f m)) a.size ((0+1)+1) (.bool g)) a.size (((0+1)+1)+1) (.slice j q n)) a.size ((((0+1)+1)+1)+1) (.slice k r o)) a.size (((((0+1)+1)+1)+1)+1) (.slice l s p);ah Tryz.prog 23 #[.string ⟨#[103,114,97,112,104,32,91,32,110,111,100,101,32,91,32,93,32,93]⟩] T [a.size] fun Y b=>∃w:Int,∃(z:Option Addr) (H D:Nat),∃x:Bool,∃(A:Option Addr) (I E:Nat),∃(B:Option Addr) (J F:Nat),∃(C:Option Addr) (K G:Nat),∃M:Int,∃P:Int,Y= .tuple #[.agg #[.int .i64 w,.slice z H D,.bool x,.slice A I E,.slice B J F,.slice C K G],.int .i64 M,.int .i64 P]/\let U:ab:=b.push (.cells #[.int .i64 0,.slice none 0 0,.bool false,.slice none 0 0,.slice none 0 0,.slice none 0 0] 29);let V:ab:=ak (ak (ak (ak (ak (ak U b.size 0 (.int .i64 w)) b.size (0+1) (.slice z H D)) b.size ((0+1)+1) (.bool x)) b.size (((0+1)+1)+1) (.slice A I E)) b.size ((((0+1)+1)+1)+1) (.slice B J F)) b.size (((((0+1)+1)+1)+1)+1) (.slice C K G);ah Tryz.prog 22 #[.agg #[.int .i64 e,.slice i f m,.bool g,.slice j q n,.slice k r o,.slice l s p]] V [b.size,a.size] fun Z d=>∃y:ByteArray,∃N:Int,Z= .tuple #[.string y,.int .i64 N]/\let c:=fun(Q:ab)=>(R (.bool false) Q);cnd (e==1) (cnd ((f:Int)==(1:Int)) (cnd (L==0) (cnd (O==0) (cnd (M==15) (cnd (P==14) (cnd (decide ((y.size:Int)>(40:Int))) (cnd (N==0) (ah Tryz.prog 25 #[.agg #[.int .i64 e,.slice i f m,.bool g,.slice j q n,.slice k r o,.slice l s p]] d [b.size,a.size] fun a0 t=>∃u:Bool,a0= .bool u/\cnd u (ah Tryz.prog 24 #[.agg #[.int .i64 e,.slice i f m,.bool g,.slice j q n,.slice k r o,.slice l s p],.agg #[.int .i64 e,.slice i f m,.bool g,.slice j q n,.slice k r o,.slice l s p]] t [b.size,a.size] fun a1 W=>∃v:Bool,a1= .bool v/\R (.bool v) W) (c t)) (c d)) (c d)) (c d)) (c d)) (c d)) (c d)) (c d)) (c d)
theorem AV {h:ab} {R:VP} (H:S26 h R):af Tryz.prog 26 #[] h R:=aI [1,4] 69 [] [] [] [] Tryz.func26 (by kernel_rfl) (by kernel_rfl) H
open Go.Proofs
def mdR (dc:G.Dc):MD:=⟨(dc.n:Int),dc.dir,dc.edges.map pr,dc.labels,dc.spots,dc.weights⟩
theorem I4 :G.dec 5=[53]:=by rw[G.dec];rfl
theorem I5 :G.dec 0=[48]:=by rw[G.dec];rfl
def tx0 :Nat->List UInt8:=fun _=>[]
def dc5 :G.Dc:=⟨1,false,[(0,0)],[],[],[]⟩
theorem wr5 :(G.wr tx0 dc5).length=84:=by
 simp[G.wr,G.aw,G.vU,dc5,G.dq,G.kq,G.cQ,G.nC,G.opn,G.kv,G.cls,G.ind,I5,G.eQ,G.cq,G.eR,G.kId,G.dj,G.bd,G.bj]
theorem hd1 {gl:GL} {h:ab} (g:Gl gl h):af Tryz.prog 26 #[] h fun v h'=>v= .bool true/\Fr [] h h':=by
 apply AV
 unfold S26
 obtain⟨x5,h5⟩:=zG 5 (by decide)
 rw[I4]at h5
 have rA:G.read rdF bu (G.mkB G.Aq)= .ok dc5:=G.uC h5 (jQ _)
 have rB:G.read rdF bu (G.mkB G.tt)= .no (15,14):=G.uD (jQ _)
 refine ai (R:=rdR gl (G.mkB G.Aq) rdF bu h) [] (FK (s:=G.mkB G.Aq) (zB gl) pW CE g (by decide) (by rw[rA];simp)) (by simp) ?_ ?_
 ·rintro v h' (⟨dc,aD,aL,aS,aW,nD,cD,nL,cL,nS,cS,nW,cW,_,_,q⟩ | ⟨f,_,_,q⟩)
  ·exact q.fr
  ·exact q
 rintro v h1 (⟨dc,aD,aL,aS,aW,nD,cD,nL,cL,nS,cS,nW,cW,e,rfl,q⟩ | ⟨f,e,_,q⟩)
 rotate_left
 ·rw[rA]at e
  cases e
 rw[rA]at e
 obtain rfl:dc5=dc:=by injection e
 refine⟨1,aD,nD,cD,false,aL,nL,cL,aS,nS,cS,aW,nW,cW,0,0,rfl,?_⟩
 intro h2 h3
 have f3:Fr [] h1 h3:=((((((Fr.push h1 _).hsetL (Nat.le_refl _)).hsetL (Nat.le_refl _)).hsetL (Nat.le_refl _)).hsetL (Nat.le_refl _)).hsetL (Nat.le_refl _)).hsetL (Nat.le_refl _)
 have s3:h1.size<h3.size:=by simp[h3,h2]
 clear_value h3
 have Q3:Sq h [Ck.glob gl] h3 (dC gl dc5 aD aL aS aW nD cD nL cL nS cS nW cW):=q.gr f3
 have g3:Gl gl h3:=Q3.sy.ok (k:=4) (c:=Ck.glob gl) rfl
 refine ai (R:=rdR gl (G.mkB G.tt) rdF bu h3) [] (FK (s:=G.mkB G.tt) (zB gl) pW CE g3 (by decide) (by rw[rB];simp)) (by simp) ?_ ?_
 ·rintro v h' (⟨dc,aD,aL,aS,aW,nD,cD,nL,cL,nS,cS,nW,cW,_,_,q⟩ | ⟨f,_,_,q⟩)
  ·exact q.fr
  ·exact q
 rintro v h4 (⟨dc,_,_,_,_,_,_,_,_,_,_,_,_,e,rfl,q⟩ | ⟨f,e,rfl,f4⟩)
 ·rw[rB]at e;cases e
 rw[rB]at e
 obtain rfl:((15,14):G.F)=f:=by injection e
 refine⟨0,none,0,0,false,none,0,0,none,0,0,none,0,0,15,14,rfl,?_⟩
 intro h5 h6
 have f6:Fr [] h4 h6:=((((((Fr.push h4 _).hsetL (Nat.le_refl _)).hsetL (Nat.le_refl _)).hsetL (Nat.le_refl _)).hsetL (Nat.le_refl _)).hsetL (Nat.le_refl _)).hsetL (Nat.le_refl _)
 clear_value h6
 have Q6:=(Q3.gr f4).gr f6
 have l0:=Q6.sy.lenS 0 rfl
 have Q7:Sq h [Ck.glob gl] h6 (dV gl aD nD cD (dc5.edges.map pr) aL nL cL dc5.labels aS nS cS dc5.spots aW nW cW dc5.weights):=by
  have Y:=((((Q6.sy.turn 0 rfl To.slvw).turn 1 rfl To.slvw).turn 2 rfl To.slvw).turn 3 rfl To.slvw).pick [4,0,1,2,3] rfl
  refine⟨Y,fun x hx=>?_⟩
  have hx:x∈glB gl++(gE aD nD++(gE aL nL++(gE aS nS++gE aW nW))):=by simpa[rds,dV,Ck.vw,Ck.glob]using hx
  simp only[List.mem_append]at hx
  rcases hx with hx | hx | hx | hx | hx
  ·exact .inl (by simpa[rds,Ck.glob]using hx)
  ·exact .inr (Q6.sy.ow 0 _ rfl x (ii hx))
  ·exact .inr (Q6.sy.ow 1 _ rfl x (ii hx))
  ·exact .inr (Q6.sy.ow 2 _ rfl x (ii hx))
  ·exact .inr (Q6.sy.ow 3 _ rfl x (ii hx))
 have eD:wZ 1 false (dc5.edges.map pr) dc5.labels dc5.spots dc5.weights=dc5:=rfl
 have eB:cU 1 (dc5.edges.map pr) dc5.labels dc5.spots dc5.weights=true:=by decide
 have eW:wrV tx0 1 false (dc5.edges.map pr) dc5.labels dc5.spots dc5.weights=(G.wr tx0 dc5,0):=by
  unfold wrV
  rw[eB,if_neg (by decide),eD,wr5,if_neg (by decide)]
 refine ai (R:=fun v h'=>v= .tuple #[.string (G.mkB (G.wr tx0 dc5)),.int .i64 0]/\Fr [] h6 h') [] ?_ (by simp) (fun _ _ r=>r.2) ?_
 ·have:=Gi (tx:=tx0) (n:=1) (dir:=false) Q7.hp (by simp[dc5]) (by decide) (by simp[dc5]) (by simp[dc5])
  rw[eW]at this;exact this
 rintro v h7 ⟨rfl,f7⟩
 refine⟨_,0,rfl,?_⟩
 intro K
 have nD1:nD=1:=l0
 subst nD1
 have F7:Fr [] h h7:=Q7.fr.trans f7
 have Q8:=Q7.gr f7
 refine aO rfl (aO rfl (aO rfl (aO rfl (aO rfl (aO rfl (aO ?_ (aO rfl ?_)))))))
 ·rw[aP,wr5];decide
 refine ai (R:=fun v h'=>v= .bool true/\Fr [] h7 h') [] ?_ (by simp) (fun _ _ r=>r.2) ?_
 ·refine(wX (n:=1) (es:=dc5.edges.map pr) (dr:=false) (ls:=dc5.labels) (ss:=dc5.spots) (ws:=dc5.weights) (R:=fun r=>r=true) (by simp[dc5]) (by decide) eB h7 _ _ _ _ _ _ _ _ _ _ _ _ (Q8.pick [1,2,3,4] rfl).hp).mono ?_
  rintro v h' ⟨r,Y,rfl,rfl⟩
  exact⟨rfl,Y.fr⟩
 rintro v h8 ⟨rfl,f8⟩
 have Q9:=Q8.gr f8
 refine⟨true,rfl,aO rfl ?_⟩
 let t:MDs:=⟨aD,1,cD,aL,nL,cL,aS,nS,cS,aW,nW,cW⟩
 have Hd:Hp h8 ((mdR dc5).vw t++(mdR dc5).vw t):=by
  have P:=(Q9.pick [1,2,3,4] rfl).hp
  refine⟨fun k c hk=>?_,fun i j c d _ hi hj x hx=>?_⟩
  ·rcases cF hk with hk | ⟨_,hk⟩
   ·exact P.ok k c hk
   ·exact P.ok _ c hk
  ·have:c.own=[]:=by
    have hm:c∈(mdR dc5).vw t++(mdR dc5).vw t:=List.mem_of_getElem? hi
    simp only[MD.vw,List.mem_append,List.mem_cons,List.not_mem_nil,or_false]at hm
    rcases hm with(rfl | rfl | rfl | rfl) | rfl | rfl | rfl | rfl<;>rfl
   rw[this]at hx;cases hx
 refine ai (R:=fun v h'=>v= .bool true/\Fr [] h8 h') [] ?_ (by simp) (fun _ _ r=>r.2) ?_
 ·have:=DC Hd (by decide)
  have es:cA (mdR dc5) (mdR dc5)=true:=by decide
  rw[es]at this;exact this
 rintro v h9 ⟨rfl,f9⟩
 exact⟨true,rfl,rfl,(F7.trans f8).trans f9⟩
theorem wV {s:ByteArray} {k:Nat} {x:UInt8} (hx:s.data.toList[k]? =some x) (h:G.fy x.toNat=false):iH s=false:=by
 unfold iH
 have:(s.data.toList.all fun c=>G.fy c.toNat)=false:=by
  rw[List.all_eq_false]
  exact⟨x,List.mem_of_getElem? hx,by simp[h]⟩
 rw[this];rfl
theorem F1 {s:ByteArray} {R:Bool->Prop} (r:R (iH s)):Ea s R:=by
 apply Ju
 unfold T32
 have hl:s.data.toList.length=s.size:=rfl
 refine ag (fun h=>?_) fun h=>?_
 ·have:iH s=false:=by unfold iH;rw[decide_eq_false (show ¬s.size<=256 by omega),Bool.and_false]
  rw[this]at r;exact r
 refine⟨fun i=>∃k:Nat,i=k/\k<=s.size/\(s.data.toList.take k).all (fun c=>G.fy c.toNat)=true,fun i=>((s.size:Int)-i).toNat,⟨0,rfl,by omega,by simp⟩,?_⟩
 rintro _ ⟨k,rfl,hk,ha⟩
 refine ag (fun hlt=>?_) fun hlt=>?_
 ·have hx:s.data.toList[k]? =some (s.data.toList[k]'(by omega)):=List.getElem?_eq_getElem (by omega)
  generalize s.data.toList[k]'(by omega)=x at hx
  have hx2:s[Int.toNat (k:Int)]? =some x:=by rw[Int.toNat_natCast,kD];exact hx
  refine⟨by omega,hlt,x,hx2,ag (fun q=>?_) fun q=>⟨by omega,hlt,x,hx2,ag (fun q2=>?_) fun q2=>?_⟩⟩
  ·rw[wV hx (by unfold G.fy;exact decide_eq_false (by omega))]at r;exact r
  ·rw[wV hx (by unfold G.fy;exact decide_eq_false (by omega))]at r;exact r
  ·rw[wr (by omega) (by omega)]
   refine⟨⟨k+1,by simp,by omega,?_⟩,by dsimp only;omega⟩
   rw[List.take_add_one,hx]
   simp only[List.all_append,ha,Bool.true_and,Option.toList,List.all_cons,List.all_nil,Bool.and_true]
   unfold G.fy;exact decide_eq_true (by omega)
 ·have hke:k=s.size:=by omega
  rw[hke,<-hl,List.take_length]at ha
  have e:iH s=true:=by
   unfold iH;rw[ha,decide_eq_true (show s.size<=256 by omega)];rfl
  rw[e]at r;exact r
section
variable {gl:GL} {h:ab} {aL:Option Addr} {nL cL:Nat} {ls:List ByteArray}
end
def S38 (n:Int) (h:ab) (R:VP):Prop:=cnd (decide (n<10)) (let m:ab:=h.push (.cells #[.int .u8 (u8.wrap (i64.wrap ((48:Int)+n)))] 5);∃p:List Int,Reads m 1 (some (⟨h.size,0,none⟩:Addr)) 1 (List.map (Value.int IntKind.u8) p)/\R (.string (strOf p)) m) (let d:=fun(u:ByteArray) (q:ab)=>(R (.string u) q);(10:Int)≠0/\(10:Int)≠0/\(ah Tryz.prog 38 #[.int .i64 (i64.wrap (Int.tdiv n (10:Int)))] h [] fun r e=>∃f:ByteArray,r= .string f/\Fr [] h e/\let b:ab:=e.push (.cells #[.int .u8 (u8.wrap (i64.wrap ((48:Int)+(Int.tmod n (10:Int)))))] 5);Fr [] h b/\∃j:List Int,Reads b 1 (some (⟨e.size,0,none⟩:Addr)) 1 (List.map (Value.int IntKind.u8) j)/\Fr [] h b/\(((f.size+(strOf j).size:Nat)):Int)<=9223372036854775807/\d (f++(strOf j)) b)/\(let a:ab:=h.push (.cells #[.int .u8 (u8.wrap (i64.wrap ((48:Int)+(Int.tmod n (10:Int)))))] 5);Fr [] h a/\(ah Tryz.prog 38 #[.int .i64 (i64.wrap (Int.tdiv n (10:Int)))] a [] fun s c=>∃g:ByteArray,s= .string g/\Fr [] h c/\∃k:List Int,Reads c 1 (some (⟨h.size,0,none⟩:Addr)) 1 (List.map (Value.int IntKind.u8) k)/\Fr [] h c/\(((g.size+(strOf k).size:Nat)):Int)<=9223372036854775807/\d (g++(strOf k)) c)/\(∃l:List Int,Reads a 1 (some (⟨h.size,0,none⟩:Addr)) 1 (List.map (Value.int IntKind.u8) l)/\Fr [] h a/\ah Tryz.prog 38 #[.int .i64 (i64.wrap (Int.tdiv n (10:Int)))] a [] fun t o=>∃i:ByteArray,t= .string i/\Fr [] h o/\(((i.size+(strOf l).size:Nat)):Int)<=9223372036854775807/\d (i++(strOf l)) o)))
theorem Bh {h:ab} {R:VP} (n:Int) (H:S38 n h R):af Tryz.prog 38 #[.int .i64 n] h R:=aI [] 20 [] [] [] [(3,⟨11,false⟩)] Tryz.func38 (by kernel_rfl) (by kernel_rfl) H
def DG (n:Int) (R:ByteArray->Prop):Prop:=
 ∀(h:ab),Hp h []->af Tryz.prog 38 #[.int .i64 n] h fun v h'=>∃(rV:ByteArray),Sy h [] h' []/\v= .string rV/\R rV
def T38 (n:Int) (R:ByteArray->Prop):Prop:=cnd (decide (n<10)) (R (strOf ([(u8.wrap (i64.wrap ((48:Int)+n)))]:List Int))) (∃a:ByteArray->Prop,((10:Int)≠0/\(10:Int)≠0/\DG (i64.wrap (Int.tdiv n (10:Int))) (fun b=>(((b.size+(strOf ([(u8.wrap (i64.wrap ((48:Int)+(Int.tmod n (10:Int)))))]:List Int)).size:Nat)):Int)<=9223372036854775807/\a (b++(strOf ([(u8.wrap (i64.wrap ((48:Int)+(Int.tmod n (10:Int)))))]:List Int)))))/\∀c:ByteArray,a c->R c)
theorem Jh {n} {R:ByteArray->Prop} (T:T38 n R):DG n R:=by
 intro h H;have Y:Sy h [] h _:=Sy.startM H rfl;apply Bh;unfold S38;unfold T38 at T;refine ae T (fun T=>?_) (fun T=>?_)
 ·intro hv;have Y:Sy _ _ hv [_]:=Y.litS (E:=(eK .u8)) (ty:=5) ([(u8.wrap (i64.wrap ((48:Int)+n)))]:List Int) rfl (by simp[maxLen]);clear_value hv;refine⟨_,ja (Y.readsS 0 rfl),?_⟩;exact⟨_,Y.pick [] rfl,rfl,T⟩
 ·obtain⟨Jv,T0,T1⟩:=T;obtain⟨B,hB,_⟩:=Y.cut [] [] rfl;intro K;have hK:∀(x:ByteArray) (hv7:ab),(Sy h [] hv7 ([]++B)/\Jv x)->K x hv7:=by
   subst hB;clear T0 Y;rintro x hv7 ⟨Y,T⟩;replace T:=T1 x T;have Y:Sy _ _ _ []:=Y;unfold K;exact⟨_,Y.pick [] rfl,rfl,T⟩
  subst hB;replace T:=T0;clear T0 T1;have Y0:=Y;have F:Fr [] h h:=Fr.refl _ _;obtain⟨q_5,T⟩:=T;refine⟨q_5,?_⟩;obtain⟨q_4,T⟩:=T;refine⟨q_4,?_⟩;refine⟨?_,?_⟩
  ·refine aj (T _ (Hp.nil _)) (fun _ _ ⟨_,p,_⟩=>p.fr) aF ?_;rintro v hv2 ⟨r,PP,rfl,T⟩;have F:Fr _ _ hv2:=F.trans PP.fr.nil;have fshv2:=F.size;have Y:Sy _ _ hv2 []:=Y.gr PP.fr;clear PP;refine⟨r,rfl,?_⟩;refine⟨F,?_⟩;intro hv3;have Y:Sy _ _ hv3 [_]:=Y.litS (E:=(eK .u8)) (ty:=5) ([(u8.wrap (i64.wrap ((48:Int)+(Int.tmod n (10:Int)))))]:List Int) rfl (by simp[maxLen]);have F:Fr _ _ hv3:=F.pushr _;have fshv3:=F.size;clear_value hv3;refine⟨F,?_⟩;refine⟨_,ja (Y.readsS 0 rfl),?_⟩;refine⟨F,?_⟩;obtain⟨q,T⟩:=T;refine⟨q,?_⟩;exact hK _ _ ⟨Y.pick [] rfl,T⟩
  ·intro hv4;have Y:Sy _ _ hv4 [_]:=Y.litS (E:=(eK .u8)) (ty:=5) ([(u8.wrap (i64.wrap ((48:Int)+(Int.tmod n (10:Int)))))]:List Int) rfl (by simp[maxLen]);have F:Fr _ _ hv4:=F.pushr _;have fshv4:=F.size;clear_value hv4;refine⟨F,?_⟩;refine⟨?_,?_⟩
   ·refine aj (T _ (Hp.nil _)) (fun _ _ ⟨_,p,_⟩=>p.fr) aF ?_;rintro v2 hv5 ⟨r2,PP,rfl,T⟩;have F:Fr _ _ hv5:=F.trans PP.fr.nil;have fshv5:=F.size;have Y:Sy _ _ hv5 [_]:=Y.gr PP.fr;clear PP;refine⟨r2,rfl,?_⟩;refine⟨F,?_⟩;refine⟨_,ja (Y.readsS 0 rfl),?_⟩;refine⟨F,?_⟩;obtain⟨q_2,T⟩:=T;refine⟨q_2,?_⟩;exact hK _ _ ⟨Y.pick [] rfl,T⟩
   ·refine⟨_,ja (Y.readsS 0 rfl),?_⟩;refine⟨F,?_⟩;refine aj (T _ (Hp.nil _)) (fun _ _ ⟨_,p,_⟩=>p.fr) aF ?_;rintro v3 hv6 ⟨r3,PP,rfl,T⟩;have F:Fr _ _ hv6:=F.trans PP.fr.nil;have fshv6:=F.size;have Y:Sy _ _ hv6 [_]:=Y.gr PP.fr;clear PP;refine⟨r3,rfl,?_⟩;refine⟨F,?_⟩;obtain⟨q_3,T⟩:=T;refine⟨q_3,?_⟩;exact hK _ _ ⟨Y.pick [] rfl,T⟩
theorem tJ (xs:List Int):(strOf xs).data.toList=xs.map fun n=>UInt8.ofNat n.toNat:=by
 have gen:∀(xs:List Int) (b:ByteArray),(xs.foldl (fun r n=>r.push (UInt8.ofNat n.toNat)) b).data.toList=b.data.toList++xs.map fun n=>UInt8.ofNat n.toNat:=by
  intro xs
  induction xs with
  | nil=>intro b;simp
  | cons x xs ih=>intro b;rw[List.foldl_cons,ih];simp[ByteArray.push]
 have:=gen xs ByteArray.empty
 unfold strOf
 rw[this];rfl
theorem qd (l:List UInt8):strOf (bI l)=G.mkB l:=by
 apply ByteArray.ext;apply Array.ext'
 rw[tJ,jQ,bI,List.map_map]
 conv=>rhs;rw[<-List.map_id l]
 apply List.map_congr_left
 intro x _
 simp
theorem Dw {n:Nat}:(strOf [u8.wrap (i64.wrap (48+((n % 10:Nat):Int)))]).data.toList=[G.dg n]:=by
 rw[tJ]
 have h:n % 10<10:=Nat.mod_lt _ (by decide)
 rw[wr (by omega) (by omega),u8w (by omega) (by omega)]
 show [UInt8.ofNat (48+((n % 10:Nat):Int)).toNat]=[UInt8.ofNat (48+n % 10)]
 congr 2
theorem CP :∀(n:Nat),n<=1000000000000->∀{R:ByteArray->Prop},(∀s:ByteArray,s.data.toList=G.dec n->R s)->DG (n:Int) R:=by
 intro n
 induction n using Nat.strongRecOn with
 | _ n ih=>
  intro hn R r
  apply Jh
  unfold T38
  refine ag (fun h=>?_) fun h=>?_
  ·have e:(n:Int)=((n % 10:Nat):Int):=by omega
   refine r _ ?_
   rw[e,Dw,G.dec,if_pos (by omega)]
  ·refine⟨fun x=>x.data.toList=G.dec n,⟨by decide,by decide,?_⟩,fun x hx=>r x hx⟩
   have e1:i64.wrap (Int.tdiv (n:Int) 10)=((n/10:Nat):Int):=by
    have:Int.tdiv (n:Int) 10=((n/10:Nat):Int):=by rw[Int.tdiv_eq_ediv_of_nonneg (by omega)];omega
    rw[this,wr (by omega) (by omega)]
   have e2:Int.tmod (n:Int) 10=((n % 10:Nat):Int):=rfl
   rw[e1,e2]
   refine ih (n/10) (by omega) (by omega) fun s hs=>⟨?_,?_⟩
   ·have h1:s.size=(G.dec (n/10)).length:=by rw[<-hs];rfl
    have h2:(strOf [u8.wrap (i64.wrap (48+((n % 10:Nat):Int)))]).size=1:=by
     show(strOf [u8.wrap (i64.wrap (48+((n % 10:Nat):Int)))]).data.toList.length=1
     rw[Dw];rfl
    have:=G.kN 12 (n/10) (by omega)
    rw[h1,h2];omega
   ·show(s++strOf [u8.wrap (i64.wrap (48+((n % 10:Nat):Int)))]).data.toList=G.dec n
    rw[ByteArray.data_append,Array.toList_append,hs,Dw,G.dec.eq_def n,if_neg (show ¬n<10 by omega)]
theorem F0 {a b:Int} {xs ys:Es} (hx:xs.length<=9223372036854775807) {R:Bool->Prop} (r:R (decide (a=b)&&decide (xs=ys))):Ef a xs b ys R:=by
 apply Jx
 unfold T35
 refine bz (fun h=>?_) fun h=>?_
 ·rw[decide_eq_false h,Bool.false_and]at r;exact r
 rw[decide_eq_true h,Bool.true_and,<-oV]at r
 refine bz (fun h=>?_) fun h=>?_
 ·rw[fF (by omega)]at r;exact r
 refine⟨fun i=>∃k:Nat,i=k/\k<=xs.length/\((xs.zip ys).take k).all (fun p=>decide (p.1=p.2))=true,fun i=>((xs.length:Int)-i).toNat,⟨0,rfl,by omega,by simp⟩,?_⟩
 rintro _ ⟨k,rfl,hk,ha⟩
 refine ag (fun hlt=>⟨by omega,hlt,fun x hx=>⟨by omega,by omega,fun y hy=>?_⟩⟩) fun hlt=>?_
 ·have hx:xs[k]? =some x:=by simpa using hx
  have hy:ys[k]? =some y:=by simpa using hy
  have e:((x.1==y.1)&&(x.2==y.2))=decide (x=y):=by
   rw[Bool.eq_iff_iff];simp[Prod.ext_iff]
  rw[e]
  refine aK (fun q=>?_) fun q=>?_
  ·rw[gh (f:=fun x y=>decide (x=y)) hx hy q]at r;exact r
  ·rw[wr (by omega) (by omega)]
   exact⟨⟨k+1,by simp,by omega,dH (f:=fun x y=>decide (x=y)) hx hy q ha⟩,by dsimp only;omega⟩
 ·rw[fG (f:=fun x y=>decide (x=y)) (by omega) (show xs.length<=k by omega) ha]at r;exact r
section
variable {h0 h:ab} {C B:List Ck} {H:List Nat} {A:Option Addr} {n c:Nat} {l:List UInt8}
theorem qe {s:ByteArray} {K:Option Addr->Nat->ab->Prop} (Q:Sq h0 C h ([Ck.sl (eK .u8) 5 A n c (bI l)]++B)) (hd:Hd H B) (hn:n+s.size<=100000000)
  (R:∀sA sC h',Sq h0 C h' ([Ck.sl (eK .u8) 5 sA (n+s.size) sC (bI (l++s.data.toList))]++B)->Fr (am A) h h'->K sA sC h'):
  ∃old,bn h 5 1 A n c old/\(∀b∈H,b∉am A)/\(n+s.size)*1<=140737488355328/\(n+s.size)<=maxLen/\
   ∀sA sC h',bn h' 5 1 sA (n+s.size) sC (old++Lib.strCells s)->Fr (am A) h h'->((sA=A/\sC=c)\/∃g,sA=some ⟨g,0,none⟩/\h.size<=g)->(c<(n+s.size)->Fr [] h h')->K sA sC h':=by
 have Y:=Q.sy
 refine⟨(eK .u8).l (bI l),Y.ownS 0 rfl,fun x hx=>?_,by omega,by unfold maxLen;omega,fun sA sC h' ow f g _=>?_⟩
 ·have:=(hd.apart Q x hx).2
  simpa[ao,Ck.sl]using this
 have e:Lib.strCells s=(eK .u8).l (bI s.data.toList):=(fv s).symm
 rw[e]at ow
 have Y1:=Y.appS 0 rfl (bI s.data.toList) ow f g rfl (by rw[lF];rfl)
 refine R sA sC h' ⟨?_,fun x hx=>Q.ri x (by simpa[rds,Ck.sl]using hx)⟩ f
 rw[oP];exact Y1
theorem Sq.mark {a:Nat} (Q:Sq h0 C h ([Ck.sl (eK .u8) 5 (some ⟨a,0,none⟩) n c (bI l)]++B)):Sq h0 C (dY h a) ([Ck.sl (eK .u8) 5 (some ⟨a,0,none⟩) n c (bI l)]++B):=by
 obtain⟨ow,ln⟩:bn h 5 1 (some ⟨a,0,none⟩) n c ((eK .u8).l (bI l))/\_:=Q.sy.ok (k:=0) rfl
 have f:=qD h a
 refine⟨Q.sy.mut (k:=0) (c:=Ck.sl (eK .u8) 5 (some ⟨a,0,none⟩) n c (bI l)) rfl (Ck.sl (eK .u8) 5 (some ⟨a,0,none⟩) n c (bI l)) f.size (fun b hb hn=>f.blk b hb (by simpa[Ck.sl,am]using hn)) ⟨⟨ow.1,?_⟩,ln⟩ (fun b hb=>.inl hb) (fun b hb=>by simp[Ck.sl]at hb),fun x hx=>Q.ri x (by simpa[rds,Ck.sl]using hx)⟩
 rcases ow.2 with q | ⟨g,cur,q1,q2,q3⟩
 ·exact .inl q
 ·obtain rfl:a=g:=by simpa using q1
  exact .inr ⟨a,cur,rfl,q2.mark,q3⟩
end
def sT (A:Option Addr) (n c:Nat) (l:List UInt8):List Ck:=[Ck.sl (eK .u8) 5 A n c (bI l)]
section
variable {gl:GL} {h:ab} {gA:Option Addr} {gL gC:Nat} {es:Es} {g k:Int} {up:Bool}
end
end Go.Proofs.YtlflalecmhgmjaaGreatDoor.N
