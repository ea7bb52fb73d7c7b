/- A node, an edge more. Conditions: none. -/
import Derived.Test.YtemclecmafjjfaaGreatDoorHKey3
set_option linter.unusedVariables false
set_option linter.unusedSimpArgs false
open Go.IntKind (i64 u64 u8 i32)
namespace Go.Proofs.YtemclecmafjjfaaGreatDoor.N
open Go.Proofs.YtemclecmafjjfaaGreatDoor
open Go.X
set_option maxRecDepth 100000
section
variable {gl:GL} {b d:Nat} {s:ByteArray} {A:AD} {σ:G.Rd}
theorem fl {h0 h:ab} {M:List Nat} {cs:List Ck} (Y:Sy h0 M h cs) (k:Nat) {c:Ck} (hk:cs[k]? =some c):∀x∈c.own,x<h.size:=(c.lt h (Y.ok hk)).1
theorem Jy {cl:Nat->Nat} {h0 h:ab} {M:List Nat} {c7 c8:Ck} (Y:Sy h0 M h (stC gl b s A σ d++[c7,c8])) (ri:G.RI cl s σ) (hn:σ.n<1024):
  ae Tryz.prog 100 #[pt b] h fun w h'=>Fr (ao (stC gl b s A σ d)) h h'/\∃A' xR xV m xM t,h.size<=xR/\h.size<=xV/\h.size<=m/\h.size<=xM/\h.size<=t/\w=pt t/\
   Sy h0 M h' (stC gl b s A' {σ with n:=σ.n+1,labels:=σ.labels++[G.noB],spots:=σ.spots++[(0,0)]} d++[c7,c8,Ck.ob xR 60 [pt b],Ck.ob xV 3 [.int .i64 (σ.n:Int)],Ck.mp m [],Ck.ob xM 115 [.map (some m)],
    Ck.ob t 119 [.int .i64 1,.nilFunc,fnV 132 #[pt xM,pt xR,pt xV],fnV 136 #[pt xM]]]):=by
 apply AQ
 unfold J7
 intro hv
 have Y1:Sy h0 M hv (stC gl b s A σ d++[c7,c8,Ck.ob h.size 60 [pt b]]):=Sy.newO Y [pt b]
 have s1:hv.size=h.size+1:=by simp[hv]
 have f1:Fr (ao (stC gl b s A σ d)) h hv:=(Fr.push h _).nil
 clear_value hv
 refine⟨_,Y1.cellO 9 rfl 0 rfl,b,0,rfl,(σ.n:Int),Y1.cellO 0 rfl 3 rfl,?_⟩
 intro hv2
 have Y2:Sy h0 M hv2 (stC gl b s A σ d++[c7,c8,Ck.ob h.size 60 [pt b],Ck.ob hv.size 3 [.int .i64 0]]):=Sy.newO Y1 [.int .i64 0]
 have s2:hv2.size=h.size+2:=by simp[hv2,s1]
 refine⟨⟨_,Y2.cellO 10 rfl 0 rfl⟩,Y2.freeO 10 rfl 0,?_⟩
 intro hv3
 have Y3:Sy h0 M hv3 (stC gl b s A σ d++[c7,c8,Ck.ob h.size 60 [pt b],Ck.ob hv.size 3 [.int .i64 (σ.n:Int)]]):=Y2.stO 10 rfl 0 _
 have s3:hv3.size=h.size+2:=by simp[hv3,s2]
 have f3:Fr (ao (stC gl b s A σ d)) h hv3:=(f1.pushr _).hsetL (by omega)
 clear_value hv3
 clear hv2 Y2 s2
 refine⟨_,Y3.cellO 9 rfl 0 rfl,b,0,rfl,(σ.n:Int),Y3.cellO 0 rfl 3 rfl,b,0,rfl,⟨_,Y3.cellO 0 rfl 3 rfl⟩,Y3.freeO 0 rfl 3,?_⟩
 rw[wrN (by omega)]
 intro hv4
 have Y4:Sy h0 M hv4 (stC gl b s A {σ with n:=σ.n+1} d++[c7,c8,Ck.ob h.size 60 [pt b],Ck.ob hv.size 3 [.int .i64 (σ.n:Int)]]):=Y3.stO 0 rfl 3 _
 have s4:hv4.size=h.size+2:=by simp[hv4,s3]
 have f4:Fr (ao (stC gl b s A σ d)) h hv4:=f3.hsetr (.inr (by simp[ao,stC,Ck.ob]))
 clear_value hv4
 clear Y3 s3 f3
 intro K
 have fin:∀(p:Nat) (hvx:ab) (A':AD),p<hvx.size->Fr (ao (stC gl b s A σ d)) h hvx->hv4.size<=hvx.size->Sy h0 M hvx (stC gl b s A' {σ with n:=σ.n+1,labels:=σ.labels++[G.noB],spots:=σ.spots++[(0,0)]} d++[c7,c8,Ck.ob h.size 60 [pt b],Ck.ob hv.size 3 [.int .i64 (σ.n:Int)]])->K p hvx:=by
  intro p hvx A' hp fx sx Yx
  dsimp-zeta only[K]
  intro hv23 hv24
  have Y23:Sy h0 M hv23 (stC gl b s A' {σ with n:=σ.n+1,labels:=σ.labels++[G.noB],spots:=σ.spots++[(0,0)]} d++[c7,c8,Ck.ob h.size 60 [pt b],Ck.ob hv.size 3 [.int .i64 (σ.n:Int)],Ck.mp hvx.size []]):=Sy.newM Yx
  have s23:hv23.size=hvx.size+1:=by simp[hv23]
  have Y24:Sy h0 M hv24 (stC gl b s A' {σ with n:=σ.n+1,labels:=σ.labels++[G.noB],spots:=σ.spots++[(0,0)]} d++[c7,c8,Ck.ob h.size 60 [pt b],Ck.ob hv.size 3 [.int .i64 (σ.n:Int)],Ck.mp hvx.size [],Ck.ob hv23.size 115 [.map none]]):=Sy.newO Y23 [.map none]
  have f24:Fr (ao (stC gl b s A σ d)) h hv24:=(fx.pushr _).pushr _
  have hs:h.size<=hvx.size:=by omega
  refine⟨by omega,by omega,⟨_,Y24.cellO 12 rfl 0 rfl⟩,Y24.freeO 12 rfl 0,?_⟩
  intro hv25 hv26
  have s25:hv25.size=hvx.size+2:=by simp[hv25,hv24,s23]
  have Y25:Sy h0 M hv25 (stC gl b s A' {σ with n:=σ.n+1,labels:=σ.labels++[G.noB],spots:=σ.spots++[(0,0)]} d++[c7,c8,Ck.ob h.size 60 [pt b],Ck.ob hv.size 3 [.int .i64 (σ.n:Int)],Ck.mp hvx.size [],Ck.ob hv23.size 115 [.map (some hvx.size)]]):=Y24.stO 12 rfl 0 _
  have Y26:=Sy.newO (ty:=119) Y25 [.int .i64 1,.nilFunc,fnV 132 #[pt hv23.size,pt h.size,pt hv.size],fnV 136 #[pt hv23.size]]
  exact⟨(f24.hsetL (by omega)).pushr _,A',h.size,hv.size,hvx.size,hv23.size,hv25.size,by omega,by omega,by omega,by omega,by omega,rfl,Y26⟩
 have hL:∀x∈ah A.aL,x<h.size/\x≠b:=fun x hx=>⟨fl Y 2 rfl x hx,fun e=>(Y.hp.ap 2 0 _ _ (by decide) rfl rfl x hx).1 (by simp[Ck.ob,e])⟩
 have hS:∀x∈ah A.aS,x<h.size/\x≠b:=fun x hx=>⟨fl Y 3 rfl x hx,fun e=>(Y.hp.ap 3 0 _ _ (by decide) rfl rfl x hx).1 (by simp[Ck.ob,e])⟩
 have hbl:b<h.size:=fl Y 0 rfl b (by simp[Ck.ob])
 have hM1:∀x,(x=b\/h.size<=x)->x∉ah A.aL++ah A.aS:=by
  intro x hx q
  rcases List.mem_append.1 q with q | q
  ·have:=hL x q;omega
  ·have:=hS x q;omega
 have hM2:∀x,h.size<=x->x∉b::(ah A.aL++ah A.aS):=by
  intro x hx q
  rcases List.mem_cons.1 q with rfl | q
  ·omega
  simp_all
 have hll:=ri.ll
 have hsl:=ri.sl
 refine⟨ah A.aL++ah A.aS,b::(ah A.aL++ah A.aS),fun x q=>List.mem_cons_of_mem _ q,by simp,hM1 _ (.inr (Nat.le_refl _)),_,Y4.cellO 9 rfl 0 rfl,hM2 _ (Nat.le_refl _),_,Y4.cellO 9 rfl 0 rfl,hM1 _ (.inr (Nat.le_refl _)),_,Y4.cellO 9 rfl 0 rfl,
  b,0,rfl,hM1 _ (.inl rfl),A.aL,σ.labels.length,A.cL,Y4.cellO 0 rfl 11 rfl,hM2 _ (Nat.le_refl _),_,Y4.cellO 9 rfl 0 rfl,b,0,rfl,hM1 _ (.inl rfl),A.aS,σ.spots.length,A.cS,Y4.cellO 0 rfl 12 rfl,?_,?_⟩
 ·intro hp1
  have sp1:hp1.size=hv4.size+1:=by simp[hp1]
  have Z1:Sy h0 M hp1 (stC gl b s A {σ with n:=σ.n+1} d++[c7,c8,Ck.ob h.size 60 [pt b],Ck.ob hv.size 3 [.int .i64 (σ.n:Int)]]):=Sy.gr Y4 (Fr.push _ _)
  have g1:Fr (ah A.aL++ah A.aS) hv4 hp1:=(Fr.refl _ _).trans (Fr.push _ _).nil
  clear_value hp1
  refine⟨g1,?_,?_⟩
  ·refine⟨_,Z1.ownS 2 rfl,fun x hx q=>?_,by omega,by simp only[maxLen];omega,fun sA sC ha ow f gg _=>?_⟩
   ·simp_all
   have Za:=Z1.appS 2 rfl [G.noB] ow f gg rfl rfl
   have ga:Fr (ah A.aL++ah A.aS) hv4 ha:=g1.trans (f.mono fun x q=>List.mem_append.2 (.inl q))
   have sa:hp1.size<=ha.size:=f.size
   refine⟨ga,?_⟩
   intro hp2
   have sp2:hp2.size=ha.size+1:=by simp[hp2]
   have Z2:=Sy.gr Za (Fr.push ha (.cells #[.float .f64 0,.float .f64 0] 71))
   have g2:Fr (ah A.aL++ah A.aS) hv4 hp2:=ga.trans (Fr.push _ _).nil
   refine⟨g2,?_⟩
   refine⟨_,Z2.ownS 3 rfl,fun x hx q=>?_,by omega,by simp only[maxLen];omega,fun sA2 sC2 hb ow2 f2 gg2 _=>?_⟩
   ·have:=(hS x q).1
    simp only[List.mem_cons,List.not_mem_nil,or_false]at hx
    omega
   have Zb:=Z2.appS 3 rfl [((0:Nat),(0:Nat))] ow2 f2 gg2 rfl rfl
   have gb:Fr (ah A.aL++ah A.aS) hv4 hb:=g2.trans (f2.mono fun x q=>List.mem_append.2 (.inr q))
   have sb:hp2.size<=hb.size:=f2.size
   refine⟨gb,b,0,rfl,by omega,by omega,⟨_,Zb.cellO 0 rfl 11 rfl⟩,Zb.freeO 0 rfl 11,?_⟩
   intro hc
   have Zc:=Zb.stO 0 rfl 11 (.slice sA (σ.labels.length+1) sC)
   have gc:Fr (b::(ah A.aL++ah A.aS)) hv4 hc:=(gb.mono fun x q=>List.mem_cons_of_mem _ q).hsetr (.inr (by simp))
   have sc:hc.size=hb.size:=by simp[hc]
   refine⟨gc,b,0,rfl,by omega,by omega,⟨_,Zc.cellO 0 rfl 12 rfl⟩,Zc.freeO 0 rfl 12,?_⟩
   intro hd
   have Zd:=Zc.stO 0 rfl 12 (.slice sA2 (σ.spots.length+1) sC2)
   have gd:Fr (b::(ah A.aL++ah A.aS)) hv4 hd:=gc.hsetr (.inr (by simp))
   have sd:hd.size=hc.size:=by simp[hd]
   refine⟨gd,?_⟩
   have Ze:Sy h0 M hd ([Ck.ob b 67 [.string s,.int .i64 (σ.i:Int),.int .i64 (d:Int),.int .i64 ((σ.n+1:Nat):Int),.slice none 0 0,.bool σ.dir,.slice none 0 0,.slice none 0 0,.slice none 0 0,.bool σ.graph,.map (some A.mp),
     .slice sA (σ.labels.length+1) sC,.slice sA2 (σ.spots.length+1) sC2,.slice A.aW σ.weights.length A.cW,.bool σ.h0,.bool σ.h1,.bool σ.h2,.slice A.aE σ.ends.length A.cE],
     Ck.mp A.mp (gY σ.ids),Ck.sl eS 9 sA (σ.labels.length+1) sC (σ.labels++[G.noB]),Ck.sl eFF 71 sA2 (σ.spots.length+1) sC2 (σ.spots++[((0:Nat),(0:Nat))]),Ck.sl eF 54 A.aW σ.weights.length A.cW σ.weights,
     Ck.sl eT 97 A.aE σ.ends.length A.cE σ.ends,Ck.glob gl]++[c7,c8,Ck.ob h.size 60 [pt b],Ck.ob hv.size 3 [.int .i64 (σ.n:Int)]]):=Zd
   have l1:σ.labels.length+1=(σ.labels++[G.noB]).length:=by simp
   have l2:σ.spots.length+1=(σ.spots++[((0:Nat),(0:Nat))]).length:=by simp
   rw[l1,l2]at Ze
   refine fin ha.size hd {A with aL:=sA,cL:=sC,aS:=sA2,cS:=sC2} (by omega) (f4.trans (gd.mono fun x q=>?_)) (by omega) Ze
   ·simp only[List.mem_cons,List.mem_append]at q
    simp only[ao,stC,List.flatMap_cons,Ck.ob,Ck.mp,Ck.sl,List.mem_append,List.mem_cons,List.not_mem_nil,or_false]
    grind
  ·intro hp2
   have sp2:hp2.size=hp1.size+1:=by simp[hp2]
   have Z2:Sy h0 M hp2 (stC gl b s A {σ with n:=σ.n+1} d++[c7,c8,Ck.ob h.size 60 [pt b],Ck.ob hv.size 3 [.int .i64 (σ.n:Int)]]):=Sy.gr Z1 (Fr.push _ _)
   have g2:Fr (ah A.aL++ah A.aS) hv4 hp2:=g1.trans (Fr.push _ _).nil
   clear_value hp2
   refine⟨g2,?_⟩
   refine⟨_,Z2.ownS 2 rfl,fun x hx q=>?_,by omega,by simp only[maxLen];omega,fun sA sC ha ow f gg _=>?_⟩
   ·have:=(hL x q).1
    simp only[List.mem_cons,List.not_mem_nil,or_false]at hx
    omega
   have Za:=Z2.appS 2 rfl [G.noB] ow f gg rfl rfl
   have ga:Fr (ah A.aL++ah A.aS) hv4 ha:=g2.trans (f.mono fun x q=>List.mem_append.2 (.inl q))
   have sa:hp2.size<=ha.size:=f.size
   refine⟨ga,?_⟩
   refine⟨_,Za.ownS 3 rfl,fun x hx q=>?_,by omega,by simp only[maxLen];omega,fun sA2 sC2 hb ow2 f2 gg2 _=>?_⟩
   ·have:=(hS x q).1
    simp only[List.mem_cons,List.not_mem_nil,or_false]at hx
    omega
   have Zb:=Za.appS 3 rfl [((0:Nat),(0:Nat))] ow2 f2 gg2 rfl rfl
   have gb:Fr (ah A.aL++ah A.aS) hv4 hb:=ga.trans (f2.mono fun x q=>List.mem_append.2 (.inr q))
   have sb:ha.size<=hb.size:=f2.size
   refine⟨gb,b,0,rfl,by omega,by omega,⟨_,Zb.cellO 0 rfl 11 rfl⟩,Zb.freeO 0 rfl 11,?_⟩
   intro hc
   have Zc:=Zb.stO 0 rfl 11 (.slice sA (σ.labels.length+1) sC)
   have gc:Fr (b::(ah A.aL++ah A.aS)) hv4 hc:=(gb.mono fun x q=>List.mem_cons_of_mem _ q).hsetr (.inr (by simp))
   have sc:hc.size=hb.size:=by simp[hc]
   refine⟨gc,b,0,rfl,by omega,by omega,⟨_,Zc.cellO 0 rfl 12 rfl⟩,Zc.freeO 0 rfl 12,?_⟩
   intro hd
   have Zd:=Zc.stO 0 rfl 12 (.slice sA2 (σ.spots.length+1) sC2)
   have gd:Fr (b::(ah A.aL++ah A.aS)) hv4 hd:=gc.hsetr (.inr (by simp))
   have sd:hd.size=hc.size:=by simp[hd]
   refine⟨gd,?_⟩
   have Ze:Sy h0 M hd ([Ck.ob b 67 [.string s,.int .i64 (σ.i:Int),.int .i64 (d:Int),.int .i64 ((σ.n+1:Nat):Int),.slice none 0 0,.bool σ.dir,.slice none 0 0,.slice none 0 0,.slice none 0 0,.bool σ.graph,.map (some A.mp),
     .slice sA (σ.labels.length+1) sC,.slice sA2 (σ.spots.length+1) sC2,.slice A.aW σ.weights.length A.cW,.bool σ.h0,.bool σ.h1,.bool σ.h2,.slice A.aE σ.ends.length A.cE],
     Ck.mp A.mp (gY σ.ids),Ck.sl eS 9 sA (σ.labels.length+1) sC (σ.labels++[G.noB]),Ck.sl eFF 71 sA2 (σ.spots.length+1) sC2 (σ.spots++[((0:Nat),(0:Nat))]),Ck.sl eF 54 A.aW σ.weights.length A.cW σ.weights,
     Ck.sl eT 97 A.aE σ.ends.length A.cE σ.ends,Ck.glob gl]++[c7,c8,Ck.ob h.size 60 [pt b],Ck.ob hv.size 3 [.int .i64 (σ.n:Int)]]):=Zd
   have l1:σ.labels.length+1=(σ.labels++[G.noB]).length:=by simp
   have l2:σ.spots.length+1=(σ.spots++[((0:Nat),(0:Nat))]).length:=by simp
   rw[l1,l2]at Ze
   refine fin hp1.size hd {A with aL:=sA,cL:=sC,aS:=sA2,cS:=sC2} (by omega) (f4.trans (gd.mono fun x q=>?_)) (by omega) Ze
   ·simp only[List.mem_cons,List.mem_append]at q
    simp only[ao,stC,List.flatMap_cons,Ck.ob,Ck.mp,Ck.sl,List.mem_append,List.mem_cons,List.not_mem_nil,or_false]
    grind
 ·intro hp1
  have sp1:hp1.size=hv4.size+1:=by simp[hp1]
  have Z1:Sy h0 M hp1 (stC gl b s A {σ with n:=σ.n+1} d++[c7,c8,Ck.ob h.size 60 [pt b],Ck.ob hv.size 3 [.int .i64 (σ.n:Int)]]):=Sy.gr Y4 (Fr.push _ _)
  have g1:Fr (ah A.aL++ah A.aS) hv4 hp1:=(Fr.refl _ _).trans (Fr.push _ _).nil
  clear_value hp1
  refine⟨g1,?_⟩
  intro hp2
  have sp2:hp2.size=hp1.size+1:=by simp[hp2]
  have Z2:Sy h0 M hp2 (stC gl b s A {σ with n:=σ.n+1} d++[c7,c8,Ck.ob h.size 60 [pt b],Ck.ob hv.size 3 [.int .i64 (σ.n:Int)]]):=Sy.gr Z1 (Fr.push _ _)
  have g2:Fr (ah A.aL++ah A.aS) hv4 hp2:=g1.trans (Fr.push _ _).nil
  clear_value hp2
  refine⟨g2,?_⟩
  refine⟨_,Z2.ownS 2 rfl,fun x hx q=>?_,by omega,by simp only[maxLen];omega,fun sA sC ha ow f gg _=>?_⟩
  ·have:=(hL x q).1
   simp only[List.mem_cons,List.not_mem_nil,or_false]at hx
   omega
  have Za:=Z2.appS 2 rfl [G.noB] ow f gg rfl rfl
  have ga:Fr (ah A.aL++ah A.aS) hv4 ha:=g2.trans (f.mono fun x q=>List.mem_append.2 (.inl q))
  have sa:hp2.size<=ha.size:=f.size
  refine⟨ga,?_⟩
  refine⟨_,Za.ownS 3 rfl,fun x hx q=>?_,by omega,by simp only[maxLen];omega,fun sA2 sC2 hb ow2 f2 gg2 _=>?_⟩
  ·have:=(hS x q).1
   simp only[List.mem_cons,List.not_mem_nil,or_false]at hx
   omega
  have Zb:=Za.appS 3 rfl [((0:Nat),(0:Nat))] ow2 f2 gg2 rfl rfl
  have gb:Fr (ah A.aL++ah A.aS) hv4 hb:=ga.trans (f2.mono fun x q=>List.mem_append.2 (.inr q))
  have sb:ha.size<=hb.size:=f2.size
  refine⟨gb,b,0,rfl,by omega,by omega,⟨_,Zb.cellO 0 rfl 11 rfl⟩,Zb.freeO 0 rfl 11,?_⟩
  intro hc
  have Zc:=Zb.stO 0 rfl 11 (.slice sA (σ.labels.length+1) sC)
  have gc:Fr (b::(ah A.aL++ah A.aS)) hv4 hc:=(gb.mono fun x q=>List.mem_cons_of_mem _ q).hsetr (.inr (by simp))
  have sc:hc.size=hb.size:=by simp[hc]
  refine⟨gc,b,0,rfl,by omega,by omega,⟨_,Zc.cellO 0 rfl 12 rfl⟩,Zc.freeO 0 rfl 12,?_⟩
  intro hd
  have Zd:=Zc.stO 0 rfl 12 (.slice sA2 (σ.spots.length+1) sC2)
  have gd:Fr (b::(ah A.aL++ah A.aS)) hv4 hd:=gc.hsetr (.inr (by simp))
  have sd:hd.size=hc.size:=by simp[hd]
  refine⟨gd,?_⟩
  have Ze:Sy h0 M hd ([Ck.ob b 67 [.string s,.int .i64 (σ.i:Int),.int .i64 (d:Int),.int .i64 ((σ.n+1:Nat):Int),.slice none 0 0,.bool σ.dir,.slice none 0 0,.slice none 0 0,.slice none 0 0,.bool σ.graph,.map (some A.mp),
    .slice sA (σ.labels.length+1) sC,.slice sA2 (σ.spots.length+1) sC2,.slice A.aW σ.weights.length A.cW,.bool σ.h0,.bool σ.h1,.bool σ.h2,.slice A.aE σ.ends.length A.cE],
    Ck.mp A.mp (gY σ.ids),Ck.sl eS 9 sA (σ.labels.length+1) sC (σ.labels++[G.noB]),Ck.sl eFF 71 sA2 (σ.spots.length+1) sC2 (σ.spots++[((0:Nat),(0:Nat))]),Ck.sl eF 54 A.aW σ.weights.length A.cW σ.weights,
    Ck.sl eT 97 A.aE σ.ends.length A.cE σ.ends,Ck.glob gl]++[c7,c8,Ck.ob h.size 60 [pt b],Ck.ob hv.size 3 [.int .i64 (σ.n:Int)]]):=Zd
  have l1:σ.labels.length+1=(σ.labels++[G.noB]).length:=by simp
  have l2:σ.spots.length+1=(σ.spots++[((0:Nat),(0:Nat))]).length:=by simp
  rw[l1,l2]at Ze
  refine fin hp1.size hd {A with aL:=sA,cL:=sC,aS:=sA2,cS:=sC2} (by omega) (f4.trans (gd.mono fun x q=>?_)) (by omega) Ze
  ·simp only[List.mem_cons,List.mem_append]at q
   simp only[ao,stC,List.flatMap_cons,Ck.ob,Ck.mp,Ck.sl,List.mem_append,List.mem_cons,List.not_mem_nil,or_false]
   grind
theorem Jz {cl:Nat->Nat} {h0 h:ab} {M:List Nat} {c7 c8:Ck} (Y:Sy h0 M h (stC gl b s A σ d++[c7,c8])) (ri:G.RI cl s σ) (hn:σ.ends.length/2<3072):
  ae Tryz.prog 101 #[pt b] h fun w h'=>Fr (ao (stC gl b s A σ d)) h h'/\∃A' xR xK m xM t,h.size<=xR/\h.size<=xK/\h.size<=m/\h.size<=xM/\h.size<=t/\w=pt t/\
   Sy h0 M h' (stC gl b s A' {σ with ends:=σ.ends++[⟨0,0,G.noB,0⟩,⟨0,0,G.noB,0⟩],weights:=σ.weights++[4607182418800017408]} d++[c7,c8,Ck.ob xR 60 [pt b],Ck.ob xK 3 [.int .i64 (σ.ends.length:Int)],Ck.mp m [],Ck.ob xM 115 [.map (some m)],
    Ck.ob t 119 [.int .i64 1,.nilFunc,fnV 137 #[pt xM,pt xK,pt xR],fnV 141 #[pt xM]]]):=by
 apply AY
 unfold Ke
 intro hv
 have Y1:Sy h0 M hv (stC gl b s A σ d++[c7,c8,Ck.ob h.size 60 [pt b]]):=Sy.newO Y [pt b]
 have s1:hv.size=h.size+1:=by simp[hv]
 have f1:Fr (ao (stC gl b s A σ d)) h hv:=(Fr.push h _).nil
 clear_value hv
 refine⟨_,Y1.cellO 9 rfl 0 rfl,b,0,rfl,A.aE,σ.ends.length,A.cE,Y1.cellO 0 rfl 17 rfl,?_⟩
 intro hv2
 have Y2:Sy h0 M hv2 (stC gl b s A σ d++[c7,c8,Ck.ob h.size 60 [pt b],Ck.ob hv.size 3 [.int .i64 0]]):=Sy.newO Y1 [.int .i64 0]
 have s2:hv2.size=h.size+2:=by simp[hv2,s1]
 refine⟨⟨_,Y2.cellO 10 rfl 0 rfl⟩,Y2.freeO 10 rfl 0,?_⟩
 intro hv3
 have Y3:Sy h0 M hv3 (stC gl b s A σ d++[c7,c8,Ck.ob h.size 60 [pt b],Ck.ob hv.size 3 [.int .i64 (σ.ends.length:Int)]]):=Y2.stO 10 rfl 0 _
 have s3:hv3.size=h.size+2:=by simp[hv3,s2]
 have f3:Fr (ao (stC gl b s A σ d)) h hv3:=(f1.pushr _).hsetL (by omega)
 clear_value hv3
 clear hv2 Y2 s2
 have hE:∀x∈ah A.aE,x<h.size/\x≠b:=fun x hx=>⟨fl Y 5 rfl x hx,fun e=>(Y.hp.ap 5 0 _ _ (by decide) rfl rfl x hx).1 (by simp[Ck.ob,e])⟩
 have hW:∀x∈ah A.aW,x<h.size/\x≠b:=fun x hx=>⟨fl Y 4 rfl x hx,fun e=>(Y.hp.ap 4 0 _ _ (by decide) rfl rfl x hx).1 (by simp[Ck.ob,e])⟩
 have hbl:b<h.size:=fl Y 0 rfl b (by simp[Ck.ob])
 have nE:∀x,(x=b\/h.size<=x)->x∉ah A.aE:=fun x hx q=>by grind
 have nW:∀x,(x=b\/h.size<=x)->x∉ah A.aW:=fun x hx q=>by grind
 have hel:=ri.el
 have hwl:=ri.wl
 have inO:∀x,(x=b\/x∈ah A.aE\/x∈ah A.aW)->x∈ao (stC gl b s A σ d):=by
  intro x q
  simp only[ao,stC,List.flatMap_cons,Ck.ob,Ck.mp,Ck.sl,List.mem_append,List.mem_cons,List.not_mem_nil,or_false]
  grind
 refine⟨ah A.aE,by simp,nE _ (.inr (Nat.le_refl _)),_,Y3.cellO 9 rfl 0 rfl,nE _ (.inr (Nat.le_refl _)),_,Y3.cellO 9 rfl 0 rfl,b,0,rfl,nE _ (.inl rfl),A.aE,σ.ends.length,A.cE,Y3.cellO 0 rfl 17 rfl,?_⟩
 intro hv4
 have s4:hv4.size=hv3.size+1:=by simp[hv4]
 have Y4:Sy h0 M hv4 (stC gl b s A σ d++[c7,c8,Ck.ob h.size 60 [pt b],Ck.ob hv.size 3 [.int .i64 (σ.ends.length:Int)]]):=Sy.gr Y3 (Fr.push _ _)
 have g4:Fr (ah A.aE) hv3 hv4:=(Fr.push _ _).nil
 clear_value hv4
 refine⟨g4,_,Y4.ownS 5 rfl,fun x hx q=>?_,by omega,by simp only[maxLen];omega,fun sA sC hv5 ow f gg _=>?_⟩
 ·grind
 have Y5:=Y4.appS 5 rfl [⟨0,0,G.noB,0⟩,⟨0,0,G.noB,0⟩] ow f gg rfl rfl
 have g5:Fr (ah A.aE) hv3 hv5:=g4.trans f
 have s5:hv4.size<=hv5.size:=f.size
 refine⟨g5,b,0,rfl,by omega,⟨_,Y5.cellO 0 rfl 17 rfl⟩,Y5.freeO 0 rfl 17,?_⟩
 intro hv6
 have Y6:Sy h0 M hv6 _:=Y5.stO 0 rfl 17 (.slice sA (σ.ends.length+2) sC)
 have s6:hv6.size=hv5.size:=by simp[hv6]
 have f6:Fr (ao (stC gl b s A σ d)) h hv6:=(f3.trans (g5.mono fun x q=>inO x (.inr (.inl q)))).hsetr (.inr (inO b (.inl rfl)))
 clear_value hv6
 refine⟨ah A.aW,fun x hx=>nW x (.inr (by grind)),nW _ (.inr (Nat.le_refl _)),_,Y6.cellO 9 rfl 0 rfl,nW _ (.inr (Nat.le_refl _)),_,Y6.cellO 9 rfl 0 rfl,b,0,rfl,nW _ (.inl rfl),A.aW,σ.weights.length,A.cW,Y6.cellO 0 rfl 13 rfl,?_⟩
 intro hv7
 have s7:hv7.size=hv6.size+1:=by simp[hv7]
 have Y7:Sy h0 M hv7 _:=Sy.gr Y6 (Fr.push hv6 (.cells #[.float .f64 4607182418800017408] 54))
 have g7:Fr (ah A.aW) hv6 hv7:=(Fr.push _ _).nil
 refine⟨g7,_,Y7.ownS 4 rfl,fun x hx q=>?_,by omega,by simp only[maxLen];omega,fun sA2 sC2 hv8 ow2 f2 gg2 _=>?_⟩
 ·grind
 have Y8:=Y7.appS 4 rfl [(4607182418800017408:Nat)] ow2 f2 gg2 rfl rfl
 have g8:Fr (ah A.aW) hv6 hv8:=g7.trans f2
 have s8:hv7.size<=hv8.size:=f2.size
 refine⟨g8,b,0,rfl,by omega,by omega,⟨_,Y8.cellO 0 rfl 13 rfl⟩,Y8.freeO 0 rfl 13,?_⟩
 intro hv9
 have Y9:Sy h0 M hv9 _:=Y8.stO 0 rfl 13 (.slice sA2 (σ.weights.length+1) sC2)
 have s9:hv9.size=hv8.size:=by simp[hv9]
 have f9:Fr (ao (stC gl b s A σ d)) h hv9:=(f6.trans (g8.mono fun x q=>inO x (.inr (.inr q)))).hsetr (.inr (inO b (.inl rfl)))
 have Ze:Sy h0 M hv9 ([Ck.ob b 67 [.string s,.int .i64 (σ.i:Int),.int .i64 (d:Int),.int .i64 (σ.n:Int),.slice none 0 0,.bool σ.dir,.slice none 0 0,.slice none 0 0,.slice none 0 0,.bool σ.graph,.map (some A.mp),
   .slice A.aL σ.labels.length A.cL,.slice A.aS σ.spots.length A.cS,.slice sA2 (σ.weights.length+1) sC2,.bool σ.h0,.bool σ.h1,.bool σ.h2,.slice sA (σ.ends.length+2) sC],
   Ck.mp A.mp (gY σ.ids),Ck.sl eS 9 A.aL σ.labels.length A.cL σ.labels,Ck.sl eFF 71 A.aS σ.spots.length A.cS σ.spots,Ck.sl eF 54 sA2 (σ.weights.length+1) sC2 (σ.weights++[(4607182418800017408:Nat)]),
   Ck.sl eT 97 sA (σ.ends.length+2) sC (σ.ends++[⟨0,0,G.noB,0⟩,⟨0,0,G.noB,0⟩]),Ck.glob gl]++[c7,c8,Ck.ob h.size 60 [pt b],Ck.ob hv.size 3 [.int .i64 (σ.ends.length:Int)]]):=Y9
 have l1:σ.ends.length+2=(σ.ends++[(⟨0,0,G.noB,0⟩:G.Tok),⟨0,0,G.noB,0⟩]).length:=by simp
 have l2:σ.weights.length+1=(σ.weights++[(4607182418800017408:Nat)]).length:=by simp
 rw[l1,l2]at Ze
 clear_value hv9
 have Yx:Sy h0 M hv9 (stC gl b s {A with aW:=sA2,cW:=sC2,aE:=sA,cE:=sC} {σ with ends:=σ.ends++[⟨0,0,G.noB,0⟩,⟨0,0,G.noB,0⟩],weights:=σ.weights++[4607182418800017408]} d++[c7,c8,Ck.ob h.size 60 [pt b],Ck.ob hv.size 3 [.int .i64 (σ.ends.length:Int)]]):=Ze
 clear Ze Y9 Y8 Y7 Y6 Y5
 generalize ({A with aW:=sA2,cW:=sC2,aE:=sA,cE:=sC}:AD)=A' at Yx
 have hs:h.size+2<=hv9.size:=by omega
 have hs2:hv6.size<=hv9.size:=by omega
 intro hv10 hv11
 have Y10:=Sy.newM Yx
 have s10:hv10.size=hv9.size+1:=by simp[hv10]
 have Y11:Sy h0 M hv11 (stC gl b s A' {σ with ends:=σ.ends++[⟨0,0,G.noB,0⟩,⟨0,0,G.noB,0⟩],weights:=σ.weights++[4607182418800017408]} d++[c7,c8,Ck.ob h.size 60 [pt b],Ck.ob hv.size 3 [.int .i64 (σ.ends.length:Int)],Ck.mp hv9.size [],Ck.ob hv10.size 115 [.map none]]):=Sy.newO Y10 [.map none]
 refine⟨by omega,by omega,⟨_,Y11.cellO 12 rfl 0 rfl⟩,Y11.freeO 12 rfl 0,?_⟩
 intro hv12 hv13
 have s12:hv12.size=hv9.size+2:=by simp[hv12,hv11,s10]
 have Y12:Sy h0 M hv12 (stC gl b s A' {σ with ends:=σ.ends++[⟨0,0,G.noB,0⟩,⟨0,0,G.noB,0⟩],weights:=σ.weights++[4607182418800017408]} d++[c7,c8,Ck.ob h.size 60 [pt b],Ck.ob hv.size 3 [.int .i64 (σ.ends.length:Int)],Ck.mp hv9.size [],Ck.ob hv10.size 115 [.map (some hv9.size)]]):=Y11.stO 12 rfl 0 _
 have Y13:=Sy.newO (ty:=119) Y12 [.int .i64 1,.nilFunc,fnV 137 #[pt hv10.size,pt hv.size,pt h.size],fnV 141 #[pt hv10.size]]
 exact⟨(((f9.pushr _).pushr _).hsetL (by omega)).pushr _,A',h.size,hv.size,hv9.size,hv10.size,hv12.size,by omega,by omega,by omega,by omega,by omega,rfl,Y13⟩
end
theorem Ai {n:Nat} (h:n<4611686018427387904):i64.wrap (Int.tdiv (n:Int) (2:Int))=((n/2:Nat):Int):=by
 grind [wr]
section
variable {gl:GL} {b d:Nat} {s:ByteArray} {A:AD} {σ:G.Rd}
theorem My {cl:Nat->Nat} {dd:Bool} {t:G.Tok} {kv ov:Value} {mo:Option (Nat × List (List UInt8))} {fs:Fs} {h:ab} {xM xR m:Nat} {ks:List (List UInt8)}
  (H:Hp h (stC gl b s A σ d++[Ck.fx mo fs])) (ri:G.RI cl s σ) (e1:kv=fnV 69 #[pt xR,pt xM]) (e2:ov=fnV 68 #[]) (e3:mo=some (m,ks)) (e4:Seen (.graph dd) ks)
  (e5:fs=[(xR,0,pt b),(xM,0,.map (some m))]):
  aB Tryz.prog 70 #[pt b,.map (some m),cF t] h (kR gl b d s (stC gl b s A σ d++[Ck.fx mo fs]) h (.graph dd) t σ kv ov fs) (kE (stC gl b s A σ d++[Ck.fx mo fs]) h (.graph dd) t σ):=by
 generalize hC:stC gl b s A σ d++[Ck.fx mo fs]=C at H ⊢
 have Y0:Sy h (ao C) h (stC gl b s A σ d++[Ck.fx mo fs]):=by rw[hC];exact Sy.start H
 obtain⟨hr1,hr2⟩:=vQ (gl:=gl) (b:=b) (s:=s) (A:=A) (σ:=σ) (d:=d) (mo:=mo) (fs:=fs)
 rw[hC]at hr1 hr2
 unfold cF
 apply El
 unfold S70
 have ex:(t.says.toList==(⟨#[100,105,114,101,99,116,101,100]⟩:ByteArray).toList)=decide (t.l=G.cr):=cH
 have ey:(t.says.toList==(⟨#[110,111,100,101]⟩:ByteArray).toList)=decide (t.l=G.gh):=cH
 have ez:(t.says.toList==(⟨#[101,100,103,101]⟩:ByteArray).toList)=decide (t.l=G.eH):=cH
 rw[ex,ey,ez]
 have n1:G.gh≠G.cr:=by decide
 have n2:G.eH≠G.cr:=by decide
 have n3:G.eH≠G.gh:=by decide
 intro hv
 have Y1:Sy h (ao C) hv (stC gl b s A σ d++[Ck.fx mo fs,Ck.ob h.size 60 [pt b]]):=Sy.newO Y0 [pt b]
 have s1:hv.size=h.size+1:=by simp[hv]
 intro hv2
 have Y2:Sy h (ao C) hv2 (stC gl b s A σ d++[Ck.fx mo fs,Ck.ob h.size 60 [pt b]]):=Y1.gr (Fr.push _ _)
 have s2:hv2.size=h.size+2:=by simp[hv2,s1]
 have f2:Fr [] h hv2:=(Fr.push h _).pushr _
 clear_value hv2
 clear_value hv
 clear Y1
 subst e3
 have hml:m<h.size:=iA (Y0.mapF 7 rfl)
 have hno:∀x∈ao (stC gl b s A σ d),x<h.size:=by
  intro x hx
  obtain⟨k,c,h1,h2⟩:=br.1 hx
  exact fl Y0 k (fH h1) x h2
 have hin:∀x∈ao (stC gl b s A σ d),x∈ao C:=by
  intro x hx
  obtain⟨k,c,h1,h2⟩:=br.1 hx
  rw[<-hC]
  exact br.2 ⟨k,c,fH h1,h2⟩
 refine ag (fun q=>?_) fun q1=>?_
 ·refine qu Y2 7 rfl e4.1 (by simp;omega) (fun r1 hv3 f3 Y3=>?_) fun r1 hv3 f3=>?_
  ·refine⟨rfl,?_⟩
   intro hv8
   have Y8:Sy h (ao C) hv8 (stC gl b s A σ d++[Ck.fx (some (m,ks++[t.l])) fs,Ck.ob h.size 60 [pt b],Ck.ob hv3.size 119 [.int .i64 4,fnV 99 #[pt h.size],.nilFunc,.nilFunc]]):=Sy.newO Y3 [.int .i64 4,fnV 99 #[pt h.size],.nilFunc,.nilFunc]
   have s7:h.size<=hv3.size:=Y3.le
   refine⟨.dir,.graph true,σ,A,some (m,ks++[t.l]),none,[],[(hv3.size,0,.int .i64 4),(hv3.size,1,fnV 99 #[pt h.size]),(h.size,0,pt b)],some ⟨hv3.size,0,none⟩,?_,rfl,?_,?_,?_,Gr.refl σ,trivial,trivial⟩
   ·have hx:dd=false:=by
     cases dd with
     | false=>rfl
     | true=>exact absurd ((e4.2 _).2 (by simp[kts,q])) r1
    subst hx
    simp[G.key,q,G.az]
   ·refine oe (rest:=[_,_]) Y8 (fun x hx=>.inl (hr1 x hx)) hr2 (fun p hp=>by cases hp) (fun f hf=>by cases hf) fun f hf=>?_
    simp only[List.mem_cons,List.not_mem_nil,or_false]at hf
    rcases hf with rfl | rfl | rfl
    ·exact⟨Y8.cellO 9 rfl 0 rfl,.inr ⟨s7,1,119,_,rfl⟩⟩
    ·exact⟨Y8.cellO 9 rfl 1 rfl,.inr ⟨s7,1,119,_,rfl⟩⟩
    ·exact⟨Y8.cellO 8 rfl 0 rfl,.inr ⟨Nat.le_refl _,0,60,_,rfl⟩⟩
   ·exact⟨xR,xM,m,ks++[t.l],e1,e2,rfl,dK e4 r1 (fun k'=>by rw[q];simp[kts]<;>grind),e5⟩
   ·exact⟨hv3.size,h.size,rfl,rfl,rfl,rfl⟩
  ·refine⟨_,?_,rfl,frM hC f2.nil f3⟩
   have:=(e4.2 _).1 r1
   grind [kts,G.key,G.az]
 refine ag (fun q=>?_) fun q2=>?_
 ·refine⟨_,Y2.cellO 8 rfl 0 rfl,b,0,rfl,(σ.n:Int),Y2.cellO 0 rfl 3 rfl,?_⟩
  refine aw (fun q3=>⟨rfl,Fr.refl _ _,_,Y2.cellO 8 rfl 0 rfl,?_⟩) fun q3=>⟨_,?_,rfl,f2.nil⟩
  ·have hn:σ.n<1024:=by grind
   refine ak (ao (stC gl b s A σ d)) (Jy (cl:=cl) Y2 ri hn) (fun x hx q=>by grind) (fun _ _ r=>r.1) fun w h' r=>?_
   obtain⟨f8,A',xR2,xV2,m2,xM2,t2,z1,z2,z3,z4,z5,rfl,Y8⟩:=r
   refine⟨some ⟨t2,0,none⟩,rfl,.list (.node σ.n false false false),.graph dd,{σ with n:=σ.n+1,labels:=σ.labels++[G.noB],spots:=σ.spots++[(0,0)]},A',some (m,ks),some (m2,[]),[(xM2,0,.map (some m2)),(xR2,0,pt b),(xV2,0,.int .i64 (σ.n:Int))],
    [(t2,0,.int .i64 1),(t2,2,fnV 132 #[pt xM2,pt xR2,pt xV2]),(t2,3,fnV 136 #[pt xM2])],some ⟨t2,0,none⟩,by simp[G.key,q,n1,G.az,hn],rfl,?_,⟨xR,xM,m,ks,e1,e2,rfl,e4,e5⟩,⟨t2,_,_,_,rfl,⟨xM2,xR2,xV2,m2,[],rfl,rfl,rfl,⟨by simp,by simp[kts]⟩,rfl⟩,rfl⟩,
    ⟨Nat.le_succ _,Nat.le_refl _,Nat.le_refl _⟩,trivial,Nat.lt_succ_self _⟩
   refine oe (rest:=[_,_,_,_,_,_]) Y8 (fun x hx=>.inl (hr1 x hx)) hr2 (fun p hp=>by cases hp;exact⟨3,rfl⟩) (fun f hf=>?_) fun f hf=>?_
   ·simp only[List.mem_cons,List.not_mem_nil,or_false]at hf
    rcases hf with rfl | rfl | rfl
    ·exact⟨Y8.cellO 12 rfl 0 rfl,.inr ⟨by omega,4,115,_,rfl⟩⟩
    ·exact⟨Y8.cellO 9 rfl 0 rfl,.inr ⟨by omega,1,60,_,rfl⟩⟩
    ·exact⟨Y8.cellO 10 rfl 0 rfl,.inr ⟨by omega,2,3,_,rfl⟩⟩
   ·simp only[List.mem_cons,List.not_mem_nil,or_false]at hf
    rcases hf with rfl | rfl | rfl
    ·exact⟨Y8.cellO 13 rfl 0 rfl,.inr ⟨by omega,5,119,_,rfl⟩⟩
    ·exact⟨Y8.cellO 13 rfl 2 rfl,.inr ⟨by omega,5,119,_,rfl⟩⟩
    ·exact⟨Y8.cellO 13 rfl 3 rfl,.inr ⟨by omega,5,119,_,rfl⟩⟩
  grind [G.key,G.az]
 refine ag (fun q=>?_) fun q3=>?_
 ·have hel:=ri.el
  have hwl:=ri.wl
  refine⟨_,Y2.cellO 8 rfl 0 rfl,b,0,rfl,A.aE,σ.ends.length,A.cE,Y2.cellO 0 rfl 17 rfl,by decide,?_⟩
  rw[Ai (by omega)]
  refine aw (fun q3=>⟨rfl,Fr.refl _ _,_,Y2.cellO 8 rfl 0 rfl,?_⟩) fun q3=>⟨_,?_,rfl,f2.nil⟩
  ·have hn:σ.ends.length/2<3072:=by grind
   refine ak (ao (stC gl b s A σ d)) (Jz (cl:=cl) Y2 ri hn) (fun x hx q=>by grind) (fun _ _ r=>r.1) fun w h' r=>?_
   obtain⟨f8,A',xR2,xV2,m2,xM2,t2,z1,z2,z3,z4,z5,rfl,Y8⟩:=r
   refine⟨some ⟨t2,0,none⟩,rfl,.list (.edge σ.ends.length false false false),.graph dd,{σ with ends:=σ.ends++[⟨0,0,G.noB,0⟩,⟨0,0,G.noB,0⟩],weights:=σ.weights++[4607182418800017408]},A',some (m,ks),some (m2,[]),[(xM2,0,.map (some m2)),(xV2,0,.int .i64 (σ.ends.length:Int)),(xR2,0,pt b)],
    [(t2,0,.int .i64 1),(t2,2,fnV 137 #[pt xM2,pt xV2,pt xR2]),(t2,3,fnV 141 #[pt xM2])],some ⟨t2,0,none⟩,by simp[G.key,q,n2,n3,G.az,hn],rfl,?_,⟨xR,xM,m,ks,e1,e2,rfl,e4,e5⟩,⟨t2,_,_,_,rfl,⟨xM2,xV2,xR2,m2,[],rfl,rfl,rfl,⟨by simp,by simp[kts]⟩,rfl⟩,rfl⟩,
    ⟨Nat.le_refl _,by simp,by simp⟩,trivial,⟨by simp,by simp;omega⟩⟩
   refine oe (rest:=[_,_,_,_,_,_]) Y8 (fun x hx=>.inl (hr1 x hx)) hr2 (fun p hp=>by cases hp;exact⟨3,rfl⟩) (fun f hf=>?_) fun f hf=>?_
   ·simp only[List.mem_cons,List.not_mem_nil,or_false]at hf
    rcases hf with rfl | rfl | rfl
    ·exact⟨Y8.cellO 12 rfl 0 rfl,.inr ⟨by omega,4,115,_,rfl⟩⟩
    ·exact⟨Y8.cellO 10 rfl 0 rfl,.inr ⟨by omega,2,3,_,rfl⟩⟩
    ·exact⟨Y8.cellO 9 rfl 0 rfl,.inr ⟨by omega,1,60,_,rfl⟩⟩
   ·simp only[List.mem_cons,List.not_mem_nil,or_false]at hf
    rcases hf with rfl | rfl | rfl
    ·exact⟨Y8.cellO 13 rfl 0 rfl,.inr ⟨by omega,5,119,_,rfl⟩⟩
    ·exact⟨Y8.cellO 13 rfl 2 rfl,.inr ⟨by omega,5,119,_,rfl⟩⟩
    ·exact⟨Y8.cellO 13 rfl 3 rfl,.inr ⟨by omega,5,119,_,rfl⟩⟩
  grind [G.key,G.az]
 ·exact⟨.none,.graph dd,σ,A,some (m,ks),none,[],[],none,by simp[G.key,q1,q2,q3],rfl,yT (Y0.gr f2) (fun x hx=>.inl (hr1 x hx)) hr2,⟨xR,xM,m,ks,e1,e2,rfl,e4,e5⟩,⟨rfl,rfl,rfl,rfl⟩,Gr.refl σ,trivial,trivial⟩
theorem DN {cl:Nat->Nat} {dd:Bool} {t:G.Tok} {kv ov:Value} {mo:Option (Nat × List (List UInt8))} {fs:Fs} {h:ab} {xM xR m:Nat} {ks:List (List UInt8)}
  (H:Hp h (stC gl b s A σ d++[Ck.fx mo fs])) (ri:G.RI cl s σ) (e1:kv=fnV 69 #[pt xR,pt xM]) (e2:ov=fnV 68 #[]) (e3:mo=some (m,ks)) (e4:Seen (.graph dd) ks)
  (e5:fs=[(xR,0,pt b),(xM,0,.map (some m))]):
  aB Tryz.prog 69 #[cF t,pt xR,pt xM] h (kR gl b d s (stC gl b s A σ d++[Ck.fx mo fs]) h (.graph dd) t σ kv ov fs) (kE (stC gl b s A σ d++[Ck.fx mo fs]) h (.graph dd) t σ):=by
 unfold cF
 apply Em
 unfold S69
 intro hv
 have Q:Sq h (stC gl b s A σ d++[Ck.fx mo fs]) hv (stC gl b s A σ d++[Ck.fx mo fs]):=(Sq.start H).gr (Fr.push h _)
 have s1:hv.size=h.size+1:=by simp[hv]
 clear_value hv
 have Y1:=Q.sy
 refine⟨xR,0,rfl,_,Y1.factF 7 rfl 0 (by rw[e5];rfl),xM,0,rfl,some m,Y1.factF 7 rfl 1 (by rw[e5];rfl),?_⟩
 refine aK (ao (stC gl b s A σ d++[Ck.fx mo fs])) (My (t:=t) Q.hp ri e1 e2 e3 e4 e5) (fun x hx q=>?_) (fun v h' r=>?_) (fun v h' r=>?_) (fun v h' r=>?_) fun v h' r=>?_
 ·obtain⟨k,c,h1,h2⟩:=br.1 q
  have:=(c.lt h (H.ok k c h1)).1 x h2
  grind
 ·obtain⟨_,_,_,_,_,_,_,_,_,_,_,q,_⟩:=r;exact q.fr
 ·obtain⟨_,_,_,f⟩:=r;exact f
 ·obtain⟨x,l',σ',A',mo',mo1,fs1,tfs,p,a1,a2,a3,a4⟩:=r
  exact⟨p,a2,x,l',σ',A',mo',mo1,fs1,tfs,p,a1,a2▸rfl,Q.callT a3,a4⟩
 ·obtain⟨f,a1,a2,a3⟩:=r
  exact⟨f,a1,a2,Q.frT a3⟩
theorem JA {cl:Nat->Nat} {t:G.Tok} {kv ov:Value} {mo:Option (Nat × List (List UInt8))} {fs:Fs} {h:ab}
  (H:Hp h (stC gl b s A σ d++[Ck.fx mo fs])) (ri:G.RI cl s σ) (e1:kv= .func (.func 49) #[pt b] #[]) (e2:mo=none) (e3:fs=[]):
  aB Tryz.prog 49 #[pt b,cF t] h (kR gl b d s (stC gl b s A σ d++[Ck.fx mo fs]) h .top t σ kv ov fs) (kE (stC gl b s A σ d++[Ck.fx mo fs]) h .top t σ):=by
 generalize hC:stC gl b s A σ d++[Ck.fx mo fs]=C at H ⊢
 have Y0:Sy h (ao C) h (stC gl b s A σ d++[Ck.fx mo fs]):=by rw[hC];exact Sy.start H
 obtain⟨hr1,hr2⟩:=vQ (gl:=gl) (b:=b) (s:=s) (A:=A) (σ:=σ) (d:=d) (mo:=mo) (fs:=fs)
 rw[hC]at hr1 hr2
 unfold cF
 apply Ep
 unfold S49
 have ex:(t.says.toList==(⟨#[103,114,97,112,104]⟩:ByteArray).toList)=decide (t.l=G.gf):=cH
 rw[ex]
 intro hv
 have Y1:Sy h (ao C) hv (stC gl b s A σ d++[Ck.fx mo fs,Ck.ob h.size 60 [pt b]]):=Sy.newO Y0 [pt b]
 have s1:hv.size=h.size+1:=by simp[hv]
 intro hv2
 have Y2:Sy h (ao C) hv2 (stC gl b s A σ d++[Ck.fx mo fs,Ck.ob h.size 60 [pt b]]):=Y1.gr (Fr.push _ _)
 have s2:hv2.size=h.size+2:=by simp[hv2,s1]
 have f2:Fr [] h hv2:=(Fr.push h _).pushr _
 clear_value hv2
 clear_value hv
 clear Y1
 have hbl:b<h.size:=fl Y0 0 rfl b (by simp[Ck.ob])
 refine aV (fun q=>?_) fun q=>?_
 ·exact⟨.none,.top,σ,A,mo,none,[],[],none,by simp[G.key,of_decide_eq_false q],rfl,yT (Y0.gr f2) (fun x hx=>.inl (hr1 x hx)) hr2,⟨e1,e2,e3⟩,⟨rfl,rfl,rfl,rfl⟩,Gr.refl σ,trivial,trivial⟩
 ·have q:=of_decide_eq_true q
  refine⟨_,Y2.cellO 8 rfl 0 rfl,b,0,rfl,σ.graph,Y2.cellO 0 rfl 9 rfl,?_⟩
  refine aw (fun q3=>⟨rfl,Fr.refl _ _,_,Y2.cellO 8 rfl 0 rfl,b,0,rfl,by omega,⟨_,Y2.cellO 0 rfl 9 rfl⟩,Y2.freeO 0 rfl 9,?_⟩) fun q3=>⟨_,?_,rfl,f2.nil⟩
  ·have hg:σ.graph=false:=by simpa using q3
   intro hv4 hv5 hv6
   have Y4:Sy h (ao C) hv4 (stC gl b s A {σ with graph:=true} d++[Ck.fx mo fs,Ck.ob h.size 60 [pt b]]):=Y2.stO 0 rfl 9 _
   have s4:hv4.size=h.size+2:=by simp[hv4,s2]
   have Y5:Sy h (ao C) hv5 (stC gl b s A {σ with graph:=true} d++[Ck.fx mo fs,Ck.ob h.size 60 [pt b],Ck.mp hv4.size []]):=Sy.newM Y4
   have s5:hv5.size=h.size+3:=by simp[hv5,s4]
   have Y6:Sy h (ao C) hv6 (stC gl b s A {σ with graph:=true} d++[Ck.fx mo fs,Ck.ob h.size 60 [pt b],Ck.mp hv4.size [],Ck.ob hv5.size 115 [.map none]]):=Sy.newO Y5 [.map none]
   refine⟨by omega,⟨_,Y6.cellO 10 rfl 0 rfl⟩,Y6.freeO 10 rfl 0,?_⟩
   intro hv7 hv8
   have Y7:Sy h (ao C) hv7 (stC gl b s A {σ with graph:=true} d++[Ck.fx mo fs,Ck.ob h.size 60 [pt b],Ck.mp hv4.size [],Ck.ob hv5.size 115 [.map (some hv4.size)]]):=Y6.stO 10 rfl 0 _
   have s7:hv7.size=h.size+4:=by simp[hv7,hv6,s5]
   have Y8:Sy h (ao C) hv8 (stC gl b s A {σ with graph:=true} d++[Ck.fx mo fs,Ck.ob h.size 60 [pt b],Ck.mp hv4.size [],Ck.ob hv5.size 115 [.map (some hv4.size)],Ck.ob hv7.size 119 [.int .i64 1,.nilFunc,fnV 69 #[pt h.size,pt hv5.size],fnV 68 #[]]]):=Sy.newO Y7 [.int .i64 1,.nilFunc,fnV 69 #[pt h.size,pt hv5.size],fnV 68 #[]]
   clear_value hv8
   refine⟨.list (.graph false),.top,{σ with graph:=true},A,mo,some (hv4.size,[]),[(h.size,0,pt b),(hv5.size,0,.map (some hv4.size))],[(hv7.size,0,.int .i64 1),(hv7.size,2,fnV 69 #[pt h.size,pt hv5.size]),(hv7.size,3,fnV 68 #[])],some ⟨hv7.size,0,none⟩,
    by simp[G.key,q,G.az,hg],rfl,?_,⟨e1,e2,e3⟩,⟨hv7.size,_,_,_,rfl,⟨h.size,hv5.size,hv4.size,[],rfl,rfl,rfl,⟨by simp,by simp[kts]⟩,rfl⟩,rfl⟩,⟨Nat.le_refl _,Nat.le_refl _,Nat.le_refl _⟩,trivial,trivial⟩
   refine oe (rest:=[_,_,_,_]) Y8 (fun x hx=>.inl (hr1 x hx)) hr2 (fun p hp=>by cases hp;exact⟨1,rfl⟩) (fun f hf=>?_) fun f hf=>?_
   ·simp only[List.mem_cons,List.not_mem_nil,or_false]at hf
    rcases hf with rfl | rfl
    ·exact⟨Y8.cellO 8 rfl 0 rfl,.inr ⟨Nat.le_refl _,0,60,_,rfl⟩⟩
    ·exact⟨Y8.cellO 10 rfl 0 rfl,.inr ⟨by omega,2,115,_,rfl⟩⟩
   ·simp only[List.mem_cons,List.not_mem_nil,or_false]at hf
    rcases hf with rfl | rfl | rfl
    ·exact⟨Y8.cellO 11 rfl 0 rfl,.inr ⟨by omega,3,119,_,rfl⟩⟩
    ·exact⟨Y8.cellO 11 rfl 2 rfl,.inr ⟨by omega,3,119,_,rfl⟩⟩
    ·exact⟨Y8.cellO 11 rfl 3 rfl,.inr ⟨by omega,3,119,_,rfl⟩⟩
  grind [G.key,G.az]
end
end Go.Proofs.YtemclecmafjjfaaGreatDoor.N
