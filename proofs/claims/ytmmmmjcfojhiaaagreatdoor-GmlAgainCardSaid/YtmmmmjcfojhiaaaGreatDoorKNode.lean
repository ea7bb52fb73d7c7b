/- The keys of a graph; the document's. Conditions: none. -/
import Derived.Test.YtmmmmjcfojhiaaaGreatDoorHKey4
import Derived.Test.YtmmmmjcfojhiaaaGreatDoorTGw
set_option linter.unusedVariables false
set_option linter.unusedSimpArgs false
set_option maxRecDepth 100000
open Go.IntKind (i64 u64 u8 i32)
namespace Go.Proofs.YtmmmmjcfojhiaaaGreatDoor.N
open Go.Proofs.YtmmmmjcfojhiaaaGreatDoor
open Go.X
theorem Br {n:Nat} (h:n<4611686018427387904):i64.wrap (Int.tdiv (n:Int) (2:Int))=((n/2:Nat):Int):=by
 grind [wr]
section
variable {gl:GL} {b d:Nat} {s:P0} {A:AD} {σ:G.Rd}
theorem OG {cl:Nat->Nat} {dd:Bool} {t:G.Tok} {kv ov:Value} {mo:Option (Nat × List PZ)} {fs:Fs} {h:ab} {xM xR m:Nat} {ks:List PZ}
  (H:Hp h (stC gl b s A σ d++[Ck.fx mo fs])) (ri:G.RI cl s σ) (e1:kv=fnV 53 #[pt xR,pt xM]) (e2:ov=fnV 52 #[]) (e3:mo=some (m,ks)) (e4:Seen (.graph dd) ks)
  (e5:fs=[(xR,0,pt b),(xM,0,.map (some m))]):
  PM 54 #[pt b,.map (some m),cQ t] h (kR gl b d s (stC gl b s A σ d++[Ck.fx mo fs]) h (.graph dd) t σ kv ov fs) (kE (stC gl b s A σ d++[Ck.fx mo fs]) h (.graph dd) t σ):=by
 generalize hC:stC gl b s A σ d++[Ck.fx mo fs]=C at H ⊢
 have Y0:Sy h (ao C) h (stC gl b s A σ d++[Ck.fx mo fs]):=by rw[hC];exact Sy.start H
 obtain⟨hr1,hr2⟩:=xb (gl:=gl) (b:=b) (s:=s) (A:=A) (σ:=σ) (d:=d) (mo:=mo) (fs:=fs)
 rw[hC]at hr1 hr2
 unfold cQ
 apply FZ
 unfold S54
 have ex:(t.says.toList==(⟨#[100,105,114,101,99,116,101,100]⟩:P0).toList)=decide (t.l=G.dj):=cU
 have ey:(t.says.toList==(⟨#[110,111,100,101]⟩:P0).toList)=decide (t.l=G.ib):=cU
 have ez:(t.says.toList==(⟨#[101,100,103,101]⟩:P0).toList)=decide (t.l=G.fL):=cU
 rw[ex,ey,ez]
 have n1:G.ib≠G.dj:=by decide
 have n2:G.fL≠G.dj:=by decide
 have n3:G.fL≠G.ib:=by decide
 intro hv
 have Y1:Sy h (ao C) hv (stC gl b s A σ d++[Ck.fx mo fs,Ck.ob h.size 42 [pt b]]):=Sy.newO Y0 [pt b]
 have s1:hv.size=h.size+1:=by simp[hv]
 intro hv2
 have Y2:Sy h (ao C) hv2 (stC gl b s A σ d++[Ck.fx mo fs,Ck.ob h.size 42 [pt b]]):=Y1.gr (Fr.push _ _)
 have s2:hv2.size=h.size+2:=by simp[hv2,s1]
 have f2:Fr [] h hv2:=(Fr.push h _).pushr _
 clear_value hv2
 clear_value hv
 clear Y1
 subst e3
 have hml:m<h.size:=iW (Y0.mapF 7 rfl)
 have hno:∀x∈ao (stC gl b s A σ d),x<h.size:=by
  intro x hx
  obtain⟨k,c,h1,h2⟩:=bD.1 hx
  exact fN Y0 k (gf h1) x h2
 have hin:∀x∈ao (stC gl b s A σ d),x∈ao C:=by
  intro x hx
  obtain⟨k,c,h1,h2⟩:=bD.1 hx
  rw[<-hC]
  exact bD.2 ⟨k,c,gf h1,h2⟩
 refine ae (fun q=>?_) fun q1=>?_
 ·refine rv Y2 7 rfl e4.1 PH (fun r1 hv3 f3 Y3=>?_) fun r1 hv3 f3=>?_
  ·refine⟨rfl,?_⟩
   intro hv8
   have Y8:Sy h (ao C) hv8 (stC gl b s A σ d++[Ck.fx (some (m,ks++[t.l])) fs,Ck.ob h.size 42 [pt b],Ck.ob hv3.size 108 [PN 4,fnV 75 #[pt h.size],.nilFunc,.nilFunc]]):=Sy.newO Y3 [PN 4,fnV 75 #[pt h.size],.nilFunc,.nilFunc]
   have s7:h.size<=hv3.size:=Y3.le
   refine⟨.dir,.graph true,σ,A,some (m,ks++[t.l]),none,[],[(hv3.size,0,PN 4),(hv3.size,1,fnV 75 #[pt h.size]),(h.size,0,pt b)],some ⟨hv3.size,0,none⟩,?_,rfl,?_,?_,?_,Gr.refl σ,trivial,trivial⟩
   ·have hx:dd=false:=by
     cases dd with
     | false=>rfl
     | true=>exact absurd ((e4.2 _).2 (by simp[kts,q])) r1
    subst hx
    simp[G.key,q,G.aB]
   ·refine oV (rest:=[_,_]) Y8 (fun x hx=>.inl (hr1 x hx)) hr2 (fun p hp=>by cases hp) (fun f hf=>by cases hf) fun f hf=>?_
    simp only[Qd,Qh,or_false]at hf
    rcases hf with rfl | rfl | rfl
    ·exact⟨Y8.cellO 9 rfl 0 rfl,.inr ⟨s7,1,108,_,rfl⟩⟩
    ·exact⟨Y8.cellO 9 rfl 1 rfl,.inr ⟨s7,1,108,_,rfl⟩⟩
    ·exact⟨Y8.cellO 8 rfl 0 rfl,.inr ⟨P3 _,0,42,_,rfl⟩⟩
   ·exact⟨xR,xM,m,ks++[t.l],e1,e2,rfl,eZ e4 r1 (fun k'=>by rw[q];simp[kts]<;>grind),e5⟩
   ·exact⟨hv3.size,h.size,rfl,rfl,rfl,rfl⟩
  ·refine⟨_,?_,rfl,frM hC f2.nil f3⟩
   have:=(e4.2 _).1 r1
   grind [kts,G.key,G.aB]
 refine ae (fun q=>?_) fun q2=>?_
 ·refine⟨_,Y2.cellO 8 rfl 0 rfl,b,0,rfl,(σ.n:Int),Y2.cellO 0 rfl 3 rfl,?_⟩
  refine aF (fun q3=>⟨rfl,Fr.refl _ _,_,Y2.cellO 8 rfl 0 rfl,?_⟩) fun q3=>⟨_,?_,rfl,f2.nil⟩
  ·have hn:σ.n<1024:=by grind
   refine ak (ao (stC gl b s A σ d)) (OD (cl:=cl) Y2 ri hn) (fun x hx q=>by grind) (fun _ _ r=>r.1) fun w h' r=>?_
   obtain⟨f8,A',xR2,xV2,m2,xM2,t2,z1,z2,z3,z4,z5,rfl,Y8⟩:=r
   refine⟨some ⟨t2,0,none⟩,rfl,.list (.node σ.n false false false),.graph dd,{σ with n:=σ.n+1,labels:=σ.labels++[G.noB],spots:=σ.spots++[(0,0)]},A',some (m,ks),some (m2,[]),[(xM2,0,.map (some m2)),(xR2,0,pt b),(xV2,0,PN (σ.n:Int))],
    [(t2,0,PN 1),(t2,2,fnV 101 #[pt xM2,pt xR2,pt xV2]),(t2,3,fnV 105 #[pt xM2])],some ⟨t2,0,none⟩,by simp[G.key,q,n1,G.aB,hn],rfl,?_,⟨xR,xM,m,ks,e1,e2,rfl,e4,e5⟩,⟨t2,_,_,_,rfl,⟨xM2,xR2,xV2,m2,[],rfl,rfl,rfl,⟨PC,by simp[kts]⟩,rfl⟩,rfl⟩,
    ⟨Nat.le_succ _,P3 _,P3 _⟩,trivial,Nat.lt_succ_self _⟩
   refine oV (rest:=[_,_,_,_,_,_]) Y8 (fun x hx=>.inl (hr1 x hx)) hr2 (fun p hp=>by cases hp;exact⟨3,rfl⟩) (fun f hf=>?_) fun f hf=>?_
   ·simp only[Qd,Qh,or_false]at hf
    rcases hf with rfl | rfl | rfl
    ·exact⟨Y8.cellO 12 rfl 0 rfl,.inr ⟨PA,4,103,_,rfl⟩⟩
    ·exact⟨Y8.cellO 9 rfl 0 rfl,.inr ⟨PA,1,42,_,rfl⟩⟩
    ·exact⟨Y8.cellO 10 rfl 0 rfl,.inr ⟨PA,2,3,_,rfl⟩⟩
   ·simp only[Qd,Qh,or_false]at hf
    rcases hf with rfl | rfl | rfl
    ·exact⟨Y8.cellO 13 rfl 0 rfl,.inr ⟨PA,5,108,_,rfl⟩⟩
    ·exact⟨Y8.cellO 13 rfl 2 rfl,.inr ⟨PA,5,108,_,rfl⟩⟩
    ·exact⟨Y8.cellO 13 rfl 3 rfl,.inr ⟨PA,5,108,_,rfl⟩⟩
  grind [G.key,G.aB]
 refine ae (fun q=>?_) fun q3=>?_
 ·have hel:=ri.el
  have hwl:=ri.wl
  refine⟨_,Y2.cellO 8 rfl 0 rfl,b,0,rfl,A.aE,σ.ends.length,A.cE,Y2.cellO 0 rfl 17 rfl,PB,?_⟩
  rw[Br PA]
  refine aF (fun q3=>⟨rfl,Fr.refl _ _,_,Y2.cellO 8 rfl 0 rfl,?_⟩) fun q3=>⟨_,?_,rfl,f2.nil⟩
  ·have hn:σ.ends.length/2<3072:=by grind
   refine ak (ao (stC gl b s A σ d)) (OE (cl:=cl) Y2 ri hn) (fun x hx q=>by grind) (fun _ _ r=>r.1) fun w h' r=>?_
   obtain⟨f8,A',xR2,xV2,m2,xM2,t2,z1,z2,z3,z4,z5,rfl,Y8⟩:=r
   refine⟨some ⟨t2,0,none⟩,rfl,.list (.edge σ.ends.length false false false),.graph dd,{σ with ends:=σ.ends++[⟨0,0,G.noB,0⟩,⟨0,0,G.noB,0⟩],weights:=σ.weights++[4607182418800017408]},A',some (m,ks),some (m2,[]),[(xM2,0,.map (some m2)),(xV2,0,PN (σ.ends.length:Int)),(xR2,0,pt b)],
    [(t2,0,PN 1),(t2,2,fnV 106 #[pt xM2,pt xV2,pt xR2]),(t2,3,fnV 110 #[pt xM2])],some ⟨t2,0,none⟩,by simp[G.key,q,n2,n3,G.aB,hn],rfl,?_,⟨xR,xM,m,ks,e1,e2,rfl,e4,e5⟩,⟨t2,_,_,_,rfl,⟨xM2,xV2,xR2,m2,[],rfl,rfl,rfl,⟨PC,by simp[kts]⟩,rfl⟩,rfl⟩,
    ⟨P3 _,PC,PC⟩,trivial,⟨PC,by simp;omega⟩⟩
   refine oV (rest:=[_,_,_,_,_,_]) Y8 (fun x hx=>.inl (hr1 x hx)) hr2 (fun p hp=>by cases hp;exact⟨3,rfl⟩) (fun f hf=>?_) fun f hf=>?_
   ·simp only[Qd,Qh,or_false]at hf
    rcases hf with rfl | rfl | rfl
    ·exact⟨Y8.cellO 12 rfl 0 rfl,.inr ⟨PA,4,103,_,rfl⟩⟩
    ·exact⟨Y8.cellO 10 rfl 0 rfl,.inr ⟨PA,2,3,_,rfl⟩⟩
    ·exact⟨Y8.cellO 9 rfl 0 rfl,.inr ⟨PA,1,42,_,rfl⟩⟩
   ·simp only[Qd,Qh,or_false]at hf
    rcases hf with rfl | rfl | rfl
    ·exact⟨Y8.cellO 13 rfl 0 rfl,.inr ⟨PA,5,108,_,rfl⟩⟩
    ·exact⟨Y8.cellO 13 rfl 2 rfl,.inr ⟨PA,5,108,_,rfl⟩⟩
    ·exact⟨Y8.cellO 13 rfl 3 rfl,.inr ⟨PA,5,108,_,rfl⟩⟩
  grind [G.key,G.aB]
 ·exact⟨.none,.graph dd,σ,A,some (m,ks),none,[],[],none,by simp[G.key,q1,q2,q3],rfl,zX (Y0.gr f2) (fun x hx=>.inl (hr1 x hx)) hr2,⟨xR,xM,m,ks,e1,e2,rfl,e4,e5⟩,⟨rfl,rfl,rfl,rfl⟩,Gr.refl σ,trivial,trivial⟩
theorem Fg {cl:Nat->Nat} {dd:Bool} {t:G.Tok} {kv ov:Value} {mo:Option (Nat × List PZ)} {fs:Fs} {h:ab} {xM xR m:Nat} {ks:List PZ}
  (H:Hp h (stC gl b s A σ d++[Ck.fx mo fs])) (ri:G.RI cl s σ) (e1:kv=fnV 53 #[pt xR,pt xM]) (e2:ov=fnV 52 #[]) (e3:mo=some (m,ks)) (e4:Seen (.graph dd) ks)
  (e5:fs=[(xR,0,pt b),(xM,0,.map (some m))]):
  PM 53 #[cQ t,pt xR,pt xM] h (kR gl b d s (stC gl b s A σ d++[Ck.fx mo fs]) h (.graph dd) t σ kv ov fs) (kE (stC gl b s A σ d++[Ck.fx mo fs]) h (.graph dd) t σ):=by
 unfold cQ
 apply F0
 unfold S53
 intro hv
 have Q:Sq h (stC gl b s A σ d++[Ck.fx mo fs]) hv (stC gl b s A σ d++[Ck.fx mo fs]):=(Sq.start H).gr (Fr.push h _)
 have s1:hv.size=h.size+1:=by simp[hv]
 clear_value hv
 have Y1:=Q.sy
 refine⟨xR,0,rfl,_,Y1.factF 7 rfl 0 (by rw[e5];rfl),xM,0,rfl,some m,Y1.factF 7 rfl 1 (by rw[e5];rfl),?_⟩
 refine aK (ao (stC gl b s A σ d++[Ck.fx mo fs])) (OG (t:=t) Q.hp ri e1 e2 e3 e4 e5) (fun x hx q=>?_) (fun v h' r=>?_) (fun v h' r=>?_) (fun v h' r=>?_) fun v h' r=>?_
 ·obtain⟨k,c,h1,h2⟩:=bD.1 q
  have:=(c.lt h (H.ok k c h1)).1 x h2
  grind
 ·obtain⟨_,_,_,_,_,_,_,_,_,_,_,q,_⟩:=r;exact q.fr
 ·obtain⟨_,_,_,f⟩:=r;exact f
 ·obtain⟨x,l',σ',A',mo',mo1,fs1,tfs,p,a1,a2,a3,a4⟩:=r
  exact⟨p,a2,x,l',σ',A',mo',mo1,fs1,tfs,p,a1,a2▸rfl,Q.callT a3,a4⟩
 ·obtain⟨f,a1,a2,a3⟩:=r
  exact⟨f,a1,a2,Q.frT a3⟩
theorem Lk {cl:Nat->Nat} {t:G.Tok} {kv ov:Value} {mo:Option (Nat × List PZ)} {fs:Fs} {h:ab}
  (H:Hp h (stC gl b s A σ d++[Ck.fx mo fs])) (ri:G.RI cl s σ) (e1:kv= .func (.func 34) #[pt b] #[]) (e2:mo=none) (e3:fs=[]):
  PM 34 #[pt b,cQ t] h (kR gl b d s (stC gl b s A σ d++[Ck.fx mo fs]) h .top t σ kv ov fs) (kE (stC gl b s A σ d++[Ck.fx mo fs]) h .top t σ):=by
 generalize hC:stC gl b s A σ d++[Ck.fx mo fs]=C at H ⊢
 have Y0:Sy h (ao C) h (stC gl b s A σ d++[Ck.fx mo fs]):=by rw[hC];exact Sy.start H
 obtain⟨hr1,hr2⟩:=xb (gl:=gl) (b:=b) (s:=s) (A:=A) (σ:=σ) (d:=d) (mo:=mo) (fs:=fs)
 rw[hC]at hr1 hr2
 unfold cQ
 apply F9
 unfold S34
 have ex:(t.says.toList==(⟨#[103,114,97,112,104]⟩:P0).toList)=decide (t.l=G.it):=cU
 rw[ex]
 intro hv
 have Y1:Sy h (ao C) hv (stC gl b s A σ d++[Ck.fx mo fs,Ck.ob h.size 42 [pt b]]):=Sy.newO Y0 [pt b]
 have s1:hv.size=h.size+1:=by simp[hv]
 intro hv2
 have Y2:Sy h (ao C) hv2 (stC gl b s A σ d++[Ck.fx mo fs,Ck.ob h.size 42 [pt b]]):=Y1.gr (Fr.push _ _)
 have s2:hv2.size=h.size+2:=by simp[hv2,s1]
 have f2:Fr [] h hv2:=(Fr.push h _).pushr _
 clear_value hv2
 clear_value hv
 clear Y1
 have hbl:b<h.size:=fN Y0 0 rfl b (by simp[Ck.ob])
 refine bj (fun q=>?_) fun q=>?_
 ·exact⟨.none,.top,σ,A,mo,none,[],[],none,by simp[G.key,of_decide_eq_false q],rfl,zX (Y0.gr f2) (fun x hx=>.inl (hr1 x hx)) hr2,⟨e1,e2,e3⟩,⟨rfl,rfl,rfl,rfl⟩,Gr.refl σ,trivial,trivial⟩
 ·have q:=of_decide_eq_true q
  refine⟨_,Y2.cellO 8 rfl 0 rfl,b,0,rfl,σ.graph,Y2.cellO 0 rfl 9 rfl,?_⟩
  refine aF (fun q3=>⟨rfl,Fr.refl _ _,_,Y2.cellO 8 rfl 0 rfl,b,0,rfl,PA,⟨_,Y2.cellO 0 rfl 9 rfl⟩,Y2.freeO 0 rfl 9,?_⟩) fun q3=>⟨_,?_,rfl,f2.nil⟩
  ·have hg:σ.graph=false:=by simpa using q3
   intro hv4 hv5 hv6
   have Y4:Sy h (ao C) hv4 (stC gl b s A {σ with graph:=true} d++[Ck.fx mo fs,Ck.ob h.size 42 [pt b]]):=Y2.stO 0 rfl 9 _
   have s4:hv4.size=h.size+2:=by simp[hv4,s2]
   have Y5:Sy h (ao C) hv5 (stC gl b s A {σ with graph:=true} d++[Ck.fx mo fs,Ck.ob h.size 42 [pt b],Ck.mp hv4.size []]):=Sy.newM Y4
   have s5:hv5.size=h.size+3:=by simp[hv5,s4]
   have Y6:Sy h (ao C) hv6 (stC gl b s A {σ with graph:=true} d++[Ck.fx mo fs,Ck.ob h.size 42 [pt b],Ck.mp hv4.size [],Ck.ob hv5.size 103 [.map none]]):=Sy.newO Y5 [.map none]
   refine⟨PA,⟨_,Y6.cellO 10 rfl 0 rfl⟩,Y6.freeO 10 rfl 0,?_⟩
   intro hv7 hv8
   have Y7:Sy h (ao C) hv7 (stC gl b s A {σ with graph:=true} d++[Ck.fx mo fs,Ck.ob h.size 42 [pt b],Ck.mp hv4.size [],Ck.ob hv5.size 103 [.map (some hv4.size)]]):=Y6.stO 10 rfl 0 _
   have s7:hv7.size=h.size+4:=by simp[hv7,hv6,s5]
   have Y8:Sy h (ao C) hv8 (stC gl b s A {σ with graph:=true} d++[Ck.fx mo fs,Ck.ob h.size 42 [pt b],Ck.mp hv4.size [],Ck.ob hv5.size 103 [.map (some hv4.size)],Ck.ob hv7.size 108 [PN 1,.nilFunc,fnV 53 #[pt h.size,pt hv5.size],fnV 52 #[]]]):=Sy.newO Y7 [PN 1,.nilFunc,fnV 53 #[pt h.size,pt hv5.size],fnV 52 #[]]
   clear_value hv8
   refine⟨.list (.graph false),.top,{σ with graph:=true},A,mo,some (hv4.size,[]),[(h.size,0,pt b),(hv5.size,0,.map (some hv4.size))],[(hv7.size,0,PN 1),(hv7.size,2,fnV 53 #[pt h.size,pt hv5.size]),(hv7.size,3,fnV 52 #[])],some ⟨hv7.size,0,none⟩,
    by simp[G.key,q,G.aB,hg],rfl,?_,⟨e1,e2,e3⟩,⟨hv7.size,_,_,_,rfl,⟨h.size,hv5.size,hv4.size,[],rfl,rfl,rfl,⟨PC,by simp[kts]⟩,rfl⟩,rfl⟩,⟨P3 _,P3 _,P3 _⟩,trivial,trivial⟩
   refine oV (rest:=[_,_,_,_]) Y8 (fun x hx=>.inl (hr1 x hx)) hr2 (fun p hp=>by cases hp;exact⟨1,rfl⟩) (fun f hf=>?_) fun f hf=>?_
   ·simp only[Qd,Qh,or_false]at hf
    rcases hf with rfl | rfl
    ·exact⟨Y8.cellO 8 rfl 0 rfl,.inr ⟨P3 _,0,42,_,rfl⟩⟩
    ·exact⟨Y8.cellO 10 rfl 0 rfl,.inr ⟨PA,2,103,_,rfl⟩⟩
   ·simp only[Qd,Qh,or_false]at hf
    rcases hf with rfl | rfl | rfl
    ·exact⟨Y8.cellO 11 rfl 0 rfl,.inr ⟨PA,3,108,_,rfl⟩⟩
    ·exact⟨Y8.cellO 11 rfl 2 rfl,.inr ⟨PA,3,108,_,rfl⟩⟩
    ·exact⟨Y8.cellO 11 rfl 3 rfl,.inr ⟨PA,3,108,_,rfl⟩⟩
  grind [G.key,G.aB]
end
def qP (cl:Nat->Nat):Prop:=∀(x:Nat) (h:ab),PJ 109 #[PS x] h fun v h'=>v= PS (cl x)/\Fr [] h h'
def tR (gl:GL) (b d:Nat) (s:P0) (C:List Ck) (h:ab) (cl:Nat->Nat) (x:G.Tk) (v:G.Tok) (A:AD) (σ:G.Rd) (w:Value) (h':ab):Prop:=
 ∃σ',G.bX cl x v σ= .ok σ'/\w= .tuple #[]/\Sq h C h' (stC gl b s A σ' d)/\Gr σ σ'
def tE (C:List Ck) (h:ab) (cl:Nat->Nat) (x:G.Tk) (v:G.Tok) (σ:G.Rd) (w:Value) (h':ab):Prop:=∃f,G.bX cl x v σ= .no f/\w=flt f/\Fr (ao C) h h'
theorem Lt {s:P0} {h:ab} (hs:s.size<=9223372036854775807):PJ 31 #[PU s] h fun v h'=>v= PV (s.data.toList.all (fun c=>G.gH c.toNat)&&decide (s.size<=256))/\h'=h:=by
 apply Ge
 unfold S31
 refine⟨fun l h'=>h'=h/\∃i:Nat,l=[PN (i:Int)]/\i<=s.size/\(s.data.toList.take i).all (fun c=>G.gH c.toNat)=true,fun l _=>match l with
  | [.int _ i]=>s.size-i.toNat
  | _=>0,⟨rfl,0,rfl,QU _,PC⟩,?_⟩
 rintro x hv ⟨rfl,i,e,hi,ha⟩
 cases e
 refine ae (fun q=>?_) fun q=>?_
 ·have hlt:i<s.size:=by omega
  obtain⟨c,hc,hb⟩:=get_at hlt
  refine⟨PA,q,c,PE,?_⟩
  refine dm IZ ⟨_,rfl,?_⟩
  have hcl:s.data.toList[i]? =some c:=by
   rw[<-hc]
   have:s[i]? =s.data[i]? :=by
    rw[getElem?_pos s i hlt,getElem?_pos s.data i hlt];rfl
   rw[this];simp
  refine bj (fun q1=>?_) fun q1=>?_
  ·grind
  ·rw[show i64.wrap ((i:Int)+1)=((i+1:Nat):Int) by rw[wr PA PA];omega]
   refine⟨⟨rfl,i+1,rfl,hlt,?_⟩,?_⟩
   ·grind [List.take_add_one]
   grind
 ·refine⟨?_,rfl⟩
  have:i=s.size:=by omega
  subst this
  have e:s.data.toList.take s.size=s.data.toList:=QF (P3 _)
  rw[e]at ha
  rw[ha,Rn]
  congr 1
  grind
section
variable {gl:GL} {b d:Nat} {s:P0} {A:AD} {σ:G.Rd} {cl:Nat->Nat} {v:G.Tok} {tfs:Fs} {h:ab}
theorem z6 {h h3:ab} {C rest:List Ck} {σ':G.Rd} (Y:Sy h (ao C) h3 (stC gl b s A σ' d++rest)) (hg:∀x∈glB gl,x∈rds C):Sq h C h3 (stC gl b s A σ' d):=by
 have hc:jR (stC gl b s A σ' d++rest).length [0,1,2,3,4,5,6]=true:=by
  simp[jR,stC]
  decide
 refine⟨Y.pick [0,1,2,3,4,5,6] hc,fun x hx=>?_⟩
 have:x∈glB gl:=by simpa[rds,stC,Ck.ob,Ck.mp,Ck.sl,Ck.glob]using hx
 grind
theorem glr {C:List Ck} {rest:List Ck} (hC:stC gl b s A σ d++rest=C):∀x∈glB gl,x∈rds C:=by
 intro x hx
 rw[<-hC]
 exact cw.2 ⟨6,_,rfl,hx⟩
theorem Lu {t xR:Nat} (H:Hp h (stC gl b s A σ d++[Ck.fx none tfs])) (e:tfs=[(t,0,PN 4),(t,1,fnV 75 #[pt xR]),(xR,0,pt b)]):
  PM 75 #[cQ v,pt xR] h (tR gl b d s (stC gl b s A σ d++[Ck.fx none tfs]) h cl .dir v A σ) (tE (stC gl b s A σ d++[Ck.fx none tfs]) h cl .dir v σ):=by
 generalize hC:stC gl b s A σ d++[Ck.fx none tfs]=C at H ⊢
 have Y0:Sy h (ao C) h (stC gl b s A σ d++[Ck.fx none tfs]):=by rw[hC];exact Sy.start H
 unfold cQ
 apply F1
 unfold S75
 have ex:(v.says.toList==(⟨#[48]⟩:P0).toList)=decide (v.l=[48]):=cU
 have ey:(v.says.toList==(⟨#[49]⟩:P0).toList)=decide (v.l=[49]):=cU
 rw[ex,ey]
 intro hv
 have Y1:Sy h (ao C) hv (stC gl b s A σ d++[Ck.fx none tfs]):=Y0.gr (Fr.push h _)
 have s1:hv.size=h.size+1:=by simp[hv]
 clear_value hv
 have hbl:b<h.size:=fN Y0 0 rfl b (by simp[Ck.ob])
 intro K
 have k:(v.l=[48]\/v.l=[49])->K (v.kind:Int) v.says v.num hv:=by
  intro q
  dsimp-zeta only[K]
  rw[ey]
  refine⟨xR,0,rfl,_,Y1.factF 7 rfl 2 (by rw[e];rfl),b,0,rfl,PA,⟨_,Y1.cellO 0 rfl 5 rfl⟩,Y1.freeO 0 rfl 5,?_⟩
  intro hv5
  have Y5:Sy h (ao C) hv5 (stC gl b s A {σ with dir:=decide (v.l=[49])} d++[Ck.fx none tfs]):=Y1.stO 0 rfl 5 _
  exact⟨_,by simp[G.bX,G.aB,q],rfl,z6 Y5 (glr hC),⟨P3 _,P3 _,P3 _⟩⟩
 exact ae (fun q=>aF (fun _=>⟨rfl,k (.inl q)⟩) fun z=>absurd z PB) fun q=>aF (fun z=>⟨rfl,k (.inr (of_decide_eq_true z))⟩) fun z=>⟨_,by grind [G.bX,G.aB],rfl,Y1.fr⟩
theorem BD {t xR xK k:Nat} (hcl:qP cl) (H:Hp h (stC gl b s A σ d++[Ck.fx none tfs])) (ri:G.RI cl s σ) (hb:k/2<σ.weights.length) (hk:k<σ.ends.length) (e:tfs=[(t,0,PN 4),(t,1,fnV 108 #[pt xR,pt xK]),(xR,0,pt b),(xK,0,PN (k:Int))]):
  PJ 108 #[cQ v,pt xR,pt xK] h (tR gl b d s (stC gl b s A σ d++[Ck.fx none tfs]) h cl (.weight k) v A σ):=by
 generalize hC:stC gl b s A σ d++[Ck.fx none tfs]=C at H ⊢
 have Y0:Sy h (ao C) h (stC gl b s A σ d++[Ck.fx none tfs]):=by rw[hC];exact Sy.start H
 unfold cQ
 apply Cd
 unfold L5
 intro hv
 have Y1:Sy h (ao C) hv (stC gl b s A σ d++[Ck.fx none tfs]):=Y0.gr (Fr.push h _)
 have s1:hv.size=h.size+1:=by simp[hv]
 clear_value hv
 have hbl:b<h.size:=fN Y0 0 rfl b (by simp[Ck.ob])
 have hel:=ri.el
 have hwl:=ri.wl
 obtain⟨g,hg,gown,-⟩:=Y1.atS 4 rfl (i:=((k/2:Nat):Int)) PA PA
 have hgl:g<h.size:=fN Y0 4 rfl g gown
 have cR:ac hv xR 0=some (pt b):=Y1.factF 7 rfl 2 (by rw[e];rfl)
 have cK:ac hv xK 0=some (PN (k:Int)):=Y1.factF 7 rfl 3 (by rw[e];rfl)
 have nv:∀{x:Nat} {c:Ck} {j:Nat},(stC gl b s A σ d++[Ck.fx none tfs])[j]? =some c->j≠7->x∈c.own->∀o v,(x,o,v)∉tfs:=by
  intro x c j hj hj7 hx o v' hm
  exact(Y1.hp.ap j 7 _ _ hj7 hj rfl x hx).2 (Rj.2 ⟨_,hm,rfl⟩)
 have bne:b≠xR/\b≠xK:=⟨fun q=>nv (j:=0) rfl PB (x:=b) (by simp[Ck.ob]) 0 (pt b) (by rw[e,q];simp),fun q=>nv (j:=0) rfl PB (x:=b) (by simp[Ck.ob]) 0 (PN (k:Int)) (by rw[e,q];simp)⟩
 have gne:g≠xR/\g≠xK:=⟨fun q=>nv (j:=4) rfl PB gown 0 (pt b) (by rw[e,q];simp),fun q=>nv (j:=4) rfl PB gown 0 (PN (k:Int)) (by rw[e,q];simp)⟩
 refine⟨[],[b,g],PC,by simp;omega,xR,0,rfl,PC,_,cR,b,0,rfl,PC,A.aW,σ.weights.length,A.cW,Y1.cellO 0 rfl 13 rfl,xK,0,rfl,PC,(k:Int),cK,PB,xR,0,rfl,PE,_,cR,b,0,rfl,?_⟩
 rw[Br PA]
 refine ak [] (hcl v.num hv) PC (fun _ _ r=>r.2) fun w hv2 r=>?_
 obtain⟨rfl,f2⟩:=r
 have Y2:Sy h (ao C) hv2 (stC gl b s A σ d++[Ck.fx none tfs]):=Y1.gr f2
 refine⟨_,rfl,f2,g,0,hg,PA,PA,PA,?_⟩
 have hkw:(((k/2:Nat):Int)).toNat=k/2:=by omega
 rw[hkw]
 have c2:ac hv2 g (0+k/2*1)=_:=Y2.cellS 4 rfl hg (i:=k/2) (t:=0) (List.getElem?_eq_getElem hb) rfl
 refine⟨⟨_,c2⟩,Y2.freeS 4 rfl hg _,?_⟩
 intro hv3
 have Y3:Sy h (ao C) hv3 ([Ck.ob b 49 (rc s A σ d),Ck.mp A.mp (iu σ.ids),Ck.sl eS 9 A.aL σ.labels.length A.cL σ.labels,Ck.sl eFF 53 A.aS σ.spots.length A.cS σ.spots,Ck.sl eF 51 A.aW σ.weights.length A.cW (σ.weights.set (k/2) (cl v.num)),
  Ck.sl eT 81 A.aE σ.ends.length A.cE σ.ends,Ck.glob gl]++[Ck.fx none tfs]):=Y2.st1 4 rfl hg (i:=k/2) (cl v.num) hb rfl
 have f3:Fr [b,g] hv hv3:=f2.nil.hsetr (.inr PC)
 refine⟨f3,PA,⟨_,Y3.cellO 0 rfl 16 rfl⟩,Y3.freeO 0 rfl 16,?_⟩
 intro hv4
 have Y4:=Y3.stO 0 rfl 16 (PV true)
 refine⟨f3.hsetr (.inr PC),?_⟩
 have Y5:Sy h (ao C) hv4 ([Ck.ob b 49 [PU s,PN (σ.i:Int),PN (d:Int),PN (σ.n:Int),PT none 0 0,PV σ.dir,PT none 0 0,PT none 0 0,PT none 0 0,PV σ.graph,.map (some A.mp),
  PT A.aL σ.labels.length A.cL,PT A.aS σ.spots.length A.cS,PT A.aW σ.weights.length A.cW,PV σ.h0,PV σ.h1,PV true,PT A.aE σ.ends.length A.cE],Ck.mp A.mp (iu σ.ids),Ck.sl eS 9 A.aL σ.labels.length A.cL σ.labels,Ck.sl eFF 53 A.aS σ.spots.length A.cS σ.spots,Ck.sl eF 51 A.aW σ.weights.length A.cW (σ.weights.set (k/2) (cl v.num)),
  Ck.sl eT 81 A.aE σ.ends.length A.cE σ.ends,Ck.glob gl]++[Ck.fx none tfs]):=Y4
 have l1:σ.weights.length=(σ.weights.set (k/2) (cl v.num)).length:=by simp
 rw[l1]at Y5
 exact⟨{σ with weights:=σ.weights.set (k/2) (cl v.num),h2:=true},rfl,rfl,z6 (rest:=[Ck.fx none tfs]) Y5 (glr hC),⟨P3 _,P3 _,PC⟩⟩
theorem xd {α:Type} {l:List α} {i:Nat} {x:α} {f:α->α} (hx:l[i]? =some x):l.modify i f=l.set i (f x):=by
 apply Re
 grind
theorem Fq {t xR xP g k:Nat} {y:Bool} (hcl:qP cl) (H:Hp h (stC gl b s A σ d++[Ck.fx none tfs])) (ri:G.RI cl s σ) (hb:k<σ.n) (hg:A.aS=some ⟨g,0,none⟩) (e:tfs=[(t,0,PN 4),(t,1,fnV 145 #[pt xP,pt xR]),(xR,0,pt b),(xP,0,PW (some ⟨g,k*2+y.toNat,none⟩))]):
  PJ 145 #[cQ v,pt xP,pt xR] h (tR gl b d s (stC gl b s A σ d++[Ck.fx none tfs]) h cl (.spot k y) v A σ):=by
 generalize hC:stC gl b s A σ d++[Ck.fx none tfs]=C at H ⊢
 have Y0:Sy h (ao C) h (stC gl b s A σ d++[Ck.fx none tfs]):=by rw[hC];exact Sy.start H
 unfold cQ
 apply Cg
 unfold Mb
 intro hv
 have Y1:Sy h (ao C) hv (stC gl b s A σ d++[Ck.fx none tfs]):=Y0.gr (Fr.push h _)
 have s1:hv.size=h.size+1:=by simp[hv]
 clear_value hv
 have hbl:b<h.size:=fN Y0 0 rfl b (by simp[Ck.ob])
 have hsl:=ri.sl
 have gown:g∈(Ck.sl eFF 53 A.aS σ.spots.length A.cS σ.spots).own:=by simp[Ck.sl,hg,ai]
 have hgl:g<h.size:=fN Y0 3 rfl g gown
 have cR:ac hv xR 0=some (pt b):=Y1.factF 7 rfl 2 (by rw[e];rfl)
 have cP:ac hv xP 0=some (PW (some ⟨g,k*2+y.toNat,none⟩)):=Y1.factF 7 rfl 3 (by rw[e];rfl)
 have nv:∀{x:Nat} {c:Ck} {j:Nat},(stC gl b s A σ d++[Ck.fx none tfs])[j]? =some c->j≠7->x∈c.own->∀o v,(x,o,v)∉tfs:=by
  intro x c j hj hj7 hx o v' hm
  exact(Y1.hp.ap j 7 _ _ hj7 hj rfl x hx).2 (Rj.2 ⟨_,hm,rfl⟩)
 have nP:∀x,(x=b\/x=g)->x≠xR/\x≠xP:=by
  rintro x (rfl | rfl)
  ·exact⟨fun q=>nv (j:=0) rfl PB (x:=x) (by simp[Ck.ob]) 0 (pt x) (by rw[e,q];simp),fun q=>nv (j:=0) rfl PB (x:=x) (by simp[Ck.ob]) 0 (PW (some ⟨g,k*2+y.toNat,none⟩)) (by rw[e,q];simp)⟩
  ·exact⟨fun q=>nv (j:=3) rfl PB gown 0 (pt b) (by rw[e,q];simp),fun q=>nv (j:=3) rfl PB gown 0 (PW (some ⟨x,k*2+y.toNat,none⟩)) (by rw[e,q];simp)⟩
 have np:=nP b (.inl rfl)
 have nq:=nP g (.inr rfl)
 refine⟨[b,g],by simp;omega,xP,0,rfl,PE,_,cP,xR,0,rfl,PE,_,cR,b,0,rfl,?_⟩
 refine ak [] (hcl v.num hv) PC (fun _ _ r=>r.2) fun w hv2 r=>?_
 obtain⟨rfl,f2⟩:=r
 have Y2:Sy h (ao C) hv2 (stC gl b s A σ d++[Ck.fx none tfs]):=Y1.gr f2
 obtain⟨p,hp⟩:∃p,σ.spots[k]? =some p:=⟨_,List.getElem?_eq_getElem PA⟩
 have ty:y.toNat<2:=by cases y<;>decide
 have ey:k*2+y.toNat=0+k*eFF.sz+y.toNat:=by show _=0+k*2+y.toNat;omega
 obtain⟨u,hu⟩:∃u,(eFF.enc p)[y.toNat]? =some u:=by cases y<;>exact⟨_,rfl⟩
 have c2:ac hv2 g (k*2+y.toNat)=some u:=by rw[ey];exact Y2.cellS 3 rfl hg hp hu
 refine⟨_,rfl,f2.nil,g,_,rfl,PA,⟨_,c2⟩,Y2.freeS 3 rfl hg _,?_⟩
 intro hv3
 have Y3:Sy h (ao C) hv3 ([Ck.ob b 49 (rc s A σ d),Ck.mp A.mp (iu σ.ids),Ck.sl eS 9 A.aL σ.labels.length A.cL σ.labels,Ck.sl eFF 53 A.aS σ.spots.length A.cS (σ.spots.set k (if y=true then(p.1,cl v.num)else(cl v.num,p.2))),Ck.sl eF 51 A.aW σ.weights.length A.cW σ.weights,
  Ck.sl eT 81 A.aE σ.ends.length A.cE σ.ends,Ck.glob gl]++[Ck.fx none tfs]):=by
  have:=Y2.stS 3 rfl hg (i:=k) (t:=y.toNat) (x:=p) (if y=true then(p.1,cl v.num)else(cl v.num,p.2)) (v:=PS (cl v.num)) hp ty (by cases y<;>rfl)
  rw[<-ey]at this
  exact this
 have f3:Fr [b,g] hv hv3:=f2.nil.hsetr (.inr PC)
 refine⟨f3,PA,⟨_,Y3.cellO 0 rfl 15 rfl⟩,Y3.freeO 0 rfl 15,?_⟩
 intro hv4
 have Y4:=Y3.stO 0 rfl 15 (PV true)
 refine⟨f3.hsetr (.inr PC),?_⟩
 have Y5:Sy h (ao C) hv4 ([Ck.ob b 49 [PU s,PN (σ.i:Int),PN (d:Int),PN (σ.n:Int),PT none 0 0,PV σ.dir,PT none 0 0,PT none 0 0,PT none 0 0,PV σ.graph,.map (some A.mp),
  PT A.aL σ.labels.length A.cL,PT A.aS σ.spots.length A.cS,PT A.aW σ.weights.length A.cW,PV σ.h0,PV true,PV σ.h2,PT A.aE σ.ends.length A.cE],Ck.mp A.mp (iu σ.ids),Ck.sl eS 9 A.aL σ.labels.length A.cL σ.labels,Ck.sl eFF 53 A.aS σ.spots.length A.cS (σ.spots.set k (if y=true then(p.1,cl v.num)else(cl v.num,p.2))),Ck.sl eF 51 A.aW σ.weights.length A.cW σ.weights,
  Ck.sl eT 81 A.aE σ.ends.length A.cE σ.ends,Ck.glob gl]++[Ck.fx none tfs]):=Y4
 have l1:σ.spots.length=(σ.spots.set k (if y=true then(p.1,cl v.num)else(cl v.num,p.2))).length:=by simp
 rw[l1]at Y5
 refine⟨{σ with spots:=σ.spots.set k (if y=true then(p.1,cl v.num)else(cl v.num,p.2)),h1:=true},?_,rfl,z6 (rest:=[Ck.fx none tfs]) Y5 (glr hC),⟨P3 _,P3 _,P3 _⟩⟩
 simp only[G.bX]
 rw[xd hp]
theorem Lw {t xR xT k:Nat} (H:Hp h (stC gl b s A σ d++[Ck.fx none tfs])) (hv:v.says.size<=262144) (hk:k<σ.ends.length) (e:tfs=[(t,0,PN 4),(t,1,fnV 107 #[pt xR,pt xT]),(xR,0,pt b),(xT,0,PN (k:Int))]):
  PM 107 #[cQ v,pt xR,pt xT] h (tR gl b d s (stC gl b s A σ d++[Ck.fx none tfs]) h cl (.fin k) v A σ) (tE (stC gl b s A σ d++[Ck.fx none tfs]) h cl (.fin k) v σ):=by
 generalize hC:stC gl b s A σ d++[Ck.fx none tfs]=C at H ⊢
 have Y0:Sy h (ao C) h (stC gl b s A σ d++[Ck.fx none tfs]):=by rw[hC];exact Sy.start H
 apply Cc (v.kind:Int) (v.at_:Int) v.says v.num
 unfold L3
 intro hv1
 have Y1:Sy h (ao C) hv1 (stC gl b s A σ d++[Ck.fx none tfs]):=Y0.gr (Fr.push h _)
 have s1:hv1.size=h.size+1:=by simp[hv1]
 clear_value hv1
 refine aK [] (I4 (Y1.glo 6 rfl) hv) PC (fun _ _ r=>r.choose_spec.2.2) (fun _ _ r=>r.2.2) (fun w hv2 r=>?_) fun w hv2 r=>?_
 ·obtain⟨n,q,rfl,f2⟩:=r
  have Y2:Sy h (ao C) hv2 (stC gl b s A σ d++[Ck.fx none tfs]):=Y1.gr f2
  obtain⟨g,hg,gown,-⟩:=Y2.atS 5 rfl (i:=(k:Int)) PA PA
  have hgl:g<h.size:=fN Y0 5 rfl g gown
  obtain⟨p,hp⟩:∃p,σ.ends[k]? =some p:=⟨_,List.getElem?_eq_getElem hk⟩
  have cE:∀j u,(eT.enc p)[j]? =some u->ac hv2 g (0+k*4+j)=some u:=fun j u hu=>Y2.cellS 5 rfl hg hp hu
  refine⟨n,rfl,xR,0,rfl,_,Y2.factF 7 rfl 2 (by rw[e];rfl),b,0,rfl,A.aE,σ.ends.length,A.cE,Y2.cellO 0 rfl 17 rfl,xT,0,rfl,(k:Int),Y2.factF 7 rfl 3 (by rw[e];rfl),g,0,hg,PA,PA,PA,
   ⟨_,cE 0 _ rfl⟩,Y2.freeS 5 rfl hg _,⟨_,cE 1 _ rfl⟩,Y2.freeS 5 rfl hg _,⟨_,cE 2 _ rfl⟩,Y2.freeS 5 rfl hg _,⟨_,cE 3 _ rfl⟩,Y2.freeS 5 rfl hg _,?_⟩
  rw[P8]
  intro hv3
  have Ya:=Y2.stS 5 rfl hg (i:=k) (t:=0) (x:=p) ⟨v.kind,p.at_,p.says,p.num⟩ (v:=PN (v.kind:Int)) hp PB rfl
  have Yb:=Ya.stS 5 rfl hg (i:=k) (t:=1) (x:=⟨v.kind,p.at_,p.says,p.num⟩) ⟨v.kind,v.at_,p.says,p.num⟩ (v:=PN (v.at_:Int)) (by simp[hk]) PB rfl
  have Yc:=Yb.stS 5 rfl hg (i:=k) (t:=2) (x:=⟨v.kind,v.at_,p.says,p.num⟩) ⟨v.kind,v.at_,v.says,p.num⟩ (v:=PU v.says) (by simp[hk]) PB rfl
  have Yd:=Yc.stS 5 rfl hg (i:=k) (t:=3) (x:=⟨v.kind,v.at_,v.says,p.num⟩) v (v:=PS v.num) (by simp[hk]) PB rfl
  simp only[List.set_set]at Yd
  have Y5:Sy h (ao C) hv3 ([Ck.ob b 49 (rc s A σ d),Ck.mp A.mp (iu σ.ids),Ck.sl eS 9 A.aL σ.labels.length A.cL σ.labels,Ck.sl eFF 53 A.aS σ.spots.length A.cS σ.spots,Ck.sl eF 51 A.aW σ.weights.length A.cW σ.weights,
   Ck.sl eT 81 A.aE σ.ends.length A.cE (σ.ends.set k v),Ck.glob gl]++[Ck.fx none tfs]):=Yd
  unfold rc at Y5
  have l1:σ.ends.length=(σ.ends.set k v).length:=by simp
  rw[l1]at Y5
  exact⟨{σ with ends:=σ.ends.set k v},by simp[G.bX,q],rfl,z6 (rest:=[Ck.fx none tfs]) Y5 (glr hC),⟨P3 _,PC,P3 _⟩⟩
 ·obtain⟨q,rfl,f2⟩:=r
  exact⟨_,by simp[G.bX,q],rfl,Y1.fr.trans f2.nil⟩
theorem Ft {t xR xV k:Nat} (H:Hp h (stC gl b s A σ d++[Ck.fx none tfs])) (ri:G.RI cl s σ) (hb:k<σ.n) (e:tfs=[(t,0,PN 5),(t,1,fnV 103 #[pt xR,pt xV]),(xR,0,pt b),(xV,0,PN (k:Int))]):
  PM 103 #[cQ v,pt xR,pt xV] h (tR gl b d s (stC gl b s A σ d++[Ck.fx none tfs]) h cl (.label k) v A σ) (tE (stC gl b s A σ d++[Ck.fx none tfs]) h cl (.label k) v σ):=by
 generalize hC:stC gl b s A σ d++[Ck.fx none tfs]=C at H ⊢
 have Y0:Sy h (ao C) h (stC gl b s A σ d++[Ck.fx none tfs]):=by rw[hC];exact Sy.start H
 apply B8 (v.kind:Int) (v.at_:Int) v.says v.num
 unfold LW
 intro hv1
 have Y1:Sy h (ao C) hv1 (stC gl b s A σ d++[Ck.fx none tfs]):=Y0.gr (Fr.push h _)
 have s1:hv1.size=h.size+1:=by simp[hv1]
 clear_value hv1
 have hbl:b<h.size:=fN Y0 0 rfl b (by simp[Ck.ob])
 have hll:=ri.ll
 refine aF (fun q1=>⟨rfl,?_⟩) fun q1=>⟨_,?_,rfl,Y1.fr⟩
 ·have q1:v.says.size<=256:=by grind
  refine gG (Lt PA) ⟨_,rfl,Fr.refl _ _,?_⟩
  have e68:(v.says.data.toList.all (fun c=>G.gH c.toNat)&&decide (v.says.size<=256))=v.l.all fun c=>G.gH c.toNat:=by simp[q1,G.Tok.l]
  rw[e68]
  refine aF (fun q2=>⟨rfl,Fr.refl _ _,?_⟩) fun q2=>⟨_,?_,rfl,Y1.fr⟩
  ·obtain⟨g,hg,gown,-⟩:=Y1.atS 2 rfl (i:=(k:Int)) PA PA
   have hgl:g<h.size:=fN Y0 2 rfl g gown
   have cR:ac hv1 xR 0=some (pt b):=Y1.factF 7 rfl 2 (by rw[e];rfl)
   have cV:ac hv1 xV 0=some (PN (k:Int)):=Y1.factF 7 rfl 3 (by rw[e];rfl)
   have nv:∀{x:Nat} {c:Ck} {j:Nat},(stC gl b s A σ d++[Ck.fx none tfs])[j]? =some c->j≠7->x∈c.own->∀o v,(x,o,v)∉tfs:=by
    intro x c j hj hj7 hx o v' hm
    exact(Y1.hp.ap j 7 _ _ hj7 hj rfl x hx).2 (Rj.2 ⟨_,hm,rfl⟩)
   have bne:b≠xR:=fun q=>nv (j:=0) rfl PB (x:=b) (by simp[Ck.ob]) 0 (pt b) (by rw[e,q];simp)
   have gne:g≠xR:=fun q=>nv (j:=2) rfl PB gown 0 (pt b) (by rw[e,q];simp)
   have c2:ac hv1 g (0+k*1)=_:=Y1.cellS 2 rfl hg (i:=k) (t:=0) (List.getElem?_eq_getElem PA) rfl
   refine⟨[b,g],by simp;omega,xR,0,rfl,_,cR,b,0,rfl,A.aL,σ.labels.length,A.cL,Y1.cellO 0 rfl 11 rfl,xV,0,rfl,(k:Int),cV,xR,0,rfl,PE,_,cR,g,0,hg,PA,PA,b,0,rfl,PA,⟨_,c2⟩,Y1.freeS 2 rfl hg _,?_⟩
   rw[P8]
   intro hv3
   have Y3:Sy h (ao C) hv3 ([Ck.ob b 49 (rc s A σ d),Ck.mp A.mp (iu σ.ids),Ck.sl eS 9 A.aL σ.labels.length A.cL (σ.labels.set k v.says),Ck.sl eFF 53 A.aS σ.spots.length A.cS σ.spots,Ck.sl eF 51 A.aW σ.weights.length A.cW σ.weights,
    Ck.sl eT 81 A.aE σ.ends.length A.cE σ.ends,Ck.glob gl]++[Ck.fx none tfs]):=Y1.st1 2 rfl hg (i:=k) v.says PA rfl
   have f3:Fr [b,g] hv1 hv3:=(Fr.refl _ _).hsetr (.inr PC)
   refine⟨f3,PA,⟨_,Y3.cellO 0 rfl 14 rfl⟩,Y3.freeO 0 rfl 14,?_⟩
   intro hv4
   have Y4:=Y3.stO 0 rfl 14 (PV true)
   refine⟨f3.hsetr (.inr PC),?_⟩
   have Y5:Sy h (ao C) hv4 ([Ck.ob b 49 [PU s,PN (σ.i:Int),PN (d:Int),PN (σ.n:Int),PT none 0 0,PV σ.dir,PT none 0 0,PT none 0 0,PT none 0 0,PV σ.graph,.map (some A.mp),
    PT A.aL σ.labels.length A.cL,PT A.aS σ.spots.length A.cS,PT A.aW σ.weights.length A.cW,PV true,PV σ.h1,PV σ.h2,PT A.aE σ.ends.length A.cE],Ck.mp A.mp (iu σ.ids),Ck.sl eS 9 A.aL σ.labels.length A.cL (σ.labels.set k v.says),Ck.sl eFF 53 A.aS σ.spots.length A.cS σ.spots,Ck.sl eF 51 A.aW σ.weights.length A.cW σ.weights,
    Ck.sl eT 81 A.aE σ.ends.length A.cE σ.ends,Ck.glob gl]++[Ck.fx none tfs]):=Y4
   have l1:σ.labels.length=(σ.labels.set k v.says).length:=by simp
   rw[l1]at Y5
   exact⟨{σ with labels:=σ.labels.set k v.says,h0:=true},by grind [G.bX,G.aB],rfl,z6 (rest:=[Ck.fx none tfs]) Y5 (glr hC),⟨P3 _,P3 _,P3 _⟩⟩
  grind [G.bX,G.aB]
 grind [G.bX,G.aB]
theorem og {l:List (Int × Nat)} {j:Nat} {p:Value × Value} (h:(iu l)[j]? =some p):∃q,l[j]? =some q/\p=(PN q.1,PN (q.2:Int)):=by
 grind [iu]
theorem oX (l:List (Int × Nat)):fw zx (Ent (iu l)):=by
 intro e he
 obtain⟨j,p,h1,rfl⟩:=gj he
 obtain⟨k,_,rfl⟩:=og h1
 rfl
theorem BF {l:List (Int × Nat)} {j:Nat} {q:Int × Nat} (h:l[j]? =some q):(⟨PN q.1,PN (q.2:Int),j⟩:MapEntry)∈(Ent (iu l)).toList:=by
 refine Si.1 (Rt (i:=j) ?_)
 rw[gi]
 simp[iu,h]
theorem OP {t xR xV k:Nat} (H:Hp h (stC gl b s A σ d++[Ck.fx none tfs])) (hv:v.says.size<=262144) (e:tfs=[(t,0,PN 4),(t,1,fnV 102 #[pt xR,pt xV]),(xR,0,pt b),(xV,0,PN (k:Int))]):
  PM 102 #[cQ v,pt xR,pt xV] h (tR gl b d s (stC gl b s A σ d++[Ck.fx none tfs]) h cl (.id k) v A σ) (tE (stC gl b s A σ d++[Ck.fx none tfs]) h cl (.id k) v σ):=by
 generalize hC:stC gl b s A σ d++[Ck.fx none tfs]=C at H ⊢
 have Y0:Sy h (ao C) h (stC gl b s A σ d++[Ck.fx none tfs]):=by rw[hC];exact Sy.start H
 apply B7 (v.kind:Int) (v.at_:Int) v.says v.num
 unfold LV
 intro hv1
 have Y1:Sy h (ao C) hv1 (stC gl b s A σ d++[Ck.fx none tfs]):=Y0.gr (Fr.push h _)
 have s1:hv1.size=h.size+1:=by simp[hv1]
 clear_value hv1
 have hml:A.mp<h.size:=fN Y0 1 rfl A.mp (by simp[Ck.mp])
 refine aK [] (I4 (Y1.glo 6 rfl) hv) PC (fun _ _ r=>r.choose_spec.2.2) (fun _ _ r=>r.2.2) (fun w hv2 r=>?_) fun w hv2 r=>?_
 ·obtain⟨n,q,rfl,f2⟩:=r
  have Y2:Sy h (ao C) hv2 (stC gl b s A σ d++[Ck.fx none tfs]):=Y1.gr f2
  refine⟨n,rfl,?_⟩
  intro K
  have hm:=Y2.mapM 1 rfl
  have kt:(σ.ids.any fun p=>p.1==n)=true->K true hv2:=by
   intro ha
   refine aF (fun z=>absurd z PB) fun _=>⟨_,?_,rfl,Y2.fr⟩
   grind [G.bX,G.aB]
  have kf:(σ.ids.any fun p=>p.1==n)=false->K false hv2:=by
   intro ha
   refine aF (fun _=>⟨rfl,?_⟩) fun z=>absurd z PB
   refine⟨xR,0,rfl,_,Y2.factF 7 rfl 2 (by rw[e];rfl),b,0,rfl,some A.mp,Y2.cellO 0 rfl 10 rfl,xV,0,rfl,(k:Int),Y2.factF 7 rfl 3 (by rw[e];rfl),A.mp,rfl,PA,_,_,hm,oX _,?_,?_⟩
   ·intro j ev hj hk
    exfalso
    rw[gi]at hj
    grind [og]
   ·intro _ hv6
    have Y6:Sy h (ao C) hv6 (stC gl b s A {σ with ids:=σ.ids++[(n,k)]} d++[Ck.fx none tfs]):=Y2.putM 1 rfl (iu (σ.ids++[(n,k)])) (by rw[uG];simp[iu]) (by simp[iu])
    exact⟨{σ with ids:=σ.ids++[(n,k)]},by grind [G.bX,G.aB],rfl,z6 Y6 (glr hC),⟨P3 _,P3 _,P3 _⟩⟩
  refine⟨xR,0,rfl,_,Y2.factF 7 rfl 2 (by rw[e];rfl),b,0,rfl,some A.mp,Y2.cellO 0 rfl 10 rfl,A.mp,rfl,_,_,hm,oX _,?_,?_⟩
  ·grind [gj,og]
  ·intro hn
   refine kf ?_
   rw[List.any_eq_false]
   intro w hw hwn
   obtain⟨j,hj⟩:=QO.1 hw
   exact hn _ (BF hj) PE
 ·obtain⟨q,rfl,f2⟩:=r
  exact⟨_,by simp[G.bX,q],rfl,Y1.fr.trans f2.nil⟩
end
abbrev Es :=List (Int × Int)
def nU (g:Int) (e:Int × Int):Bool:=decide (0<=e.1)&&decide (e.1<g)&&decide (0<=e.2)&&decide (e.2<g)
def lr (g:Int) (es:Es):Bool:=decide (0<=g)&&decide (g<=1024)&&decide (es.length<=3072)&&es.all (nU g)
theorem lu {g:Int} {e:Int × Int}:nU g e=true ↔ (0<=e.1/\e.1<g)/\0<=e.2/\e.2<g:=by
 simp[nU];omega
theorem oY {g:Int} {es:Es}:lr g es=true ↔ (0<=g/\g<=1024)/\es.length<=3072/\∀e∈es,nU g e=true:=by
 simp only[lr,P6,decide_eq_true_eq,Qx]
 exact⟨fun⟨⟨⟨a,b⟩,c⟩,d⟩=>⟨⟨a,b⟩,c,d⟩,fun⟨⟨a,b⟩,c,d⟩=>⟨⟨⟨a,b⟩,c⟩,d⟩⟩
structure MayN (g:Int) (es:Es):Prop where
 g0:0<=g
 g1:g<=1024
 m:es.length<=3072
 e:∀(i:Nat) (x:Int × Int),es[i]? =some x->(0<=x.1/\x.1<g)/\0<=x.2/\x.2<g
theorem I6 {g:Int} {es:Es} (h:lr g es=true):MayN g es:=by
 obtain⟨⟨h1,h2⟩,h3,h4⟩:=oY.1 h
 exact⟨h1,h2,h3,fun i x hx=>lu.1 (h4 x (Qa hx))⟩
theorem BQ {g:Int} {es:Es} {i:Nat} {x:Int × Int} (hx:es[i]? =some x) (h:(es.take i).all (nU g)=true) (hb:nU g x=true):(es.take (i+1)).all (nU g)=true:=by
 rw[Rf,hx]
 simp only[List.all_append,h,Rn,Option.toList,List.all_cons,List.all_nil,Bool.and_true]
 exact hb
theorem BR {g:Int} {es:Es} {i:Nat} {x:Int × Int} (hx:es[i]? =some x) (hb:nU g x=false):lr g es=false:=by
 rw[<-QK]
 intro h
 have:=(oY.1 h).2.2 x (Qa hx)
 rw[hb]at this;cases this
theorem OZ {a b:Int} {j:Int} (h0:0<=j) (h2:j<2):(#[PN a,PN b]:Array Value)[Int.toNat j]? =some (PN (wH (a,b) j)):=by
 have:j=0\/j=1:=by omega
 rcases this with rfl | rfl<;>rfl
theorem LC {g:Int} {es:Es} {R:Bool->Prop} (h:R (lr g es)):JF g es R:=by
 apply Pf
 unfold T29
 have no:lr g es=false->R false:=fun e=>e▸h
 refine⟨lr g es=false,?_,no⟩
 refine ae (fun h1=>by simp[lr];omega) fun h1=>ae (fun h2=>by simp[lr];omega) fun h2=>ae (fun h3=>no (by simp[lr];omega)) fun h3=>?_
 refine⟨fun i=>∃k:Nat,i=k/\k<=es.length/\(es.take k).all (nU g)=true,fun i=>((es.length:Int)-i).toNat,⟨0,rfl,PA,PC⟩,?_⟩
 rintro _ ⟨k,rfl,hk,ha⟩
 refine ae (fun hlt=>⟨PA,hlt,fun x hx=>?_⟩) fun hlt=>?_
 ·have hx:es[k]? =some x:=by simpa using hx
  have small:∀j:Int,(0<=wH x j/\wH x j<g)\/nU g x=false:=fun j=>by
   by_cases hb:nU g x=true
   ·have:=lu.1 hb
    left;unfold wH;split<;>omega
   ·right;simpa using hb
  refine⟨fun j=>∃n:Nat,j=n/\n<=2/\∀m:Int,0<=m->m<n->0<=wH x m/\wH x m<g,fun j=>(2-j).toNat,⟨0,rfl,PA,PA⟩,?_⟩
  rintro _ ⟨n,rfl,hn,hall⟩
  refine ae (fun hlt2=>⟨PA,PA,wH x n,OZ PA hlt2,?_⟩) fun hlt2=>?_
  ·refine ae (fun h5=>no ?_) fun h5=>ae (fun h6=>no ?_) fun h6=>?_
   ·rcases small n with q | q
    ·omega
    ·exact BR hx q
   ·rcases small n with q | q
    ·omega
    ·exact BR hx q
   ·rw[wr PA PA]
    refine⟨⟨n+1,PC,PA,fun m h7 h8=>?_⟩,by dsimp only;omega⟩
    by_cases h9:m=n
    ·subst h9;omega
    ·exact hall m h7 PA
  ·rw[wr PA PA]
   have hn2:n=2:=by omega
   subst hn2
   have q0:=hall 0 PA PA
   have q1:=hall 1 PA PA
   have hb:nU g x=true:=lu.2 (by simp[wH]at q0 q1;omega)
   exact⟨⟨k+1,PC,PA,BQ hx ha hb⟩,by dsimp only;omega⟩
 ·have hke:k=es.length:=by omega
  subst hke
  rw[RK]at ha
  have:lr g es=true:=by
   simp only[lr,P6,decide_eq_true_eq];exact⟨⟨⟨PA,PA⟩,PA⟩,ha⟩
  exact this▸h
def xf (s:P0):Bool:=(s.data.toList.all fun c=>G.gH c.toNat)&&decide (s.size<=256)
theorem LF {s:P0} {R:Bool->Prop} (hs:s.size<=9223372036854775807) (r:R (xf s)):MM s R:=by
 intro h _
 exact(Lt hs).mono fun v h' ⟨e1,e2⟩=>⟨_,by rw[e2];exact sy0 (Fr.refl _ _),e1,r⟩
def jA (a n:Int):Bool:=decide (a=0)||decide (a=n)
theorem xg {a n:Int} {R:Bool->Prop} (r:R (jA a n)):CE a n R:=by
 apply Pg
 unfold T30
 unfold jA at r
 refine au (fun h=>?_) fun h=>?_
 ·rw[decide_eq_true h]at r;exact r
 ·rw[decide_eq_false h,Bool.false_or]at r
  have:(a==n)=decide (a=n):=by rw[Rr];simp
  rw[this];exact r
def gn (n:Int) (es:Es) (ls:List ByteArray) (ss:List (Nat × Nat)) (ws:List Nat):Bool:=
 lr n es&&(jA (ls.length:Int) n&&(jA (ss.length:Int) n&&(jA (ws.length:Int) (es.length:Int)&&ls.all xf)))
theorem BS {n:Int} {es:Es} {dr:Bool} {ls:List ByteArray} {ss:List (Nat × Nat)} {ws:List Nat} {R:Bool->Prop} (hs:∀s∈ls,s.size<=9223372036854775807) (hl:ls.length<=9223372036854775807) (r:R (gn n es ls ss ws)):Ok9 n es dr ls ss ws R:=by
 apply ok9
 unfold T9
 have no:gn n es ls ss ws=false->R false:=fun e=>e▸r
 refine⟨gn n es ls ss ws=false,LC (bj (fun q=>?_) fun q1=>xg (bj (fun q=>?_) fun q2=>xg (bj (fun q=>?_) fun q3=>xg (bj (fun q=>?_) fun q4=>?_)))),no⟩
 ·unfold gn;rw[q];rfl
 ·unfold gn;rw[q];simp
 ·unfold gn;rw[q];simp
 ·refine no ?_
  unfold gn;rw[q];simp
 ·refine⟨fun i=>∃k:Nat,i=k/\k<=ls.length/\(ls.take k).all xf=true,fun i=>((ls.length:Int)-i).toNat,⟨0,rfl,PA,PC⟩,?_⟩
  rintro _ ⟨k,rfl,hk,ha⟩
  refine ae (fun hlt=>⟨PA,hlt,fun x hx=>LF (hs x (Qa hx)) (bj (fun q=>no ?_) fun q=>?_)⟩) fun hlt=>?_
  ·have:ls.all xf=false:=by
    rw[List.all_eq_false]
    exact⟨x,Qa hx,by simp[q]⟩
   unfold gn;rw[this];simp
  ·have hw:i64.wrap ((k:Int)+1)=((k+1:Nat):Int):=by rw[wr PA PA];omega
   rw[hw]
   refine⟨⟨k+1,rfl,PA,?_⟩,by dsimp only;omega⟩
   have hx:ls[k]? =some x:=by simpa using hx
   rw[Rf,hx]
   simp only[List.all_append,ha,Rn,Option.toList,List.all_cons,List.all_nil,Bool.and_true]
   exact q
  ·have hke:k=ls.length:=by omega
   rw[hke,RK]at ha
   have e:gn n es ls ss ws=true:=by
    unfold gn;rw[q1,q2,q3,q4,ha];rfl
   rw[e]at r;exact r
open Go.Proofs
theorem uV (l:PZ):(G.mkB l).data.toList=l:=by simp[G.mkB]
theorem gJ (l:PZ):(G.mkB l).size=l.length:=by simp[G.mkB,ByteArray.size]
def Hd (H:List Nat) (B:List Ck):Prop:=∀x∈H,∃j:Nat,B[j]? =some (Ck.junk x)
section
variable {b c d:Nat} {u:Bool} {A:PY} {l:PZ} {h0 h:ab} {C B:List Ck} {H:List Nat} {K:Value->ab->Prop}
theorem Sq.sub {cs cs':List Ck} (Q:Sq h0 C h cs) (f:Nat->Nat) (hf:∀i j c e,cs'[i]? =some c->cs'[j]? =some e->f i=f j->i=j) (hg:∀k c,cs'[k]? =some c->cs[f k]? =some c):Sq h0 C h cs':=
 ⟨⟨Q.sy.fr,⟨fun k c hk=>Q.sy.hp.ok _ c (hg k c hk),fun i j c e hij hi hj=>Q.sy.hp.ap (f i) (f j) c e (fun q=>hij (hf i j c e hi hj q)) (hg i c hi) (hg j e hj)⟩,fun k c hk=>Q.sy.ow _ c (hg k c hk)⟩,fun x hx=>by
  obtain⟨k,c,h1,h2⟩:=cw.1 hx
  exact Q.ri x (cw.2 ⟨_,c,hg k c h1,h2⟩)⟩
theorem Sq.del {D:List Ck} {c:Ck} (Q:Sq h0 C h (D++[c]++B)):Sq h0 C h (D++B):=by
 refine Sq.sub Q (fun k=>if k<D.length then k else k+1) (fun i j _ _ _ _ e=>?_) fun k c hk=>?_
 ·try simp only at e
  split at e<;>split at e<;>omega
 ·try simp only
  split
  ·rename_i hl
   rw[List.getElem?_append_left hl]at hk
   rw[Qj,List.getElem?_append_left hl];exact hk
  ·rename_i hl
   rw[List.getElem?_append_right PA]at hk
   rw[List.getElem?_append_right PH]
   simpa[show k+1-(D.length+1)=k-D.length by omega]using hk
theorem Sq.ins {D:List Ck} (Q:Sq h0 C h (D++B)) (ty:TypeId) (vs:List Value):Sq h0 C (h.push (.cells vs.toArray ty)) (D++[Ck.ob h.size ty vs]++B):=by
 have Q1:Sq h0 C (h.push (.cells vs.toArray ty)) (D++B++[Ck.ob h.size ty vs]):=⟨Sy.newO Q.sy vs,fun x hx=>Q.ri x (by simpa[rds,Ck.ob]using hx)⟩
 refine Sq.sub Q1 (fun k=>if k<D.length then k else if k=D.length then D.length+B.length else k-1) (fun i j c e hi hj q=>?_) fun k c hk=>?_
 ·have li:=(List.getElem?_eq_some_iff.1 hi).1
  have lj:=(List.getElem?_eq_some_iff.1 hj).1
  simp only[P9,Rs]at li lj
  try simp only at q
  split at q<;>split at q<;>(try split at q)<;>(try split at q)<;>omega
 ·have li:=(List.getElem?_eq_some_iff.1 hk).1
  simp only[P9,Rs]at li
  try simp only
  split
  ·rename_i hl
   rw[Qj,List.getElem?_append_left hl]at hk
   rw[Qj,List.getElem?_append_left hl];exact hk
  ·split
   ·rename_i hl
    subst hl
    rw[Qj,List.getElem?_append_right (P3 _)]at hk
    rw[List.getElem?_append_right PC]
    simpa using hk
   ·rename_i hl1 hl2
    rw[List.getElem?_append_right PH]at hk
    rw[Qj,List.getElem?_append_right PA,List.getElem?_append_left (by simp at hk;omega)]
    simpa[show k-(D.length+1)=k-1-D.length by omega]using hk
theorem Hd.apart {D:List Ck} (hd:Hd H B) (Q:Sq h0 C h (D++B)):∀x∈H,x<h.size/\x∉ao D:=by
 intro x hx
 obtain⟨j,hj⟩:=hd x hx
 have hj':=jy (A:=D) hj
 refine⟨(Ck.junk x |>.lt h (Q.sy.ok hj')).1 x (by simp[Ck.junk]),fun w=>?_⟩
 obtain⟨k,e,h1,h2⟩:=bD.1 w
 have:=(List.getElem?_eq_some_iff.1 h1).1
 exact(Q.sy.hp.ap k (D.length+j) e _ PA (gf h1) hj' x h2).1 (by simp[Ck.junk])
theorem oh :(Q:Sq h0 C h (wC b u A c d l++B))->Hp h (wC b u A c d l):=fun Q=>(Q.pick [0,1] (by simp[jR,wC];decide)).hp
theorem uW {k v:P0} (Q:Sq h0 C h (wC b u A c d l++B)) (hd:Hd H B) (hd':d<=100) (hl:l.length<=90000000) (hk:k.size<=1000/\v.size<=100000)
  (R:∀A' c' h2,Sq h0 C h2 (wC b true A' c' d (l++(G.kv (2*d) k.data.toList v.data.toList++[10]))++B)->K (.tuple #[]) h2):
  PI 20 #[PW (some ⟨b,0,none⟩),PT (some ⟨h.size,0,none⟩) 2 2] (h.push (.cells #[PU k,PU v] 9)) H K:=by
 have ap:=hd.apart Q
 have Q1:Sq h0 C (h.push (.cells #[PU k,PU v] 9)) (wC b u A c d l++[Ck.ob h.size 9 (wds [k,v])]++B):=Sq.ins Q 9 (wds [k,v])
 have hj:(jn [k,v]).length<=1000000:=by
  have e1:k.data.toList.length=k.size:=rfl
  have e2:v.data.toList.length=v.size:=rfl
  simp[jn,Lib.join];omega
 have Hw:Hp (h.push (.cells #[PU k,PU v] 9)) (wC b u A c d l++[Ck.ob h.size 9 (wds [k,v])]):=(Sq.pick Q1 [0,1,2] (by simp[jR,wC];decide)).hp
 refine ak (ao (wC b u A c d l++[Ck.ob h.size 9 (wds [k,v])])) (I8 (ws:=[k,v]) Hw hd' hl ⟨PC,hj⟩) ?_ (fun _ _ r=>r.2.choose_spec.choose_spec.fr) ?_
 ·intro x hx w
  obtain⟨h1,h2⟩:=ap x hx
  simp only[ao,List.flatMap_append,Qe]at w h2
  rcases w with w | w
  ·exact h2 w
  ·simp[Ck.ob]at w;omega
 rintro v2 h2 ⟨rfl,A2,c2,q2⟩
 have Q2:=Sq.call Q1 q2
 have e:lnB d [k,v]=G.kv (2*d) k.data.toList v.data.toList++[10]:=by simp[lnB,jn,Lib.join,G.kv]
 rw[e]at Q2
 exact R A2 c2 h2 (Sq.del Q2)
theorem FB {k:P0} (Q:Sq h0 C h (wC b u A c d l++B)) (hd:Hd H B) (hd':d<=90) (hl:l.length<=90000000) (hk:k.size<=1000)
  (R:∀A' c' h2,Sq h0 C h2 (wC b true A' c' (d+1) (l++(G.opn (2*d) k.data.toList++[10]))++B)->K (.tuple #[]) h2):
  PI 19 #[PW (some ⟨b,0,none⟩),PU k] h H K:=by
 refine ak (ao (wC b u A c d l)) (O6 (oh Q) PA hl hk) (fun x hx=>(hd.apart Q x hx).2) (fun _ _ r=>r.2.choose_spec.choose_spec.fr) ?_
 rintro v2 h2 ⟨rfl,A2,c2,q2⟩
 have Q2:=Sq.call Q q2
 have e:lnB d [k,⟨#[91]⟩]=G.opn (2*d) k.data.toList++[10]:=by simp[lnB,jn,Lib.join,G.kv,G.opn]
 rw[e]at Q2
 exact R A2 c2 h2 Q2
theorem FC (Q:Sq h0 C h (wC b u A c (d+1) l++B)) (hd:Hd H B) (hd':d<=90) (hl:l.length<=90000000)
  (R:∀A' c' h2,Sq h0 C h2 (wC b true A' c' d (l++(G.cls (2*d)++[10]))++B)->K (.tuple #[]) h2):
  PI 24 #[PW (some ⟨b,0,none⟩)] h H K:=by
 refine ak (ao (wC b u A c (d+1) l)) (O7 (oh Q) PA hl) (fun x hx=>(hd.apart Q x hx).2) (fun _ _ r=>r.2.choose_spec.choose_spec.fr) ?_
 rintro v2 h2 ⟨rfl,A2,c2,q2⟩
 have Q2:=Sq.call Q q2
 have e:lnB d [⟨#[93]⟩]=G.cls (2*d)++[10]:=by simp[lnB,jn,Lib.join,G.cls]
 rw[e]at Q2
 exact R A2 c2 h2 Q2
theorem I7 {gl:GL} {n:Nat} (g:Gl gl h) (hn:n<=1000000):PJ 22 #[PN (n:Int)] h fun v h'=>v= PU (G.mkB (G.dec n))/\Fr [] h h':=by
 intro w hw
 subst hw
 refine(Go.Proofs.Tryz.strconv_Itoa (n:Int) PA PA w (Gl.tab g)).mono fun e w' ⟨e1,k,os,e2⟩=>⟨_,e1,?_,?_,?_⟩
 ·subst e2;exact⟨rfl,rfl,rfl,by simp[Sort.grow]⟩
 ·have:Lib.itoa (n:Int)=G.dec n:=by rw[G.lk];unfold G.idt;rw[if_neg PA];rfl
  rw[this];rfl
 ·subst e2;exact⟨by simp[Sort.grow],fun j hj _=>Sort.heap_grow_old _ _ hj⟩
end
end Go.Proofs.YtmmmmjcfojhiaaaGreatDoor.N
