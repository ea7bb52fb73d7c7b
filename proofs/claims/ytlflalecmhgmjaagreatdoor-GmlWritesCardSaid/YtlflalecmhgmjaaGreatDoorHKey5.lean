/- The keys of a node. Conditions: none. -/
import Derived.Test.YtlflalecmhgmjaaGreatDoorHKey2
set_option linter.unusedVariables false
set_option linter.unusedSimpArgs false
open Go.IntKind (i64 u64 u8 i32)
namespace Go.Proofs.YtlflalecmhgmjaaGreatDoor.N
open Go.Proofs.YtlflalecmhgmjaaGreatDoor
open Go.X
set_option maxRecDepth 100000
theorem Fx {b v:Nat} {h:ab}:af Tryz.prog 264 #[pt b,.int .i64 (v:Int)] h fun w h'=>Fr [] h h'/\∃xR xV m xM t,h.size<=xR/\h.size<=xV/\h.size<=m/\h.size<=xM/\h.size<=t/\w=pt t/\
  ∀h0 M cs,Sy h0 M h cs->Sy h0 M h' (cs++[Ck.ob xR 89 [pt b]]++[Ck.ob xV 3 [.int .i64 (v:Int)]]++[Ck.mp m []]++[Ck.ob xM 69 [.map (some m)]]++[Ck.ob t 193 [.int .i64 1,.nilFunc,fnV 317 #[pt xM,pt xR,pt xV],fnV 151 #[]]]):=by
 apply xB
 unfold GI
 intro hv hv2 hv3 hv4
 have s1:hv.size=h.size+1:=by simp[hv]
 have s2:hv2.size=h.size+2:=by simp[hv2,hv]
 have s3:hv3.size=h.size+3:=by grind
 have s4:hv4.size=h.size+4:=by grind
 have Z4:∀h0 M cs,Sy h0 M h cs->Sy h0 M hv4 (cs++[Ck.ob h.size 89 [pt b]]++[Ck.ob hv.size 3 [.int .i64 (v:Int)]]++[Ck.mp hv2.size []]++[Ck.ob hv3.size 69 [.map none]]):=
  fun h0 M cs Y=>Sy.newO (Sy.newM (Sy.newO (Sy.newO Y [pt b]) [.int .i64 (v:Int)])) [.map none]
 have f4:Fr [] h hv4:=(((Fr.push h _).pushr _).pushr _).pushr _
 have Z:=Z4 h [] [] ⟨Fr.refl _ _,Hp.nil _,fun k c hk=>by simp at hk⟩
 refine⟨⟨_,Z.cellO 3 rfl 0 rfl⟩,Z.freeO 3 rfl 0,?_⟩
 intro hv5 hv6
 have s5:hv5.size=h.size+4:=by simp[hv5,s4]
 refine⟨(f4.hsetL (by omega)).pushr _,h.size,hv.size,hv2.size,hv3.size,hv5.size,by omega,by omega,by omega,by omega,by omega,rfl,fun h0 M cs Y=>?_⟩
 have Y4:=Z4 h0 M cs Y
 have hk:(cs++[Ck.ob h.size 89 [pt b]]++[Ck.ob hv.size 3 [.int .i64 (v:Int)]]++[Ck.mp hv2.size []]++[Ck.ob hv3.size 69 [.map none]])[cs.length+3]? =some (Ck.ob hv3.size 69 [.map none]):=by simp
 have Y5:=Y4.stO (cs.length+3) hk 0 (.map (some hv2.size))
 have es:(cs++[Ck.ob h.size 89 [pt b]]++[Ck.ob hv.size 3 [.int .i64 (v:Int)]]++[Ck.mp hv2.size []]++[Ck.ob hv3.size 69 [.map none]]).set (cs.length+3) (Ck.ob hv3.size 69 ([Value.map none].set 0 (.map (some hv2.size))))=
   cs++[Ck.ob h.size 89 [pt b]]++[Ck.ob hv.size 3 [.int .i64 (v:Int)]]++[Ck.mp hv2.size []]++[Ck.ob hv3.size 69 [.map (some hv2.size)]]:=by
  simp_all
 rw[es]at Y5
 exact Sy.newO (ty:=193) Y5 [.int .i64 1,.nilFunc,fnV 317 #[pt hv3.size,pt h.size,pt hv.size],fnV 151 #[]]
section
variable {gl:GL} {b d:Nat} {s:ByteArray} {A:AD} {σ:G.Rd}
theorem Ds {cl:Nat->Nat} {v:Nat} {x y z:Bool} {t:G.Tok} {kv ov:Value} {mo:Option (Nat × List (List UInt8))} {fs:Fs} {h:ab} {xM xR xV m:Nat} {ks:List (List UInt8)}
  (H:Hp h (stC gl b s A σ d++[Ck.fx mo fs])) (ri:G.RI cl s σ) (hb:LvB σ (.node v x y z)) (e1:kv=fnV 261 #[pt xM,pt xR,pt xV]) (e2:ov=fnV 265 #[pt xM]) (e3:mo=some (m,ks)) (e4:Seen (.node v x y z) ks)
  (e5:fs=[(xM,0,.map (some m)),(xR,0,pt b),(xV,0,.int .i64 (v:Int))]):
  az Tryz.prog 261 #[cm t,pt xM,pt xR,pt xV] h (kR gl b d s (stC gl b s A σ d++[Ck.fx mo fs]) h (.node v x y z) t σ kv ov fs) (kE (stC gl b s A σ d++[Ck.fx mo fs]) h (.node v x y z) t σ):=by
 generalize hC:stC gl b s A σ d++[Ck.fx mo fs]=C at H ⊢
 have Y0:Sy h (ao C) h (stC gl b s A σ d++[Ck.fx mo fs]):=by rw[hC];exact Sy.start H
 obtain⟨hr1,hr2⟩:=rR (gl:=gl) (b:=b) (s:=s) (A:=A) (σ:=σ) (d:=d) (mo:=mo) (fs:=fs)
 rw[hC]at hr1 hr2
 unfold cm
 apply xx
 unfold GF
 have ex:(t.says.toList==(⟨#[105,100]⟩:ByteArray).toList)=decide (t.l=G.kId):=cn
 have ey:(t.says.toList==(⟨#[108,97,98,101,108]⟩:ByteArray).toList)=decide (t.l=G.eU):=cn
 have ez:(t.says.toList==(⟨#[103,114,97,112,104,105,99,115]⟩:ByteArray).toList)=decide (t.l=G.bh):=cn
 rw[ex,ey,ez]
 intro hv
 have Y1:Sy h (ao C) hv (stC gl b s A σ d++[Ck.fx mo fs]):=Y0.gr (Fr.push h _)
 have s1:hv.size=h.size+1:=by simp[hv]
 clear_value hv
 have n1:G.eU≠G.kId:=by decide
 have n2:G.bh≠G.kId:=by decide
 have n3:G.bh≠G.eU:=by decide
 subst e3
 have hml:m<h.size:=gf (Y0.mapF 7 rfl)
 refine ag (fun q=>?_) fun q1=>?_
 ·refine⟨xM,0,rfl,some m,Y1.factF 7 rfl 0 (by rw[e5];rfl),?_⟩
  refine nH Y1 7 rfl e4.1 (by simp;omega) (fun r1 hv3 f3 Y3=>?_) fun r1 hv3 f3=>?_
  ·refine⟨rfl,?_⟩
   intro hv8
   have Y8:Sy h (ao C) hv8 (stC gl b s A σ d++[Ck.fx (some (m,ks++[t.l])) fs,Ck.ob hv3.size 193 [.int .i64 4,fnV 262 #[pt xR,pt xV],.nilFunc,.nilFunc]]):=Sy.newO Y3 [.int .i64 4,fnV 262 #[pt xR,pt xV],.nilFunc,.nilFunc]
   have s7:h.size<=hv3.size:=Y3.le
   refine⟨.id v,.node v true y z,σ,A,some (m,ks++[t.l]),none,[],[(hv3.size,0,.int .i64 4),(hv3.size,1,fnV 262 #[pt xR,pt xV]),(xR,0,pt b),(xV,0,.int .i64 (v:Int))],some ⟨hv3.size,0,none⟩,?_,rfl,?_,?_,?_,Gr.refl σ,hb,hb⟩
   ·have hx:x=false:=by
     cases x with
     | false=>rfl
     | true=>exact absurd ((e4.2 _).2 (by simp[kts,q])) r1
    grind [G.key,G.aG]
   ·refine lw (rest:=[_]) Y8 (fun x hx=>.inl (hr1 x hx)) hr2 (fun p hp=>by cases hp) (fun f hf=>by cases hf) fun f hf=>?_
    simp only[List.mem_cons,List.not_mem_nil,or_false]at hf
    rcases hf with rfl | rfl | rfl | rfl
    ·exact⟨Y8.cellO 8 rfl 0 rfl,.inr ⟨s7,0,193,_,rfl⟩⟩
    ·exact⟨Y8.cellO 8 rfl 1 rfl,.inr ⟨s7,0,193,_,rfl⟩⟩
    ·exact⟨Y8.factF 7 rfl 1 (by rw[e5];rfl),.inl (by rw[e5];simp)⟩
    ·exact⟨Y8.factF 7 rfl 2 (by rw[e5];rfl),.inl (by rw[e5];simp)⟩
   ·exact⟨xM,xR,xV,m,ks++[t.l],e1,e2,rfl,cT e4 r1 (fun k'=>by rw[q];simp[kts]<;>grind),e5⟩
   ·exact⟨hv3.size,xR,xV,rfl,rfl,rfl,rfl⟩
  ·refine⟨_,?_,rfl,frM hC Y1.fr f3⟩
   have:=(e4.2 _).1 r1
   have hx:x=true:=by
    rw[q]at this
    simpa[kts,n1,n2,n3,Ne.symm n1,Ne.symm n2,Ne.symm n3]using this
   simp[G.key,q,n1,n2,n3,G.aG,hx]
 refine ag (fun q=>?_) fun q2=>?_
 ·refine⟨xM,0,rfl,some m,Y1.factF 7 rfl 0 (by rw[e5];rfl),?_⟩
  refine nH Y1 7 rfl e4.1 (by simp;omega) (fun r1 hv3 f3 Y3=>?_) fun r1 hv3 f3=>?_
  ·refine⟨rfl,?_⟩
   intro hv8
   have Y8:Sy h (ao C) hv8 (stC gl b s A σ d++[Ck.fx (some (m,ks++[t.l])) fs,Ck.ob hv3.size 193 [.int .i64 5,fnV 263 #[pt xR,pt xV],.nilFunc,.nilFunc]]):=Sy.newO Y3 [.int .i64 5,fnV 263 #[pt xR,pt xV],.nilFunc,.nilFunc]
   have s7:h.size<=hv3.size:=Y3.le
   refine⟨.label v,.node v x true z,σ,A,some (m,ks++[t.l]),none,[],[(hv3.size,0,.int .i64 5),(hv3.size,1,fnV 263 #[pt xR,pt xV]),(xR,0,pt b),(xV,0,.int .i64 (v:Int))],some ⟨hv3.size,0,none⟩,?_,rfl,?_,?_,?_,Gr.refl σ,hb,hb⟩
   ·have hx:y=false:=by
     cases y with
     | false=>rfl
     | true=>exact absurd ((e4.2 _).2 (by simp[kts,q])) r1
    grind [G.key,G.aG]
   ·refine lw (rest:=[_]) Y8 (fun x hx=>.inl (hr1 x hx)) hr2 (fun p hp=>by cases hp) (fun f hf=>by cases hf) fun f hf=>?_
    simp only[List.mem_cons,List.not_mem_nil,or_false]at hf
    rcases hf with rfl | rfl | rfl | rfl
    ·exact⟨Y8.cellO 8 rfl 0 rfl,.inr ⟨s7,0,193,_,rfl⟩⟩
    ·exact⟨Y8.cellO 8 rfl 1 rfl,.inr ⟨s7,0,193,_,rfl⟩⟩
    ·exact⟨Y8.factF 7 rfl 1 (by rw[e5];rfl),.inl (by rw[e5];simp)⟩
    ·exact⟨Y8.factF 7 rfl 2 (by rw[e5];rfl),.inl (by rw[e5];simp)⟩
   ·exact⟨xM,xR,xV,m,ks++[t.l],e1,e2,rfl,cT e4 r1 (fun k'=>by rw[q];simp[kts]<;>grind),e5⟩
   ·exact⟨hv3.size,xR,xV,rfl,rfl,rfl,rfl⟩
  ·refine⟨_,?_,rfl,frM hC Y1.fr f3⟩
   have:=(e4.2 _).1 r1
   have hx:y=true:=by
    rw[q]at this
    simpa[kts,n1,n2,n3,Ne.symm n1,Ne.symm n2,Ne.symm n3]using this
   simp[G.key,q,n1,n2,n3,G.aG,hx]
 refine ag (fun q=>?_) fun q3=>?_
 ·refine⟨xM,0,rfl,some m,Y1.factF 7 rfl 0 (by rw[e5];rfl),?_⟩
  refine nH Y1 7 rfl e4.1 (by simp;omega) (fun r1 hv3 f3 Y3=>?_) fun r1 hv3 f3=>?_
  ·refine⟨rfl,?_⟩
   have Y3:Sy h (ao C) hv3 (stC gl b s A σ d++[Ck.fx (some (m,ks++[t.l])) fs]):=Y3
   refine⟨xR,0,rfl,_,Y3.factF 7 rfl 1 (by rw[e5];rfl),xV,0,rfl,(v:Int),Y3.factF 7 rfl 2 (by rw[e5];rfl),?_⟩
   refine ai [] Fx (by simp) (fun _ _ r=>r.1) fun w h' r=>?_
   obtain⟨f8,xR2,xV2,m2,xM2,t2,z1,z2,z3,z4,z5,rfl,Z⟩:=r
   have Y8:Sy h (ao C) h' (stC gl b s A σ d++Ck.fx (some (m,ks++[t.l])) fs::[Ck.ob xR2 89 [pt b],Ck.ob xV2 3 [.int .i64 (v:Int)],Ck.mp m2 [],Ck.ob xM2 69 [.map (some m2)],Ck.ob t2 193 [.int .i64 1,.nilFunc,fnV 317 #[pt xM2,pt xR2,pt xV2],fnV 151 #[]]]):=Z _ _ _ Y3
   have s7:h.size<=hv3.size:=Y3.le
   refine⟨some ⟨t2,0,none⟩,rfl,.list (.spot v false false),.node v x y true,σ,A,some (m,ks++[t.l]),some (m2,[]),[(xM2,0,.map (some m2)),(xR2,0,pt b),(xV2,0,.int .i64 (v:Int))],[(t2,0,.int .i64 1),(t2,2,fnV 317 #[pt xM2,pt xR2,pt xV2]),(t2,3,fnV 151 #[])],some ⟨t2,0,none⟩,?_,rfl,?_,?_,?_,Gr.refl σ,hb,hb⟩
   ·have hx:z=false:=by
     cases z with
     | false=>rfl
     | true=>exact absurd ((e4.2 _).2 (by simp[kts,q])) r1
    grind [G.key,G.aG]
   ·refine lw Y8 (fun x hx=>.inl (hr1 x hx)) hr2 (fun p hp=>by cases hp;exact⟨2,rfl⟩) (fun f hf=>?_) fun f hf=>?_
    ·simp only[List.mem_cons,List.not_mem_nil,or_false]at hf
     rcases hf with rfl | rfl | rfl
     ·exact⟨Y8.cellO 11 rfl 0 rfl,.inr ⟨Nat.le_trans s7 z4,3,69,_,rfl⟩⟩
     ·exact⟨Y8.cellO 8 rfl 0 rfl,.inr ⟨Nat.le_trans s7 z1,0,89,_,rfl⟩⟩
     ·exact⟨Y8.cellO 9 rfl 0 rfl,.inr ⟨Nat.le_trans s7 z2,1,3,_,rfl⟩⟩
    ·simp only[List.mem_cons,List.not_mem_nil,or_false]at hf
     rcases hf with rfl | rfl | rfl
     ·exact⟨Y8.cellO 12 rfl 0 rfl,.inr ⟨Nat.le_trans s7 z5,4,193,_,rfl⟩⟩
     ·exact⟨Y8.cellO 12 rfl 2 rfl,.inr ⟨Nat.le_trans s7 z5,4,193,_,rfl⟩⟩
     ·exact⟨Y8.cellO 12 rfl 3 rfl,.inr ⟨Nat.le_trans s7 z5,4,193,_,rfl⟩⟩
   ·exact⟨xM,xR,xV,m,ks++[t.l],e1,e2,rfl,cT e4 r1 (fun k'=>by rw[q];simp[kts]<;>grind),e5⟩
   ·exact⟨t2,_,_,_,rfl,⟨xM2,xR2,xV2,m2,[],rfl,rfl,rfl,⟨by simp,by simp[kts]⟩,rfl⟩,rfl⟩
  ·refine⟨_,?_,rfl,frM hC Y1.fr f3⟩
   have:=(e4.2 _).1 r1
   have hx:z=true:=by
    rw[q]at this
    simpa[kts,n1,n2,n3,Ne.symm n1,Ne.symm n2,Ne.symm n3]using this
   simp[G.key,q,n1,n2,n3,G.aG,hx]
 ·exact⟨.none,.node v x y z,σ,A,some (m,ks),none,[],[],none,by simp[G.key,q1,q2,q3],rfl,uO Y1 (fun x hx=>.inl (hr1 x hx)) hr2,⟨xM,xR,xV,m,ks,e1,e2,rfl,e4,e5⟩,⟨rfl,rfl,rfl,rfl⟩,Gr.refl σ,hb,trivial⟩
end
section
variable {gl:GL} {b d:Nat} {s:ByteArray} {A:AD} {σ:G.Rd}
theorem dG {h0 h:ab} {M:List Nat} {cs:List Ck} (Y:Sy h0 M h cs) (k:Nat) {c:Ck} (hk:cs[k]? =some c):∀x∈c.own,x<h.size:=(c.lt h (Y.ok hk)).1
theorem Fy {cl:Nat->Nat} {h0 h:ab} {M:List Nat} {c7 c8:Ck} (Y:Sy h0 M h (stC gl b s A σ d++[c7,c8])) (ri:G.RI cl s σ) (hn:σ.n<1024):
  af Tryz.prog 211 #[pt b] h fun w h'=>Fr (ao (stC gl b s A σ d)) h h'/\∃A' xR xV m xM t,h.size<=xR/\h.size<=xV/\h.size<=m/\h.size<=xM/\h.size<=t/\w=pt t/\
   Sy h0 M h' (stC gl b s A' {σ with n:=σ.n+1,labels:=σ.labels++[G.noB],spots:=σ.spots++[(0,0)]} d++[c7,c8,Ck.ob xR 89 [pt b],Ck.ob xV 3 [.int .i64 (σ.n:Int)],Ck.mp m [],Ck.ob xM 69 [.map (some m)],
    Ck.ob t 193 [.int .i64 1,.nilFunc,fnV 261 #[pt xM,pt xR,pt xV],fnV 265 #[pt xM]]]):=by
 apply xw
 unfold GE
 intro hv
 have Y1:Sy h0 M hv (stC gl b s A σ d++[c7,c8,Ck.ob h.size 89 [pt b]]):=Sy.newO Y [pt b]
 have s1:hv.size=h.size+1:=by simp[hv]
 have f1:Fr (ao (stC gl b s A σ d)) h hv:=(Fr.push h _).nil
 clear_value hv
 refine⟨_,Y1.cellO 9 rfl 0 rfl,b,0,rfl,(σ.n:Int),Y1.cellO 0 rfl 3 rfl,?_⟩
 intro hv2
 have Y2:Sy h0 M hv2 (stC gl b s A σ d++[c7,c8,Ck.ob h.size 89 [pt b],Ck.ob hv.size 3 [.int .i64 0]]):=Sy.newO Y1 [.int .i64 0]
 have s2:hv2.size=h.size+2:=by simp[hv2,s1]
 refine⟨⟨_,Y2.cellO 10 rfl 0 rfl⟩,Y2.freeO 10 rfl 0,?_⟩
 intro hv3
 have Y3:Sy h0 M hv3 (stC gl b s A σ d++[c7,c8,Ck.ob h.size 89 [pt b],Ck.ob hv.size 3 [.int .i64 (σ.n:Int)]]):=Y2.stO 10 rfl 0 _
 have s3:hv3.size=h.size+2:=by simp[hv3,s2]
 have f3:Fr (ao (stC gl b s A σ d)) h hv3:=(f1.pushr _).hsetL (by omega)
 clear_value hv3
 clear hv2 Y2 s2
 refine⟨_,Y3.cellO 9 rfl 0 rfl,b,0,rfl,(σ.n:Int),Y3.cellO 0 rfl 3 rfl,b,0,rfl,⟨_,Y3.cellO 0 rfl 3 rfl⟩,Y3.freeO 0 rfl 3,?_⟩
 rw[wrN (by omega)]
 intro hv4
 have Y4:Sy h0 M hv4 (stC gl b s A {σ with n:=σ.n+1} d++[c7,c8,Ck.ob h.size 89 [pt b],Ck.ob hv.size 3 [.int .i64 (σ.n:Int)]]):=Y3.stO 0 rfl 3 _
 have s4:hv4.size=h.size+2:=by simp[hv4,s3]
 have f4:Fr (ao (stC gl b s A σ d)) h hv4:=f3.hsetr (.inr (by simp[ao,stC,Ck.ob]))
 clear_value hv4
 clear Y3 s3 f3
 intro K
 have fin:∀(p:Nat) (hvx:ab) (A':AD),p<hvx.size->Fr (ao (stC gl b s A σ d)) h hvx->hv4.size<=hvx.size->Sy h0 M hvx (stC gl b s A' {σ with n:=σ.n+1,labels:=σ.labels++[G.noB],spots:=σ.spots++[(0,0)]} d++[c7,c8,Ck.ob h.size 89 [pt b],Ck.ob hv.size 3 [.int .i64 (σ.n:Int)]])->K p hvx:=by
  intro p hvx A' hp fx sx Yx
  dsimp-zeta only[K]
  intro hv23 hv24
  have Y23:Sy h0 M hv23 (stC gl b s A' {σ with n:=σ.n+1,labels:=σ.labels++[G.noB],spots:=σ.spots++[(0,0)]} d++[c7,c8,Ck.ob h.size 89 [pt b],Ck.ob hv.size 3 [.int .i64 (σ.n:Int)],Ck.mp hvx.size []]):=Sy.newM Yx
  have s23:hv23.size=hvx.size+1:=by simp[hv23]
  have Y24:Sy h0 M hv24 (stC gl b s A' {σ with n:=σ.n+1,labels:=σ.labels++[G.noB],spots:=σ.spots++[(0,0)]} d++[c7,c8,Ck.ob h.size 89 [pt b],Ck.ob hv.size 3 [.int .i64 (σ.n:Int)],Ck.mp hvx.size [],Ck.ob hv23.size 69 [.map none]]):=Sy.newO Y23 [.map none]
  have f24:Fr (ao (stC gl b s A σ d)) h hv24:=(fx.pushr _).pushr _
  have hs:h.size<=hvx.size:=by omega
  refine⟨by omega,by omega,⟨_,Y24.cellO 12 rfl 0 rfl⟩,Y24.freeO 12 rfl 0,?_⟩
  intro hv25 hv26
  have s25:hv25.size=hvx.size+2:=by simp[hv25,hv24,s23]
  have Y25:Sy h0 M hv25 (stC gl b s A' {σ with n:=σ.n+1,labels:=σ.labels++[G.noB],spots:=σ.spots++[(0,0)]} d++[c7,c8,Ck.ob h.size 89 [pt b],Ck.ob hv.size 3 [.int .i64 (σ.n:Int)],Ck.mp hvx.size [],Ck.ob hv23.size 69 [.map (some hvx.size)]]):=Y24.stO 12 rfl 0 _
  have Y26:=Sy.newO (ty:=193) Y25 [.int .i64 1,.nilFunc,fnV 261 #[pt hv23.size,pt h.size,pt hv.size],fnV 265 #[pt hv23.size]]
  exact⟨(f24.hsetL (by omega)).pushr _,A',h.size,hv.size,hvx.size,hv23.size,hv25.size,by omega,by omega,by omega,by omega,by omega,rfl,Y26⟩
 have hL:∀x∈am A.aL,x<h.size/\x≠b:=fun x hx=>⟨dG Y 2 rfl x hx,fun e=>(Y.hp.ap 2 0 _ _ (by decide) rfl rfl x hx).1 (by simp[Ck.ob,e])⟩
 have hS:∀x∈am A.aS,x<h.size/\x≠b:=fun x hx=>⟨dG Y 3 rfl x hx,fun e=>(Y.hp.ap 3 0 _ _ (by decide) rfl rfl x hx).1 (by simp[Ck.ob,e])⟩
 have hbl:b<h.size:=dG Y 0 rfl b (by simp[Ck.ob])
 have hM1:∀x,(x=b\/h.size<=x)->x∉am A.aL++am A.aS:=by
  intro x hx q
  rcases List.mem_append.1 q with q | q
  ·have:=hL x q;omega
  ·have:=hS x q;omega
 have hM2:∀x,h.size<=x->x∉b::(am A.aL++am A.aS):=by
  intro x hx q
  rcases List.mem_cons.1 q with rfl | q
  ·omega
  simp_all
 have hll:=ri.ll
 have hsl:=ri.sl
 refine⟨am A.aL++am A.aS,b::(am A.aL++am A.aS),fun x q=>List.mem_cons_of_mem _ q,by simp,hM1 _ (.inr (Nat.le_refl _)),_,Y4.cellO 9 rfl 0 rfl,hM2 _ (Nat.le_refl _),_,Y4.cellO 9 rfl 0 rfl,hM1 _ (.inr (Nat.le_refl _)),_,Y4.cellO 9 rfl 0 rfl,
  b,0,rfl,hM1 _ (.inl rfl),A.aL,σ.labels.length,A.cL,Y4.cellO 0 rfl 11 rfl,hM2 _ (Nat.le_refl _),_,Y4.cellO 9 rfl 0 rfl,b,0,rfl,hM1 _ (.inl rfl),A.aS,σ.spots.length,A.cS,Y4.cellO 0 rfl 12 rfl,?_,?_⟩
 ·intro hp1
  have sp1:hp1.size=hv4.size+1:=by simp[hp1]
  have Z1:Sy h0 M hp1 (stC gl b s A {σ with n:=σ.n+1} d++[c7,c8,Ck.ob h.size 89 [pt b],Ck.ob hv.size 3 [.int .i64 (σ.n:Int)]]):=Sy.gr Y4 (Fr.push _ _)
  have g1:Fr (am A.aL++am A.aS) hv4 hp1:=(Fr.refl _ _).trans (Fr.push _ _).nil
  clear_value hp1
  refine⟨g1,?_,?_⟩
  ·refine⟨_,Z1.ownS 2 rfl,fun x hx q=>?_,by omega,by simp only[maxLen];omega,fun sA sC ha ow f gg _=>?_⟩
   ·simp_all
   have Za:=Z1.appS 2 rfl [G.noB] ow f gg rfl rfl
   have ga:Fr (am A.aL++am A.aS) hv4 ha:=g1.trans (f.mono fun x q=>List.mem_append.2 (.inl q))
   have sa:hp1.size<=ha.size:=f.size
   refine⟨ga,?_⟩
   intro hp2
   have sp2:hp2.size=ha.size+1:=by simp[hp2]
   have Z2:=Sy.gr Za (Fr.push ha (.cells #[.float .f64 0,.float .f64 0] 78))
   have g2:Fr (am A.aL++am A.aS) hv4 hp2:=ga.trans (Fr.push _ _).nil
   refine⟨g2,?_⟩
   refine⟨_,Z2.ownS 3 rfl,fun x hx q=>?_,by omega,by simp only[maxLen];omega,fun sA2 sC2 hb ow2 f2 gg2 _=>?_⟩
   ·have:=(hS x q).1
    simp only[List.mem_cons,List.not_mem_nil,or_false]at hx
    omega
   have Zb:=Z2.appS 3 rfl [((0:Nat),(0:Nat))] ow2 f2 gg2 rfl rfl
   have gb:Fr (am A.aL++am A.aS) hv4 hb:=g2.trans (f2.mono fun x q=>List.mem_append.2 (.inr q))
   have sb:hp2.size<=hb.size:=f2.size
   refine⟨gb,b,0,rfl,by omega,by omega,⟨_,Zb.cellO 0 rfl 11 rfl⟩,Zb.freeO 0 rfl 11,?_⟩
   intro hc
   have Zc:=Zb.stO 0 rfl 11 (.slice sA (σ.labels.length+1) sC)
   have gc:Fr (b::(am A.aL++am A.aS)) hv4 hc:=(gb.mono fun x q=>List.mem_cons_of_mem _ q).hsetr (.inr (by simp))
   have sc:hc.size=hb.size:=by simp[hc]
   refine⟨gc,b,0,rfl,by omega,by omega,⟨_,Zc.cellO 0 rfl 12 rfl⟩,Zc.freeO 0 rfl 12,?_⟩
   intro hd
   have Zd:=Zc.stO 0 rfl 12 (.slice sA2 (σ.spots.length+1) sC2)
   have gd:Fr (b::(am A.aL++am A.aS)) hv4 hd:=gc.hsetr (.inr (by simp))
   have sd:hd.size=hc.size:=by simp[hd]
   refine⟨gd,?_⟩
   have Ze:Sy h0 M hd ([Ck.ob b 95 [.string s,.int .i64 (σ.i:Int),.int .i64 (d:Int),.int .i64 ((σ.n+1:Nat):Int),.slice none 0 0,.bool σ.dir,.slice none 0 0,.slice none 0 0,.slice none 0 0,.bool σ.graph,.map (some A.mp),
     .slice sA (σ.labels.length+1) sC,.slice sA2 (σ.spots.length+1) sC2,.slice A.aW σ.weights.length A.cW,.bool σ.h0,.bool σ.h1,.bool σ.h2,.slice A.aE σ.ends.length A.cE],
     Ck.mp A.mp (fO σ.ids),Ck.sl eS 9 sA (σ.labels.length+1) sC (σ.labels++[G.noB]),Ck.sl eFF 78 sA2 (σ.spots.length+1) sC2 (σ.spots++[((0:Nat),(0:Nat))]),Ck.sl eF 76 A.aW σ.weights.length A.cW σ.weights,
     Ck.sl eT 156 A.aE σ.ends.length A.cE σ.ends,Ck.glob gl]++[c7,c8,Ck.ob h.size 89 [pt b],Ck.ob hv.size 3 [.int .i64 (σ.n:Int)]]):=Zd
   have l1:σ.labels.length+1=(σ.labels++[G.noB]).length:=by simp
   have l2:σ.spots.length+1=(σ.spots++[((0:Nat),(0:Nat))]).length:=by simp
   rw[l1,l2]at Ze
   refine fin ha.size hd {A with aL:=sA,cL:=sC,aS:=sA2,cS:=sC2} (by omega) (f4.trans (gd.mono fun x q=>?_)) (by omega) Ze
   ·simp only[List.mem_cons,List.mem_append]at q
    simp only[ao,stC,List.flatMap_cons,Ck.ob,Ck.mp,Ck.sl,List.mem_append,List.mem_cons,List.not_mem_nil,or_false]
    grind
  ·intro hp2
   have sp2:hp2.size=hp1.size+1:=by simp[hp2]
   have Z2:Sy h0 M hp2 (stC gl b s A {σ with n:=σ.n+1} d++[c7,c8,Ck.ob h.size 89 [pt b],Ck.ob hv.size 3 [.int .i64 (σ.n:Int)]]):=Sy.gr Z1 (Fr.push _ _)
   have g2:Fr (am A.aL++am A.aS) hv4 hp2:=g1.trans (Fr.push _ _).nil
   clear_value hp2
   refine⟨g2,?_⟩
   refine⟨_,Z2.ownS 2 rfl,fun x hx q=>?_,by omega,by simp only[maxLen];omega,fun sA sC ha ow f gg _=>?_⟩
   ·have:=(hL x q).1
    simp only[List.mem_cons,List.not_mem_nil,or_false]at hx
    omega
   have Za:=Z2.appS 2 rfl [G.noB] ow f gg rfl rfl
   have ga:Fr (am A.aL++am A.aS) hv4 ha:=g2.trans (f.mono fun x q=>List.mem_append.2 (.inl q))
   have sa:hp2.size<=ha.size:=f.size
   refine⟨ga,?_⟩
   refine⟨_,Za.ownS 3 rfl,fun x hx q=>?_,by omega,by simp only[maxLen];omega,fun sA2 sC2 hb ow2 f2 gg2 _=>?_⟩
   ·have:=(hS x q).1
    simp only[List.mem_cons,List.not_mem_nil,or_false]at hx
    omega
   have Zb:=Za.appS 3 rfl [((0:Nat),(0:Nat))] ow2 f2 gg2 rfl rfl
   have gb:Fr (am A.aL++am A.aS) hv4 hb:=ga.trans (f2.mono fun x q=>List.mem_append.2 (.inr q))
   have sb:ha.size<=hb.size:=f2.size
   refine⟨gb,b,0,rfl,by omega,by omega,⟨_,Zb.cellO 0 rfl 11 rfl⟩,Zb.freeO 0 rfl 11,?_⟩
   intro hc
   have Zc:=Zb.stO 0 rfl 11 (.slice sA (σ.labels.length+1) sC)
   have gc:Fr (b::(am A.aL++am A.aS)) hv4 hc:=(gb.mono fun x q=>List.mem_cons_of_mem _ q).hsetr (.inr (by simp))
   have sc:hc.size=hb.size:=by simp[hc]
   refine⟨gc,b,0,rfl,by omega,by omega,⟨_,Zc.cellO 0 rfl 12 rfl⟩,Zc.freeO 0 rfl 12,?_⟩
   intro hd
   have Zd:=Zc.stO 0 rfl 12 (.slice sA2 (σ.spots.length+1) sC2)
   have gd:Fr (b::(am A.aL++am A.aS)) hv4 hd:=gc.hsetr (.inr (by simp))
   have sd:hd.size=hc.size:=by simp[hd]
   refine⟨gd,?_⟩
   have Ze:Sy h0 M hd ([Ck.ob b 95 [.string s,.int .i64 (σ.i:Int),.int .i64 (d:Int),.int .i64 ((σ.n+1:Nat):Int),.slice none 0 0,.bool σ.dir,.slice none 0 0,.slice none 0 0,.slice none 0 0,.bool σ.graph,.map (some A.mp),
     .slice sA (σ.labels.length+1) sC,.slice sA2 (σ.spots.length+1) sC2,.slice A.aW σ.weights.length A.cW,.bool σ.h0,.bool σ.h1,.bool σ.h2,.slice A.aE σ.ends.length A.cE],
     Ck.mp A.mp (fO σ.ids),Ck.sl eS 9 sA (σ.labels.length+1) sC (σ.labels++[G.noB]),Ck.sl eFF 78 sA2 (σ.spots.length+1) sC2 (σ.spots++[((0:Nat),(0:Nat))]),Ck.sl eF 76 A.aW σ.weights.length A.cW σ.weights,
     Ck.sl eT 156 A.aE σ.ends.length A.cE σ.ends,Ck.glob gl]++[c7,c8,Ck.ob h.size 89 [pt b],Ck.ob hv.size 3 [.int .i64 (σ.n:Int)]]):=Zd
   have l1:σ.labels.length+1=(σ.labels++[G.noB]).length:=by simp
   have l2:σ.spots.length+1=(σ.spots++[((0:Nat),(0:Nat))]).length:=by simp
   rw[l1,l2]at Ze
   refine fin hp1.size hd {A with aL:=sA,cL:=sC,aS:=sA2,cS:=sC2} (by omega) (f4.trans (gd.mono fun x q=>?_)) (by omega) Ze
   ·simp only[List.mem_cons,List.mem_append]at q
    simp only[ao,stC,List.flatMap_cons,Ck.ob,Ck.mp,Ck.sl,List.mem_append,List.mem_cons,List.not_mem_nil,or_false]
    grind
 ·intro hp1
  have sp1:hp1.size=hv4.size+1:=by simp[hp1]
  have Z1:Sy h0 M hp1 (stC gl b s A {σ with n:=σ.n+1} d++[c7,c8,Ck.ob h.size 89 [pt b],Ck.ob hv.size 3 [.int .i64 (σ.n:Int)]]):=Sy.gr Y4 (Fr.push _ _)
  have g1:Fr (am A.aL++am A.aS) hv4 hp1:=(Fr.refl _ _).trans (Fr.push _ _).nil
  clear_value hp1
  refine⟨g1,?_⟩
  intro hp2
  have sp2:hp2.size=hp1.size+1:=by simp[hp2]
  have Z2:Sy h0 M hp2 (stC gl b s A {σ with n:=σ.n+1} d++[c7,c8,Ck.ob h.size 89 [pt b],Ck.ob hv.size 3 [.int .i64 (σ.n:Int)]]):=Sy.gr Z1 (Fr.push _ _)
  have g2:Fr (am A.aL++am A.aS) hv4 hp2:=g1.trans (Fr.push _ _).nil
  clear_value hp2
  refine⟨g2,?_⟩
  refine⟨_,Z2.ownS 2 rfl,fun x hx q=>?_,by omega,by simp only[maxLen];omega,fun sA sC ha ow f gg _=>?_⟩
  ·have:=(hL x q).1
   simp only[List.mem_cons,List.not_mem_nil,or_false]at hx
   omega
  have Za:=Z2.appS 2 rfl [G.noB] ow f gg rfl rfl
  have ga:Fr (am A.aL++am A.aS) hv4 ha:=g2.trans (f.mono fun x q=>List.mem_append.2 (.inl q))
  have sa:hp2.size<=ha.size:=f.size
  refine⟨ga,?_⟩
  refine⟨_,Za.ownS 3 rfl,fun x hx q=>?_,by omega,by simp only[maxLen];omega,fun sA2 sC2 hb ow2 f2 gg2 _=>?_⟩
  ·have:=(hS x q).1
   simp only[List.mem_cons,List.not_mem_nil,or_false]at hx
   omega
  have Zb:=Za.appS 3 rfl [((0:Nat),(0:Nat))] ow2 f2 gg2 rfl rfl
  have gb:Fr (am A.aL++am A.aS) hv4 hb:=ga.trans (f2.mono fun x q=>List.mem_append.2 (.inr q))
  have sb:ha.size<=hb.size:=f2.size
  refine⟨gb,b,0,rfl,by omega,by omega,⟨_,Zb.cellO 0 rfl 11 rfl⟩,Zb.freeO 0 rfl 11,?_⟩
  intro hc
  have Zc:=Zb.stO 0 rfl 11 (.slice sA (σ.labels.length+1) sC)
  have gc:Fr (b::(am A.aL++am A.aS)) hv4 hc:=(gb.mono fun x q=>List.mem_cons_of_mem _ q).hsetr (.inr (by simp))
  have sc:hc.size=hb.size:=by simp[hc]
  refine⟨gc,b,0,rfl,by omega,by omega,⟨_,Zc.cellO 0 rfl 12 rfl⟩,Zc.freeO 0 rfl 12,?_⟩
  intro hd
  have Zd:=Zc.stO 0 rfl 12 (.slice sA2 (σ.spots.length+1) sC2)
  have gd:Fr (b::(am A.aL++am A.aS)) hv4 hd:=gc.hsetr (.inr (by simp))
  have sd:hd.size=hc.size:=by simp[hd]
  refine⟨gd,?_⟩
  have Ze:Sy h0 M hd ([Ck.ob b 95 [.string s,.int .i64 (σ.i:Int),.int .i64 (d:Int),.int .i64 ((σ.n+1:Nat):Int),.slice none 0 0,.bool σ.dir,.slice none 0 0,.slice none 0 0,.slice none 0 0,.bool σ.graph,.map (some A.mp),
    .slice sA (σ.labels.length+1) sC,.slice sA2 (σ.spots.length+1) sC2,.slice A.aW σ.weights.length A.cW,.bool σ.h0,.bool σ.h1,.bool σ.h2,.slice A.aE σ.ends.length A.cE],
    Ck.mp A.mp (fO σ.ids),Ck.sl eS 9 sA (σ.labels.length+1) sC (σ.labels++[G.noB]),Ck.sl eFF 78 sA2 (σ.spots.length+1) sC2 (σ.spots++[((0:Nat),(0:Nat))]),Ck.sl eF 76 A.aW σ.weights.length A.cW σ.weights,
    Ck.sl eT 156 A.aE σ.ends.length A.cE σ.ends,Ck.glob gl]++[c7,c8,Ck.ob h.size 89 [pt b],Ck.ob hv.size 3 [.int .i64 (σ.n:Int)]]):=Zd
  have l1:σ.labels.length+1=(σ.labels++[G.noB]).length:=by simp
  have l2:σ.spots.length+1=(σ.spots++[((0:Nat),(0:Nat))]).length:=by simp
  rw[l1,l2]at Ze
  refine fin hp1.size hd {A with aL:=sA,cL:=sC,aS:=sA2,cS:=sC2} (by omega) (f4.trans (gd.mono fun x q=>?_)) (by omega) Ze
  ·simp only[List.mem_cons,List.mem_append]at q
   simp only[ao,stC,List.flatMap_cons,Ck.ob,Ck.mp,Ck.sl,List.mem_append,List.mem_cons,List.not_mem_nil,or_false]
   grind
theorem FA {cl:Nat->Nat} {h0 h:ab} {M:List Nat} {c7 c8:Ck} (Y:Sy h0 M h (stC gl b s A σ d++[c7,c8])) (ri:G.RI cl s σ) (hn:σ.ends.length/2<3072):
  af Tryz.prog 212 #[pt b] h fun w h'=>Fr (ao (stC gl b s A σ d)) h h'/\∃A' xR xK m xM t,h.size<=xR/\h.size<=xK/\h.size<=m/\h.size<=xM/\h.size<=t/\w=pt t/\
   Sy h0 M h' (stC gl b s A' {σ with ends:=σ.ends++[⟨0,0,G.noB,0⟩,⟨0,0,G.noB,0⟩],weights:=σ.weights++[4607182418800017408]} d++[c7,c8,Ck.ob xR 89 [pt b],Ck.ob xK 3 [.int .i64 (σ.ends.length:Int)],Ck.mp m [],Ck.ob xM 69 [.map (some m)],
    Ck.ob t 193 [.int .i64 1,.nilFunc,fnV 266 #[pt xM,pt xK,pt xR],fnV 270 #[pt xM]]]):=by
 apply xE
 unfold GK
 intro hv
 have Y1:Sy h0 M hv (stC gl b s A σ d++[c7,c8,Ck.ob h.size 89 [pt b]]):=Sy.newO Y [pt b]
 have s1:hv.size=h.size+1:=by simp[hv]
 have f1:Fr (ao (stC gl b s A σ d)) h hv:=(Fr.push h _).nil
 clear_value hv
 refine⟨_,Y1.cellO 9 rfl 0 rfl,b,0,rfl,A.aE,σ.ends.length,A.cE,Y1.cellO 0 rfl 17 rfl,?_⟩
 intro hv2
 have Y2:Sy h0 M hv2 (stC gl b s A σ d++[c7,c8,Ck.ob h.size 89 [pt b],Ck.ob hv.size 3 [.int .i64 0]]):=Sy.newO Y1 [.int .i64 0]
 have s2:hv2.size=h.size+2:=by simp[hv2,s1]
 refine⟨⟨_,Y2.cellO 10 rfl 0 rfl⟩,Y2.freeO 10 rfl 0,?_⟩
 intro hv3
 have Y3:Sy h0 M hv3 (stC gl b s A σ d++[c7,c8,Ck.ob h.size 89 [pt b],Ck.ob hv.size 3 [.int .i64 (σ.ends.length:Int)]]):=Y2.stO 10 rfl 0 _
 have s3:hv3.size=h.size+2:=by simp[hv3,s2]
 have f3:Fr (ao (stC gl b s A σ d)) h hv3:=(f1.pushr _).hsetL (by omega)
 clear_value hv3
 clear hv2 Y2 s2
 have hE:∀x∈am A.aE,x<h.size/\x≠b:=fun x hx=>⟨dG Y 5 rfl x hx,fun e=>(Y.hp.ap 5 0 _ _ (by decide) rfl rfl x hx).1 (by simp[Ck.ob,e])⟩
 have hW:∀x∈am A.aW,x<h.size/\x≠b:=fun x hx=>⟨dG Y 4 rfl x hx,fun e=>(Y.hp.ap 4 0 _ _ (by decide) rfl rfl x hx).1 (by simp[Ck.ob,e])⟩
 have hbl:b<h.size:=dG Y 0 rfl b (by simp[Ck.ob])
 have nE:∀x,(x=b\/h.size<=x)->x∉am A.aE:=fun x hx q=>by grind
 have nW:∀x,(x=b\/h.size<=x)->x∉am A.aW:=fun x hx q=>by grind
 have hel:=ri.el
 have hwl:=ri.wl
 have inO:∀x,(x=b\/x∈am A.aE\/x∈am A.aW)->x∈ao (stC gl b s A σ d):=by
  intro x q
  simp only[ao,stC,List.flatMap_cons,Ck.ob,Ck.mp,Ck.sl,List.mem_append,List.mem_cons,List.not_mem_nil,or_false]
  grind
 refine⟨am A.aE,by simp,nE _ (.inr (Nat.le_refl _)),_,Y3.cellO 9 rfl 0 rfl,nE _ (.inr (Nat.le_refl _)),_,Y3.cellO 9 rfl 0 rfl,b,0,rfl,nE _ (.inl rfl),A.aE,σ.ends.length,A.cE,Y3.cellO 0 rfl 17 rfl,?_⟩
 intro hv4
 have s4:hv4.size=hv3.size+1:=by simp[hv4]
 have Y4:Sy h0 M hv4 (stC gl b s A σ d++[c7,c8,Ck.ob h.size 89 [pt b],Ck.ob hv.size 3 [.int .i64 (σ.ends.length:Int)]]):=Sy.gr Y3 (Fr.push _ _)
 have g4:Fr (am A.aE) hv3 hv4:=(Fr.push _ _).nil
 clear_value hv4
 refine⟨g4,_,Y4.ownS 5 rfl,fun x hx q=>?_,by omega,by simp only[maxLen];omega,fun sA sC hv5 ow f gg _=>?_⟩
 ·grind
 have Y5:=Y4.appS 5 rfl [⟨0,0,G.noB,0⟩,⟨0,0,G.noB,0⟩] ow f gg rfl rfl
 have g5:Fr (am A.aE) hv3 hv5:=g4.trans f
 have s5:hv4.size<=hv5.size:=f.size
 refine⟨g5,b,0,rfl,by omega,⟨_,Y5.cellO 0 rfl 17 rfl⟩,Y5.freeO 0 rfl 17,?_⟩
 intro hv6
 have Y6:Sy h0 M hv6 _:=Y5.stO 0 rfl 17 (.slice sA (σ.ends.length+2) sC)
 have s6:hv6.size=hv5.size:=by simp[hv6]
 have f6:Fr (ao (stC gl b s A σ d)) h hv6:=(f3.trans (g5.mono fun x q=>inO x (.inr (.inl q)))).hsetr (.inr (inO b (.inl rfl)))
 clear_value hv6
 refine⟨am A.aW,fun x hx=>nW x (.inr (by grind)),nW _ (.inr (Nat.le_refl _)),_,Y6.cellO 9 rfl 0 rfl,nW _ (.inr (Nat.le_refl _)),_,Y6.cellO 9 rfl 0 rfl,b,0,rfl,nW _ (.inl rfl),A.aW,σ.weights.length,A.cW,Y6.cellO 0 rfl 13 rfl,?_⟩
 intro hv7
 have s7:hv7.size=hv6.size+1:=by simp[hv7]
 have Y7:Sy h0 M hv7 _:=Sy.gr Y6 (Fr.push hv6 (.cells #[.float .f64 4607182418800017408] 76))
 have g7:Fr (am A.aW) hv6 hv7:=(Fr.push _ _).nil
 refine⟨g7,_,Y7.ownS 4 rfl,fun x hx q=>?_,by omega,by simp only[maxLen];omega,fun sA2 sC2 hv8 ow2 f2 gg2 _=>?_⟩
 ·grind
 have Y8:=Y7.appS 4 rfl [(4607182418800017408:Nat)] ow2 f2 gg2 rfl rfl
 have g8:Fr (am A.aW) hv6 hv8:=g7.trans f2
 have s8:hv7.size<=hv8.size:=f2.size
 refine⟨g8,b,0,rfl,by omega,by omega,⟨_,Y8.cellO 0 rfl 13 rfl⟩,Y8.freeO 0 rfl 13,?_⟩
 intro hv9
 have Y9:Sy h0 M hv9 _:=Y8.stO 0 rfl 13 (.slice sA2 (σ.weights.length+1) sC2)
 have s9:hv9.size=hv8.size:=by simp[hv9]
 have f9:Fr (ao (stC gl b s A σ d)) h hv9:=(f6.trans (g8.mono fun x q=>inO x (.inr (.inr q)))).hsetr (.inr (inO b (.inl rfl)))
 have Ze:Sy h0 M hv9 ([Ck.ob b 95 [.string s,.int .i64 (σ.i:Int),.int .i64 (d:Int),.int .i64 (σ.n:Int),.slice none 0 0,.bool σ.dir,.slice none 0 0,.slice none 0 0,.slice none 0 0,.bool σ.graph,.map (some A.mp),
   .slice A.aL σ.labels.length A.cL,.slice A.aS σ.spots.length A.cS,.slice sA2 (σ.weights.length+1) sC2,.bool σ.h0,.bool σ.h1,.bool σ.h2,.slice sA (σ.ends.length+2) sC],
   Ck.mp A.mp (fO σ.ids),Ck.sl eS 9 A.aL σ.labels.length A.cL σ.labels,Ck.sl eFF 78 A.aS σ.spots.length A.cS σ.spots,Ck.sl eF 76 sA2 (σ.weights.length+1) sC2 (σ.weights++[(4607182418800017408:Nat)]),
   Ck.sl eT 156 sA (σ.ends.length+2) sC (σ.ends++[⟨0,0,G.noB,0⟩,⟨0,0,G.noB,0⟩]),Ck.glob gl]++[c7,c8,Ck.ob h.size 89 [pt b],Ck.ob hv.size 3 [.int .i64 (σ.ends.length:Int)]]):=Y9
 have l1:σ.ends.length+2=(σ.ends++[(⟨0,0,G.noB,0⟩:G.Tok),⟨0,0,G.noB,0⟩]).length:=by simp
 have l2:σ.weights.length+1=(σ.weights++[(4607182418800017408:Nat)]).length:=by simp
 rw[l1,l2]at Ze
 clear_value hv9
 have Yx:Sy h0 M hv9 (stC gl b s {A with aW:=sA2,cW:=sC2,aE:=sA,cE:=sC} {σ with ends:=σ.ends++[⟨0,0,G.noB,0⟩,⟨0,0,G.noB,0⟩],weights:=σ.weights++[4607182418800017408]} d++[c7,c8,Ck.ob h.size 89 [pt b],Ck.ob hv.size 3 [.int .i64 (σ.ends.length:Int)]]):=Ze
 clear Ze Y9 Y8 Y7 Y6 Y5
 generalize ({A with aW:=sA2,cW:=sC2,aE:=sA,cE:=sC}:AD)=A' at Yx
 have hs:h.size+2<=hv9.size:=by omega
 have hs2:hv6.size<=hv9.size:=by omega
 intro hv10 hv11
 have Y10:=Sy.newM Yx
 have s10:hv10.size=hv9.size+1:=by simp[hv10]
 have Y11:Sy h0 M hv11 (stC gl b s A' {σ with ends:=σ.ends++[⟨0,0,G.noB,0⟩,⟨0,0,G.noB,0⟩],weights:=σ.weights++[4607182418800017408]} d++[c7,c8,Ck.ob h.size 89 [pt b],Ck.ob hv.size 3 [.int .i64 (σ.ends.length:Int)],Ck.mp hv9.size [],Ck.ob hv10.size 69 [.map none]]):=Sy.newO Y10 [.map none]
 refine⟨by omega,by omega,⟨_,Y11.cellO 12 rfl 0 rfl⟩,Y11.freeO 12 rfl 0,?_⟩
 intro hv12 hv13
 have s12:hv12.size=hv9.size+2:=by simp[hv12,hv11,s10]
 have Y12:Sy h0 M hv12 (stC gl b s A' {σ with ends:=σ.ends++[⟨0,0,G.noB,0⟩,⟨0,0,G.noB,0⟩],weights:=σ.weights++[4607182418800017408]} d++[c7,c8,Ck.ob h.size 89 [pt b],Ck.ob hv.size 3 [.int .i64 (σ.ends.length:Int)],Ck.mp hv9.size [],Ck.ob hv10.size 69 [.map (some hv9.size)]]):=Y11.stO 12 rfl 0 _
 have Y13:=Sy.newO (ty:=193) Y12 [.int .i64 1,.nilFunc,fnV 266 #[pt hv10.size,pt hv.size,pt h.size],fnV 270 #[pt hv10.size]]
 exact⟨(((f9.pushr _).pushr _).hsetL (by omega)).pushr _,A',h.size,hv.size,hv9.size,hv10.size,hv12.size,by omega,by omega,by omega,by omega,by omega,rfl,Y13⟩
end
theorem ww {n:Nat} (h:n<4611686018427387904):i64.wrap (Int.tdiv (n:Int) (2:Int))=((n/2:Nat):Int):=by
 grind [wr]
section
variable {gl:GL} {b d:Nat} {s:ByteArray} {A:AD} {σ:G.Rd}
theorem FB {cl:Nat->Nat} {dd:Bool} {t:G.Tok} {kv ov:Value} {mo:Option (Nat × List (List UInt8))} {fs:Fs} {h:ab} {xM xR m:Nat} {ks:List (List UInt8)}
  (H:Hp h (stC gl b s A σ d++[Ck.fx mo fs])) (ri:G.RI cl s σ) (e1:kv=fnV 152 #[pt xR,pt xM]) (e2:ov=fnV 151 #[]) (e3:mo=some (m,ks)) (e4:Seen (.graph dd) ks)
  (e5:fs=[(xR,0,pt b),(xM,0,.map (some m))]):
  az Tryz.prog 153 #[pt b,.map (some m),cm t] h (kR gl b d s (stC gl b s A σ d++[Ck.fx mo fs]) h (.graph dd) t σ kv ov fs) (kE (stC gl b s A σ d++[Ck.fx mo fs]) h (.graph dd) t σ):=by
 generalize hC:stC gl b s A σ d++[Ck.fx mo fs]=C at H ⊢
 have Y0:Sy h (ao C) h (stC gl b s A σ d++[Ck.fx mo fs]):=by rw[hC];exact Sy.start H
 obtain⟨hr1,hr2⟩:=rR (gl:=gl) (b:=b) (s:=s) (A:=A) (σ:=σ) (d:=d) (mo:=mo) (fs:=fs)
 rw[hC]at hr1 hr2
 unfold cm
 apply xt
 unfold GB
 have ex:(t.says.toList==(⟨#[100,105,114,101,99,116,101,100]⟩:ByteArray).toList)=decide (t.l=G.cq):=cn
 have ey:(t.says.toList==(⟨#[110,111,100,101]⟩:ByteArray).toList)=decide (t.l=G.eR):=cn
 have ez:(t.says.toList==(⟨#[101,100,103,101]⟩:ByteArray).toList)=decide (t.l=G.dj):=cn
 rw[ex,ey,ez]
 have n1:G.eR≠G.cq:=by decide
 have n2:G.dj≠G.cq:=by decide
 have n3:G.dj≠G.eR:=by decide
 intro hv
 have Y1:Sy h (ao C) hv (stC gl b s A σ d++[Ck.fx mo fs,Ck.ob h.size 89 [pt b]]):=Sy.newO Y0 [pt b]
 have s1:hv.size=h.size+1:=by simp[hv]
 intro hv2
 have Y2:Sy h (ao C) hv2 (stC gl b s A σ d++[Ck.fx mo fs,Ck.ob h.size 89 [pt b]]):=Y1.gr (Fr.push _ _)
 have s2:hv2.size=h.size+2:=by simp[hv2,s1]
 have f2:Fr [] h hv2:=(Fr.push h _).pushr _
 clear_value hv2
 clear_value hv
 clear Y1
 subst e3
 have hml:m<h.size:=gf (Y0.mapF 7 rfl)
 have hno:∀x∈ao (stC gl b s A σ d),x<h.size:=by
  intro x hx
  obtain⟨k,c,h1,h2⟩:=bm.1 hx
  exact dG Y0 k (dX h1) x h2
 have hin:∀x∈ao (stC gl b s A σ d),x∈ao C:=by
  intro x hx
  obtain⟨k,c,h1,h2⟩:=bm.1 hx
  rw[<-hC]
  exact bm.2 ⟨k,c,dX h1,h2⟩
 refine ag (fun q=>?_) fun q1=>?_
 ·refine nH Y2 7 rfl e4.1 (by simp;omega) (fun r1 hv3 f3 Y3=>?_) fun r1 hv3 f3=>?_
  ·refine⟨rfl,?_⟩
   intro hv8
   have Y8:Sy h (ao C) hv8 (stC gl b s A σ d++[Ck.fx (some (m,ks++[t.l])) fs,Ck.ob h.size 89 [pt b],Ck.ob hv3.size 193 [.int .i64 4,fnV 210 #[pt h.size],.nilFunc,.nilFunc]]):=Sy.newO Y3 [.int .i64 4,fnV 210 #[pt h.size],.nilFunc,.nilFunc]
   have s7:h.size<=hv3.size:=Y3.le
   refine⟨.dir,.graph true,σ,A,some (m,ks++[t.l]),none,[],[(hv3.size,0,.int .i64 4),(hv3.size,1,fnV 210 #[pt h.size]),(h.size,0,pt b)],some ⟨hv3.size,0,none⟩,?_,rfl,?_,?_,?_,Gr.refl σ,trivial,trivial⟩
   ·have hx:dd=false:=by
     cases dd with
     | false=>rfl
     | true=>exact absurd ((e4.2 _).2 (by simp[kts,q])) r1
    subst hx
    simp[G.key,q,G.aG]
   ·refine lw (rest:=[_,_]) Y8 (fun x hx=>.inl (hr1 x hx)) hr2 (fun p hp=>by cases hp) (fun f hf=>by cases hf) fun f hf=>?_
    simp only[List.mem_cons,List.not_mem_nil,or_false]at hf
    rcases hf with rfl | rfl | rfl
    ·exact⟨Y8.cellO 9 rfl 0 rfl,.inr ⟨s7,1,193,_,rfl⟩⟩
    ·exact⟨Y8.cellO 9 rfl 1 rfl,.inr ⟨s7,1,193,_,rfl⟩⟩
    ·exact⟨Y8.cellO 8 rfl 0 rfl,.inr ⟨Nat.le_refl _,0,89,_,rfl⟩⟩
   ·exact⟨xR,xM,m,ks++[t.l],e1,e2,rfl,cT e4 r1 (fun k'=>by rw[q];simp[kts]<;>grind),e5⟩
   ·exact⟨hv3.size,h.size,rfl,rfl,rfl,rfl⟩
  ·refine⟨_,?_,rfl,frM hC f2.nil f3⟩
   have:=(e4.2 _).1 r1
   grind [kts,G.key,G.aG]
 refine ag (fun q=>?_) fun q2=>?_
 ·refine⟨_,Y2.cellO 8 rfl 0 rfl,b,0,rfl,(σ.n:Int),Y2.cellO 0 rfl 3 rfl,?_⟩
  refine av (fun q3=>⟨rfl,Fr.refl _ _,_,Y2.cellO 8 rfl 0 rfl,?_⟩) fun q3=>⟨_,?_,rfl,f2.nil⟩
  ·have hn:σ.n<1024:=by grind
   refine ai (ao (stC gl b s A σ d)) (Fy (cl:=cl) Y2 ri hn) (fun x hx q=>by grind) (fun _ _ r=>r.1) fun w h' r=>?_
   obtain⟨f8,A',xR2,xV2,m2,xM2,t2,z1,z2,z3,z4,z5,rfl,Y8⟩:=r
   refine⟨some ⟨t2,0,none⟩,rfl,.list (.node σ.n false false false),.graph dd,{σ with n:=σ.n+1,labels:=σ.labels++[G.noB],spots:=σ.spots++[(0,0)]},A',some (m,ks),some (m2,[]),[(xM2,0,.map (some m2)),(xR2,0,pt b),(xV2,0,.int .i64 (σ.n:Int))],
    [(t2,0,.int .i64 1),(t2,2,fnV 261 #[pt xM2,pt xR2,pt xV2]),(t2,3,fnV 265 #[pt xM2])],some ⟨t2,0,none⟩,by simp[G.key,q,n1,G.aG,hn],rfl,?_,⟨xR,xM,m,ks,e1,e2,rfl,e4,e5⟩,⟨t2,_,_,_,rfl,⟨xM2,xR2,xV2,m2,[],rfl,rfl,rfl,⟨by simp,by simp[kts]⟩,rfl⟩,rfl⟩,
    ⟨Nat.le_succ _,Nat.le_refl _,Nat.le_refl _⟩,trivial,Nat.lt_succ_self _⟩
   refine lw (rest:=[_,_,_,_,_,_]) Y8 (fun x hx=>.inl (hr1 x hx)) hr2 (fun p hp=>by cases hp;exact⟨3,rfl⟩) (fun f hf=>?_) fun f hf=>?_
   ·simp only[List.mem_cons,List.not_mem_nil,or_false]at hf
    rcases hf with rfl | rfl | rfl
    ·exact⟨Y8.cellO 12 rfl 0 rfl,.inr ⟨by omega,4,69,_,rfl⟩⟩
    ·exact⟨Y8.cellO 9 rfl 0 rfl,.inr ⟨by omega,1,89,_,rfl⟩⟩
    ·exact⟨Y8.cellO 10 rfl 0 rfl,.inr ⟨by omega,2,3,_,rfl⟩⟩
   ·simp only[List.mem_cons,List.not_mem_nil,or_false]at hf
    rcases hf with rfl | rfl | rfl
    ·exact⟨Y8.cellO 13 rfl 0 rfl,.inr ⟨by omega,5,193,_,rfl⟩⟩
    ·exact⟨Y8.cellO 13 rfl 2 rfl,.inr ⟨by omega,5,193,_,rfl⟩⟩
    ·exact⟨Y8.cellO 13 rfl 3 rfl,.inr ⟨by omega,5,193,_,rfl⟩⟩
  grind [G.key,G.aG]
 refine ag (fun q=>?_) fun q3=>?_
 ·have hel:=ri.el
  have hwl:=ri.wl
  refine⟨_,Y2.cellO 8 rfl 0 rfl,b,0,rfl,A.aE,σ.ends.length,A.cE,Y2.cellO 0 rfl 17 rfl,by decide,?_⟩
  rw[ww (by omega)]
  refine av (fun q3=>⟨rfl,Fr.refl _ _,_,Y2.cellO 8 rfl 0 rfl,?_⟩) fun q3=>⟨_,?_,rfl,f2.nil⟩
  ·have hn:σ.ends.length/2<3072:=by grind
   refine ai (ao (stC gl b s A σ d)) (FA (cl:=cl) Y2 ri hn) (fun x hx q=>by grind) (fun _ _ r=>r.1) fun w h' r=>?_
   obtain⟨f8,A',xR2,xV2,m2,xM2,t2,z1,z2,z3,z4,z5,rfl,Y8⟩:=r
   refine⟨some ⟨t2,0,none⟩,rfl,.list (.edge σ.ends.length false false false),.graph dd,{σ with ends:=σ.ends++[⟨0,0,G.noB,0⟩,⟨0,0,G.noB,0⟩],weights:=σ.weights++[4607182418800017408]},A',some (m,ks),some (m2,[]),[(xM2,0,.map (some m2)),(xV2,0,.int .i64 (σ.ends.length:Int)),(xR2,0,pt b)],
    [(t2,0,.int .i64 1),(t2,2,fnV 266 #[pt xM2,pt xV2,pt xR2]),(t2,3,fnV 270 #[pt xM2])],some ⟨t2,0,none⟩,by simp[G.key,q,n2,n3,G.aG,hn],rfl,?_,⟨xR,xM,m,ks,e1,e2,rfl,e4,e5⟩,⟨t2,_,_,_,rfl,⟨xM2,xV2,xR2,m2,[],rfl,rfl,rfl,⟨by simp,by simp[kts]⟩,rfl⟩,rfl⟩,
    ⟨Nat.le_refl _,by simp,by simp⟩,trivial,⟨by simp,by simp;omega⟩⟩
   refine lw (rest:=[_,_,_,_,_,_]) Y8 (fun x hx=>.inl (hr1 x hx)) hr2 (fun p hp=>by cases hp;exact⟨3,rfl⟩) (fun f hf=>?_) fun f hf=>?_
   ·simp only[List.mem_cons,List.not_mem_nil,or_false]at hf
    rcases hf with rfl | rfl | rfl
    ·exact⟨Y8.cellO 12 rfl 0 rfl,.inr ⟨by omega,4,69,_,rfl⟩⟩
    ·exact⟨Y8.cellO 10 rfl 0 rfl,.inr ⟨by omega,2,3,_,rfl⟩⟩
    ·exact⟨Y8.cellO 9 rfl 0 rfl,.inr ⟨by omega,1,89,_,rfl⟩⟩
   ·simp only[List.mem_cons,List.not_mem_nil,or_false]at hf
    rcases hf with rfl | rfl | rfl
    ·exact⟨Y8.cellO 13 rfl 0 rfl,.inr ⟨by omega,5,193,_,rfl⟩⟩
    ·exact⟨Y8.cellO 13 rfl 2 rfl,.inr ⟨by omega,5,193,_,rfl⟩⟩
    ·exact⟨Y8.cellO 13 rfl 3 rfl,.inr ⟨by omega,5,193,_,rfl⟩⟩
  grind [G.key,G.aG]
 ·exact⟨.none,.graph dd,σ,A,some (m,ks),none,[],[],none,by simp[G.key,q1,q2,q3],rfl,uO (Y0.gr f2) (fun x hx=>.inl (hr1 x hx)) hr2,⟨xR,xM,m,ks,e1,e2,rfl,e4,e5⟩,⟨rfl,rfl,rfl,rfl⟩,Gr.refl σ,trivial,trivial⟩
theorem AE {cl:Nat->Nat} {dd:Bool} {t:G.Tok} {kv ov:Value} {mo:Option (Nat × List (List UInt8))} {fs:Fs} {h:ab} {xM xR m:Nat} {ks:List (List UInt8)}
  (H:Hp h (stC gl b s A σ d++[Ck.fx mo fs])) (ri:G.RI cl s σ) (e1:kv=fnV 152 #[pt xR,pt xM]) (e2:ov=fnV 151 #[]) (e3:mo=some (m,ks)) (e4:Seen (.graph dd) ks)
  (e5:fs=[(xR,0,pt b),(xM,0,.map (some m))]):
  az Tryz.prog 152 #[cm t,pt xR,pt xM] h (kR gl b d s (stC gl b s A σ d++[Ck.fx mo fs]) h (.graph dd) t σ kv ov fs) (kE (stC gl b s A σ d++[Ck.fx mo fs]) h (.graph dd) t σ):=by
 unfold cm
 apply xu
 unfold GC
 intro hv
 have Q:Sq h (stC gl b s A σ d++[Ck.fx mo fs]) hv (stC gl b s A σ d++[Ck.fx mo fs]):=(Sq.start H).gr (Fr.push h _)
 have s1:hv.size=h.size+1:=by simp[hv]
 clear_value hv
 have Y1:=Q.sy
 refine⟨xR,0,rfl,_,Y1.factF 7 rfl 0 (by rw[e5];rfl),xM,0,rfl,some m,Y1.factF 7 rfl 1 (by rw[e5];rfl),?_⟩
 refine aH (ao (stC gl b s A σ d++[Ck.fx mo fs])) (FB (t:=t) Q.hp ri e1 e2 e3 e4 e5) (fun x hx q=>?_) (fun v h' r=>?_) (fun v h' r=>?_) (fun v h' r=>?_) fun v h' r=>?_
 ·obtain⟨k,c,h1,h2⟩:=bm.1 q
  have:=(c.lt h (H.ok k c h1)).1 x h2
  grind
 ·obtain⟨_,_,_,_,_,_,_,_,_,_,_,q,_⟩:=r;exact q.fr
 ·obtain⟨_,_,_,f⟩:=r;exact f
 ·obtain⟨x,l',σ',A',mo',mo1,fs1,tfs,p,a1,a2,a3,a4⟩:=r
  exact⟨p,a2,x,l',σ',A',mo',mo1,fs1,tfs,p,a1,a2▸rfl,Q.callT a3,a4⟩
 ·obtain⟨f,a1,a2,a3⟩:=r
  exact⟨f,a1,a2,Q.frT a3⟩
theorem FC {cl:Nat->Nat} {t:G.Tok} {kv ov:Value} {mo:Option (Nat × List (List UInt8))} {fs:Fs} {h:ab}
  (H:Hp h (stC gl b s A σ d++[Ck.fx mo fs])) (ri:G.RI cl s σ) (e1:kv= .func (.func 111) #[pt b] #[]) (e2:mo=none) (e3:fs=[]):
  az Tryz.prog 111 #[pt b,cm t] h (kR gl b d s (stC gl b s A σ d++[Ck.fx mo fs]) h .top t σ kv ov fs) (kE (stC gl b s A σ d++[Ck.fx mo fs]) h .top t σ):=by
 generalize hC:stC gl b s A σ d++[Ck.fx mo fs]=C at H ⊢
 have Y0:Sy h (ao C) h (stC gl b s A σ d++[Ck.fx mo fs]):=by rw[hC];exact Sy.start H
 obtain⟨hr1,hr2⟩:=rR (gl:=gl) (b:=b) (s:=s) (A:=A) (σ:=σ) (d:=d) (mo:=mo) (fs:=fs)
 rw[hC]at hr1 hr2
 unfold cm
 apply xO
 unfold GS
 have ex:(t.says.toList==(⟨#[103,114,97,112,104]⟩:ByteArray).toList)=decide (t.l=G.eQ):=cn
 rw[ex]
 intro hv
 have Y1:Sy h (ao C) hv (stC gl b s A σ d++[Ck.fx mo fs,Ck.ob h.size 89 [pt b]]):=Sy.newO Y0 [pt b]
 have s1:hv.size=h.size+1:=by simp[hv]
 intro hv2
 have Y2:Sy h (ao C) hv2 (stC gl b s A σ d++[Ck.fx mo fs,Ck.ob h.size 89 [pt b]]):=Y1.gr (Fr.push _ _)
 have s2:hv2.size=h.size+2:=by simp[hv2,s1]
 have f2:Fr [] h hv2:=(Fr.push h _).pushr _
 clear_value hv2
 clear_value hv
 clear Y1
 have hbl:b<h.size:=dG Y0 0 rfl b (by simp[Ck.ob])
 refine aK (fun q=>?_) fun q=>?_
 ·exact⟨.none,.top,σ,A,mo,none,[],[],none,by simp[G.key,of_decide_eq_false q],rfl,uO (Y0.gr f2) (fun x hx=>.inl (hr1 x hx)) hr2,⟨e1,e2,e3⟩,⟨rfl,rfl,rfl,rfl⟩,Gr.refl σ,trivial,trivial⟩
 ·have q:=of_decide_eq_true q
  refine⟨_,Y2.cellO 8 rfl 0 rfl,b,0,rfl,σ.graph,Y2.cellO 0 rfl 9 rfl,?_⟩
  refine av (fun q3=>⟨rfl,Fr.refl _ _,_,Y2.cellO 8 rfl 0 rfl,b,0,rfl,by omega,⟨_,Y2.cellO 0 rfl 9 rfl⟩,Y2.freeO 0 rfl 9,?_⟩) fun q3=>⟨_,?_,rfl,f2.nil⟩
  ·have hg:σ.graph=false:=by simpa using q3
   intro hv4 hv5 hv6
   have Y4:Sy h (ao C) hv4 (stC gl b s A {σ with graph:=true} d++[Ck.fx mo fs,Ck.ob h.size 89 [pt b]]):=Y2.stO 0 rfl 9 _
   have s4:hv4.size=h.size+2:=by simp[hv4,s2]
   have Y5:Sy h (ao C) hv5 (stC gl b s A {σ with graph:=true} d++[Ck.fx mo fs,Ck.ob h.size 89 [pt b],Ck.mp hv4.size []]):=Sy.newM Y4
   have s5:hv5.size=h.size+3:=by simp[hv5,s4]
   have Y6:Sy h (ao C) hv6 (stC gl b s A {σ with graph:=true} d++[Ck.fx mo fs,Ck.ob h.size 89 [pt b],Ck.mp hv4.size [],Ck.ob hv5.size 69 [.map none]]):=Sy.newO Y5 [.map none]
   refine⟨by omega,⟨_,Y6.cellO 10 rfl 0 rfl⟩,Y6.freeO 10 rfl 0,?_⟩
   intro hv7 hv8
   have Y7:Sy h (ao C) hv7 (stC gl b s A {σ with graph:=true} d++[Ck.fx mo fs,Ck.ob h.size 89 [pt b],Ck.mp hv4.size [],Ck.ob hv5.size 69 [.map (some hv4.size)]]):=Y6.stO 10 rfl 0 _
   have s7:hv7.size=h.size+4:=by simp[hv7,hv6,s5]
   have Y8:Sy h (ao C) hv8 (stC gl b s A {σ with graph:=true} d++[Ck.fx mo fs,Ck.ob h.size 89 [pt b],Ck.mp hv4.size [],Ck.ob hv5.size 69 [.map (some hv4.size)],Ck.ob hv7.size 193 [.int .i64 1,.nilFunc,fnV 152 #[pt h.size,pt hv5.size],fnV 151 #[]]]):=Sy.newO Y7 [.int .i64 1,.nilFunc,fnV 152 #[pt h.size,pt hv5.size],fnV 151 #[]]
   clear_value hv8
   refine⟨.list (.graph false),.top,{σ with graph:=true},A,mo,some (hv4.size,[]),[(h.size,0,pt b),(hv5.size,0,.map (some hv4.size))],[(hv7.size,0,.int .i64 1),(hv7.size,2,fnV 152 #[pt h.size,pt hv5.size]),(hv7.size,3,fnV 151 #[])],some ⟨hv7.size,0,none⟩,
    by simp[G.key,q,G.aG,hg],rfl,?_,⟨e1,e2,e3⟩,⟨hv7.size,_,_,_,rfl,⟨h.size,hv5.size,hv4.size,[],rfl,rfl,rfl,⟨by simp,by simp[kts]⟩,rfl⟩,rfl⟩,⟨Nat.le_refl _,Nat.le_refl _,Nat.le_refl _⟩,trivial,trivial⟩
   refine lw (rest:=[_,_,_,_]) Y8 (fun x hx=>.inl (hr1 x hx)) hr2 (fun p hp=>by cases hp;exact⟨1,rfl⟩) (fun f hf=>?_) fun f hf=>?_
   ·simp only[List.mem_cons,List.not_mem_nil,or_false]at hf
    rcases hf with rfl | rfl
    ·exact⟨Y8.cellO 8 rfl 0 rfl,.inr ⟨Nat.le_refl _,0,89,_,rfl⟩⟩
    ·exact⟨Y8.cellO 10 rfl 0 rfl,.inr ⟨by omega,2,69,_,rfl⟩⟩
   ·simp only[List.mem_cons,List.not_mem_nil,or_false]at hf
    rcases hf with rfl | rfl | rfl
    ·exact⟨Y8.cellO 11 rfl 0 rfl,.inr ⟨by omega,3,193,_,rfl⟩⟩
    ·exact⟨Y8.cellO 11 rfl 2 rfl,.inr ⟨by omega,3,193,_,rfl⟩⟩
    ·exact⟨Y8.cellO 11 rfl 3 rfl,.inr ⟨by omega,3,193,_,rfl⟩⟩
  grind [G.key,G.aG]
end
end Go.Proofs.YtlflalecmhgmjaaGreatDoor.N
