/- What takes a value. Conditions: what Clean tells. -/
import Derived.Test.YtemclecmafjjfaaGreatDoorHKey5
import Derived.Test.YtemclecmafjjfaaGreatDoorTSame
import Derived.Test.YtemclecmafjjfaaGreatDoorGTell
import Derived.Test.YtemclecmafjjfaaGreatDoorHOnce
import Derived.Test.YtemclecmafjjfaaGreatDoorHWhole
set_option linter.unusedVariables false
set_option linter.unusedSimpArgs false
open Go.IntKind (i64 u64 u8 i32)
namespace Go.Proofs.YtemclecmafjjfaaGreatDoor.N
open Go.Proofs.YtemclecmafjjfaaGreatDoor
open Go.X
set_option maxRecDepth 100000
def pZ (cl:Nat->Nat):Prop:=∀(x:Nat) (h:ab),ae Tryz.prog 140 #[.float .f64 x] h fun v h'=>v= .float .f64 (cl x)/\Fr [] h h'
def tR (gl:GL) (b d:Nat) (s:ByteArray) (C:List Ck) (h:ab) (cl:Nat->Nat) (x:G.Tk) (v:G.Tok) (A:AD) (σ:G.Rd) (w:Value) (h':ab):Prop:=
 ∃σ',G.bW cl x v σ= .ok σ'/\w= .tuple #[]/\Sq h C h' (stC gl b s A σ' d)/\Gr σ σ'
def tE (C:List Ck) (h:ab) (cl:Nat->Nat) (x:G.Tk) (v:G.Tok) (σ:G.Rd) (w:Value) (h':ab):Prop:=∃f,G.bW cl x v σ= .no f/\w=flt f/\Fr (ao C) h h'
theorem JI {s:ByteArray} {h:ab} (hs:s.size<=9223372036854775807):ae Tryz.prog 31 #[.string s] h fun v h'=>v= .bool (s.data.toList.all (fun c=>G.fN c.toNat)&&decide (s.size<=256))/\h'=h:=by
 apply Ey
 unfold S31
 refine⟨fun l h'=>h'=h/\∃i:Nat,l=[.int .i64 (i:Int)]/\i<=s.size/\(s.data.toList.take i).all (fun c=>G.fN c.toNat)=true,fun l _=>match l with
  | [.int _ i]=>s.size-i.toNat
  | _=>0,⟨rfl,0,rfl,Nat.zero_le _,by simp⟩,?_⟩
 rintro x hv ⟨rfl,i,e,hi,ha⟩
 cases e
 refine ag (fun q=>?_) fun q=>?_
 ·have hlt:i<s.size:=by omega
  obtain⟨c,hc,hb⟩:=get_at hlt
  refine⟨by omega,q,c,by grind,?_⟩
  refine cJ Hi ⟨_,rfl,?_⟩
  have hcl:s.data.toList[i]? =some c:=by
   rw[<-hc]
   have:s[i]? =s.data[i]? :=by
    rw[getElem?_pos s i hlt,getElem?_pos s.data i hlt];rfl
   rw[this];simp
  refine aV (fun q1=>?_) fun q1=>?_
  ·grind
  ·rw[show i64.wrap ((i:Int)+1)=((i+1:Nat):Int) by rw[wr (by omega) (by omega)];omega]
   refine⟨⟨rfl,i+1,rfl,hlt,?_⟩,?_⟩
   ·grind [List.take_add_one]
   grind
 ·refine⟨?_,rfl⟩
  have:i=s.size:=by omega
  subst this
  have e:s.data.toList.take s.size=s.data.toList:=List.take_of_length_le (Nat.le_refl _)
  rw[e]at ha
  rw[ha,Bool.true_and]
  congr 1
  grind
section
variable {gl:GL} {b d:Nat} {s:ByteArray} {A:AD} {σ:G.Rd} {cl:Nat->Nat} {v:G.Tok} {tfs:Fs} {h:ab}
theorem yW {h h3:ab} {C rest:List Ck} {σ':G.Rd} (Y:Sy h (ao C) h3 (stC gl b s A σ' d++rest)) (hg:∀x∈glB gl,x∈rds C):Sq h C h3 (stC gl b s A σ' d):=by
 have hc:fT (stC gl b s A σ' d++rest).length [0,1,2,3,4,5,6]=true:=by
  simp[fT,stC]
  decide
 refine⟨Y.pick [0,1,2,3,4,5,6] hc,fun x hx=>?_⟩
 have:x∈glB gl:=by simpa[rds,stC,Ck.ob,Ck.mp,Ck.sl,Ck.glob]using hx
 grind
theorem glr {C:List Ck} {rest:List Ck} (hC:stC gl b s A σ d++rest=C):∀x∈glB gl,x∈rds C:=by
 intro x hx
 rw[<-hC]
 exact cd.2 ⟨6,_,rfl,hx⟩
theorem JK {t xR:Nat} (H:Hp h (stC gl b s A σ d++[Ck.fx none tfs])) (e:tfs=[(t,0,.int .i64 4),(t,1,fnV 99 #[pt xR]),(xR,0,pt b)]):
  aB Tryz.prog 99 #[cF v,pt xR] h (tR gl b d s (stC gl b s A σ d++[Ck.fx none tfs]) h cl .dir v A σ) (tE (stC gl b s A σ d++[Ck.fx none tfs]) h cl .dir v σ):=by
 generalize hC:stC gl b s A σ d++[Ck.fx none tfs]=C at H ⊢
 have Y0:Sy h (ao C) h (stC gl b s A σ d++[Ck.fx none tfs]):=by rw[hC];exact Sy.start H
 unfold cF
 apply Eo
 unfold S99
 have ex:(v.says.toList==(⟨#[48]⟩:ByteArray).toList)=decide (v.l=[48]):=cH
 have ey:(v.says.toList==(⟨#[49]⟩:ByteArray).toList)=decide (v.l=[49]):=cH
 rw[ex,ey]
 intro hv
 have Y1:Sy h (ao C) hv (stC gl b s A σ d++[Ck.fx none tfs]):=Y0.gr (Fr.push h _)
 have s1:hv.size=h.size+1:=by simp[hv]
 clear_value hv
 have hbl:b<h.size:=fl Y0 0 rfl b (by simp[Ck.ob])
 intro K
 have k:(v.l=[48]\/v.l=[49])->K (v.kind:Int) v.says v.num hv:=by
  intro q
  dsimp-zeta only[K]
  rw[ey]
  refine⟨xR,0,rfl,_,Y1.factF 7 rfl 2 (by rw[e];rfl),b,0,rfl,by omega,⟨_,Y1.cellO 0 rfl 5 rfl⟩,Y1.freeO 0 rfl 5,?_⟩
  intro hv5
  have Y5:Sy h (ao C) hv5 (stC gl b s A {σ with dir:=decide (v.l=[49])} d++[Ck.fx none tfs]):=Y1.stO 0 rfl 5 _
  exact⟨_,by simp[G.bW,G.az,q],rfl,yW Y5 (glr hC),⟨Nat.le_refl _,Nat.le_refl _,Nat.le_refl _⟩⟩
 exact ag (fun q=>aw (fun _=>⟨rfl,k (.inl q)⟩) fun z=>absurd z (by decide)) fun q=>aw (fun z=>⟨rfl,k (.inr (of_decide_eq_true z))⟩) fun z=>⟨_,by grind [G.bW,G.az],rfl,Y1.fr⟩
theorem Aw {t xR xK k:Nat} (hcl:pZ cl) (H:Hp h (stC gl b s A σ d++[Ck.fx none tfs])) (ri:G.RI cl s σ) (hb:k/2<σ.weights.length) (hk:k<σ.ends.length) (e:tfs=[(t,0,.int .i64 4),(t,1,fnV 139 #[pt xR,pt xK]),(xR,0,pt b),(xK,0,.int .i64 (k:Int))]):
  ae Tryz.prog 139 #[cF v,pt xR,pt xK] h (tR gl b d s (stC gl b s A σ d++[Ck.fx none tfs]) h cl (.weight k) v A σ):=by
 generalize hC:stC gl b s A σ d++[Ck.fx none tfs]=C at H ⊢
 have Y0:Sy h (ao C) h (stC gl b s A σ d++[Ck.fx none tfs]):=by rw[hC];exact Sy.start H
 unfold cF
 apply Ba
 unfold Kh
 intro hv
 have Y1:Sy h (ao C) hv (stC gl b s A σ d++[Ck.fx none tfs]):=Y0.gr (Fr.push h _)
 have s1:hv.size=h.size+1:=by simp[hv]
 clear_value hv
 have hbl:b<h.size:=fl Y0 0 rfl b (by simp[Ck.ob])
 have hel:=ri.el
 have hwl:=ri.wl
 obtain⟨g,hg,gown,-⟩:=Y1.atS 4 rfl (i:=((k/2:Nat):Int)) (by omega) (by omega)
 have hgl:g<h.size:=fl Y0 4 rfl g gown
 have cR:ac hv xR 0=some (pt b):=Y1.factF 7 rfl 2 (by rw[e];rfl)
 have cK:ac hv xK 0=some (.int .i64 (k:Int)):=Y1.factF 7 rfl 3 (by rw[e];rfl)
 have nv:∀{x:Nat} {c:Ck} {j:Nat},(stC gl b s A σ d++[Ck.fx none tfs])[j]? =some c->j≠7->x∈c.own->∀o v,(x,o,v)∉tfs:=by
  intro x c j hj hj7 hx o v' hm
  exact(Y1.hp.ap j 7 _ _ hj7 hj rfl x hx).2 (List.mem_map.2 ⟨_,hm,rfl⟩)
 have bne:b≠xR/\b≠xK:=⟨fun q=>nv (j:=0) rfl (by decide) (x:=b) (by simp[Ck.ob]) 0 (pt b) (by rw[e,q];simp),fun q=>nv (j:=0) rfl (by decide) (x:=b) (by simp[Ck.ob]) 0 (.int .i64 (k:Int)) (by rw[e,q];simp)⟩
 have gne:g≠xR/\g≠xK:=⟨fun q=>nv (j:=4) rfl (by decide) gown 0 (pt b) (by rw[e,q];simp),fun q=>nv (j:=4) rfl (by decide) gown 0 (.int .i64 (k:Int)) (by rw[e,q];simp)⟩
 refine⟨[],[b,g],by simp,by simp;omega,xR,0,rfl,by simp,_,cR,b,0,rfl,by simp,A.aW,σ.weights.length,A.cW,Y1.cellO 0 rfl 13 rfl,xK,0,rfl,by simp,(k:Int),cK,by decide,xR,0,rfl,by grind,_,cR,b,0,rfl,?_⟩
 rw[Ai (by omega)]
 refine ak [] (hcl v.num hv) (by simp) (fun _ _ r=>r.2) fun w hv2 r=>?_
 obtain⟨rfl,f2⟩:=r
 have Y2:Sy h (ao C) hv2 (stC gl b s A σ d++[Ck.fx none tfs]):=Y1.gr f2
 refine⟨_,rfl,f2,g,0,hg,by omega,by omega,by omega,?_⟩
 have hkw:(((k/2:Nat):Int)).toNat=k/2:=by omega
 rw[hkw]
 have c2:ac hv2 g (0+k/2*1)=_:=Y2.cellS 4 rfl hg (i:=k/2) (t:=0) (List.getElem?_eq_getElem hb) rfl
 refine⟨⟨_,c2⟩,Y2.freeS 4 rfl hg _,?_⟩
 intro hv3
 have Y3:Sy h (ao C) hv3 ([Ck.ob b 67 (rc s A σ d),Ck.mp A.mp (gY σ.ids),Ck.sl eS 9 A.aL σ.labels.length A.cL σ.labels,Ck.sl eFF 71 A.aS σ.spots.length A.cS σ.spots,Ck.sl eF 54 A.aW σ.weights.length A.cW (σ.weights.set (k/2) (cl v.num)),
  Ck.sl eT 97 A.aE σ.ends.length A.cE σ.ends,Ck.glob gl]++[Ck.fx none tfs]):=Y2.st1 4 rfl hg (i:=k/2) (cl v.num) hb rfl
 have f3:Fr [b,g] hv hv3:=f2.nil.hsetr (.inr (by simp))
 refine⟨f3,by omega,⟨_,Y3.cellO 0 rfl 16 rfl⟩,Y3.freeO 0 rfl 16,?_⟩
 intro hv4
 have Y4:=Y3.stO 0 rfl 16 (.bool true)
 refine⟨f3.hsetr (.inr (by simp)),?_⟩
 have Y5:Sy h (ao C) hv4 ([Ck.ob b 67 [.string s,.int .i64 (σ.i:Int),.int .i64 (d:Int),.int .i64 (σ.n:Int),.slice none 0 0,.bool σ.dir,.slice none 0 0,.slice none 0 0,.slice none 0 0,.bool σ.graph,.map (some A.mp),
  .slice A.aL σ.labels.length A.cL,.slice A.aS σ.spots.length A.cS,.slice A.aW σ.weights.length A.cW,.bool σ.h0,.bool σ.h1,.bool true,.slice A.aE σ.ends.length A.cE],Ck.mp A.mp (gY σ.ids),Ck.sl eS 9 A.aL σ.labels.length A.cL σ.labels,Ck.sl eFF 71 A.aS σ.spots.length A.cS σ.spots,Ck.sl eF 54 A.aW σ.weights.length A.cW (σ.weights.set (k/2) (cl v.num)),
  Ck.sl eT 97 A.aE σ.ends.length A.cE σ.ends,Ck.glob gl]++[Ck.fx none tfs]):=Y4
 have l1:σ.weights.length=(σ.weights.set (k/2) (cl v.num)).length:=by simp
 rw[l1]at Y5
 exact⟨{σ with weights:=σ.weights.set (k/2) (cl v.num),h2:=true},rfl,rfl,yW (rest:=[Ck.fx none tfs]) Y5 (glr hC),⟨Nat.le_refl _,Nat.le_refl _,by simp⟩⟩
theorem vT {α:Type} {l:List α} {i:Nat} {x:α} {f:α->α} (hx:l[i]? =some x):l.modify i f=l.set i (f x):=by
 apply List.ext_getElem?
 grind
theorem DX {t xR xP g k:Nat} {y:Bool} (hcl:pZ cl) (H:Hp h (stC gl b s A σ d++[Ck.fx none tfs])) (ri:G.RI cl s σ) (hb:k<σ.n) (hg:A.aS=some ⟨g,0,none⟩) (e:tfs=[(t,0,.int .i64 4),(t,1,fnV 177 #[pt xP,pt xR]),(xR,0,pt b),(xP,0,.pointer (some ⟨g,k*2+y.toNat,none⟩))]):
  ae Tryz.prog 177 #[cF v,pt xP,pt xR] h (tR gl b d s (stC gl b s A σ d++[Ck.fx none tfs]) h cl (.spot k y) v A σ):=by
 generalize hC:stC gl b s A σ d++[Ck.fx none tfs]=C at H ⊢
 have Y0:Sy h (ao C) h (stC gl b s A σ d++[Ck.fx none tfs]):=by rw[hC];exact Sy.start H
 unfold cF
 apply Bd
 unfold Kk
 intro hv
 have Y1:Sy h (ao C) hv (stC gl b s A σ d++[Ck.fx none tfs]):=Y0.gr (Fr.push h _)
 have s1:hv.size=h.size+1:=by simp[hv]
 clear_value hv
 have hbl:b<h.size:=fl Y0 0 rfl b (by simp[Ck.ob])
 have hsl:=ri.sl
 have gown:g∈(Ck.sl eFF 71 A.aS σ.spots.length A.cS σ.spots).own:=by simp[Ck.sl,hg,ah]
 have hgl:g<h.size:=fl Y0 3 rfl g gown
 have cR:ac hv xR 0=some (pt b):=Y1.factF 7 rfl 2 (by rw[e];rfl)
 have cP:ac hv xP 0=some (.pointer (some ⟨g,k*2+y.toNat,none⟩)):=Y1.factF 7 rfl 3 (by rw[e];rfl)
 have nv:∀{x:Nat} {c:Ck} {j:Nat},(stC gl b s A σ d++[Ck.fx none tfs])[j]? =some c->j≠7->x∈c.own->∀o v,(x,o,v)∉tfs:=by
  intro x c j hj hj7 hx o v' hm
  exact(Y1.hp.ap j 7 _ _ hj7 hj rfl x hx).2 (List.mem_map.2 ⟨_,hm,rfl⟩)
 have nP:∀x,(x=b\/x=g)->x≠xR/\x≠xP:=by
  rintro x (rfl | rfl)
  ·exact⟨fun q=>nv (j:=0) rfl (by decide) (x:=x) (by simp[Ck.ob]) 0 (pt x) (by rw[e,q];simp),fun q=>nv (j:=0) rfl (by decide) (x:=x) (by simp[Ck.ob]) 0 (.pointer (some ⟨g,k*2+y.toNat,none⟩)) (by rw[e,q];simp)⟩
  ·exact⟨fun q=>nv (j:=3) rfl (by decide) gown 0 (pt b) (by rw[e,q];simp),fun q=>nv (j:=3) rfl (by decide) gown 0 (.pointer (some ⟨x,k*2+y.toNat,none⟩)) (by rw[e,q];simp)⟩
 have np:=nP b (.inl rfl)
 have nq:=nP g (.inr rfl)
 refine⟨[b,g],by simp;omega,xP,0,rfl,by grind,_,cP,xR,0,rfl,by grind,_,cR,b,0,rfl,?_⟩
 refine ak [] (hcl v.num hv) (by simp) (fun _ _ r=>r.2) fun w hv2 r=>?_
 obtain⟨rfl,f2⟩:=r
 have Y2:Sy h (ao C) hv2 (stC gl b s A σ d++[Ck.fx none tfs]):=Y1.gr f2
 obtain⟨p,hp⟩:∃p,σ.spots[k]? =some p:=⟨_,List.getElem?_eq_getElem (by omega)⟩
 have ty:y.toNat<2:=by cases y<;>decide
 have ey:k*2+y.toNat=0+k*eFF.sz+y.toNat:=by show _=0+k*2+y.toNat;omega
 obtain⟨u,hu⟩:∃u,(eFF.enc p)[y.toNat]? =some u:=by cases y<;>exact⟨_,rfl⟩
 have c2:ac hv2 g (k*2+y.toNat)=some u:=by rw[ey];exact Y2.cellS 3 rfl hg hp hu
 refine⟨_,rfl,f2.nil,g,_,rfl,by omega,⟨_,c2⟩,Y2.freeS 3 rfl hg _,?_⟩
 intro hv3
 have Y3:Sy h (ao C) hv3 ([Ck.ob b 67 (rc s A σ d),Ck.mp A.mp (gY σ.ids),Ck.sl eS 9 A.aL σ.labels.length A.cL σ.labels,Ck.sl eFF 71 A.aS σ.spots.length A.cS (σ.spots.set k (if y=true then(p.1,cl v.num)else(cl v.num,p.2))),Ck.sl eF 54 A.aW σ.weights.length A.cW σ.weights,
  Ck.sl eT 97 A.aE σ.ends.length A.cE σ.ends,Ck.glob gl]++[Ck.fx none tfs]):=by
  have:=Y2.stS 3 rfl hg (i:=k) (t:=y.toNat) (x:=p) (if y=true then(p.1,cl v.num)else(cl v.num,p.2)) (v:=.float .f64 (cl v.num)) hp ty (by cases y<;>rfl)
  rw[<-ey]at this
  exact this
 have f3:Fr [b,g] hv hv3:=f2.nil.hsetr (.inr (by simp))
 refine⟨f3,by omega,⟨_,Y3.cellO 0 rfl 15 rfl⟩,Y3.freeO 0 rfl 15,?_⟩
 intro hv4
 have Y4:=Y3.stO 0 rfl 15 (.bool true)
 refine⟨f3.hsetr (.inr (by simp)),?_⟩
 have Y5:Sy h (ao C) hv4 ([Ck.ob b 67 [.string s,.int .i64 (σ.i:Int),.int .i64 (d:Int),.int .i64 (σ.n:Int),.slice none 0 0,.bool σ.dir,.slice none 0 0,.slice none 0 0,.slice none 0 0,.bool σ.graph,.map (some A.mp),
  .slice A.aL σ.labels.length A.cL,.slice A.aS σ.spots.length A.cS,.slice A.aW σ.weights.length A.cW,.bool σ.h0,.bool true,.bool σ.h2,.slice A.aE σ.ends.length A.cE],Ck.mp A.mp (gY σ.ids),Ck.sl eS 9 A.aL σ.labels.length A.cL σ.labels,Ck.sl eFF 71 A.aS σ.spots.length A.cS (σ.spots.set k (if y=true then(p.1,cl v.num)else(cl v.num,p.2))),Ck.sl eF 54 A.aW σ.weights.length A.cW σ.weights,
  Ck.sl eT 97 A.aE σ.ends.length A.cE σ.ends,Ck.glob gl]++[Ck.fx none tfs]):=Y4
 have l1:σ.spots.length=(σ.spots.set k (if y=true then(p.1,cl v.num)else(cl v.num,p.2))).length:=by simp
 rw[l1]at Y5
 refine⟨{σ with spots:=σ.spots.set k (if y=true then(p.1,cl v.num)else(cl v.num,p.2)),h1:=true},?_,rfl,yW (rest:=[Ck.fx none tfs]) Y5 (glr hC),⟨Nat.le_refl _,Nat.le_refl _,Nat.le_refl _⟩⟩
 simp only[G.bW]
 rw[vT hp]
theorem JL {t xR xT k:Nat} (H:Hp h (stC gl b s A σ d++[Ck.fx none tfs])) (hv:v.says.size<=262144) (hk:k<σ.ends.length) (e:tfs=[(t,0,.int .i64 4),(t,1,fnV 138 #[pt xR,pt xT]),(xR,0,pt b),(xT,0,.int .i64 (k:Int))]):
  aB Tryz.prog 138 #[cF v,pt xR,pt xT] h (tR gl b d s (stC gl b s A σ d++[Ck.fx none tfs]) h cl (.fin k) v A σ) (tE (stC gl b s A σ d++[Ck.fx none tfs]) h cl (.fin k) v σ):=by
 generalize hC:stC gl b s A σ d++[Ck.fx none tfs]=C at H ⊢
 have Y0:Sy h (ao C) h (stC gl b s A σ d++[Ck.fx none tfs]):=by rw[hC];exact Sy.start H
 apply A0 (v.kind:Int) (v.at_:Int) v.says v.num
 unfold Kg
 intro hv1
 have Y1:Sy h (ao C) hv1 (stC gl b s A σ d++[Ck.fx none tfs]):=Y0.gr (Fr.push h _)
 have s1:hv1.size=h.size+1:=by simp[hv1]
 clear_value hv1
 refine aK [] (Ho (Y1.glo 6 rfl) hv) (by simp) (fun _ _ r=>r.choose_spec.2.2) (fun _ _ r=>r.2.2) (fun w hv2 r=>?_) fun w hv2 r=>?_
 ·obtain⟨n,q,rfl,f2⟩:=r
  have Y2:Sy h (ao C) hv2 (stC gl b s A σ d++[Ck.fx none tfs]):=Y1.gr f2
  obtain⟨g,hg,gown,-⟩:=Y2.atS 5 rfl (i:=(k:Int)) (by omega) (by omega)
  have hgl:g<h.size:=fl Y0 5 rfl g gown
  obtain⟨p,hp⟩:∃p,σ.ends[k]? =some p:=⟨_,List.getElem?_eq_getElem hk⟩
  have cE:∀j u,(eT.enc p)[j]? =some u->ac hv2 g (0+k*4+j)=some u:=fun j u hu=>Y2.cellS 5 rfl hg hp hu
  refine⟨n,rfl,xR,0,rfl,_,Y2.factF 7 rfl 2 (by rw[e];rfl),b,0,rfl,A.aE,σ.ends.length,A.cE,Y2.cellO 0 rfl 17 rfl,xT,0,rfl,(k:Int),Y2.factF 7 rfl 3 (by rw[e];rfl),g,0,hg,by omega,by omega,by omega,
   ⟨_,cE 0 _ rfl⟩,Y2.freeS 5 rfl hg _,⟨_,cE 1 _ rfl⟩,Y2.freeS 5 rfl hg _,⟨_,cE 2 _ rfl⟩,Y2.freeS 5 rfl hg _,⟨_,cE 3 _ rfl⟩,Y2.freeS 5 rfl hg _,?_⟩
  rw[Int.toNat_natCast]
  intro hv3
  have Ya:=Y2.stS 5 rfl hg (i:=k) (t:=0) (x:=p) ⟨v.kind,p.at_,p.says,p.num⟩ (v:=.int .i64 (v.kind:Int)) hp (by decide) rfl
  have Yb:=Ya.stS 5 rfl hg (i:=k) (t:=1) (x:=⟨v.kind,p.at_,p.says,p.num⟩) ⟨v.kind,v.at_,p.says,p.num⟩ (v:=.int .i64 (v.at_:Int)) (by simp[hk]) (by decide) rfl
  have Yc:=Yb.stS 5 rfl hg (i:=k) (t:=2) (x:=⟨v.kind,v.at_,p.says,p.num⟩) ⟨v.kind,v.at_,v.says,p.num⟩ (v:=.string v.says) (by simp[hk]) (by decide) rfl
  have Yd:=Yc.stS 5 rfl hg (i:=k) (t:=3) (x:=⟨v.kind,v.at_,v.says,p.num⟩) v (v:=.float .f64 v.num) (by simp[hk]) (by decide) rfl
  simp only[List.set_set]at Yd
  have Y5:Sy h (ao C) hv3 ([Ck.ob b 67 (rc s A σ d),Ck.mp A.mp (gY σ.ids),Ck.sl eS 9 A.aL σ.labels.length A.cL σ.labels,Ck.sl eFF 71 A.aS σ.spots.length A.cS σ.spots,Ck.sl eF 54 A.aW σ.weights.length A.cW σ.weights,
   Ck.sl eT 97 A.aE σ.ends.length A.cE (σ.ends.set k v),Ck.glob gl]++[Ck.fx none tfs]):=Yd
  unfold rc at Y5
  have l1:σ.ends.length=(σ.ends.set k v).length:=by simp
  rw[l1]at Y5
  exact⟨{σ with ends:=σ.ends.set k v},by simp[G.bW,q],rfl,yW (rest:=[Ck.fx none tfs]) Y5 (glr hC),⟨Nat.le_refl _,by simp,Nat.le_refl _⟩⟩
 ·obtain⟨q,rfl,f2⟩:=r
  exact⟨_,by simp[G.bW,q],rfl,Y1.fr.trans f2.nil⟩
theorem DY {t xR xV k:Nat} (H:Hp h (stC gl b s A σ d++[Ck.fx none tfs])) (ri:G.RI cl s σ) (hb:k<σ.n) (e:tfs=[(t,0,.int .i64 5),(t,1,fnV 134 #[pt xR,pt xV]),(xR,0,pt b),(xV,0,.int .i64 (k:Int))]):
  aB Tryz.prog 134 #[cF v,pt xR,pt xV] h (tR gl b d s (stC gl b s A σ d++[Ck.fx none tfs]) h cl (.label k) v A σ) (tE (stC gl b s A σ d++[Ck.fx none tfs]) h cl (.label k) v σ):=by
 generalize hC:stC gl b s A σ d++[Ck.fx none tfs]=C at H ⊢
 have Y0:Sy h (ao C) h (stC gl b s A σ d++[Ck.fx none tfs]):=by rw[hC];exact Sy.start H
 apply AV (v.kind:Int) (v.at_:Int) v.says v.num
 unfold Kb
 intro hv1
 have Y1:Sy h (ao C) hv1 (stC gl b s A σ d++[Ck.fx none tfs]):=Y0.gr (Fr.push h _)
 have s1:hv1.size=h.size+1:=by simp[hv1]
 clear_value hv1
 have hbl:b<h.size:=fl Y0 0 rfl b (by simp[Ck.ob])
 have hll:=ri.ll
 refine aw (fun q1=>⟨rfl,?_⟩) fun q1=>⟨_,?_,rfl,Y1.fr⟩
 ·have q1:v.says.size<=256:=by grind
  refine fZ (JI (by omega)) ⟨_,rfl,Fr.refl _ _,?_⟩
  have e68:(v.says.data.toList.all (fun c=>G.fN c.toNat)&&decide (v.says.size<=256))=v.l.all fun c=>G.fN c.toNat:=by simp[q1,G.Tok.l]
  rw[e68]
  refine aw (fun q2=>⟨rfl,Fr.refl _ _,?_⟩) fun q2=>⟨_,?_,rfl,Y1.fr⟩
  ·obtain⟨g,hg,gown,-⟩:=Y1.atS 2 rfl (i:=(k:Int)) (by omega) (by omega)
   have hgl:g<h.size:=fl Y0 2 rfl g gown
   have cR:ac hv1 xR 0=some (pt b):=Y1.factF 7 rfl 2 (by rw[e];rfl)
   have cV:ac hv1 xV 0=some (.int .i64 (k:Int)):=Y1.factF 7 rfl 3 (by rw[e];rfl)
   have nv:∀{x:Nat} {c:Ck} {j:Nat},(stC gl b s A σ d++[Ck.fx none tfs])[j]? =some c->j≠7->x∈c.own->∀o v,(x,o,v)∉tfs:=by
    intro x c j hj hj7 hx o v' hm
    exact(Y1.hp.ap j 7 _ _ hj7 hj rfl x hx).2 (List.mem_map.2 ⟨_,hm,rfl⟩)
   have bne:b≠xR:=fun q=>nv (j:=0) rfl (by decide) (x:=b) (by simp[Ck.ob]) 0 (pt b) (by rw[e,q];simp)
   have gne:g≠xR:=fun q=>nv (j:=2) rfl (by decide) gown 0 (pt b) (by rw[e,q];simp)
   have c2:ac hv1 g (0+k*1)=_:=Y1.cellS 2 rfl hg (i:=k) (t:=0) (List.getElem?_eq_getElem (by omega)) rfl
   refine⟨[b,g],by simp;omega,xR,0,rfl,_,cR,b,0,rfl,A.aL,σ.labels.length,A.cL,Y1.cellO 0 rfl 11 rfl,xV,0,rfl,(k:Int),cV,xR,0,rfl,by grind,_,cR,g,0,hg,by omega,by omega,b,0,rfl,by omega,⟨_,c2⟩,Y1.freeS 2 rfl hg _,?_⟩
   rw[Int.toNat_natCast]
   intro hv3
   have Y3:Sy h (ao C) hv3 ([Ck.ob b 67 (rc s A σ d),Ck.mp A.mp (gY σ.ids),Ck.sl eS 9 A.aL σ.labels.length A.cL (σ.labels.set k v.says),Ck.sl eFF 71 A.aS σ.spots.length A.cS σ.spots,Ck.sl eF 54 A.aW σ.weights.length A.cW σ.weights,
    Ck.sl eT 97 A.aE σ.ends.length A.cE σ.ends,Ck.glob gl]++[Ck.fx none tfs]):=Y1.st1 2 rfl hg (i:=k) v.says (by omega) rfl
   have f3:Fr [b,g] hv1 hv3:=(Fr.refl _ _).hsetr (.inr (by simp))
   refine⟨f3,by omega,⟨_,Y3.cellO 0 rfl 14 rfl⟩,Y3.freeO 0 rfl 14,?_⟩
   intro hv4
   have Y4:=Y3.stO 0 rfl 14 (.bool true)
   refine⟨f3.hsetr (.inr (by simp)),?_⟩
   have Y5:Sy h (ao C) hv4 ([Ck.ob b 67 [.string s,.int .i64 (σ.i:Int),.int .i64 (d:Int),.int .i64 (σ.n:Int),.slice none 0 0,.bool σ.dir,.slice none 0 0,.slice none 0 0,.slice none 0 0,.bool σ.graph,.map (some A.mp),
    .slice A.aL σ.labels.length A.cL,.slice A.aS σ.spots.length A.cS,.slice A.aW σ.weights.length A.cW,.bool true,.bool σ.h1,.bool σ.h2,.slice A.aE σ.ends.length A.cE],Ck.mp A.mp (gY σ.ids),Ck.sl eS 9 A.aL σ.labels.length A.cL (σ.labels.set k v.says),Ck.sl eFF 71 A.aS σ.spots.length A.cS σ.spots,Ck.sl eF 54 A.aW σ.weights.length A.cW σ.weights,
    Ck.sl eT 97 A.aE σ.ends.length A.cE σ.ends,Ck.glob gl]++[Ck.fx none tfs]):=Y4
   have l1:σ.labels.length=(σ.labels.set k v.says).length:=by simp
   rw[l1]at Y5
   exact⟨{σ with labels:=σ.labels.set k v.says,h0:=true},by grind [G.bW,G.az],rfl,yW (rest:=[Ck.fx none tfs]) Y5 (glr hC),⟨Nat.le_refl _,Nat.le_refl _,Nat.le_refl _⟩⟩
  grind [G.bW,G.az]
 grind [G.bW,G.az]
theorem nf {l:List (Int × Nat)} {j:Nat} {p:Value × Value} (h:(gY l)[j]? =some p):∃q,l[j]? =some q/\p=(.int .i64 q.1,.int .i64 (q.2:Int)):=by
 grind [gY]
theorem oh (l:List (Int × Nat)):eJ yy (Ent (gY l)):=by
 intro e he
 obtain⟨j,p,h1,rfl⟩:=fL he
 obtain⟨k,_,rfl⟩:=nf h1
 rfl
theorem Ax {l:List (Int × Nat)} {j:Nat} {q:Int × Nat} (h:l[j]? =some q):(⟨.int .i64 q.1,.int .i64 (q.2:Int),j⟩:MapEntry)∈(Ent (gY l)).toList:=by
 refine Array.mem_def.1 (Array.mem_of_getElem? (i:=j) ?_)
 rw[fK]
 simp[gY,h]
theorem MH {t xR xV k:Nat} (H:Hp h (stC gl b s A σ d++[Ck.fx none tfs])) (hv:v.says.size<=262144) (e:tfs=[(t,0,.int .i64 4),(t,1,fnV 133 #[pt xR,pt xV]),(xR,0,pt b),(xV,0,.int .i64 (k:Int))]):
  aB Tryz.prog 133 #[cF v,pt xR,pt xV] h (tR gl b d s (stC gl b s A σ d++[Ck.fx none tfs]) h cl (.id k) v A σ) (tE (stC gl b s A σ d++[Ck.fx none tfs]) h cl (.id k) v σ):=by
 generalize hC:stC gl b s A σ d++[Ck.fx none tfs]=C at H ⊢
 have Y0:Sy h (ao C) h (stC gl b s A σ d++[Ck.fx none tfs]):=by rw[hC];exact Sy.start H
 apply AU (v.kind:Int) (v.at_:Int) v.says v.num
 unfold Ka
 intro hv1
 have Y1:Sy h (ao C) hv1 (stC gl b s A σ d++[Ck.fx none tfs]):=Y0.gr (Fr.push h _)
 have s1:hv1.size=h.size+1:=by simp[hv1]
 clear_value hv1
 have hml:A.mp<h.size:=fl Y0 1 rfl A.mp (by simp[Ck.mp])
 refine aK [] (Ho (Y1.glo 6 rfl) hv) (by simp) (fun _ _ r=>r.choose_spec.2.2) (fun _ _ r=>r.2.2) (fun w hv2 r=>?_) fun w hv2 r=>?_
 ·obtain⟨n,q,rfl,f2⟩:=r
  have Y2:Sy h (ao C) hv2 (stC gl b s A σ d++[Ck.fx none tfs]):=Y1.gr f2
  refine⟨n,rfl,?_⟩
  intro K
  have hm:=Y2.mapM 1 rfl
  have kt:(σ.ids.any fun p=>p.1==n)=true->K true hv2:=by
   intro ha
   refine aw (fun z=>absurd z (by decide)) fun _=>⟨_,?_,rfl,Y2.fr⟩
   grind [G.bW,G.az]
  have kf:(σ.ids.any fun p=>p.1==n)=false->K false hv2:=by
   intro ha
   refine aw (fun _=>⟨rfl,?_⟩) fun z=>absurd z (by decide)
   refine⟨xR,0,rfl,_,Y2.factF 7 rfl 2 (by rw[e];rfl),b,0,rfl,some A.mp,Y2.cellO 0 rfl 10 rfl,xV,0,rfl,(k:Int),Y2.factF 7 rfl 3 (by rw[e];rfl),A.mp,rfl,by omega,_,_,hm,oh _,?_,?_⟩
   ·intro j ev hj hk
    exfalso
    rw[fK]at hj
    grind [nf]
   ·intro _ hv6
    have Y6:Sy h (ao C) hv6 (stC gl b s A {σ with ids:=σ.ids++[(n,k)]} d++[Ck.fx none tfs]):=Y2.putM 1 rfl (gY (σ.ids++[(n,k)])) (by rw[tD];simp[gY]) (by simp[gY])
    exact⟨{σ with ids:=σ.ids++[(n,k)]},by grind [G.bW,G.az],rfl,yW Y6 (glr hC),⟨Nat.le_refl _,Nat.le_refl _,Nat.le_refl _⟩⟩
  refine⟨xR,0,rfl,_,Y2.factF 7 rfl 2 (by rw[e];rfl),b,0,rfl,some A.mp,Y2.cellO 0 rfl 10 rfl,A.mp,rfl,_,_,hm,oh _,?_,?_⟩
  ·grind [fL,nf]
  ·intro hn
   refine kf ?_
   rw[List.any_eq_false]
   intro w hw hwn
   obtain⟨j,hj⟩:=List.mem_iff_getElem?.1 hw
   exact hn _ (Ax hj) (by grind)
 ·obtain⟨q,rfl,f2⟩:=r
  exact⟨_,by simp[G.bW,q],rfl,Y1.fr.trans f2.nil⟩
end
abbrev Es :=List (Int × Int)
def jR (g:Int) (e:Int × Int):Bool:=decide (0<=e.1)&&decide (e.1<g)&&decide (0<=e.2)&&decide (e.2<g)
def gZ (g:Int) (es:Es):Bool:=decide (0<=g)&&decide (g<=1024)&&decide (es.length<=3072)&&es.all (jR g)
theorem jk {g:Int} {e:Int × Int}:jR g e=true ↔ (0<=e.1/\e.1<g)/\0<=e.2/\e.2<g:=by
 simp[jR];omega
theorem tX {g:Int} {es:Es}:gZ g es=true ↔ (0<=g/\g<=1024)/\es.length<=3072/\∀e∈es,jR g e=true:=by
 simp only[gZ,Bool.and_eq_true,decide_eq_true_eq,List.all_eq_true]
 exact⟨fun⟨⟨⟨a,b⟩,c⟩,d⟩=>⟨⟨a,b⟩,c,d⟩,fun⟨⟨a,b⟩,c,d⟩=>⟨⟨⟨a,b⟩,c⟩,d⟩⟩
structure MayN (g:Int) (es:Es):Prop where
 g0:0<=g
 g1:g<=1024
 m:es.length<=3072
 e:∀(i:Nat) (x:Int × Int),es[i]? =some x->(0<=x.1/\x.1<g)/\0<=x.2/\x.2<g
theorem Ht {g:Int} {es:Es} (h:gZ g es=true):MayN g es:=by
 obtain⟨⟨h1,h2⟩,h3,h4⟩:=tX.1 h
 exact⟨h1,h2,h3,fun i x hx=>jk.1 (h4 x (List.mem_of_getElem? hx))⟩
theorem tY {g:Int} {es:Es} {i:Nat} {x:Int × Int} (hx:es[i]? =some x) (h:(es.take i).all (jR g)=true) (hb:jR g x=true):(es.take (i+1)).all (jR g)=true:=by
 rw[List.take_add_one,hx]
 simp only[List.all_append,h,Bool.true_and,Option.toList,List.all_cons,List.all_nil,Bool.and_true]
 exact hb
theorem rY {g:Int} {es:Es} {i:Nat} {x:Int × Int} (hx:es[i]? =some x) (hb:jR g x=false):gZ g es=false:=by
 rw[<-Bool.not_eq_true]
 intro h
 have:=(tX.1 h).2.2 x (List.mem_of_getElem? hx)
 rw[hb]at this;cases this
theorem Hu {g:Int} {es:Es} {R:Bool->Prop} (h:R (gZ g es)):Ia g es R:=by
 apply Nn
 unfold T13
 have no:gZ g es=false->R false:=fun e=>e▸h
 refine⟨gZ g es=false,?_,no⟩
 refine ag (fun h1=>by simp[gZ];omega) fun h1=>ag (fun h2=>by simp[gZ];omega) fun h2=>ag (fun h3=>no (by simp[gZ];omega)) fun h3=>?_
 refine⟨fun i=>∃k:Nat,i=k/\k<=es.length/\(es.take k).all (jR g)=true,fun i=>((es.length:Int)-i).toNat,⟨0,rfl,by omega,by simp⟩,?_⟩
 rintro _ ⟨k,rfl,hk,ha⟩
 refine ag (fun hlt=>?_) fun hlt=>?_
 ·have hx:es[k]? =some (es[k]'(by omega)):=List.getElem?_eq_getElem (by omega)
  generalize es[k]'(by omega)=x at hx
  have small:∀j:Int,0<=j->j<2->(0<=iZ x j/\iZ x j<g)\/jR g x=false:=fun j _ _=>by
   by_cases hb:jR g x=true
   ·have:=jk.1 hb
    left;unfold iZ;split<;>omega
   ·right;simpa using hb
  refine⟨fun j=>∃n:Nat,j=n/\n<=2/\∀m:Int,0<=m->m<n->0<=iZ x m/\iZ x m<g,fun j=>(2-j).toNat,⟨0,rfl,by omega,by omega⟩,?_⟩
  rintro _ ⟨n,rfl,hn,hall⟩
  refine ag (fun hlt2=>⟨by omega,hlt,by omega,by omega,fun y hy=>?_⟩) fun hlt2=>?_
  ·have hy:es[k]? =some y:=by simpa using hy
   rw[hx]at hy;obtain rfl:=Option.some.inj hy
   refine ag (fun h5=>no ?_) fun h5=>⟨by omega,by omega,ag (fun h6=>no ?_) fun h6=>?_⟩
   ·rcases small n (by omega) hlt2 with q | q
    ·omega
    ·exact rY hx q
   ·rcases small n (by omega) hlt2 with q | q
    ·omega
    ·exact rY hx q
   ·rw[wr (by omega) (by omega)]
    refine⟨⟨n+1,by simp,by omega,fun m h7 h8=>?_⟩,by dsimp only;omega⟩
    by_cases h9:m=n
    ·subst h9;omega
    ·exact hall m h7 (by omega)
  ·rw[wr (by omega) (by omega)]
   have hn2:n=2:=by omega
   subst hn2
   have q0:=hall 0 (by omega) (by omega)
   have q1:=hall 1 (by omega) (by omega)
   have hb:jR g x=true:=jk.2 (by simp[iZ]at q0 q1;omega)
   exact⟨⟨k+1,by simp,by omega,tY hx ha hb⟩,by dsimp only;omega⟩
 ·have hke:k=es.length:=by omega
  subst hke
  rw[List.take_length]at ha
  have:gZ g es=true:=by
   simp only[gZ,Bool.and_eq_true,decide_eq_true_eq];exact⟨⟨⟨by omega,by omega⟩,by omega⟩,ha⟩
  exact this▸h
theorem MQ {a b:Int} {j:Int} (h0:0<=j) (h2:j<2):(#[.int .i64 a,.int .i64 b]:Array Value)[Int.toNat j]? =some (.int .i64 (iZ (a,b) j)):=by
 have:j=0\/j=1:=by omega
 rcases this with rfl | rfl<;>rfl
theorem JS {g:Int} {es:Es} {R:Bool->Prop} (h:R (gZ g es)):HW g es R:=by
 apply Ni
 unfold T29
 have no:gZ g es=false->R false:=fun e=>e▸h
 refine⟨gZ g es=false,?_,no⟩
 refine ag (fun h1=>by simp[gZ];omega) fun h1=>ag (fun h2=>by simp[gZ];omega) fun h2=>ag (fun h3=>no (by simp[gZ];omega)) fun h3=>?_
 refine⟨fun i=>∃k:Nat,i=k/\k<=es.length/\(es.take k).all (jR g)=true,fun i=>((es.length:Int)-i).toNat,⟨0,rfl,by omega,by simp⟩,?_⟩
 rintro _ ⟨k,rfl,hk,ha⟩
 refine ag (fun hlt=>⟨by omega,hlt,fun x hx=>?_⟩) fun hlt=>?_
 ·have hx:es[k]? =some x:=by simpa using hx
  have small:∀j:Int,(0<=iZ x j/\iZ x j<g)\/jR g x=false:=fun j=>by
   by_cases hb:jR g x=true
   ·have:=jk.1 hb
    left;unfold iZ;split<;>omega
   ·right;simpa using hb
  refine⟨fun j=>∃n:Nat,j=n/\n<=2/\∀m:Int,0<=m->m<n->0<=iZ x m/\iZ x m<g,fun j=>(2-j).toNat,⟨0,rfl,by omega,by omega⟩,?_⟩
  rintro _ ⟨n,rfl,hn,hall⟩
  refine ag (fun hlt2=>⟨by omega,by omega,iZ x n,MQ (by omega) hlt2,?_⟩) fun hlt2=>?_
  ·refine ag (fun h5=>no ?_) fun h5=>ag (fun h6=>no ?_) fun h6=>?_
   ·rcases small n with q | q
    ·omega
    ·exact rY hx q
   ·rcases small n with q | q
    ·omega
    ·exact rY hx q
   ·rw[wr (by omega) (by omega)]
    refine⟨⟨n+1,by simp,by omega,fun m h7 h8=>?_⟩,by dsimp only;omega⟩
    by_cases h9:m=n
    ·subst h9;omega
    ·exact hall m h7 (by omega)
  ·rw[wr (by omega) (by omega)]
   have hn2:n=2:=by omega
   subst hn2
   have q0:=hall 0 (by omega) (by omega)
   have q1:=hall 1 (by omega) (by omega)
   have hb:jR g x=true:=jk.2 (by simp[iZ]at q0 q1;omega)
   exact⟨⟨k+1,by simp,by omega,tY hx ha hb⟩,by dsimp only;omega⟩
 ·have hke:k=es.length:=by omega
  subst hke
  rw[List.take_length]at ha
  have:gZ g es=true:=by
   simp only[gZ,Bool.and_eq_true,decide_eq_true_eq];exact⟨⟨⟨by omega,by omega⟩,by omega⟩,ha⟩
  exact this▸h
def y7 (s:ByteArray):Bool:=(s.data.toList.all fun c=>G.fN c.toNat)&&decide (s.size<=256)
theorem JT {s:ByteArray} {R:Bool->Prop} (hs:s.size<=9223372036854775807) (r:R (y7 s)):KS s R:=by
 intro h _
 exact(JI hs).mono fun v h' ⟨e1,e2⟩=>⟨_,by rw[e2];exact sy0 (Fr.refl _ _),e1,r⟩
def kL (a n:Int):Bool:=decide (a=0)||decide (a=n)
theorem vY {a n:Int} {R:Bool->Prop} (r:R (kL a n)):BD a n R:=by
 apply Nj
 unfold T30
 unfold kL at r
 refine av (fun h=>?_) fun h=>?_
 ·rw[decide_eq_true h]at r;exact r
 ·rw[decide_eq_false h,Bool.false_or]at r
  have:(a==n)=decide (a=n):=by rw[Bool.eq_iff_iff];simp
  rw[this];exact r
def gk (n:Int) (es:Es) (ls:List ByteArray) (ss:List (Nat × Nat)) (ws:List Nat):Bool:=
 gZ n es&&(kL (ls.length:Int) n&&(kL (ss.length:Int) n&&(kL (ws.length:Int) (es.length:Int)&&ls.all y7)))
theorem GC {n:Int} {es:Es} {dr:Bool} {ls:List ByteArray} {ss:List (Nat × Nat)} {ws:List Nat} {R:Bool->Prop} (hs:∀s∈ls,s.size<=9223372036854775807) (hl:ls.length<=9223372036854775807) (r:R (gk n es ls ss ws)):KT n es dr ls ss ws R:=by
 apply Nk
 unfold T11
 have no:gk n es ls ss ws=false->R false:=fun e=>e▸r
 refine⟨gk n es ls ss ws=false,JS (aV (fun q=>?_) fun q1=>vY (aV (fun q=>?_) fun q2=>vY (aV (fun q=>?_) fun q3=>vY (aV (fun q=>?_) fun q4=>?_)))),no⟩
 ·unfold gk;rw[q];rfl
 ·unfold gk;rw[q];simp
 ·unfold gk;rw[q];simp
 ·refine no ?_
  unfold gk;rw[q];simp
 ·refine⟨fun i=>∃k:Nat,i=k/\k<=ls.length/\(ls.take k).all y7=true,fun i=>((ls.length:Int)-i).toNat,⟨0,rfl,by omega,by simp⟩,?_⟩
  rintro _ ⟨k,rfl,hk,ha⟩
  refine ag (fun hlt=>⟨by omega,hlt,fun x hx=>JT (hs x (List.mem_of_getElem? hx)) (aV (fun q=>no ?_) fun q=>?_)⟩) fun hlt=>?_
  ·have:ls.all y7=false:=by
    rw[List.all_eq_false]
    exact⟨x,List.mem_of_getElem? hx,by simp[q]⟩
   unfold gk;rw[this];simp
  ·have hw:i64.wrap ((k:Int)+1)=((k+1:Nat):Int):=by rw[wr (by omega) (by omega)];omega
   rw[hw]
   refine⟨⟨k+1,rfl,by omega,?_⟩,by dsimp only;omega⟩
   have hx:ls[k]? =some x:=by simpa using hx
   rw[List.take_add_one,hx]
   simp only[List.all_append,ha,Bool.true_and,Option.toList,List.all_cons,List.all_nil,Bool.and_true]
   exact q
  ·have hke:k=ls.length:=by omega
   rw[hke,List.take_length]at ha
   have e:gk n es ls ss ws=true:=by
    unfold gk;rw[q1,q2,q3,q4,ha];rfl
   rw[e]at r;exact r
open Go.Proofs
theorem qb (l:List UInt8):(G.mkB l).data.toList=l:=by simp[G.mkB]
theorem dM (l:List UInt8):(G.mkB l).size=l.length:=by simp[G.mkB,ByteArray.size]
def Hd (H:List Nat) (B:List Ck):Prop:=∀x∈H,∃j:Nat,B[j]? =some (Ck.junk x)
section
variable {b c d:Nat} {u:Bool} {A:Option Addr} {l:List UInt8} {h0 h:ab} {C B:List Ck} {H:List Nat} {K:Value->ab->Prop}
theorem Sq.sub {cs cs':List Ck} (Q:Sq h0 C h cs) (f:Nat->Nat) (hf:∀i j c e,cs'[i]? =some c->cs'[j]? =some e->f i=f j->i=j) (hg:∀k c,cs'[k]? =some c->cs[f k]? =some c):Sq h0 C h cs':=
 ⟨⟨Q.sy.fr,⟨fun k c hk=>Q.sy.hp.ok _ c (hg k c hk),fun i j c e hij hi hj=>Q.sy.hp.ap (f i) (f j) c e (fun q=>hij (hf i j c e hi hj q)) (hg i c hi) (hg j e hj)⟩,fun k c hk=>Q.sy.ow _ c (hg k c hk)⟩,fun x hx=>by
  obtain⟨k,c,h1,h2⟩:=cd.1 hx
  exact Q.ri x (cd.2 ⟨_,c,hg k c h1,h2⟩)⟩
theorem Sq.del {D:List Ck} {c:Ck} (Q:Sq h0 C h (D++[c]++B)):Sq h0 C h (D++B):=by
 refine Sq.sub Q (fun k=>if k<D.length then k else k+1) (fun i j _ _ _ _ e=>?_) fun k c hk=>?_
 ·try simp only at e
  split at e<;>split at e<;>omega
 ·try simp only
  split
  ·rename_i hl
   rw[List.getElem?_append_left hl]at hk
   rw[List.append_assoc,List.getElem?_append_left hl];exact hk
  ·rename_i hl
   rw[List.getElem?_append_right (by omega)]at hk
   rw[List.getElem?_append_right (by simp;omega)]
   simpa[show k+1-(D.length+1)=k-D.length by omega]using hk
theorem Sq.ins {D:List Ck} (Q:Sq h0 C h (D++B)) (ty:TypeId) (vs:List Value):Sq h0 C (h.push (.cells vs.toArray ty)) (D++[Ck.ob h.size ty vs]++B):=by
 have Q1:Sq h0 C (h.push (.cells vs.toArray ty)) (D++B++[Ck.ob h.size ty vs]):=⟨Sy.newO Q.sy vs,fun x hx=>Q.ri x (by simpa[rds,Ck.ob]using hx)⟩
 refine Sq.sub Q1 (fun k=>if k<D.length then k else if k=D.length then D.length+B.length else k-1) (fun i j c e hi hj q=>?_) fun k c hk=>?_
 ·have li:=(List.getElem?_eq_some_iff.1 hi).1
  have lj:=(List.getElem?_eq_some_iff.1 hj).1
  simp only[List.length_append,List.length_singleton]at li lj
  try simp only at q
  split at q<;>split at q<;>(try split at q)<;>(try split at q)<;>omega
 ·have li:=(List.getElem?_eq_some_iff.1 hk).1
  simp only[List.length_append,List.length_singleton]at li
  try simp only
  split
  ·rename_i hl
   rw[List.append_assoc,List.getElem?_append_left hl]at hk
   rw[List.append_assoc,List.getElem?_append_left hl];exact hk
  ·split
   ·rename_i hl
    subst hl
    rw[List.append_assoc,List.getElem?_append_right (Nat.le_refl _)]at hk
    rw[List.getElem?_append_right (by simp)]
    simpa using hk
   ·rename_i hl1 hl2
    rw[List.getElem?_append_right (by simp;omega)]at hk
    rw[List.append_assoc,List.getElem?_append_right (by omega),List.getElem?_append_left (by simp at hk;omega)]
    simpa[show k-(D.length+1)=k-1-D.length by omega]using hk
theorem Hd.apart {D:List Ck} (hd:Hd H B) (Q:Sq h0 C h (D++B)):∀x∈H,x<h.size/\x∉ao D:=by
 intro x hx
 obtain⟨j,hj⟩:=hd x hx
 have hj':=jh (A:=D) hj
 refine⟨(Ck.junk x |>.lt h (Q.sy.ok hj')).1 x (by simp[Ck.junk]),fun w=>?_⟩
 obtain⟨k,e,h1,h2⟩:=br.1 w
 have:=(List.getElem?_eq_some_iff.1 h1).1
 exact(Q.sy.hp.ap k (D.length+j) e _ (by omega) (fH h1) hj' x h2).1 (by simp[Ck.junk])
theorem nh :(Q:Sq h0 C h (wC b u A c d l++B))->Hp h (wC b u A c d l):=fun Q=>(Q.pick [0,1] (by simp[fT,wC];decide)).hp
theorem tZ {k v:ByteArray} (Q:Sq h0 C h (wC b u A c d l++B)) (hd:Hd H B) (hd':d<=100) (hl:l.length<=90000000) (hk:k.size<=1000/\v.size<=100000)
  (R:∀A' c' h2,Sq h0 C h2 (wC b true A' c' d (l++(G.kv (2*d) k.data.toList v.data.toList++[10]))++B)->K (.tuple #[]) h2):
  ai Tryz.prog 15 #[.pointer (some ⟨b,0,none⟩),.slice (some ⟨h.size,0,none⟩) 2 2] (h.push (.cells #[.string k,.string v] 9)) H K:=by
 have ap:=hd.apart Q
 have Q1:Sq h0 C (h.push (.cells #[.string k,.string v] 9)) (wC b u A c d l++[Ck.ob h.size 9 (wds [k,v])]++B):=Sq.ins Q 9 (wds [k,v])
 have hj:(jn [k,v]).length<=1000000:=by
  have e1:k.data.toList.length=k.size:=rfl
  have e2:v.data.toList.length=v.size:=rfl
  simp[jn,Lib.join];omega
 have Hw:Hp (h.push (.cells #[.string k,.string v] 9)) (wC b u A c d l++[Ck.ob h.size 9 (wds [k,v])]):=(Sq.pick Q1 [0,1,2] (by simp[fT,wC];decide)).hp
 refine ak (ao (wC b u A c d l++[Ck.ob h.size 9 (wds [k,v])])) (Hx (ws:=[k,v]) Hw hd' hl ⟨by simp,hj⟩) ?_ (fun _ _ r=>r.2.choose_spec.choose_spec.fr) ?_
 ·intro x hx w
  obtain⟨h1,h2⟩:=ap x hx
  simp only[ao,List.flatMap_append,List.mem_append]at w h2
  rcases w with w | w
  ·exact h2 w
  ·simp[Ck.ob]at w;omega
 rintro v2 h2 ⟨rfl,A2,c2,q2⟩
 have Q2:=Sq.call Q1 q2
 have e:lnB d [k,v]=G.kv (2*d) k.data.toList v.data.toList++[10]:=by simp[lnB,jn,Lib.join,G.kv]
 rw[e]at Q2
 exact R A2 c2 h2 (Sq.del Q2)
theorem D4 {k:ByteArray} (Q:Sq h0 C h (wC b u A c d l++B)) (hd:Hd H B) (hd':d<=90) (hl:l.length<=90000000) (hk:k.size<=1000)
  (R:∀A' c' h2,Sq h0 C h2 (wC b true A' c' (d+1) (l++(G.opn (2*d) k.data.toList++[10]))++B)->K (.tuple #[]) h2):
  ai Tryz.prog 14 #[.pointer (some ⟨b,0,none⟩),.string k] h H K:=by
 refine ak (ao (wC b u A c d l)) (MY (nh Q) (by omega) hl hk) (fun x hx=>(hd.apart Q x hx).2) (fun _ _ r=>r.2.choose_spec.choose_spec.fr) ?_
 rintro v2 h2 ⟨rfl,A2,c2,q2⟩
 have Q2:=Sq.call Q q2
 have e:lnB d [k,⟨#[91]⟩]=G.opn (2*d) k.data.toList++[10]:=by simp[lnB,jn,Lib.join,G.kv,G.opn]
 rw[e]at Q2
 exact R A2 c2 h2 Q2
theorem D5 (Q:Sq h0 C h (wC b u A c (d+1) l++B)) (hd:Hd H B) (hd':d<=90) (hl:l.length<=90000000)
  (R:∀A' c' h2,Sq h0 C h2 (wC b true A' c' d (l++(G.cls (2*d)++[10]))++B)->K (.tuple #[]) h2):
  ai Tryz.prog 19 #[.pointer (some ⟨b,0,none⟩)] h H K:=by
 refine ak (ao (wC b u A c (d+1) l)) (MZ (nh Q) (by omega) hl) (fun x hx=>(hd.apart Q x hx).2) (fun _ _ r=>r.2.choose_spec.choose_spec.fr) ?_
 rintro v2 h2 ⟨rfl,A2,c2,q2⟩
 have Q2:=Sq.call Q q2
 have e:lnB d [⟨#[93]⟩]=G.cls (2*d)++[10]:=by simp[lnB,jn,Lib.join,G.cls]
 rw[e]at Q2
 exact R A2 c2 h2 Q2
theorem Hv {gl:GL} {n:Nat} (g:Gl gl h) (hn:n<=1000000):ae Tryz.prog 17 #[.int .i64 (n:Int)] h fun v h'=>v= .string (G.mkB (G.dec n))/\Fr [] h h':=by
 intro w hw
 subst hw
 refine(Go.Proofs.Tryz.strconv_Itoa (n:Int) (by omega) (by omega) w (Gl.tab g)).mono fun e w' ⟨e1,k,os,e2⟩=>⟨_,e1,?_,?_,?_⟩
 ·subst e2;exact⟨rfl,rfl,rfl,by simp[Sort.grow]⟩
 ·have:Lib.itoa (n:Int)=G.dec n:=by rw[G.kG];unfold G.idt;rw[if_neg (by omega)];rfl
  rw[this];rfl
 ·subst e2;exact⟨by simp[Sort.grow],fun j hj _=>Sort.heap_grow_old _ _ hj⟩
end
def rZ (gl:GL) (tx:Nat->List UInt8) (x:Nat):Prop:=(∀h:ab,Gl gl h->ae Tryz.prog 18 #[.float .f64 x] h fun v h'=>v= .string (G.mkB (tx x))/\Fr [] h h')/\(tx x).length<=100
def dV (gl:GL) (aE:Option Addr) (nE cE:Nat) (es:Es) (aL:Option Addr) (nL cL:Nat) (ls:List ByteArray) (aS:Option Addr) (nS cS:Nat) (ss:List (Nat × Nat)) (aW:Option Addr) (nW cW:Nat) (ws:List Nat):List Ck:=
 [Ck.glob gl,Ck.vw eP aE nE cE es,Ck.vw eS aL nL cL ls,Ck.vw eFF aS nS cS ss,Ck.vw eF aW nW cW ws]
theorem gn (m:Nat) (k v:List UInt8):(G.kv m k v++[10]).length=m+k.length+v.length+2:=by simp[G.kv,G.ind];omega
theorem kM (m:Nat) (k:List UInt8):(G.opn m k++[10]).length=m+k.length+3:=by unfold G.opn;rw[gn];rfl
theorem se (m:Nat):(G.cls m++[10]).length=m+2:=by simp[G.cls,G.ind]
theorem om {n:Nat} (h:n<=1000000):(G.dec n).length<=10:=G.rN 9 n (by omega)
theorem xy (l:List UInt8):(G.quo l).length<=6*l.length+2:=by
 have:=xz l
 simp[G.quo];omega
section
variable {gl:GL} {b c:Nat} {u:Bool} {A:Option Addr} {l:List UInt8} {h:ab} {tx:Nat->List UInt8} {aE aL aS aW:Option Addr} {nE cE nL cL nS cS nW cW n v:Nat} {es:Es} {ls:List ByteArray} {ss:List (Nat × Nat)} {ws:List Nat} {dir:Bool}
set_option maxHeartbeats 1000000 in
theorem MR (Hm:Hp h (wC b u A c 1 l++dV gl aE nE cE es aL nL cL ls aS nS cS ss aW nW cW ws)) (hv:v<n) (hn:n<=1024) (hL:ls=[]\/ls.length=n) (hS:ss=[]\/ss.length=n) (hlp:∀s∈ls,s.size<=256) (ht:∀p∈ss,rZ gl tx p.1/\rZ gl tx p.2) (hl:l.length<=80000000):
  ae Tryz.prog 16 #[.pointer (some ⟨b,0,none⟩),.agg #[.int .i64 (n:Int),.slice aE nE cE,.bool dir,.slice aL nL cL,.slice aS nS cS,.slice aW nW cW],.int .i64 (v:Int)] h fun w h'=>w= .tuple #[]/\
   (∃A' c',Sq h (wC b u A c 1 l++dV gl aE nE cE es aL nL cL ls aS nS cS ss aW nW cW ws) h' (wC b true A' c' 1 (l++G.aJ (G.kB tx ls[v]? ss[v]? v))++dV gl aE nE cE es aL nL cL ls aS nS cS ss aW nW cW ws))/\(l++G.aJ (G.kB tx ls[v]? ss[v]? v)).length<=l.length+4000:=by
 apply EH
 unfold S16
 obtain⟨C,hC⟩:∃C,C=wC b u A c 1 l++dV gl aE nE cE es aL nL cL ls aS nS cS ss aW nW cW ws:=⟨_,rfl⟩
 rw[<-hC]
 intro h1
 obtain⟨B,hB⟩:∃B,B=dV gl aE nE cE es aL nL cL ls aS nS cS ss aW nW cW ws++[Ck.junk h.size]:=⟨_,rfl⟩
 have Q1:Sq h C h1 (wC b u A c 1 l++B):=by
  rw[hB,hC]
  exact⟨(Sy.start Hm).junk _,fun x hx=>.inl (by simpa[rds,Ck.junk]using hx)⟩
 have hd:Hd [h.size] B:=by
  intro x hx
  simp at hx;subst hx
  exact⟨5,by rw[hB];rfl⟩
 have hd0:Hd [] B:=by intro x hx;simp at hx
 have gB:∀{D:List Ck} {h2:ab},Sq h C h2 (D++B)->Gl gl h2:=fun{D h2} Q=>by
  have:=Q.sy.ok (k:=D.length+0) (c:=Ck.glob gl) (jh (by rw[hB];rfl))
  exact this
 have vL:∀{D:List Ck},(D++B)[D.length+2]? =some (Ck.vw eS aL nL cL ls):=fun{D}=>jh (by rw[hB];rfl)
 have vS:∀{D:List Ck},(D++B)[D.length+3]? =some (Ck.vw eFF aS nS cS ss):=fun{D}=>jh (by rw[hB];rfl)
 have lL:=Q1.sy.lenV _ vL
 have lS:=Q1.sy.lenV _ vS
 have dt:=qb
 refine D4 (k:=⟨#[110,111,100,101]⟩) Q1 hd (by omega) (by omega) (by decide) fun A2 c2 h2 Q2=>⟨rfl,?_⟩
 have e2:(l++(G.opn (2*1) G.gh++[10])).length=l.length+9:=by rw[List.length_append,kM];rfl
 change Sq h C h2 (wC b true A2 c2 2 (l++(G.opn (2*1) G.gh++[10]))++B)at Q2
 generalize hl2:l++(G.opn (2*1) G.gh++[10])=l2 at*
 refine ak [] (Hv (gB Q2) (by omega)) (by simp) (fun _ _ r=>r.2) ?_
 rintro w h3 ⟨rfl,f3⟩
 have Q3:=Q2.gr f3
 have d9:=om (n:=v) (by omega)
 refine⟨_,rfl,tZ (k:=⟨#[105,100]⟩) Q3 hd (by omega) (by omega) ⟨by decide,by rw[dM];omega⟩ fun A4 c4 h4 Q4=>⟨rfl,?_⟩⟩
 rw[dt]at Q4
 change Sq h C h4 (wC b true A4 c4 2 (l2++(G.kv (2*2) G.kId (G.dec v)++[10]))++B)at Q4
 have e4:(l2++(G.kv (2*2) G.kId (G.dec v)++[10])).length<=l.length+50:=by rw[List.length_append,gn,e2];show l.length+9+(2*2+2+_+2)<=_;omega
 generalize hl4:l2++(G.kv (2*2) G.kId (G.dec v)++[10])=l4 at*
 obtain⟨l5,hl5⟩:∃l5,l5=l4++G.aJ (match ls[v]? with | some x=>[G.kv 4 G.dj (G.quo x.data.toList)] | none=>[]):=⟨_,rfl⟩
 have e5:l5.length<=l.length+2000:=by
  rw[hl5,List.length_append]
  cases q:ls[v]? with
  | none=>simp[G.aJ];omega
  | some x=>
   have:=xy x.data.toList
   have hx:=hlp x (List.mem_of_getElem? q)
   have hx2:x.data.toList.length=x.size:=rfl
   simp only[G.aJ,List.flatMap_cons,List.flatMap_nil,List.append_nil]
   rw[gn]
   have:G.dj.length=5:=rfl
   omega
 refine⟨fun lz h'=>lz=[]/\∃A' c',Sq h C h' (wC b true A' c' 2 l5++B),ag (fun q=>?_) fun q=>⟨rfl,A4,c4,?_⟩,?_⟩
 ·have hlen:v<ls.length:=by rcases hL with rfl | e<;>simp at* <;>omega
  have hx:ls[v]? =some ls[v]:=List.getElem?_eq_getElem hlen
  generalize ls[v]=x at hx
  have hxs:=hlp x (List.mem_of_getElem? hx)
  obtain⟨p,o,ea,_⟩:=Q4.sy.atV _ vL (i:=(v:Int)) (by omega) (by omega)
  refine⟨p,o,ea,by omega,by omega,x,Q4.sy.cellV _ vL ea (i:=v) (t:=0) hx rfl,?_⟩
  refine ak [] (MS (gB Q4) (by omega)) (by simp) (fun _ _ r=>r.2) ?_
  rintro w h6 ⟨rfl,f6⟩
  have ql:=xy x.data.toList
  have hx2:x.data.toList.length=x.size:=rfl
  refine⟨_,rfl,tZ (k:=⟨#[108,97,98,101,108]⟩) (Q4.gr f6) hd (by omega) (by omega) ⟨by decide,by rw[dM];omega⟩ fun A7 c7 h7 Q7=>⟨rfl,rfl,A7,c7,?_⟩⟩
  rw[dt]at Q7
  change Sq h C h7 (wC b true A7 c7 2 (l4++(G.kv 4 G.dj (G.quo x.data.toList)++[10]))++B)at Q7
  rw[hl5,hx]
  simpa[G.aJ]using Q7
 ·have:ls[v]? =none:=by rw[List.getElem?_eq_none];omega
  rw[hl5,this]
  simpa[G.aJ]using Q4
 rintro h9 ⟨_,A9,c9,Q9⟩
 obtain⟨l6,hl6⟩:∃l6,l6=l5++G.aJ (match ss[v]? with | some p=>G.mH tx p | none=>[]):=⟨_,rfl⟩
 have txl:∀p,ss[v]? =some p->(tx p.1).length<=100/\(tx p.2).length<=100:=fun p hp=>⟨(ht p (List.mem_of_getElem? hp)).1.2,(ht p (List.mem_of_getElem? hp)).2.2⟩
 have e6:l6.length<=l.length+3000:=by
  rw[hl6,List.length_append]
  cases q:ss[v]? with
  | none=>simp[G.aJ];omega
  | some p=>
   have:=txl p q
   have eq:G.aJ (G.mH tx p)=(G.opn 4 G.aZ++[10])++((G.kv 6 G.kX (tx p.1)++[10])++((G.kv 6 G.kY (tx p.2)++[10])++(G.cls 4++[10]))):=by simp[G.aJ,G.mH]
   simp only[eq]
   rw[@List.length_append _ (G.opn 4 G.aZ++[10]),@List.length_append _ (G.kv 6 G.kX (tx p.1)++[10]),@List.length_append _ (G.kv 6 G.kY (tx p.2)++[10]),kM,gn,gn,se]
   have h1:G.aZ.length=8:=rfl
   have h2:G.kX.length=1:=rfl
   have h3:G.kY.length=1:=rfl
   omega
 refine⟨fun lz h'=>lz=[]/\∃A' c',Sq h C h' (wC b true A' c' 2 l6++B),ag (fun q=>?_) fun q=>⟨rfl,A9,c9,?_⟩,?_⟩
 ·have hlen:v<ss.length:=by rcases hS with rfl | e<;>simp at* <;>omega
  have hx:ss[v]? =some ss[v]:=List.getElem?_eq_getElem hlen
  generalize ss[v]=p at hx
  obtain⟨⟨tp1,tl1⟩,tp2,tl2⟩:=ht p (List.mem_of_getElem? hx)
  refine D4 (k:=⟨#[103,114,97,112,104,105,99,115]⟩) Q9 hd (by omega) (by omega) (by decide) fun A10 c10 h10 Q10=>⟨rfl,?_⟩
  change Sq h C h10 (wC b true A10 c10 3 (l5++(G.opn 4 G.aZ++[10]))++B)at Q10
  have e10:(l5++(G.opn 4 G.aZ++[10])).length=l5.length+15:=by rw[List.length_append,kM];rfl
  obtain⟨y,o,ea,_⟩:=Q10.sy.atV _ vS (i:=(v:Int)) (by omega) (by omega)
  refine⟨y,o,ea,by omega,by omega,p.1,Q10.sy.cellV _ vS ea (i:=v) (t:=0) hx rfl,?_⟩
  refine ak [] (tp1 _ (gB Q10)) (by simp) (fun _ _ r=>r.2) ?_
  rintro w h11 ⟨rfl,f11⟩
  refine⟨_,rfl,tZ (k:=⟨#[120]⟩) (Q10.gr f11) hd (by omega) (by omega) ⟨by decide,by rw[dM];omega⟩ fun A13 c13 h13 Q13=>⟨rfl,?_⟩⟩
  rw[dt]at Q13
  change Sq h C h13 (wC b true A13 c13 3 (l5++(G.opn 4 G.aZ++[10])++(G.kv 6 G.kX (tx p.1)++[10]))++B)at Q13
  have e13:(l5++(G.opn 4 G.aZ++[10])++(G.kv 6 G.kX (tx p.1)++[10])).length<=l5.length+200:=by rw[List.length_append,e10,gn];show _+(6+1+_+2)<=_;omega
  refine⟨y,o,ea,by omega,by omega,p.2,Q13.sy.cellV _ vS ea (i:=v) (t:=1) hx rfl,?_⟩
  refine ak [] (tp2 _ (gB Q13)) (by simp) (fun _ _ r=>r.2) ?_
  rintro w h14 ⟨rfl,f14⟩
  refine⟨_,rfl,tZ (k:=⟨#[121]⟩) (Q13.gr f14) hd (by omega) (by omega) ⟨by decide,by rw[dM];omega⟩ fun A16 c16 h16 Q16=>⟨rfl,?_⟩⟩
  rw[dt]at Q16
  change Sq h C h16 (wC b true A16 c16 3 (l5++(G.opn 4 G.aZ++[10])++(G.kv 6 G.kX (tx p.1)++[10])++(G.kv 6 G.kY (tx p.2)++[10]))++B)at Q16
  have e16:(l5++(G.opn 4 G.aZ++[10])++(G.kv 6 G.kX (tx p.1)++[10])++(G.kv 6 G.kY (tx p.2)++[10])).length<=l5.length+400:=by rw[List.length_append,gn];show _+(6+1+_+2)<=_;omega
  refine D5 (d:=2) Q16 hd (by omega) (by omega) fun A17 c17 h17 Q17=>⟨rfl,rfl,A17,c17,?_⟩
  rw[hl6,hx]
  simpa[G.aJ,G.mH]using Q17
 ·have:ss[v]? =none:=by rw[List.getElem?_eq_none];omega
  rw[hl6,this]
  simpa[G.aJ]using Q9
 rintro h18 ⟨_,A18,c18,Q18⟩
 refine D5 (d:=1) Q18 hd0 (by omega) (by omega) fun A19 c19 h19 Q19=>⟨rfl,rfl,?_⟩
 have ee:l6++(G.cls (2*1)++[10])=l++G.aJ (G.kB tx ls[v]? ss[v]? v):=by
  rw[hl6,hl5,<-hl4,<-hl2]
  unfold G.kB
  have e0:G.aJ [G.cls 2]=G.cls 2++[10]:=by simp[G.aJ]
  rw[G.bO,G.bO,G.dm,G.dm,e0]
  simp only[List.append_assoc,List.cons_append,List.nil_append]
  rfl
 have e19:(l6++(G.cls (2*1)++[10])).length<=l.length+4000:=by rw[List.length_append,se];omega
 rw[ee]at e19
 refine⟨⟨A19,c19,?_⟩,e19⟩
 rw[ee,hB,<-List.append_assoc]at Q19
 have:=Sq.del (B:=[]) (by rw[List.append_nil];exact Q19)
 rw[List.append_nil]at this
 exact this
end
end Go.Proofs.YtemclecmafjjfaaGreatDoor.N
