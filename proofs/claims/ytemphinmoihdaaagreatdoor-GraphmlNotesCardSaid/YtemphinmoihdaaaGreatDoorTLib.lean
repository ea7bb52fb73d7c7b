/- Functions: what is left to be shown of each, over memory and without: printed by program, tied to the loaded functions by the kernel. Conditions: none. -/
import Derived.Test.YtemphinmoihdaaaGreatDoorWEnv
import Derived.Test.YtemphinmoihdaaaGreatDoorGTell
set_option linter.unusedVariables false
set_option linter.unusedSimpArgs false
open Go.IntKind (i64 u64 u8 i32)
namespace Go.Proofs.YtemphinmoihdaaaGreatDoor.N
open Go.Proofs.YtemphinmoihdaaaGreatDoor
open Go.X
set_option maxRecDepth 100000
set_option maxHeartbeats 2000000
def Al (x:Int) (R:Int->Prop):Prop:=
 ∀(h:ab),Hp h []->QH 129 #[QO x] h fun v h'=>∃(rV:Int),Sy h [] h' []/\v= QM rV/\R rV
def Hj (x y:Int) (R:Int->Int->Prop):Prop:=
 ∀(h:ab),Hp h []->QH 71 #[QO x,QO y] h fun v h'=>∃(raV:Int) (rbV:Int),Sy h [] h' []/\v= .tuple #[QO raV,QO rbV]/\R raV rbV
def NC (x:Int) (h:ab) (R:VP):Prop:=0<=(18:Int)/\R (QM (Int.fdiv (i64.wrap (x*78913)) (2^(min (Int.toNat (18:Int)) 64)))) h
theorem Dr {h:ab} {R:VP} (x:Int) (H:NC x h R):QH 132 #[QM x] h R:=aN [] 6 [] [] [] [] Tryz.func132 QC QC H
def nH (x:Int) (R:Int->Prop):Prop:=
 ∀(h:ab),Hp h []->QH 132 #[QM x] h fun v h'=>∃(rV:Int),Sy h [] h' []/\v= QM rV/\R rV
def Kb (x:Int) (R:Int->Prop):Prop:=0<=(18:Int)/\R (Int.fdiv (i64.wrap (x*78913)) (2^(min (Int.toNat (18:Int)) 64)))
theorem ND {x} {R:Int->Prop} (T:Kb x R):nH x R:=by
 intro h H;have Y:Sy h [] h _:=Sy.startM H rfl;apply Dr;unfold NC;unfold Kb at T;obtain⟨q,T⟩:=T;refine⟨q,?_⟩;exact⟨_,Y.pick [] rfl,rfl,T⟩
def NE (x:Int) (h:ab) (R:VP):Prop:=0<=(15:Int)/\R (QM (Int.fdiv (i64.wrap (x*108853)) (2^(min (Int.toNat (15:Int)) 64)))) h
theorem Ds {h:ab} {R:VP} (x:Int) (H:NE x h R):QH 163 #[QM x] h R:=aN [] 6 [] [] [] [] Tryz.func163 QC QC H
def Am (x:Int) (R:Int->Prop):Prop:=
 ∀(h:ab),Hp h []->QH 163 #[QM x] h fun v h'=>∃(rV:Int),Sy h [] h' []/\v= QM rV/\R rV
def Kc (x:Int) (R:Int->Prop):Prop:=0<=(15:Int)/\R (Int.fdiv (i64.wrap (x*108853)) (2^(min (Int.toNat (15:Int)) 64)))
theorem NF {x} {R:Int->Prop} (T:Kc x R):Am x R:=by
 intro h H;have Y:Sy h [] h _:=Sy.startM H rfl;apply Ds;unfold NE;unfold Kc at T;obtain⟨q,T⟩:=T;refine⟨q,?_⟩;exact⟨_,Y.pick [] rfl,rfl,T⟩
def NG (ev:Int) (h:ab) (R:VP):Prop:=0<=(21:Int)/\R (QM (Int.fdiv (i64.wrap ((i64.wrap (ev*631305))-(261663:Int))) (2^(min (Int.toNat (21:Int)) 64)))) h
theorem Dt {h:ab} {R:VP} (ev:Int) (H:NG ev h R):QH 161 #[QM ev] h R:=aN [] 7 [] [] [] [] Tryz.func161 QC QC H
def Du (ev:Int) (R:Int->Prop):Prop:=
 ∀(h:ab),Hp h []->QH 161 #[QM ev] h fun v h'=>∃(rV:Int),Sy h [] h' []/\v= QM rV/\R rV
def Ke (ev:Int) (R:Int->Prop):Prop:=0<=(21:Int)/\R (Int.fdiv (i64.wrap ((i64.wrap (ev*631305))-(261663:Int))) (2^(min (Int.toNat (21:Int)) 64)))
theorem NH {ev} {R:Int->Prop} (T:Ke ev R):Du ev R:=by
 intro h H;have Y:Sy h [] h _:=Sy.startM H rfl;apply Dt;unfold NG;unfold Ke at T;obtain⟨q,T⟩:=T;refine⟨q,?_⟩;exact⟨_,Y.pick [] rfl,rfl,T⟩
def NI (b:Bool) (h:ab) (R:VP):Prop:=cnd b (R (QM 1) h) (R (QM 0) h)
theorem Dv {h:ab} {R:VP} (b:Bool) (H:NI b h R):QH 140 #[.bool b] h R:=aN [] 4 [] [] [] [] Tryz.func140 QC QC H
def An (b:Bool) (R:Int->Prop):Prop:=
 ∀(h:ab),Hp h []->QH 140 #[.bool b] h fun v h'=>∃(rV:Int),Sy h [] h' []/\v= QM rV/\R rV
def Kf (b:Bool) (R:Int->Prop):Prop:=cnd b (R 1) (R 0)
theorem NJ {b} {R:Int->Prop} (T:Kf b R):An b R:=by
 intro h H;have Y:Sy h [] h _:=Sy.startM H rfl;apply Dv;unfold NI;unfold Kf at T;refine ag T (fun T=>?_) (fun T=>?_)
 ·exact⟨_,Y.pick [] rfl,rfl,T⟩
 ·exact⟨_,Y.pick [] rfl,rfl,T⟩
def NK (b:Bool) (h:ab) (R:VP):Prop:=cnd b (R (QO 1) h) (R (QO 0) h)
theorem Dw {h:ab} {R:VP} (b:Bool) (H:NK b h R):QH 198 #[.bool b] h R:=aN [] 4 [] [] [] [] Tryz.func198 QC QC H
def wS (b:Bool) (R:Int->Prop):Prop:=
 ∀(h:ab),Hp h []->QH 198 #[.bool b] h fun v h'=>∃(rV:Int),Sy h [] h' []/\v= QO rV/\R rV
def Kg (b:Bool) (R:Int->Prop):Prop:=cnd b (R 1) (R 0)
theorem NL {b} {R:Int->Prop} (T:Kg b R):wS b R:=by
 intro h H;have Y:Sy h [] h _:=Sy.startM H rfl;apply Dw;unfold NK;unfold Kg at T;refine ag T (fun T=>?_) (fun T=>?_)
 ·exact⟨_,Y.pick [] rfl,rfl,T⟩
 ·exact⟨_,Y.pick [] rfl,rfl,T⟩
def NM (x:Int) (h:ab) (R:VP):Prop:=0<=(2:Int)/\R (QO (u64.wrap ((u64.wrap (x*2^(min (Int.toNat (2:Int)) 64)))-(2:Int)))) h
theorem Dx {h:ab} {R:VP} (x:Int) (H:NM x h R):QH 169 #[QO x] h R:=aN [] 6 [] [] [] [] Tryz.func169 QC QC H
def Dy (x:Int) (R:Int->Prop):Prop:=
 ∀(h:ab),Hp h []->QH 169 #[QO x] h fun v h'=>∃(rV:Int),Sy h [] h' []/\v= QO rV/\R rV
def Kh (x:Int) (R:Int->Prop):Prop:=0<=(2:Int)/\R (u64.wrap ((u64.wrap (x*2^(min (Int.toNat (2:Int)) 64)))-(2:Int)))
theorem NN {x} {R:Int->Prop} (T:Kh x R):Dy x R:=by
 intro h H;have Y:Sy h [] h _:=Sy.startM H rfl;apply Dx;unfold NM;unfold Kh at T;obtain⟨q,T⟩:=T;refine⟨q,?_⟩;exact⟨_,Y.pick [] rfl,rfl,T⟩
def NP (u x:Int) (h:ab) (R:VP):Prop:=R (QO (u64.wrap (u+(u64.wrap x)))) h
theorem Dz {h:ab} {R:VP} (u x:Int) (H:NP u x h R):QH 165 #[QO u,QM x] h R:=aN [] 9 [] [] [] [] Tryz.func165 QC QC H
def Ao (u x:Int) (R:Int->Prop):Prop:=
 ∀(h:ab),Hp h []->QH 165 #[QO u,QM x] h fun v h'=>∃(rV:Int),Sy h [] h' []/\v= QO rV/\R rV
def NQ (u x:Int) (R:Int->Prop):Prop:=R (u64.wrap (u+(u64.wrap x)))
theorem NR {u x} {R:Int->Prop} (T:NQ u x R):Ao u x R:=by
 intro h H;have Y:Sy h [] h _:=Sy.startM H rfl;apply Dz;unfold NP;unfold NQ at T;exact⟨_,Y.pick [] rfl,rfl,T⟩
def NS (u:Int) (h:ab) (R:VP):Prop:=0<=(2:Int)/\R (QO (Int.fdiv (u64.wrap (u+3)) (2^(min (Int.toNat (2:Int)) 64)))) h
theorem DA {h:ab} {R:VP} (u:Int) (H:NS u h R):QH 166 #[QO u] h R:=aN [] 6 [] [] [] [] Tryz.func166 QC QC H
def DB (u:Int) (R:Int->Prop):Prop:=
 ∀(h:ab),Hp h []->QH 166 #[QO u] h fun v h'=>∃(rV:Int),Sy h [] h' []/\v= QO rV/\R rV
def Ki (u:Int) (R:Int->Prop):Prop:=0<=(2:Int)/\R (Int.fdiv (u64.wrap (u+3)) (2^(min (Int.toNat (2:Int)) 64)))
theorem NT {u} {R:Int->Prop} (T:Ki u R):DB u R:=by
 intro h H;have Y:Sy h [] h _:=Sy.startM H rfl;apply DA;unfold NS;unfold Ki at T;obtain⟨q,T⟩:=T;refine⟨q,?_⟩;exact⟨_,Y.pick [] rfl,rfl,T⟩
def NU (u:Int) (h:ab) (R:VP):Prop:=0<=(2:Int)/\R (QO (Int.fdiv (u64.wrap (u+0)) (2^(min (Int.toNat (2:Int)) 64)))) h
theorem DC {h:ab} {R:VP} (u:Int) (H:NU u h R):QH 167 #[QO u] h R:=aN [] 6 [] [] [] [] Tryz.func167 QC QC H
def DE (u:Int) (R:Int->Prop):Prop:=
 ∀(h:ab),Hp h []->QH 167 #[QO u] h fun v h'=>∃(rV:Int),Sy h [] h' []/\v= QO rV/\R rV
def Kj (u:Int) (R:Int->Prop):Prop:=0<=(2:Int)/\R (Int.fdiv (u64.wrap (u+0)) (2^(min (Int.toNat (2:Int)) 64)))
theorem NV {u} {R:Int->Prop} (T:Kj u R):DE u R:=by
 intro h H;have Y:Sy h [] h _:=Sy.startM H rfl;apply DC;unfold NU;unfold Kj at T;obtain⟨q,T⟩:=T;refine⟨q,?_⟩;exact⟨_,Y.pick [] rfl,rfl,T⟩
def NW (u:Int) (h:ab) (R:VP):Prop:=0<=(2:Int)/\0<=(2:Int)/\R (QO (Int.fdiv (u64.wrap ((u64.wrap (u+1))+(bits .and .u64 (Int.fdiv u (2^(min (Int.toNat (2:Int)) 64))) (1:Int)))) (2^(min (Int.toNat (2:Int)) 64)))) h
theorem DF {h:ab} {R:VP} (u:Int) (H:NW u h R):QH 168 #[QO u] h R:=aN [] 10 [] [] [] [] Tryz.func168 QC QC H
def Aq (u:Int) (R:Int->Prop):Prop:=
 ∀(h:ab),Hp h []->QH 168 #[QO u] h fun v h'=>∃(rV:Int),Sy h [] h' []/\v= QO rV/\R rV
def Kk (u:Int) (R:Int->Prop):Prop:=0<=(2:Int)/\0<=(2:Int)/\R (Int.fdiv (u64.wrap ((u64.wrap (u+1))+(bits .and .u64 (Int.fdiv u (2^(min (Int.toNat (2:Int)) 64))) (1:Int)))) (2^(min (Int.toNat (2:Int)) 64)))
theorem NX {u} {R:Int->Prop} (T:Kk u R):Aq u R:=by
 intro h H;have Y:Sy h [] h _:=Sy.startM H rfl;apply DF;unfold NW;unfold Kk at T;obtain⟨q_2,T⟩:=T;refine⟨q_2,?_⟩;obtain⟨q,T⟩:=T;refine⟨q,?_⟩;exact⟨_,Y.pick [] rfl,rfl,T⟩
def NY (preP:QR) (ev p lp:Int) (h:ab) (R:VP):Prop:=0<=(i64.wrap (p-((-348):Int)))/\(i64.wrap (p-((-348):Int)))<(696:Int)/\∃e:Int,ac h 4 (0+(Int.toNat (i64.wrap (p-((-348):Int))))*2)=some (QO e)/\∃b o,preP=some ⟨b,o,none⟩/\(∃a,ac h b o=some a)/\au h b o=true/\let c:ab:=am h b o (QO e);0<=(i64.wrap (p-((-348):Int)))/\(i64.wrap (p-((-348):Int)))<(696:Int)/\∃f:Int,ac c 4 ((0+(Int.toNat (i64.wrap (p-((-348):Int))))*2)+1)=some (QO f)/\∃b2 o2,preP=some ⟨b2,o2,none⟩/\(∃a,ac c b2 (o2+1)=some a)/\au c b2 (o2+1)=true/\let d:ab:=am c b2 (o2+1) (QO f);∃b3 o3,preP=some ⟨b3,o3,none⟩/\(∃a,ac d b3 (o3+2)=some a)/\au d b3 (o3+2)=true/\let g:ab:=am d b3 (o3+2) (QM (i64.wrap (0-(i64.wrap ((i64.wrap (ev+lp))+(3:Int))))));R (.tuple #[]) g
theorem DG {h:ab} {R:VP} (preP:QR) (ev p lp:Int) (H:NY preP ev p lp h R):QH 162 #[.pointer preP,QM ev,QM p,QM lp] h R:=aN [] 32 [] [] [] [] Tryz.func162 QC QC H
def Ar (pmHiV pmLoV sV ev p lp:Int) (R:Int->Int->Int->Prop):Prop:=
 ∀(h:ab) (gl:GL) (preB:Nat),Hp h [Ck.glob gl,Ck.ob preB 237 [QO pmHiV,QO pmLoV,QM sV]]->QH 162 #[.pointer (some ⟨preB,0,none⟩),QM ev,QM p,QM lp] h fun v h'=>∃(pmHiV2:Int) (pmLoV2:Int) (sV2:Int),Sy h (aF [Ck.ob preB 237 [QO pmHiV,QO pmLoV,QM sV]]) h' [Ck.ob preB 237 [QO pmHiV2,QO pmLoV2,QM sV2]]/\v= .tuple #[]/\R pmHiV2 pmLoV2 sV2
def Kl (pmHiV pmLoV sV ev p lp:Int) (R:Int->Int->Int->Prop):Prop:=0<=(i64.wrap (p-((-348):Int)))/\(i64.wrap (p-((-348):Int)))<(696:Int)/\∃a:Int,tT[(Int.toNat (i64.wrap (p-((-348):Int))))*2]? =some a/\0<=(i64.wrap (p-((-348):Int)))/\(i64.wrap (p-((-348):Int)))<(696:Int)/\∃b:Int,tT[(Int.toNat (i64.wrap (p-((-348):Int))))*2+1]? =some b/\R a b (i64.wrap (0-(i64.wrap ((i64.wrap (ev+lp))+(3:Int)))))
theorem NZ {pmHiV pmLoV sV ev p lp} {R:Int->Int->Int->Prop} (T:Kl pmHiV pmLoV sV ev p lp R):Ar pmHiV pmLoV sV ev p lp R:=by
 intro h gl preB H;have Y:Sy h (aF [Ck.ob preB 237 [QO pmHiV,QO pmLoV,QM sV]]) h _:=Sy.startM H rfl;apply DG;unfold NY;unfold Kl at T;obtain⟨q_3,q_4,T⟩:=T;refine⟨q_3,q_4,?_⟩;obtain⟨x_2,hx,T⟩:=T;refine⟨_,(Y.glo 0 rfl).t _ _ hx,?_⟩;refine⟨preB,0,rfl,?_⟩;refine⟨⟨_,Y.cellO 1 rfl 0 rfl⟩,Y.freeO 1 rfl _,?_⟩;intro hv;have Y:Sy _ _ hv [_,_]:=(Y.stO 1 rfl 0 _);clear_value hv;obtain⟨q,q_2,T⟩:=T;refine⟨q,q_2,?_⟩;obtain⟨x_3,hx_2,T⟩:=T;refine⟨_,(Y.glo 0 rfl).t _ _ hx_2,?_⟩;refine⟨preB,0,rfl,?_⟩;refine⟨⟨_,Y.cellO 1 rfl 1 rfl⟩,Y.freeO 1 rfl _,?_⟩;intro hv2;have Y:Sy _ _ hv2 [_,_]:=(Y.stO 1 rfl 1 _);clear_value hv2;refine⟨preB,0,rfl,?_⟩;refine⟨⟨_,Y.cellO 1 rfl 2 rfl⟩,Y.freeO 1 rfl _,?_⟩;intro hv3;have Y:Sy _ _ hv3 [_,_]:=(Y.stO 1 rfl 2 _);clear_value hv3;exact⟨_,_,_,Y.pick [1] rfl,rfl,T⟩
def N0 (x:Int) (cP:QR) (h:ab) (R:VP):Prop:=∃b o,cP=some ⟨b,o,none⟩/\∃l:Int,ac h b o=some (QO l)/\QG 71 #[QO x,QO l] h [] fun q d=>∃c:Int,∃f:Int,q= .tuple #[QO c,QO f]/\∃b2 o2,cP=some ⟨b2,o2,none⟩/\∃a:Int,ac d b2 (o2+2)=some (QM a)/\0<=(bits .and .i64 a (63:Int))/\0<=(bits .and .i64 a (63:Int))/\cnd ((u64.wrap ((Int.fdiv c (2^(min (Int.toNat (bits .and .i64 a (63:Int))) 64)))*2^(min (Int.toNat (bits .and .i64 a (63:Int))) 64))) != c) (0<=(bits .and .i64 a (63:Int))/\R (QO (bits .or .u64 (Int.fdiv c (2^(min (Int.toNat (bits .and .i64 a (63:Int))) 64))) (1:Int))) d) (∃b3 o3,cP=some ⟨b3,o3,none⟩/\∃m:Int,ac d b3 (o3+1)=some (QO m)/\QG 71 #[QO x,QO m] d [] fun r n=>∃e:Int,∃p:Int,r= .tuple #[QO e,QO p]/\QG 198 #[.bool (decide (f<e))] n [] fun s g=>∃j:Int,s= QO j/\0<=(bits .and .i64 a (63:Int))/\QG 198 #[.bool (decide ((u64.wrap (f-e))>(1:Int)))] g [] fun t i=>∃k:Int,t= QO k/\Fr [] g i/\R (QO (bits .or .u64 (Int.fdiv (u64.wrap (c-j)) (2^(min (Int.toNat (bits .and .i64 a (63:Int))) 64))) k)) i)
theorem DH {h:ab} {R:VP} (x:Int) (cP:QR) (H:N0 x cP h R):QH 164 #[QO x,.pointer cP] h R:=aN [] 59 [] [] [] [(7,⟨10,false⟩)] Tryz.func164 QC QC H
def tS (x pmHiV pmLoV sV:Int) (R:Int->Prop):Prop:=
 ∀(h:ab) (cB cO:Nat),Hp h [Ck.vob cB cO [QO pmHiV,QO pmLoV,QM sV]]->QH 164 #[QO x,.pointer (some ⟨cB,cO,none⟩)] h fun v h'=>∃(rV:Int),Sy h [] h' []/\v= QO rV/\R rV
def Km (x pmHiV pmLoV sV:Int) (R:Int->Prop):Prop:=Hj x pmHiV (fun a c=>0<=(bits .and .i64 sV (63:Int))/\0<=(bits .and .i64 sV (63:Int))/\cnd ((u64.wrap ((Int.fdiv a (2^(min (Int.toNat (bits .and .i64 sV (63:Int))) 64)))*2^(min (Int.toNat (bits .and .i64 sV (63:Int))) 64))) != a) (0<=(bits .and .i64 sV (63:Int))/\R (bits .or .u64 (Int.fdiv a (2^(min (Int.toNat (bits .and .i64 sV (63:Int))) 64))) (1:Int))) (Hj x pmLoV (fun b f=>wS (decide (c<b)) (fun d=>0<=(bits .and .i64 sV (63:Int))/\wS (decide ((u64.wrap (c-b))>(1:Int))) (fun e=>R (bits .or .u64 (Int.fdiv (u64.wrap (a-d)) (2^(min (Int.toNat (bits .and .i64 sV (63:Int))) 64))) e))))))
theorem N1 {x pmHiV pmLoV sV} {R:Int->Prop} (T:Km x pmHiV pmLoV sV R):tS x pmHiV pmLoV sV R:=by
 intro h cB cO H;have Y:Sy h [] h _:=Sy.startM H rfl;apply DH;unfold N0;unfold Km at T;refine⟨cB,cO,rfl,?_⟩;refine⟨_,Y.cellW 0 rfl 0 rfl,?_⟩;refine ak (T _ (Hp.nil _)) (fun _ _ ⟨_,_,p,_⟩=>p.fr) aI ?_;rintro v hv ⟨ra,rb,PP,rfl,T⟩;have Y:Sy _ _ hv [_]:=Y.gr PP.fr;clear PP;refine⟨ra,rb,rfl,?_⟩;refine⟨cB,cO,rfl,?_⟩;refine⟨_,Y.cellW 0 rfl 2 rfl,?_⟩;obtain⟨q_4,T⟩:=T;refine⟨q_4,?_⟩;obtain⟨q_3,T⟩:=T;refine⟨q_3,?_⟩;refine ag T (fun T=>?_) (fun T=>?_)
 ·obtain⟨q,T⟩:=T;refine⟨q,?_⟩;exact⟨_,Y.pick [] rfl,rfl,T⟩
 ·refine⟨cB,cO,rfl,?_⟩;refine⟨_,Y.cellW 0 rfl 1 rfl,?_⟩;refine ak (T _ (Hp.nil _)) (fun _ _ ⟨_,_,p,_⟩=>p.fr) aI ?_;rintro v2 hv2 ⟨ra2,rb2,PP,rfl,T⟩;have Y:Sy _ _ hv2 [_]:=Y.gr PP.fr;clear PP;refine⟨ra2,rb2,rfl,?_⟩;refine ak (T _ (Hp.nil _)) (fun _ _ ⟨_,p,_⟩=>p.fr) aI ?_;rintro v3 hv3 ⟨r,PP,rfl,T⟩;have Y:Sy _ _ hv3 [_]:=Y.gr PP.fr;clear PP;refine⟨r,rfl,?_⟩;have Y0:=Y;have F:Fr [] hv3 hv3:=Fr.refl _ _;obtain⟨q_2,T⟩:=T;refine⟨q_2,?_⟩;refine ak (T _ (Hp.nil _)) (fun _ _ ⟨_,p,_⟩=>p.fr) aI ?_;rintro v4 hv4 ⟨r2,PP,rfl,T⟩;have F:Fr _ _ hv4:=F.trans PP.fr.nil;have fshv4:=F.size;have Y:Sy _ _ hv4 [_]:=Y.gr PP.fr;clear PP;refine⟨r2,rfl,?_⟩;refine⟨F,?_⟩;exact⟨_,Y.pick [] rfl,rfl,T⟩
end Go.Proofs.YtemphinmoihdaaaGreatDoor.N
