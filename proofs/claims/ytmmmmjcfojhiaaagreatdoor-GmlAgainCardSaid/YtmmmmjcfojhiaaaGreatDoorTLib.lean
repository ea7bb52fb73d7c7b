/- Functions: what is left to be shown of each, over memory and without: printed by program, tied to the loaded functions by the kernel. Conditions: none. -/
import Derived.Test.YtmmmmjcfojhiaaaGreatDoorSBi
set_option linter.unusedVariables false
set_option linter.unusedSimpArgs false
set_option maxRecDepth 100000
set_option maxHeartbeats 2000000
open Go.IntKind (i64 u64 u8 i32)
namespace Go.Proofs.YtmmmmjcfojhiaaaGreatDoor.N
open Go.Proofs.YtmmmmjcfojhiaaaGreatDoor
open Go.X
def yI (x:Int) (R:Int->Prop):Prop:=
 ∀(h:ab),Hp h []->PJ 121 #[PO x] h fun v h'=>∃(rV:Int),Sy h [] h' []/\v= PN rV/\R rV
def Gy (x y:Int) (R:Int->Int->Prop):Prop:=
 ∀(h:ab),Hp h []->PJ 82 #[PO x,PO y] h fun v h'=>∃(raV:Int) (rbV:Int),Sy h [] h' []/\v= .tuple #[PO raV,PO rbV]/\R raV rbV
def Mi (x:Int) (h:ab) (R:VP):Prop:=0<=(18:Int)/\R (PN (Int.fdiv (i64.wrap (x*78913)) (2^(min (Int.toNat (18:Int)) 64)))) h
theorem Cn {h:ab} {R:VP} (x:Int) (H:Mi x h R):PJ 120 #[PN x] h R:=ba [] 6 [] [] [] [] Tryz.func120 PD PD H
def lB (x:Int) (R:Int->Prop):Prop:=
 ∀(h:ab),Hp h []->PJ 120 #[PN x] h fun v h'=>∃(rV:Int),Sy h [] h' []/\v= PN rV/\R rV
def Js (x:Int) (R:Int->Prop):Prop:=0<=(18:Int)/\R (Int.fdiv (i64.wrap (x*78913)) (2^(min (Int.toNat (18:Int)) 64)))
theorem Mj {x} {R:Int->Prop} (T:Js x R):lB x R:=by
 intro h H;have Y:Sy h [] h _:=Sy.startM H rfl;apply Cn;unfold Mi;unfold Js at T;obtain⟨q,T⟩:=T;refine⟨q,?_⟩;exact⟨_,Y.pick [] rfl,rfl,T⟩
def Mk (x:Int) (h:ab) (R:VP):Prop:=0<=(15:Int)/\R (PN (Int.fdiv (i64.wrap (x*108853)) (2^(min (Int.toNat (15:Int)) 64)))) h
theorem Co {h:ab} {R:VP} (x:Int) (H:Mk x h R):PJ 160 #[PN x] h R:=ba [] 6 [] [] [] [] Tryz.func160 PD PD H
def yJ (x:Int) (R:Int->Prop):Prop:=
 ∀(h:ab),Hp h []->PJ 160 #[PN x] h fun v h'=>∃(rV:Int),Sy h [] h' []/\v= PN rV/\R rV
def Jt (x:Int) (R:Int->Prop):Prop:=0<=(15:Int)/\R (Int.fdiv (i64.wrap (x*108853)) (2^(min (Int.toNat (15:Int)) 64)))
theorem Ml {x} {R:Int->Prop} (T:Jt x R):yJ x R:=by
 intro h H;have Y:Sy h [] h _:=Sy.startM H rfl;apply Co;unfold Mk;unfold Jt at T;obtain⟨q,T⟩:=T;refine⟨q,?_⟩;exact⟨_,Y.pick [] rfl,rfl,T⟩
def Mm (ev:Int) (h:ab) (R:VP):Prop:=0<=(21:Int)/\R (PN (Int.fdiv (i64.wrap ((i64.wrap (ev*631305))-(261663:Int))) (2^(min (Int.toNat (21:Int)) 64)))) h
theorem Cp {h:ab} {R:VP} (ev:Int) (H:Mm ev h R):PJ 158 #[PN ev] h R:=ba [] 7 [] [] [] [] Tryz.func158 PD PD H
def Cq (ev:Int) (R:Int->Prop):Prop:=
 ∀(h:ab),Hp h []->PJ 158 #[PN ev] h fun v h'=>∃(rV:Int),Sy h [] h' []/\v= PN rV/\R rV
def Ju (ev:Int) (R:Int->Prop):Prop:=0<=(21:Int)/\R (Int.fdiv (i64.wrap ((i64.wrap (ev*631305))-(261663:Int))) (2^(min (Int.toNat (21:Int)) 64)))
theorem Mn {ev} {R:Int->Prop} (T:Ju ev R):Cq ev R:=by
 intro h H;have Y:Sy h [] h _:=Sy.startM H rfl;apply Cp;unfold Mm;unfold Ju at T;obtain⟨q,T⟩:=T;refine⟨q,?_⟩;exact⟨_,Y.pick [] rfl,rfl,T⟩
def Mo (b:Bool) (h:ab) (R:VP):Prop:=cnd b (R (PN 1) h) (R (PN 0) h)
theorem Cr {h:ab} {R:VP} (b:Bool) (H:Mo b h R):PJ 122 #[PV b] h R:=ba [] 4 [] [] [] [] Tryz.func122 PD PD H
def yK (b:Bool) (R:Int->Prop):Prop:=
 ∀(h:ab),Hp h []->PJ 122 #[PV b] h fun v h'=>∃(rV:Int),Sy h [] h' []/\v= PN rV/\R rV
def Jw (b:Bool) (R:Int->Prop):Prop:=cnd b (R 1) (R 0)
theorem Mp {b} {R:Int->Prop} (T:Jw b R):yK b R:=by
 intro h H;have Y:Sy h [] h _:=Sy.startM H rfl;apply Cr;unfold Mo;unfold Jw at T;refine ah T (fun T=>?_) (fun T=>?_)
 ·exact⟨_,Y.pick [] rfl,rfl,T⟩
 ·exact⟨_,Y.pick [] rfl,rfl,T⟩
def Mq (b:Bool) (h:ab) (R:VP):Prop:=cnd b (R (PO 1) h) (R (PO 0) h)
theorem Cs {h:ab} {R:VP} (b:Bool) (H:Mq b h R):PJ 179 #[PV b] h R:=ba [] 4 [] [] [] [] Tryz.func179 PD PD H
def uZ (b:Bool) (R:Int->Prop):Prop:=
 ∀(h:ab),Hp h []->PJ 179 #[PV b] h fun v h'=>∃(rV:Int),Sy h [] h' []/\v= PO rV/\R rV
def Jx (b:Bool) (R:Int->Prop):Prop:=cnd b (R 1) (R 0)
theorem Mr {b} {R:Int->Prop} (T:Jx b R):uZ b R:=by
 intro h H;have Y:Sy h [] h _:=Sy.startM H rfl;apply Cs;unfold Mq;unfold Jx at T;refine ah T (fun T=>?_) (fun T=>?_)
 ·exact⟨_,Y.pick [] rfl,rfl,T⟩
 ·exact⟨_,Y.pick [] rfl,rfl,T⟩
def Ms (x:Int) (h:ab) (R:VP):Prop:=0<=(2:Int)/\R (PO (u64.wrap ((u64.wrap (x*2^(min (Int.toNat (2:Int)) 64)))-(2:Int)))) h
theorem Ct {h:ab} {R:VP} (x:Int) (H:Ms x h R):PJ 166 #[PO x] h R:=ba [] 6 [] [] [] [] Tryz.func166 PD PD H
def Cu (x:Int) (R:Int->Prop):Prop:=
 ∀(h:ab),Hp h []->PJ 166 #[PO x] h fun v h'=>∃(rV:Int),Sy h [] h' []/\v= PO rV/\R rV
def Jy (x:Int) (R:Int->Prop):Prop:=0<=(2:Int)/\R (u64.wrap ((u64.wrap (x*2^(min (Int.toNat (2:Int)) 64)))-(2:Int)))
theorem Mu {x} {R:Int->Prop} (T:Jy x R):Cu x R:=by
 intro h H;have Y:Sy h [] h _:=Sy.startM H rfl;apply Ct;unfold Ms;unfold Jy at T;obtain⟨q,T⟩:=T;refine⟨q,?_⟩;exact⟨_,Y.pick [] rfl,rfl,T⟩
def Mw (u x:Int) (h:ab) (R:VP):Prop:=R (PO (u64.wrap (u+(u64.wrap x)))) h
theorem Cv {h:ab} {R:VP} (u x:Int) (H:Mw u x h R):PJ 162 #[PO u,PN x] h R:=ba [] 9 [] [] [] [] Tryz.func162 PD PD H
def yL (u x:Int) (R:Int->Prop):Prop:=
 ∀(h:ab),Hp h []->PJ 162 #[PO u,PN x] h fun v h'=>∃(rV:Int),Sy h [] h' []/\v= PO rV/\R rV
def My (u x:Int) (R:Int->Prop):Prop:=R (u64.wrap (u+(u64.wrap x)))
theorem Mz {u x} {R:Int->Prop} (T:My u x R):yL u x R:=by
 intro h H;have Y:Sy h [] h _:=Sy.startM H rfl;apply Cv;unfold Mw;unfold My at T;exact⟨_,Y.pick [] rfl,rfl,T⟩
def MB (u:Int) (h:ab) (R:VP):Prop:=0<=(2:Int)/\R (PO (Int.fdiv (u64.wrap (u+3)) (2^(min (Int.toNat (2:Int)) 64)))) h
theorem Cw {h:ab} {R:VP} (u:Int) (H:MB u h R):PJ 163 #[PO u] h R:=ba [] 6 [] [] [] [] Tryz.func163 PD PD H
def Cx (u:Int) (R:Int->Prop):Prop:=
 ∀(h:ab),Hp h []->PJ 163 #[PO u] h fun v h'=>∃(rV:Int),Sy h [] h' []/\v= PO rV/\R rV
def Jz (u:Int) (R:Int->Prop):Prop:=0<=(2:Int)/\R (Int.fdiv (u64.wrap (u+3)) (2^(min (Int.toNat (2:Int)) 64)))
theorem MC {u} {R:Int->Prop} (T:Jz u R):Cx u R:=by
 intro h H;have Y:Sy h [] h _:=Sy.startM H rfl;apply Cw;unfold MB;unfold Jz at T;obtain⟨q,T⟩:=T;refine⟨q,?_⟩;exact⟨_,Y.pick [] rfl,rfl,T⟩
def ME (u:Int) (h:ab) (R:VP):Prop:=0<=(2:Int)/\R (PO (Int.fdiv (u64.wrap (u+0)) (2^(min (Int.toNat (2:Int)) 64)))) h
theorem Cy {h:ab} {R:VP} (u:Int) (H:ME u h R):PJ 164 #[PO u] h R:=ba [] 6 [] [] [] [] Tryz.func164 PD PD H
def Cz (u:Int) (R:Int->Prop):Prop:=
 ∀(h:ab),Hp h []->PJ 164 #[PO u] h fun v h'=>∃(rV:Int),Sy h [] h' []/\v= PO rV/\R rV
def JB (u:Int) (R:Int->Prop):Prop:=0<=(2:Int)/\R (Int.fdiv (u64.wrap (u+0)) (2^(min (Int.toNat (2:Int)) 64)))
theorem MF {u} {R:Int->Prop} (T:JB u R):Cz u R:=by
 intro h H;have Y:Sy h [] h _:=Sy.startM H rfl;apply Cy;unfold ME;unfold JB at T;obtain⟨q,T⟩:=T;refine⟨q,?_⟩;exact⟨_,Y.pick [] rfl,rfl,T⟩
def MG (u:Int) (h:ab) (R:VP):Prop:=0<=(2:Int)/\0<=(2:Int)/\R (PO (Int.fdiv (u64.wrap ((u64.wrap (u+1))+(bits .and .u64 (Int.fdiv u (2^(min (Int.toNat (2:Int)) 64))) (1:Int)))) (2^(min (Int.toNat (2:Int)) 64)))) h
theorem CB {h:ab} {R:VP} (u:Int) (H:MG u h R):PJ 165 #[PO u] h R:=ba [] 10 [] [] [] [] Tryz.func165 PD PD H
def yM (u:Int) (R:Int->Prop):Prop:=
 ∀(h:ab),Hp h []->PJ 165 #[PO u] h fun v h'=>∃(rV:Int),Sy h [] h' []/\v= PO rV/\R rV
def JC (u:Int) (R:Int->Prop):Prop:=0<=(2:Int)/\0<=(2:Int)/\R (Int.fdiv (u64.wrap ((u64.wrap (u+1))+(bits .and .u64 (Int.fdiv u (2^(min (Int.toNat (2:Int)) 64))) (1:Int)))) (2^(min (Int.toNat (2:Int)) 64)))
theorem MH {u} {R:Int->Prop} (T:JC u R):yM u R:=by
 intro h H;have Y:Sy h [] h _:=Sy.startM H rfl;apply CB;unfold MG;unfold JC at T;obtain⟨q_2,T⟩:=T;refine⟨q_2,?_⟩;obtain⟨q,T⟩:=T;refine⟨q,?_⟩;exact⟨_,Y.pick [] rfl,rfl,T⟩
def MI (preP:PY) (ev p lp:Int) (h:ab) (R:VP):Prop:=0<=(i64.wrap (p-((-348):Int)))/\(i64.wrap (p-((-348):Int)))<(696:Int)/\∃e:Int,ac h 10 (0+(Int.toNat (i64.wrap (p-((-348):Int))))*2)=some (PO e)/\∃b o,preP=some ⟨b,o,none⟩/\(∃a,ac h b o=some a)/\aq h b o=true/\let c:ab:=aj h b o (PO e);0<=(i64.wrap (p-((-348):Int)))/\(i64.wrap (p-((-348):Int)))<(696:Int)/\∃f:Int,ac c 10 ((0+(Int.toNat (i64.wrap (p-((-348):Int))))*2)+1)=some (PO f)/\∃b2 o2,preP=some ⟨b2,o2,none⟩/\(∃a,ac c b2 (o2+1)=some a)/\aq c b2 (o2+1)=true/\let d:ab:=aj c b2 (o2+1) (PO f);∃b3 o3,preP=some ⟨b3,o3,none⟩/\(∃a,ac d b3 (o3+2)=some a)/\aq d b3 (o3+2)=true/\let g:ab:=aj d b3 (o3+2) (PN (i64.wrap (0-(i64.wrap ((i64.wrap (ev+lp))+(3:Int))))));R (.tuple #[]) g
theorem CC {h:ab} {R:VP} (preP:PY) (ev p lp:Int) (H:MI preP ev p lp h R):PJ 159 #[PW preP,PN ev,PN p,PN lp] h R:=ba [] 32 [] [] [] [] Tryz.func159 PD PD H
def yN (pmHiV pmLoV sV ev p lp:Int) (R:Int->Int->Int->Prop):Prop:=
 ∀(h:ab) (gl:GL) (preB:Nat),Hp h [Ck.glob gl,Ck.ob preB 197 [PO pmHiV,PO pmLoV,PN sV]]->PJ 159 #[PW (some ⟨preB,0,none⟩),PN ev,PN p,PN lp] h fun v h'=>∃(pmHiV2:Int) (pmLoV2:Int) (sV2:Int),Sy h (ao [Ck.ob preB 197 [PO pmHiV,PO pmLoV,PN sV]]) h' [Ck.ob preB 197 [PO pmHiV2,PO pmLoV2,PN sV2]]/\v= .tuple #[]/\R pmHiV2 pmLoV2 sV2
def JD (pmHiV pmLoV sV ev p lp:Int) (R:Int->Int->Int->Prop):Prop:=0<=(i64.wrap (p-((-348):Int)))/\(i64.wrap (p-((-348):Int)))<(696:Int)/\∃a:Int,tT[(Int.toNat (i64.wrap (p-((-348):Int))))*2]? =some a/\0<=(i64.wrap (p-((-348):Int)))/\(i64.wrap (p-((-348):Int)))<(696:Int)/\∃b:Int,tT[(Int.toNat (i64.wrap (p-((-348):Int))))*2+1]? =some b/\R a b (i64.wrap (0-(i64.wrap ((i64.wrap (ev+lp))+(3:Int)))))
theorem MJ {pmHiV pmLoV sV ev p lp} {R:Int->Int->Int->Prop} (T:JD pmHiV pmLoV sV ev p lp R):yN pmHiV pmLoV sV ev p lp R:=by
 intro h gl preB H;have Y:Sy h (ao [Ck.ob preB 197 [PO pmHiV,PO pmLoV,PN sV]]) h _:=Sy.startM H rfl;apply CC;unfold MI;unfold JD at T;obtain⟨q_3,q_4,T⟩:=T;refine⟨q_3,q_4,?_⟩;obtain⟨x_2,hx,T⟩:=T;refine⟨_,(Y.glo 0 rfl).t _ _ hx,?_⟩;refine⟨preB,0,rfl,?_⟩;refine⟨⟨_,Y.cellO 1 rfl 0 rfl⟩,Y.freeO 1 rfl _,?_⟩;intro hv;have Y:Sy _ _ hv [_,_]:=(Y.stO 1 rfl 0 _);clear_value hv;obtain⟨q,q_2,T⟩:=T;refine⟨q,q_2,?_⟩;obtain⟨x_3,hx_2,T⟩:=T;refine⟨_,(Y.glo 0 rfl).t _ _ hx_2,?_⟩;refine⟨preB,0,rfl,?_⟩;refine⟨⟨_,Y.cellO 1 rfl 1 rfl⟩,Y.freeO 1 rfl _,?_⟩;intro hv2;have Y:Sy _ _ hv2 [_,_]:=(Y.stO 1 rfl 1 _);clear_value hv2;refine⟨preB,0,rfl,?_⟩;refine⟨⟨_,Y.cellO 1 rfl 2 rfl⟩,Y.freeO 1 rfl _,?_⟩;intro hv3;have Y:Sy _ _ hv3 [_,_]:=(Y.stO 1 rfl 2 _);clear_value hv3;exact⟨_,_,_,Y.pick [1] rfl,rfl,T⟩
def MK (x:Int) (cP:PY) (h:ab) (R:VP):Prop:=∃b o,cP=some ⟨b,o,none⟩/\∃l:Int,ac h b o=some (PO l)/\PI 82 #[PO x,PO l] h [] fun q d=>∃c:Int,∃f:Int,q= .tuple #[PO c,PO f]/\∃b2 o2,cP=some ⟨b2,o2,none⟩/\∃a:Int,ac d b2 (o2+2)=some (PN a)/\0<=(bits .and .i64 a (63:Int))/\0<=(bits .and .i64 a (63:Int))/\cnd ((u64.wrap ((Int.fdiv c (2^(min (Int.toNat (bits .and .i64 a (63:Int))) 64)))*2^(min (Int.toNat (bits .and .i64 a (63:Int))) 64))) != c) (0<=(bits .and .i64 a (63:Int))/\R (PO (bits .or .u64 (Int.fdiv c (2^(min (Int.toNat (bits .and .i64 a (63:Int))) 64))) (1:Int))) d) (∃b3 o3,cP=some ⟨b3,o3,none⟩/\∃m:Int,ac d b3 (o3+1)=some (PO m)/\PI 82 #[PO x,PO m] d [] fun r n=>∃e:Int,∃p:Int,r= .tuple #[PO e,PO p]/\PI 179 #[PV (decide (f<e))] n [] fun s g=>∃j:Int,s= PO j/\0<=(bits .and .i64 a (63:Int))/\PI 179 #[PV (decide ((u64.wrap (f-e))>(1:Int)))] g [] fun t i=>∃k:Int,t= PO k/\Fr [] g i/\R (PO (bits .or .u64 (Int.fdiv (u64.wrap (c-j)) (2^(min (Int.toNat (bits .and .i64 a (63:Int))) 64))) k)) i)
theorem CD {h:ab} {R:VP} (x:Int) (cP:PY) (H:MK x cP h R):PJ 161 #[PO x,PW cP] h R:=ba [] 59 [] [] [] [(7,⟨10,false⟩)] Tryz.func161 PD PD H
def rI (x pmHiV pmLoV sV:Int) (R:Int->Prop):Prop:=
 ∀(h:ab) (cB cO:Nat),Hp h [Ck.vob cB cO [PO pmHiV,PO pmLoV,PN sV]]->PJ 161 #[PO x,PW (some ⟨cB,cO,none⟩)] h fun v h'=>∃(rV:Int),Sy h [] h' []/\v= PO rV/\R rV
def JE (x pmHiV pmLoV sV:Int) (R:Int->Prop):Prop:=Gy x pmHiV (fun a c=>0<=(bits .and .i64 sV (63:Int))/\0<=(bits .and .i64 sV (63:Int))/\cnd ((u64.wrap ((Int.fdiv a (2^(min (Int.toNat (bits .and .i64 sV (63:Int))) 64)))*2^(min (Int.toNat (bits .and .i64 sV (63:Int))) 64))) != a) (0<=(bits .and .i64 sV (63:Int))/\R (bits .or .u64 (Int.fdiv a (2^(min (Int.toNat (bits .and .i64 sV (63:Int))) 64))) (1:Int))) (Gy x pmLoV (fun b f=>uZ (decide (c<b)) (fun d=>0<=(bits .and .i64 sV (63:Int))/\uZ (decide ((u64.wrap (c-b))>(1:Int))) (fun e=>R (bits .or .u64 (Int.fdiv (u64.wrap (a-d)) (2^(min (Int.toNat (bits .and .i64 sV (63:Int))) 64))) e))))))
theorem ML {x pmHiV pmLoV sV} {R:Int->Prop} (T:JE x pmHiV pmLoV sV R):rI x pmHiV pmLoV sV R:=by
 intro h cB cO H;have Y:Sy h [] h _:=Sy.startM H rfl;apply CD;unfold MK;unfold JE at T;refine⟨cB,cO,rfl,?_⟩;refine⟨_,Y.cellW 0 rfl 0 rfl,?_⟩;refine am (T _ (Hp.nil _)) (fun _ _ ⟨_,_,p,_⟩=>p.fr) bf ?_;rintro v hv ⟨ra,rb,PP,rfl,T⟩;have Y:Sy _ _ hv [_]:=Y.gr PP.fr;clear PP;refine⟨ra,rb,rfl,?_⟩;refine⟨cB,cO,rfl,?_⟩;refine⟨_,Y.cellW 0 rfl 2 rfl,?_⟩;obtain⟨q_4,T⟩:=T;refine⟨q_4,?_⟩;obtain⟨q_3,T⟩:=T;refine⟨q_3,?_⟩;refine ah T (fun T=>?_) (fun T=>?_)
 ·obtain⟨q,T⟩:=T;refine⟨q,?_⟩;exact⟨_,Y.pick [] rfl,rfl,T⟩
 ·refine⟨cB,cO,rfl,?_⟩;refine⟨_,Y.cellW 0 rfl 1 rfl,?_⟩;refine am (T _ (Hp.nil _)) (fun _ _ ⟨_,_,p,_⟩=>p.fr) bf ?_;rintro v2 hv2 ⟨ra2,rb2,PP,rfl,T⟩;have Y:Sy _ _ hv2 [_]:=Y.gr PP.fr;clear PP;refine⟨ra2,rb2,rfl,?_⟩;refine am (T _ (Hp.nil _)) (fun _ _ ⟨_,p,_⟩=>p.fr) bf ?_;rintro v3 hv3 ⟨r,PP,rfl,T⟩;have Y:Sy _ _ hv3 [_]:=Y.gr PP.fr;clear PP;refine⟨r,rfl,?_⟩;have Y0:=Y;have F:Fr [] hv3 hv3:=Fr.refl _ _;obtain⟨q_2,T⟩:=T;refine⟨q_2,?_⟩;refine am (T _ (Hp.nil _)) (fun _ _ ⟨_,p,_⟩=>p.fr) bf ?_;rintro v4 hv4 ⟨r2,PP,rfl,T⟩;have F:Fr _ _ hv4:=F.trans PP.fr.nil;have fshv4:=F.size;have Y:Sy _ _ hv4 [_]:=Y.gr PP.fr;clear PP;refine⟨r2,rfl,?_⟩;refine⟨F,?_⟩;exact⟨_,Y.pick [] rfl,rfl,T⟩
end Go.Proofs.YtmmmmjcfojhiaaaGreatDoor.N
