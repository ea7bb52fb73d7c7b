/- Functions: what is left to be shown of each, over memory and without: printed by program, tied to the loaded functions by the kernel. Conditions: none. -/
import Derived.Test.YtemclecmafjjfaaGreatDoorXU
import Derived.Test.YtemclecmafjjfaaGreatDoorSBk
set_option linter.unusedVariables false
set_option linter.unusedSimpArgs false
open Go.IntKind (i64 u64 u8 i32)
namespace Go.Proofs.YtemclecmafjjfaaGreatDoor.N
open Go.Proofs.YtemclecmafjjfaaGreatDoor
open Go.X
set_option maxRecDepth 100000
set_option maxHeartbeats 2000000
def xD (x:Int) (R:Int->Prop):Prop:=
 ∀(h:ab),Hp h []->ae Tryz.prog 109 #[.int .u64 x] h fun v h'=>∃(rV:Int),Sy h [] h' []/\v= .int .i64 rV/\R rV
def EU (x y:Int) (R:Int->Int->Prop):Prop:=
 ∀(h:ab),Hp h []->ae Tryz.prog 76 #[.int .u64 x,.int .u64 y] h fun v h'=>∃(raV:Int) (rbV:Int),Sy h [] h' []/\v= .tuple #[.int .u64 raV,.int .u64 rbV]/\R raV rbV
def Kt (x:Int) (h:ab) (R:VP):Prop:=0<=(18:Int)/\R (.int .i64 (Int.fdiv (i64.wrap (x*78913)) (2^(min (Int.toNat (18:Int)) 64)))) h
theorem Bm {h:ab} {R:VP} (x:Int) (H:Kt x h R):ae Tryz.prog 108 #[.int .i64 x] h R:=aN [] 6 [] [] [] [] Tryz.func108 (by kernel_rfl) (by kernel_rfl) H
def kO (x:Int) (R:Int->Prop):Prop:=
 ∀(h:ab),Hp h []->ae Tryz.prog 108 #[.int .i64 x] h fun v h'=>∃(rV:Int),Sy h [] h' []/\v= .int .i64 rV/\R rV
def HL (x:Int) (R:Int->Prop):Prop:=0<=(18:Int)/\R (Int.fdiv (i64.wrap (x*78913)) (2^(min (Int.toNat (18:Int)) 64)))
theorem Ku {x} {R:Int->Prop} (T:HL x R):kO x R:=by
 intro h H;have Y:Sy h [] h _:=Sy.startM H rfl;apply Bm;unfold Kt;unfold HL at T;obtain⟨q,T⟩:=T;refine⟨q,?_⟩;exact⟨_,Y.pick [] rfl,rfl,T⟩
def Kv (x:Int) (h:ab) (R:VP):Prop:=0<=(15:Int)/\R (.int .i64 (Int.fdiv (i64.wrap (x*108853)) (2^(min (Int.toNat (15:Int)) 64)))) h
theorem Bn {h:ab} {R:VP} (x:Int) (H:Kv x h R):ae Tryz.prog 158 #[.int .i64 x] h R:=aN [] 6 [] [] [] [] Tryz.func158 (by kernel_rfl) (by kernel_rfl) H
def xE (x:Int) (R:Int->Prop):Prop:=
 ∀(h:ab),Hp h []->ae Tryz.prog 158 #[.int .i64 x] h fun v h'=>∃(rV:Int),Sy h [] h' []/\v= .int .i64 rV/\R rV
def HM (x:Int) (R:Int->Prop):Prop:=0<=(15:Int)/\R (Int.fdiv (i64.wrap (x*108853)) (2^(min (Int.toNat (15:Int)) 64)))
theorem Kw {x} {R:Int->Prop} (T:HM x R):xE x R:=by
 intro h H;have Y:Sy h [] h _:=Sy.startM H rfl;apply Bn;unfold Kv;unfold HM at T;obtain⟨q,T⟩:=T;refine⟨q,?_⟩;exact⟨_,Y.pick [] rfl,rfl,T⟩
def Kx (ev:Int) (h:ab) (R:VP):Prop:=0<=(21:Int)/\R (.int .i64 (Int.fdiv (i64.wrap ((i64.wrap (ev*631305))-(261663:Int))) (2^(min (Int.toNat (21:Int)) 64)))) h
theorem Bo {h:ab} {R:VP} (ev:Int) (H:Kx ev h R):ae Tryz.prog 156 #[.int .i64 ev] h R:=aN [] 7 [] [] [] [] Tryz.func156 (by kernel_rfl) (by kernel_rfl) H
def Bp (ev:Int) (R:Int->Prop):Prop:=
 ∀(h:ab),Hp h []->ae Tryz.prog 156 #[.int .i64 ev] h fun v h'=>∃(rV:Int),Sy h [] h' []/\v= .int .i64 rV/\R rV
def HN (ev:Int) (R:Int->Prop):Prop:=0<=(21:Int)/\R (Int.fdiv (i64.wrap ((i64.wrap (ev*631305))-(261663:Int))) (2^(min (Int.toNat (21:Int)) 64)))
theorem Ky {ev} {R:Int->Prop} (T:HN ev R):Bp ev R:=by
 intro h H;have Y:Sy h [] h _:=Sy.startM H rfl;apply Bo;unfold Kx;unfold HN at T;obtain⟨q,T⟩:=T;refine⟨q,?_⟩;exact⟨_,Y.pick [] rfl,rfl,T⟩
def Kz (b:Bool) (h:ab) (R:VP):Prop:=cnd b (R (.int .i64 1) h) (R (.int .i64 0) h)
theorem Bq {h:ab} {R:VP} (b:Bool) (H:Kz b h R):ae Tryz.prog 110 #[.bool b] h R:=aN [] 4 [] [] [] [] Tryz.func110 (by kernel_rfl) (by kernel_rfl) H
def xF (b:Bool) (R:Int->Prop):Prop:=
 ∀(h:ab),Hp h []->ae Tryz.prog 110 #[.bool b] h fun v h'=>∃(rV:Int),Sy h [] h' []/\v= .int .i64 rV/\R rV
def HO (b:Bool) (R:Int->Prop):Prop:=cnd b (R 1) (R 0)
theorem KA {b} {R:Int->Prop} (T:HO b R):xF b R:=by
 intro h H;have Y:Sy h [] h _:=Sy.startM H rfl;apply Bq;unfold Kz;unfold HO at T;refine af T (fun T=>?_) (fun T=>?_)
 ·exact⟨_,Y.pick [] rfl,rfl,T⟩
 ·exact⟨_,Y.pick [] rfl,rfl,T⟩
def KB (b:Bool) (h:ab) (R:VP):Prop:=cnd b (R (.int .u64 1) h) (R (.int .u64 0) h)
theorem Br {h:ab} {R:VP} (b:Bool) (H:KB b h R):ae Tryz.prog 182 #[.bool b] h R:=aN [] 4 [] [] [] [] Tryz.func182 (by kernel_rfl) (by kernel_rfl) H
def uc (b:Bool) (R:Int->Prop):Prop:=
 ∀(h:ab),Hp h []->ae Tryz.prog 182 #[.bool b] h fun v h'=>∃(rV:Int),Sy h [] h' []/\v= .int .u64 rV/\R rV
def HP (b:Bool) (R:Int->Prop):Prop:=cnd b (R 1) (R 0)
theorem KC {b} {R:Int->Prop} (T:HP b R):uc b R:=by
 intro h H;have Y:Sy h [] h _:=Sy.startM H rfl;apply Br;unfold KB;unfold HP at T;refine af T (fun T=>?_) (fun T=>?_)
 ·exact⟨_,Y.pick [] rfl,rfl,T⟩
 ·exact⟨_,Y.pick [] rfl,rfl,T⟩
def KD (x:Int) (h:ab) (R:VP):Prop:=0<=(2:Int)/\R (.int .u64 (u64.wrap ((u64.wrap (x*2^(min (Int.toNat (2:Int)) 64)))-(2:Int)))) h
theorem Bs {h:ab} {R:VP} (x:Int) (H:KD x h R):ae Tryz.prog 164 #[.int .u64 x] h R:=aN [] 6 [] [] [] [] Tryz.func164 (by kernel_rfl) (by kernel_rfl) H
def Bt (x:Int) (R:Int->Prop):Prop:=
 ∀(h:ab),Hp h []->ae Tryz.prog 164 #[.int .u64 x] h fun v h'=>∃(rV:Int),Sy h [] h' []/\v= .int .u64 rV/\R rV
def HQ (x:Int) (R:Int->Prop):Prop:=0<=(2:Int)/\R (u64.wrap ((u64.wrap (x*2^(min (Int.toNat (2:Int)) 64)))-(2:Int)))
theorem KE {x} {R:Int->Prop} (T:HQ x R):Bt x R:=by
 intro h H;have Y:Sy h [] h _:=Sy.startM H rfl;apply Bs;unfold KD;unfold HQ at T;obtain⟨q,T⟩:=T;refine⟨q,?_⟩;exact⟨_,Y.pick [] rfl,rfl,T⟩
def KF (u x:Int) (h:ab) (R:VP):Prop:=R (.int .u64 (u64.wrap (u+(u64.wrap x)))) h
theorem Bu {h:ab} {R:VP} (u x:Int) (H:KF u x h R):ae Tryz.prog 160 #[.int .u64 u,.int .i64 x] h R:=aN [] 9 [] [] [] [] Tryz.func160 (by kernel_rfl) (by kernel_rfl) H
def xG (u x:Int) (R:Int->Prop):Prop:=
 ∀(h:ab),Hp h []->ae Tryz.prog 160 #[.int .u64 u,.int .i64 x] h fun v h'=>∃(rV:Int),Sy h [] h' []/\v= .int .u64 rV/\R rV
def KG (u x:Int) (R:Int->Prop):Prop:=R (u64.wrap (u+(u64.wrap x)))
theorem KH {u x} {R:Int->Prop} (T:KG u x R):xG u x R:=by
 intro h H;have Y:Sy h [] h _:=Sy.startM H rfl;apply Bu;unfold KF;unfold KG at T;exact⟨_,Y.pick [] rfl,rfl,T⟩
def KI (u:Int) (h:ab) (R:VP):Prop:=0<=(2:Int)/\R (.int .u64 (Int.fdiv (u64.wrap (u+3)) (2^(min (Int.toNat (2:Int)) 64)))) h
theorem Bv {h:ab} {R:VP} (u:Int) (H:KI u h R):ae Tryz.prog 161 #[.int .u64 u] h R:=aN [] 6 [] [] [] [] Tryz.func161 (by kernel_rfl) (by kernel_rfl) H
def Bw (u:Int) (R:Int->Prop):Prop:=
 ∀(h:ab),Hp h []->ae Tryz.prog 161 #[.int .u64 u] h fun v h'=>∃(rV:Int),Sy h [] h' []/\v= .int .u64 rV/\R rV
def HR (u:Int) (R:Int->Prop):Prop:=0<=(2:Int)/\R (Int.fdiv (u64.wrap (u+3)) (2^(min (Int.toNat (2:Int)) 64)))
theorem KJ {u} {R:Int->Prop} (T:HR u R):Bw u R:=by
 intro h H;have Y:Sy h [] h _:=Sy.startM H rfl;apply Bv;unfold KI;unfold HR at T;obtain⟨q,T⟩:=T;refine⟨q,?_⟩;exact⟨_,Y.pick [] rfl,rfl,T⟩
def KK (u:Int) (h:ab) (R:VP):Prop:=0<=(2:Int)/\R (.int .u64 (Int.fdiv (u64.wrap (u+0)) (2^(min (Int.toNat (2:Int)) 64)))) h
theorem Bx {h:ab} {R:VP} (u:Int) (H:KK u h R):ae Tryz.prog 162 #[.int .u64 u] h R:=aN [] 6 [] [] [] [] Tryz.func162 (by kernel_rfl) (by kernel_rfl) H
def Bz (u:Int) (R:Int->Prop):Prop:=
 ∀(h:ab),Hp h []->ae Tryz.prog 162 #[.int .u64 u] h fun v h'=>∃(rV:Int),Sy h [] h' []/\v= .int .u64 rV/\R rV
def HS (u:Int) (R:Int->Prop):Prop:=0<=(2:Int)/\R (Int.fdiv (u64.wrap (u+0)) (2^(min (Int.toNat (2:Int)) 64)))
theorem KL {u} {R:Int->Prop} (T:HS u R):Bz u R:=by
 intro h H;have Y:Sy h [] h _:=Sy.startM H rfl;apply Bx;unfold KK;unfold HS at T;obtain⟨q,T⟩:=T;refine⟨q,?_⟩;exact⟨_,Y.pick [] rfl,rfl,T⟩
def KM (u:Int) (h:ab) (R:VP):Prop:=0<=(2:Int)/\0<=(2:Int)/\R (.int .u64 (Int.fdiv (u64.wrap ((u64.wrap (u+1))+(bits .and .u64 (Int.fdiv u (2^(min (Int.toNat (2:Int)) 64))) (1:Int)))) (2^(min (Int.toNat (2:Int)) 64)))) h
theorem BA {h:ab} {R:VP} (u:Int) (H:KM u h R):ae Tryz.prog 163 #[.int .u64 u] h R:=aN [] 10 [] [] [] [] Tryz.func163 (by kernel_rfl) (by kernel_rfl) H
def xH (u:Int) (R:Int->Prop):Prop:=
 ∀(h:ab),Hp h []->ae Tryz.prog 163 #[.int .u64 u] h fun v h'=>∃(rV:Int),Sy h [] h' []/\v= .int .u64 rV/\R rV
def HT (u:Int) (R:Int->Prop):Prop:=0<=(2:Int)/\0<=(2:Int)/\R (Int.fdiv (u64.wrap ((u64.wrap (u+1))+(bits .and .u64 (Int.fdiv u (2^(min (Int.toNat (2:Int)) 64))) (1:Int)))) (2^(min (Int.toNat (2:Int)) 64)))
theorem KN {u} {R:Int->Prop} (T:HT u R):xH u R:=by
 intro h H;have Y:Sy h [] h _:=Sy.startM H rfl;apply BA;unfold KM;unfold HT at T;obtain⟨q_2,T⟩:=T;refine⟨q_2,?_⟩;obtain⟨q,T⟩:=T;refine⟨q,?_⟩;exact⟨_,Y.pick [] rfl,rfl,T⟩
def KO (preP:Option Addr) (ev p lp:Int) (h:ab) (R:VP):Prop:=0<=(i64.wrap (p-((-348):Int)))/\(i64.wrap (p-((-348):Int)))<(696:Int)/\∃e:Int,ac h 10 (0+(Int.toNat (i64.wrap (p-((-348):Int))))*2)=some (.int .u64 e)/\∃b o,preP=some ⟨b,o,none⟩/\(∃a,ac h b o=some a)/\au h b o=true/\let c:ab:=am h b o (.int .u64 e);0<=(i64.wrap (p-((-348):Int)))/\(i64.wrap (p-((-348):Int)))<(696:Int)/\∃f:Int,ac c 10 ((0+(Int.toNat (i64.wrap (p-((-348):Int))))*2)+1)=some (.int .u64 f)/\∃b2 o2,preP=some ⟨b2,o2,none⟩/\(∃a,ac c b2 (o2+1)=some a)/\au c b2 (o2+1)=true/\let d:ab:=am c b2 (o2+1) (.int .u64 f);∃b3 o3,preP=some ⟨b3,o3,none⟩/\(∃a,ac d b3 (o3+2)=some a)/\au d b3 (o3+2)=true/\let g:ab:=am d b3 (o3+2) (.int .i64 (i64.wrap (0-(i64.wrap ((i64.wrap (ev+lp))+(3:Int))))));R (.tuple #[]) g
theorem BB {h:ab} {R:VP} (preP:Option Addr) (ev p lp:Int) (H:KO preP ev p lp h R):ae Tryz.prog 157 #[.pointer preP,.int .i64 ev,.int .i64 p,.int .i64 lp] h R:=aN [] 32 [] [] [] [] Tryz.func157 (by kernel_rfl) (by kernel_rfl) H
def xI (pmHiV pmLoV sV ev p lp:Int) (R:Int->Int->Int->Prop):Prop:=
 ∀(h:ab) (gl:GL) (preB:Nat),Hp h [Ck.glob gl,Ck.ob preB 194 [.int .u64 pmHiV,.int .u64 pmLoV,.int .i64 sV]]->ae Tryz.prog 157 #[.pointer (some ⟨preB,0,none⟩),.int .i64 ev,.int .i64 p,.int .i64 lp] h fun v h'=>∃(pmHiV2:Int) (pmLoV2:Int) (sV2:Int),Sy h (ao [Ck.ob preB 194 [.int .u64 pmHiV,.int .u64 pmLoV,.int .i64 sV]]) h' [Ck.ob preB 194 [.int .u64 pmHiV2,.int .u64 pmLoV2,.int .i64 sV2]]/\v= .tuple #[]/\R pmHiV2 pmLoV2 sV2
def HU (pmHiV pmLoV sV ev p lp:Int) (R:Int->Int->Int->Prop):Prop:=0<=(i64.wrap (p-((-348):Int)))/\(i64.wrap (p-((-348):Int)))<(696:Int)/\∃a:Int,tT[(Int.toNat (i64.wrap (p-((-348):Int))))*2]? =some a/\0<=(i64.wrap (p-((-348):Int)))/\(i64.wrap (p-((-348):Int)))<(696:Int)/\∃b:Int,tT[(Int.toNat (i64.wrap (p-((-348):Int))))*2+1]? =some b/\R a b (i64.wrap (0-(i64.wrap ((i64.wrap (ev+lp))+(3:Int)))))
theorem KP {pmHiV pmLoV sV ev p lp} {R:Int->Int->Int->Prop} (T:HU pmHiV pmLoV sV ev p lp R):xI pmHiV pmLoV sV ev p lp R:=by
 intro h gl preB H;have Y:Sy h (ao [Ck.ob preB 194 [.int .u64 pmHiV,.int .u64 pmLoV,.int .i64 sV]]) h _:=Sy.startM H rfl;apply BB;unfold KO;unfold HU at T;obtain⟨q_3,q_4,T⟩:=T;refine⟨q_3,q_4,?_⟩;obtain⟨x_2,hx,T⟩:=T;refine⟨_,(Y.glo 0 rfl).t _ _ hx,?_⟩;refine⟨preB,0,rfl,?_⟩;refine⟨⟨_,Y.cellO 1 rfl 0 rfl⟩,Y.freeO 1 rfl _,?_⟩;intro hv;have Y:Sy _ _ hv [_,_]:=(Y.stO 1 rfl 0 _);clear_value hv;obtain⟨q,q_2,T⟩:=T;refine⟨q,q_2,?_⟩;obtain⟨x_3,hx_2,T⟩:=T;refine⟨_,(Y.glo 0 rfl).t _ _ hx_2,?_⟩;refine⟨preB,0,rfl,?_⟩;refine⟨⟨_,Y.cellO 1 rfl 1 rfl⟩,Y.freeO 1 rfl _,?_⟩;intro hv2;have Y:Sy _ _ hv2 [_,_]:=(Y.stO 1 rfl 1 _);clear_value hv2;refine⟨preB,0,rfl,?_⟩;refine⟨⟨_,Y.cellO 1 rfl 2 rfl⟩,Y.freeO 1 rfl _,?_⟩;intro hv3;have Y:Sy _ _ hv3 [_,_]:=(Y.stO 1 rfl 2 _);clear_value hv3;exact⟨_,_,_,Y.pick [1] rfl,rfl,T⟩
def KQ (x:Int) (cP:Option Addr) (h:ab) (R:VP):Prop:=∃b o,cP=some ⟨b,o,none⟩/\∃l:Int,ac h b o=some (.int .u64 l)/\ai Tryz.prog 76 #[.int .u64 x,.int .u64 l] h [] fun q d=>∃c:Int,∃f:Int,q= .tuple #[.int .u64 c,.int .u64 f]/\∃b2 o2,cP=some ⟨b2,o2,none⟩/\∃a:Int,ac d b2 (o2+2)=some (.int .i64 a)/\0<=(bits .and .i64 a (63:Int))/\0<=(bits .and .i64 a (63:Int))/\cnd ((u64.wrap ((Int.fdiv c (2^(min (Int.toNat (bits .and .i64 a (63:Int))) 64)))*2^(min (Int.toNat (bits .and .i64 a (63:Int))) 64))) != c) (0<=(bits .and .i64 a (63:Int))/\R (.int .u64 (bits .or .u64 (Int.fdiv c (2^(min (Int.toNat (bits .and .i64 a (63:Int))) 64))) (1:Int))) d) (∃b3 o3,cP=some ⟨b3,o3,none⟩/\∃m:Int,ac d b3 (o3+1)=some (.int .u64 m)/\ai Tryz.prog 76 #[.int .u64 x,.int .u64 m] d [] fun r n=>∃e:Int,∃p:Int,r= .tuple #[.int .u64 e,.int .u64 p]/\ai Tryz.prog 182 #[.bool (decide (f<e))] n [] fun s g=>∃j:Int,s= .int .u64 j/\0<=(bits .and .i64 a (63:Int))/\ai Tryz.prog 182 #[.bool (decide ((u64.wrap (f-e))>(1:Int)))] g [] fun t i=>∃k:Int,t= .int .u64 k/\Fr [] g i/\R (.int .u64 (bits .or .u64 (Int.fdiv (u64.wrap (c-j)) (2^(min (Int.toNat (bits .and .i64 a (63:Int))) 64))) k)) i)
theorem BC {h:ab} {R:VP} (x:Int) (cP:Option Addr) (H:KQ x cP h R):ae Tryz.prog 159 #[.int .u64 x,.pointer cP] h R:=aN [] 59 [] [] [] [(7,⟨10,false⟩)] Tryz.func159 (by kernel_rfl) (by kernel_rfl) H
def qA (x pmHiV pmLoV sV:Int) (R:Int->Prop):Prop:=
 ∀(h:ab) (cB cO:Nat),Hp h [Ck.vob cB cO [.int .u64 pmHiV,.int .u64 pmLoV,.int .i64 sV]]->ae Tryz.prog 159 #[.int .u64 x,.pointer (some ⟨cB,cO,none⟩)] h fun v h'=>∃(rV:Int),Sy h [] h' []/\v= .int .u64 rV/\R rV
def HV (x pmHiV pmLoV sV:Int) (R:Int->Prop):Prop:=EU x pmHiV (fun a c=>0<=(bits .and .i64 sV (63:Int))/\0<=(bits .and .i64 sV (63:Int))/\cnd ((u64.wrap ((Int.fdiv a (2^(min (Int.toNat (bits .and .i64 sV (63:Int))) 64)))*2^(min (Int.toNat (bits .and .i64 sV (63:Int))) 64))) != a) (0<=(bits .and .i64 sV (63:Int))/\R (bits .or .u64 (Int.fdiv a (2^(min (Int.toNat (bits .and .i64 sV (63:Int))) 64))) (1:Int))) (EU x pmLoV (fun b f=>uc (decide (c<b)) (fun d=>0<=(bits .and .i64 sV (63:Int))/\uc (decide ((u64.wrap (c-b))>(1:Int))) (fun e=>R (bits .or .u64 (Int.fdiv (u64.wrap (a-d)) (2^(min (Int.toNat (bits .and .i64 sV (63:Int))) 64))) e))))))
theorem KR {x pmHiV pmLoV sV} {R:Int->Prop} (T:HV x pmHiV pmLoV sV R):qA x pmHiV pmLoV sV R:=by
 intro h cB cO H;have Y:Sy h [] h _:=Sy.startM H rfl;apply BC;unfold KQ;unfold HV at T;refine⟨cB,cO,rfl,?_⟩;refine⟨_,Y.cellW 0 rfl 0 rfl,?_⟩;refine aj (T _ (Hp.nil _)) (fun _ _ ⟨_,_,p,_⟩=>p.fr) aH ?_;rintro v hv ⟨ra,rb,PP,rfl,T⟩;have Y:Sy _ _ hv [_]:=Y.gr PP.fr;clear PP;refine⟨ra,rb,rfl,?_⟩;refine⟨cB,cO,rfl,?_⟩;refine⟨_,Y.cellW 0 rfl 2 rfl,?_⟩;obtain⟨q_4,T⟩:=T;refine⟨q_4,?_⟩;obtain⟨q_3,T⟩:=T;refine⟨q_3,?_⟩;refine af T (fun T=>?_) (fun T=>?_)
 ·obtain⟨q,T⟩:=T;refine⟨q,?_⟩;exact⟨_,Y.pick [] rfl,rfl,T⟩
 ·refine⟨cB,cO,rfl,?_⟩;refine⟨_,Y.cellW 0 rfl 1 rfl,?_⟩;refine aj (T _ (Hp.nil _)) (fun _ _ ⟨_,_,p,_⟩=>p.fr) aH ?_;rintro v2 hv2 ⟨ra2,rb2,PP,rfl,T⟩;have Y:Sy _ _ hv2 [_]:=Y.gr PP.fr;clear PP;refine⟨ra2,rb2,rfl,?_⟩;refine aj (T _ (Hp.nil _)) (fun _ _ ⟨_,p,_⟩=>p.fr) aH ?_;rintro v3 hv3 ⟨r,PP,rfl,T⟩;have Y:Sy _ _ hv3 [_]:=Y.gr PP.fr;clear PP;refine⟨r,rfl,?_⟩;have Y0:=Y;have F:Fr [] hv3 hv3:=Fr.refl _ _;obtain⟨q_2,T⟩:=T;refine⟨q_2,?_⟩;refine aj (T _ (Hp.nil _)) (fun _ _ ⟨_,p,_⟩=>p.fr) aH ?_;rintro v4 hv4 ⟨r2,PP,rfl,T⟩;have F:Fr _ _ hv4:=F.trans PP.fr.nil;have fshv4:=F.size;have Y:Sy _ _ hv4 [_]:=Y.gr PP.fr;clear PP;refine⟨r2,rfl,?_⟩;refine⟨F,?_⟩;exact⟨_,Y.pick [] rfl,rfl,T⟩
end Go.Proofs.YtemclecmafjjfaaGreatDoor.N
