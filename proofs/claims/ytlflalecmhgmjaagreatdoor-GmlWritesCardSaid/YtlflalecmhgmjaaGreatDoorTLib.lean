/- Functions: what is left to be shown of each, over memory and without: printed by program, tied to the loaded functions by the kernel. Conditions: none. -/
import Derived.Test.YtlflalecmhgmjaaGreatDoorWEnv
import Derived.Test.YtlflalecmhgmjaaGreatDoorYGl
set_option linter.unusedVariables false
set_option linter.unusedSimpArgs false
open Go.IntKind (i64 u64 u8 i32)
namespace Go.Proofs.YtlflalecmhgmjaaGreatDoor.N
open Go.Proofs.YtlflalecmhgmjaaGreatDoor
open Go.X
set_option maxRecDepth 100000
set_option maxHeartbeats 2000000
def xB (x:Int) (R:Int->Prop):Prop:=
 ∀(h:ab),Hp h []->af Tryz.prog 240 #[.int .u64 x] h fun v h'=>∃(rV:Int),Sy h [] h' []/\v= .int .i64 rV/\R rV
def td (x y:Int) (R:Int->Int->Prop):Prop:=
 ∀(h:ab),Hp h []->af Tryz.prog 174 #[.int .u64 x,.int .u64 y] h fun v h'=>∃(raV:Int) (rbV:Int),Sy h [] h' []/\v= .tuple #[.int .u64 raV,.int .u64 rbV]/\R raV rbV
def G6 (x:Int) (h:ab) (R:VP):Prop:=0<=(18:Int)/\R (.int .i64 (Int.fdiv (i64.wrap (x*78913)) (2^(min (Int.toNat (18:Int)) 64)))) h
theorem xD {h:ab} {R:VP} (x:Int) (H:G6 x h R):af Tryz.prog 239 #[.int .i64 x] h R:=aG [] 6 [] [] [] [] Tryz.func239 (by kernel_rfl) (by kernel_rfl) H
def iM (x:Int) (R:Int->Prop):Prop:=
 ∀(h:ab),Hp h []->af Tryz.prog 239 #[.int .i64 x] h fun v h'=>∃(rV:Int),Sy h [] h' []/\v= .int .i64 rV/\R rV
def Ds (x:Int) (R:Int->Prop):Prop:=0<=(18:Int)/\R (Int.fdiv (i64.wrap (x*78913)) (2^(min (Int.toNat (18:Int)) 64)))
theorem G7 {x} {R:Int->Prop} (T:Ds x R):iM x R:=by
 intro h H;have Y:Sy h [] h _:=Sy.startM H rfl;apply xD;unfold G6;unfold Ds at T;obtain⟨q,T⟩:=T;refine⟨q,?_⟩;exact⟨_,Y.pick [] rfl,rfl,T⟩
def G8 (x:Int) (h:ab) (R:VP):Prop:=0<=(15:Int)/\R (.int .i64 (Int.fdiv (i64.wrap (x*108853)) (2^(min (Int.toNat (15:Int)) 64)))) h
theorem xE {h:ab} {R:VP} (x:Int) (H:G8 x h R):af Tryz.prog 302 #[.int .i64 x] h R:=aG [] 6 [] [] [] [] Tryz.func302 (by kernel_rfl) (by kernel_rfl) H
def xF (x:Int) (R:Int->Prop):Prop:=
 ∀(h:ab),Hp h []->af Tryz.prog 302 #[.int .i64 x] h fun v h'=>∃(rV:Int),Sy h [] h' []/\v= .int .i64 rV/\R rV
def Dt (x:Int) (R:Int->Prop):Prop:=0<=(15:Int)/\R (Int.fdiv (i64.wrap (x*108853)) (2^(min (Int.toNat (15:Int)) 64)))
theorem G9 {x} {R:Int->Prop} (T:Dt x R):xF x R:=by
 intro h H;have Y:Sy h [] h _:=Sy.startM H rfl;apply xE;unfold G8;unfold Dt at T;obtain⟨q,T⟩:=T;refine⟨q,?_⟩;exact⟨_,Y.pick [] rfl,rfl,T⟩
def Ha (ev:Int) (h:ab) (R:VP):Prop:=0<=(21:Int)/\R (.int .i64 (Int.fdiv (i64.wrap ((i64.wrap (ev*631305))-(261663:Int))) (2^(min (Int.toNat (21:Int)) 64)))) h
theorem xG {h:ab} {R:VP} (ev:Int) (H:Ha ev h R):af Tryz.prog 300 #[.int .i64 ev] h R:=aG [] 7 [] [] [] [] Tryz.func300 (by kernel_rfl) (by kernel_rfl) H
def xH (ev:Int) (R:Int->Prop):Prop:=
 ∀(h:ab),Hp h []->af Tryz.prog 300 #[.int .i64 ev] h fun v h'=>∃(rV:Int),Sy h [] h' []/\v= .int .i64 rV/\R rV
def Du (ev:Int) (R:Int->Prop):Prop:=0<=(21:Int)/\R (Int.fdiv (i64.wrap ((i64.wrap (ev*631305))-(261663:Int))) (2^(min (Int.toNat (21:Int)) 64)))
theorem Hb {ev} {R:Int->Prop} (T:Du ev R):xH ev R:=by
 intro h H;have Y:Sy h [] h _:=Sy.startM H rfl;apply xG;unfold Ha;unfold Du at T;obtain⟨q,T⟩:=T;refine⟨q,?_⟩;exact⟨_,Y.pick [] rfl,rfl,T⟩
def Hc (b:Bool) (h:ab) (R:VP):Prop:=cnd b (R (.int .i64 1) h) (R (.int .i64 0) h)
theorem xI {h:ab} {R:VP} (b:Bool) (H:Hc b h R):af Tryz.prog 241 #[.bool b] h R:=aG [] 4 [] [] [] [] Tryz.func241 (by kernel_rfl) (by kernel_rfl) H
def xJ (b:Bool) (R:Int->Prop):Prop:=
 ∀(h:ab),Hp h []->af Tryz.prog 241 #[.bool b] h fun v h'=>∃(rV:Int),Sy h [] h' []/\v= .int .i64 rV/\R rV
def Dv (b:Bool) (R:Int->Prop):Prop:=cnd b (R 1) (R 0)
theorem He {b} {R:Int->Prop} (T:Dv b R):xJ b R:=by
 intro h H;have Y:Sy h [] h _:=Sy.startM H rfl;apply xI;unfold Hc;unfold Dv at T;refine ae T (fun T=>?_) (fun T=>?_)
 ·exact⟨_,Y.pick [] rfl,rfl,T⟩
 ·exact⟨_,Y.pick [] rfl,rfl,T⟩
def Hf (b:Bool) (h:ab) (R:VP):Prop:=cnd b (R (.int .u64 1) h) (R (.int .u64 0) h)
theorem xN {h:ab} {R:VP} (b:Bool) (H:Hf b h R):af Tryz.prog 337 #[.bool b] h R:=aG [] 4 [] [] [] [] Tryz.func337 (by kernel_rfl) (by kernel_rfl) H
def pP (b:Bool) (R:Int->Prop):Prop:=
 ∀(h:ab),Hp h []->af Tryz.prog 337 #[.bool b] h fun v h'=>∃(rV:Int),Sy h [] h' []/\v= .int .u64 rV/\R rV
def Dw (b:Bool) (R:Int->Prop):Prop:=cnd b (R 1) (R 0)
theorem Hg {b} {R:Int->Prop} (T:Dw b R):pP b R:=by
 intro h H;have Y:Sy h [] h _:=Sy.startM H rfl;apply xN;unfold Hf;unfold Dw at T;refine ae T (fun T=>?_) (fun T=>?_)
 ·exact⟨_,Y.pick [] rfl,rfl,T⟩
 ·exact⟨_,Y.pick [] rfl,rfl,T⟩
def Hh (u x:Int) (h:ab) (R:VP):Prop:=R (.int .u64 (u64.wrap (u+(u64.wrap x)))) h
theorem xO {h:ab} {R:VP} (u x:Int) (H:Hh u x h R):af Tryz.prog 304 #[.int .u64 u,.int .i64 x] h R:=aG [] 9 [] [] [] [] Tryz.func304 (by kernel_rfl) (by kernel_rfl) H
def tf (u x:Int) (R:Int->Prop):Prop:=
 ∀(h:ab),Hp h []->af Tryz.prog 304 #[.int .u64 u,.int .i64 x] h fun v h'=>∃(rV:Int),Sy h [] h' []/\v= .int .u64 rV/\R rV
def Hi (u x:Int) (R:Int->Prop):Prop:=R (u64.wrap (u+(u64.wrap x)))
theorem Hj {u x} {R:Int->Prop} (T:Hi u x R):tf u x R:=by
 intro h H;have Y:Sy h [] h _:=Sy.startM H rfl;apply xO;unfold Hh;unfold Hi at T;exact⟨_,Y.pick [] rfl,rfl,T⟩
def Hk (u:Int) (h:ab) (R:VP):Prop:=0<=(2:Int)/\R (.int .u64 (Int.fdiv (u64.wrap (u+3)) (2^(min (Int.toNat (2:Int)) 64)))) h
theorem xQ {h:ab} {R:VP} (u:Int) (H:Hk u h R):af Tryz.prog 305 #[.int .u64 u] h R:=aG [] 6 [] [] [] [] Tryz.func305 (by kernel_rfl) (by kernel_rfl) H
def xS (u:Int) (R:Int->Prop):Prop:=
 ∀(h:ab),Hp h []->af Tryz.prog 305 #[.int .u64 u] h fun v h'=>∃(rV:Int),Sy h [] h' []/\v= .int .u64 rV/\R rV
def Dx (u:Int) (R:Int->Prop):Prop:=0<=(2:Int)/\R (Int.fdiv (u64.wrap (u+3)) (2^(min (Int.toNat (2:Int)) 64)))
theorem Hl {u} {R:Int->Prop} (T:Dx u R):xS u R:=by
 intro h H;have Y:Sy h [] h _:=Sy.startM H rfl;apply xQ;unfold Hk;unfold Dx at T;obtain⟨q,T⟩:=T;refine⟨q,?_⟩;exact⟨_,Y.pick [] rfl,rfl,T⟩
def Hn (u:Int) (h:ab) (R:VP):Prop:=0<=(2:Int)/\R (.int .u64 (Int.fdiv (u64.wrap (u+0)) (2^(min (Int.toNat (2:Int)) 64)))) h
theorem xU {h:ab} {R:VP} (u:Int) (H:Hn u h R):af Tryz.prog 306 #[.int .u64 u] h R:=aG [] 6 [] [] [] [] Tryz.func306 (by kernel_rfl) (by kernel_rfl) H
def xW (u:Int) (R:Int->Prop):Prop:=
 ∀(h:ab),Hp h []->af Tryz.prog 306 #[.int .u64 u] h fun v h'=>∃(rV:Int),Sy h [] h' []/\v= .int .u64 rV/\R rV
def Dy (u:Int) (R:Int->Prop):Prop:=0<=(2:Int)/\R (Int.fdiv (u64.wrap (u+0)) (2^(min (Int.toNat (2:Int)) 64)))
theorem Ho {u} {R:Int->Prop} (T:Dy u R):xW u R:=by
 intro h H;have Y:Sy h [] h _:=Sy.startM H rfl;apply xU;unfold Hn;unfold Dy at T;obtain⟨q,T⟩:=T;refine⟨q,?_⟩;exact⟨_,Y.pick [] rfl,rfl,T⟩
def Hq (u:Int) (h:ab) (R:VP):Prop:=0<=(2:Int)/\0<=(2:Int)/\R (.int .u64 (Int.fdiv (u64.wrap ((u64.wrap (u+1))+(bits .and .u64 (Int.fdiv u (2^(min (Int.toNat (2:Int)) 64))) (1:Int)))) (2^(min (Int.toNat (2:Int)) 64)))) h
theorem xX {h:ab} {R:VP} (u:Int) (H:Hq u h R):af Tryz.prog 307 #[.int .u64 u] h R:=aG [] 10 [] [] [] [] Tryz.func307 (by kernel_rfl) (by kernel_rfl) H
def xY (u:Int) (R:Int->Prop):Prop:=
 ∀(h:ab),Hp h []->af Tryz.prog 307 #[.int .u64 u] h fun v h'=>∃(rV:Int),Sy h [] h' []/\v= .int .u64 rV/\R rV
def Dz (u:Int) (R:Int->Prop):Prop:=0<=(2:Int)/\0<=(2:Int)/\R (Int.fdiv (u64.wrap ((u64.wrap (u+1))+(bits .and .u64 (Int.fdiv u (2^(min (Int.toNat (2:Int)) 64))) (1:Int)))) (2^(min (Int.toNat (2:Int)) 64)))
theorem Hr {u} {R:Int->Prop} (T:Dz u R):xY u R:=by
 intro h H;have Y:Sy h [] h _:=Sy.startM H rfl;apply xX;unfold Hq;unfold Dz at T;obtain⟨q_2,T⟩:=T;refine⟨q_2,?_⟩;obtain⟨q,T⟩:=T;refine⟨q,?_⟩;exact⟨_,Y.pick [] rfl,rfl,T⟩
def Hs (preP:Option Addr) (ev p lp:Int) (h:ab) (R:VP):Prop:=0<=(i64.wrap (p-((-348):Int)))/\(i64.wrap (p-((-348):Int)))<(696:Int)/\∃e:Int,ac h 10 (0+(Int.toNat (i64.wrap (p-((-348):Int))))*2)=some (.int .u64 e)/\∃b o,preP=some ⟨b,o,none⟩/\(∃a,ac h b o=some a)/\ar h b o=true/\let c:ab:=ak h b o (.int .u64 e);0<=(i64.wrap (p-((-348):Int)))/\(i64.wrap (p-((-348):Int)))<(696:Int)/\∃f:Int,ac c 10 ((0+(Int.toNat (i64.wrap (p-((-348):Int))))*2)+1)=some (.int .u64 f)/\∃b2 o2,preP=some ⟨b2,o2,none⟩/\(∃a,ac c b2 (o2+1)=some a)/\ar c b2 (o2+1)=true/\let d:ab:=ak c b2 (o2+1) (.int .u64 f);∃b3 o3,preP=some ⟨b3,o3,none⟩/\(∃a,ac d b3 (o3+2)=some a)/\ar d b3 (o3+2)=true/\let g:ab:=ak d b3 (o3+2) (.int .i64 (i64.wrap (0-(i64.wrap ((i64.wrap (ev+lp))+(3:Int))))));R (.tuple #[]) g
theorem xZ {h:ab} {R:VP} (preP:Option Addr) (ev p lp:Int) (H:Hs preP ev p lp h R):af Tryz.prog 301 #[.pointer preP,.int .i64 ev,.int .i64 p,.int .i64 lp] h R:=aG [] 32 [] [] [] [] Tryz.func301 (by kernel_rfl) (by kernel_rfl) H
def yb (pmHiV pmLoV sV ev p lp:Int) (R:Int->Int->Int->Prop):Prop:=
 ∀(h:ab) (gl:GL) (preB:Nat),Hp h [Ck.glob gl,Ck.ob preB 329 [.int .u64 pmHiV,.int .u64 pmLoV,.int .i64 sV]]->af Tryz.prog 301 #[.pointer (some ⟨preB,0,none⟩),.int .i64 ev,.int .i64 p,.int .i64 lp] h fun v h'=>∃(pmHiV2:Int) (pmLoV2:Int) (sV2:Int),Sy h (ao [Ck.ob preB 329 [.int .u64 pmHiV,.int .u64 pmLoV,.int .i64 sV]]) h' [Ck.ob preB 329 [.int .u64 pmHiV2,.int .u64 pmLoV2,.int .i64 sV2]]/\v= .tuple #[]/\R pmHiV2 pmLoV2 sV2
def DA (pmHiV pmLoV sV ev p lp:Int) (R:Int->Int->Int->Prop):Prop:=0<=(i64.wrap (p-((-348):Int)))/\(i64.wrap (p-((-348):Int)))<(696:Int)/\∃a:Int,tT[(Int.toNat (i64.wrap (p-((-348):Int))))*2]? =some a/\0<=(i64.wrap (p-((-348):Int)))/\(i64.wrap (p-((-348):Int)))<(696:Int)/\∃b:Int,tT[(Int.toNat (i64.wrap (p-((-348):Int))))*2+1]? =some b/\R a b (i64.wrap (0-(i64.wrap ((i64.wrap (ev+lp))+(3:Int)))))
theorem Ht {pmHiV pmLoV sV ev p lp} {R:Int->Int->Int->Prop} (T:DA pmHiV pmLoV sV ev p lp R):yb pmHiV pmLoV sV ev p lp R:=by
 intro h gl preB H;have Y:Sy h (ao [Ck.ob preB 329 [.int .u64 pmHiV,.int .u64 pmLoV,.int .i64 sV]]) h _:=Sy.startM H rfl;apply xZ;unfold Hs;unfold DA at T;obtain⟨q_3,q_4,T⟩:=T;refine⟨q_3,q_4,?_⟩;obtain⟨x_2,hx,T⟩:=T;refine⟨_,(Y.glo 0 rfl).t _ _ hx,?_⟩;refine⟨preB,0,rfl,?_⟩;refine⟨⟨_,Y.cellO 1 rfl 0 rfl⟩,Y.freeO 1 rfl _,?_⟩;intro hv;have Y:Sy _ _ hv [_,_]:=(Y.stO 1 rfl 0 _);clear_value hv;obtain⟨q,q_2,T⟩:=T;refine⟨q,q_2,?_⟩;obtain⟨x_3,hx_2,T⟩:=T;refine⟨_,(Y.glo 0 rfl).t _ _ hx_2,?_⟩;refine⟨preB,0,rfl,?_⟩;refine⟨⟨_,Y.cellO 1 rfl 1 rfl⟩,Y.freeO 1 rfl _,?_⟩;intro hv2;have Y:Sy _ _ hv2 [_,_]:=(Y.stO 1 rfl 1 _);clear_value hv2;refine⟨preB,0,rfl,?_⟩;refine⟨⟨_,Y.cellO 1 rfl 2 rfl⟩,Y.freeO 1 rfl _,?_⟩;intro hv3;have Y:Sy _ _ hv3 [_,_]:=(Y.stO 1 rfl 2 _);clear_value hv3;exact⟨_,_,_,Y.pick [1] rfl,rfl,T⟩
def Hu (x:Int) (cP:Option Addr) (h:ab) (R:VP):Prop:=∃b o,cP=some ⟨b,o,none⟩/\∃l:Int,ac h b o=some (.int .u64 l)/\ah Tryz.prog 174 #[.int .u64 x,.int .u64 l] h [] fun q d=>∃c:Int,∃f:Int,q= .tuple #[.int .u64 c,.int .u64 f]/\∃b2 o2,cP=some ⟨b2,o2,none⟩/\∃a:Int,ac d b2 (o2+2)=some (.int .i64 a)/\0<=(bits .and .i64 a (63:Int))/\0<=(bits .and .i64 a (63:Int))/\cnd ((u64.wrap ((Int.fdiv c (2^(min (Int.toNat (bits .and .i64 a (63:Int))) 64)))*2^(min (Int.toNat (bits .and .i64 a (63:Int))) 64))) != c) (0<=(bits .and .i64 a (63:Int))/\R (.int .u64 (bits .or .u64 (Int.fdiv c (2^(min (Int.toNat (bits .and .i64 a (63:Int))) 64))) (1:Int))) d) (∃b3 o3,cP=some ⟨b3,o3,none⟩/\∃m:Int,ac d b3 (o3+1)=some (.int .u64 m)/\ah Tryz.prog 174 #[.int .u64 x,.int .u64 m] d [] fun r n=>∃e:Int,∃p:Int,r= .tuple #[.int .u64 e,.int .u64 p]/\ah Tryz.prog 337 #[.bool (decide (f<e))] n [] fun s g=>∃j:Int,s= .int .u64 j/\0<=(bits .and .i64 a (63:Int))/\ah Tryz.prog 337 #[.bool (decide ((u64.wrap (f-e))>(1:Int)))] g [] fun t i=>∃k:Int,t= .int .u64 k/\Fr [] g i/\R (.int .u64 (bits .or .u64 (Int.fdiv (u64.wrap (c-j)) (2^(min (Int.toNat (bits .and .i64 a (63:Int))) 64))) k)) i)
theorem yc {h:ab} {R:VP} (x:Int) (cP:Option Addr) (H:Hu x cP h R):af Tryz.prog 303 #[.int .u64 x,.pointer cP] h R:=aG [] 59 [] [] [] [(7,⟨10,false⟩)] Tryz.func303 (by kernel_rfl) (by kernel_rfl) H
def pQ (x pmHiV pmLoV sV:Int) (R:Int->Prop):Prop:=
 ∀(h:ab) (cB cO:Nat),Hp h [Ck.vob cB cO [.int .u64 pmHiV,.int .u64 pmLoV,.int .i64 sV]]->af Tryz.prog 303 #[.int .u64 x,.pointer (some ⟨cB,cO,none⟩)] h fun v h'=>∃(rV:Int),Sy h [] h' []/\v= .int .u64 rV/\R rV
def DB (x pmHiV pmLoV sV:Int) (R:Int->Prop):Prop:=td x pmHiV (fun a c=>0<=(bits .and .i64 sV (63:Int))/\0<=(bits .and .i64 sV (63:Int))/\cnd ((u64.wrap ((Int.fdiv a (2^(min (Int.toNat (bits .and .i64 sV (63:Int))) 64)))*2^(min (Int.toNat (bits .and .i64 sV (63:Int))) 64))) != a) (0<=(bits .and .i64 sV (63:Int))/\R (bits .or .u64 (Int.fdiv a (2^(min (Int.toNat (bits .and .i64 sV (63:Int))) 64))) (1:Int))) (td x pmLoV (fun b f=>pP (decide (c<b)) (fun d=>0<=(bits .and .i64 sV (63:Int))/\pP (decide ((u64.wrap (c-b))>(1:Int))) (fun e=>R (bits .or .u64 (Int.fdiv (u64.wrap (a-d)) (2^(min (Int.toNat (bits .and .i64 sV (63:Int))) 64))) e))))))
theorem Hv {x pmHiV pmLoV sV} {R:Int->Prop} (T:DB x pmHiV pmLoV sV R):pQ x pmHiV pmLoV sV R:=by
 intro h cB cO H;have Y:Sy h [] h _:=Sy.startM H rfl;apply yc;unfold Hu;unfold DB at T;refine⟨cB,cO,rfl,?_⟩;refine⟨_,Y.cellW 0 rfl 0 rfl,?_⟩;refine aj (T _ (Hp.nil _)) (fun _ _ ⟨_,_,p,_⟩=>p.fr) aB ?_;rintro v hv ⟨ra,rb,PP,rfl,T⟩;have Y:Sy _ _ hv [_]:=Y.gr PP.fr;clear PP;refine⟨ra,rb,rfl,?_⟩;refine⟨cB,cO,rfl,?_⟩;refine⟨_,Y.cellW 0 rfl 2 rfl,?_⟩;obtain⟨q_4,T⟩:=T;refine⟨q_4,?_⟩;obtain⟨q_3,T⟩:=T;refine⟨q_3,?_⟩;refine ae T (fun T=>?_) (fun T=>?_)
 ·obtain⟨q,T⟩:=T;refine⟨q,?_⟩;exact⟨_,Y.pick [] rfl,rfl,T⟩
 ·refine⟨cB,cO,rfl,?_⟩;refine⟨_,Y.cellW 0 rfl 1 rfl,?_⟩;refine aj (T _ (Hp.nil _)) (fun _ _ ⟨_,_,p,_⟩=>p.fr) aB ?_;rintro v2 hv2 ⟨ra2,rb2,PP,rfl,T⟩;have Y:Sy _ _ hv2 [_]:=Y.gr PP.fr;clear PP;refine⟨ra2,rb2,rfl,?_⟩;refine aj (T _ (Hp.nil _)) (fun _ _ ⟨_,p,_⟩=>p.fr) aB ?_;rintro v3 hv3 ⟨r,PP,rfl,T⟩;have Y:Sy _ _ hv3 [_]:=Y.gr PP.fr;clear PP;refine⟨r,rfl,?_⟩;have Y0:=Y;have F:Fr [] hv3 hv3:=Fr.refl _ _;obtain⟨q_2,T⟩:=T;refine⟨q_2,?_⟩;refine aj (T _ (Hp.nil _)) (fun _ _ ⟨_,p,_⟩=>p.fr) aB ?_;rintro v4 hv4 ⟨r2,PP,rfl,T⟩;have F:Fr _ _ hv4:=F.trans PP.fr.nil;have fshv4:=F.size;have Y:Sy _ _ hv4 [_]:=Y.gr PP.fr;clear PP;refine⟨r2,rfl,?_⟩;refine⟨F,?_⟩;exact⟨_,Y.pick [] rfl,rfl,T⟩
end Go.Proofs.YtlflalecmhgmjaaGreatDoor.N
