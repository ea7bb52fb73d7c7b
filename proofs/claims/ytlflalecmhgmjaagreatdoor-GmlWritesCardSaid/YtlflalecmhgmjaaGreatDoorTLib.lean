/- Functions: what is left to be shown of each, over memory and without: printed by program, tied to the loaded functions by the kernel. Conditions: none. -/
import Derived.Test.YtlflalecmhgmjaaGreatDoorWEnv
import Derived.Test.YtlflalecmhgmjaaGreatDoorYGl
set_option linter.unusedVariables false
set_option linter.unusedSimpArgs false
open Go.IntKind (i64 u64 u8 i32)
namespace Go.Proofs.YtlflalecmhgmjaaGreatDoor.N
open Go.Proofs.YtlflalecmhgmjaaGreatDoor
open Go.X
set_option maxRecDepth 100000
set_option maxHeartbeats 2000000
def yl (x:Int) (R:Int->Prop):Prop:=
 ∀(h:ab),Hp h []->af Tryz.prog 240 #[.int .u64 x] h fun v h'=>∃(rV:Int),Sy h [] h' []/\v= .int .i64 rV/\R rV
def tN (x y:Int) (R:Int->Int->Prop):Prop:=
 ∀(h:ab),Hp h []->af Tryz.prog 174 #[.int .u64 x,.int .u64 y] h fun v h'=>∃(raV:Int) (rbV:Int),Sy h [] h' []/\v= .tuple #[.int .u64 raV,.int .u64 rbV]/\R raV rbV
def Hf (x:Int) (h:ab) (R:VP):Prop:=0<=(18:Int)/\R (.int .i64 (Int.fdiv (i64.wrap (x*78913)) (2^(min (Int.toNat (18:Int)) 64)))) h
theorem ym {h:ab} {R:VP} (x:Int) (H:Hf x h R):af Tryz.prog 239 #[.int .i64 x] h R:=aI [] 6 [] [] [] [] Tryz.func239 (by kernel_rfl) (by kernel_rfl) H
def ji (x:Int) (R:Int->Prop):Prop:=
 ∀(h:ab),Hp h []->af Tryz.prog 239 #[.int .i64 x] h fun v h'=>∃(rV:Int),Sy h [] h' []/\v= .int .i64 rV/\R rV
def DQ (x:Int) (R:Int->Prop):Prop:=0<=(18:Int)/\R (Int.fdiv (i64.wrap (x*78913)) (2^(min (Int.toNat (18:Int)) 64)))
theorem Hg {x} {R:Int->Prop} (T:DQ x R):ji x R:=by
 intro h H;have Y:Sy h [] h _:=Sy.startM H rfl;apply ym;unfold Hf;unfold DQ at T;obtain⟨q,T⟩:=T;refine⟨q,?_⟩;exact⟨_,Y.pick [] rfl,rfl,T⟩
def Hh (x:Int) (h:ab) (R:VP):Prop:=0<=(15:Int)/\R (.int .i64 (Int.fdiv (i64.wrap (x*108853)) (2^(min (Int.toNat (15:Int)) 64)))) h
theorem yn {h:ab} {R:VP} (x:Int) (H:Hh x h R):af Tryz.prog 302 #[.int .i64 x] h R:=aI [] 6 [] [] [] [] Tryz.func302 (by kernel_rfl) (by kernel_rfl) H
def yo (x:Int) (R:Int->Prop):Prop:=
 ∀(h:ab),Hp h []->af Tryz.prog 302 #[.int .i64 x] h fun v h'=>∃(rV:Int),Sy h [] h' []/\v= .int .i64 rV/\R rV
def DR (x:Int) (R:Int->Prop):Prop:=0<=(15:Int)/\R (Int.fdiv (i64.wrap (x*108853)) (2^(min (Int.toNat (15:Int)) 64)))
theorem Hi {x} {R:Int->Prop} (T:DR x R):yo x R:=by
 intro h H;have Y:Sy h [] h _:=Sy.startM H rfl;apply yn;unfold Hh;unfold DR at T;obtain⟨q,T⟩:=T;refine⟨q,?_⟩;exact⟨_,Y.pick [] rfl,rfl,T⟩
def Hj (ev:Int) (h:ab) (R:VP):Prop:=0<=(21:Int)/\R (.int .i64 (Int.fdiv (i64.wrap ((i64.wrap (ev*631305))-(261663:Int))) (2^(min (Int.toNat (21:Int)) 64)))) h
theorem yp {h:ab} {R:VP} (ev:Int) (H:Hj ev h R):af Tryz.prog 300 #[.int .i64 ev] h R:=aI [] 7 [] [] [] [] Tryz.func300 (by kernel_rfl) (by kernel_rfl) H
def yq (ev:Int) (R:Int->Prop):Prop:=
 ∀(h:ab),Hp h []->af Tryz.prog 300 #[.int .i64 ev] h fun v h'=>∃(rV:Int),Sy h [] h' []/\v= .int .i64 rV/\R rV
def DS (ev:Int) (R:Int->Prop):Prop:=0<=(21:Int)/\R (Int.fdiv (i64.wrap ((i64.wrap (ev*631305))-(261663:Int))) (2^(min (Int.toNat (21:Int)) 64)))
theorem Hk {ev} {R:Int->Prop} (T:DS ev R):yq ev R:=by
 intro h H;have Y:Sy h [] h _:=Sy.startM H rfl;apply yp;unfold Hj;unfold DS at T;obtain⟨q,T⟩:=T;refine⟨q,?_⟩;exact⟨_,Y.pick [] rfl,rfl,T⟩
def Hl (b:Bool) (h:ab) (R:VP):Prop:=cnd b (R (.int .i64 1) h) (R (.int .i64 0) h)
theorem yr {h:ab} {R:VP} (b:Bool) (H:Hl b h R):af Tryz.prog 241 #[.bool b] h R:=aI [] 4 [] [] [] [] Tryz.func241 (by kernel_rfl) (by kernel_rfl) H
def yt (b:Bool) (R:Int->Prop):Prop:=
 ∀(h:ab),Hp h []->af Tryz.prog 241 #[.bool b] h fun v h'=>∃(rV:Int),Sy h [] h' []/\v= .int .i64 rV/\R rV
def DT (b:Bool) (R:Int->Prop):Prop:=cnd b (R 1) (R 0)
theorem Hn {b} {R:Int->Prop} (T:DT b R):yt b R:=by
 intro h H;have Y:Sy h [] h _:=Sy.startM H rfl;apply yr;unfold Hl;unfold DT at T;refine ae T (fun T=>?_) (fun T=>?_)
 ·exact⟨_,Y.pick [] rfl,rfl,T⟩
 ·exact⟨_,Y.pick [] rfl,rfl,T⟩
def Ho (b:Bool) (h:ab) (R:VP):Prop:=cnd b (R (.int .u64 1) h) (R (.int .u64 0) h)
theorem yu {h:ab} {R:VP} (b:Bool) (H:Ho b h R):af Tryz.prog 337 #[.bool b] h R:=aI [] 4 [] [] [] [] Tryz.func337 (by kernel_rfl) (by kernel_rfl) H
def qj (b:Bool) (R:Int->Prop):Prop:=
 ∀(h:ab),Hp h []->af Tryz.prog 337 #[.bool b] h fun v h'=>∃(rV:Int),Sy h [] h' []/\v= .int .u64 rV/\R rV
def DU (b:Bool) (R:Int->Prop):Prop:=cnd b (R 1) (R 0)
theorem Hq {b} {R:Int->Prop} (T:DU b R):qj b R:=by
 intro h H;have Y:Sy h [] h _:=Sy.startM H rfl;apply yu;unfold Ho;unfold DU at T;refine ae T (fun T=>?_) (fun T=>?_)
 ·exact⟨_,Y.pick [] rfl,rfl,T⟩
 ·exact⟨_,Y.pick [] rfl,rfl,T⟩
def Hr (u x:Int) (h:ab) (R:VP):Prop:=R (.int .u64 (u64.wrap (u+(u64.wrap x)))) h
theorem yv {h:ab} {R:VP} (u x:Int) (H:Hr u x h R):af Tryz.prog 304 #[.int .u64 u,.int .i64 x] h R:=aI [] 9 [] [] [] [] Tryz.func304 (by kernel_rfl) (by kernel_rfl) H
def tQ (u x:Int) (R:Int->Prop):Prop:=
 ∀(h:ab),Hp h []->af Tryz.prog 304 #[.int .u64 u,.int .i64 x] h fun v h'=>∃(rV:Int),Sy h [] h' []/\v= .int .u64 rV/\R rV
def Hs (u x:Int) (R:Int->Prop):Prop:=R (u64.wrap (u+(u64.wrap x)))
theorem Ht {u x} {R:Int->Prop} (T:Hs u x R):tQ u x R:=by
 intro h H;have Y:Sy h [] h _:=Sy.startM H rfl;apply yv;unfold Hr;unfold Hs at T;exact⟨_,Y.pick [] rfl,rfl,T⟩
def Hu (u:Int) (h:ab) (R:VP):Prop:=0<=(2:Int)/\R (.int .u64 (Int.fdiv (u64.wrap (u+3)) (2^(min (Int.toNat (2:Int)) 64)))) h
theorem yw {h:ab} {R:VP} (u:Int) (H:Hu u h R):af Tryz.prog 305 #[.int .u64 u] h R:=aI [] 6 [] [] [] [] Tryz.func305 (by kernel_rfl) (by kernel_rfl) H
def yy (u:Int) (R:Int->Prop):Prop:=
 ∀(h:ab),Hp h []->af Tryz.prog 305 #[.int .u64 u] h fun v h'=>∃(rV:Int),Sy h [] h' []/\v= .int .u64 rV/\R rV
def DV (u:Int) (R:Int->Prop):Prop:=0<=(2:Int)/\R (Int.fdiv (u64.wrap (u+3)) (2^(min (Int.toNat (2:Int)) 64)))
theorem Hv {u} {R:Int->Prop} (T:DV u R):yy u R:=by
 intro h H;have Y:Sy h [] h _:=Sy.startM H rfl;apply yw;unfold Hu;unfold DV at T;obtain⟨q,T⟩:=T;refine⟨q,?_⟩;exact⟨_,Y.pick [] rfl,rfl,T⟩
def Hx (u:Int) (h:ab) (R:VP):Prop:=0<=(2:Int)/\R (.int .u64 (Int.fdiv (u64.wrap (u+0)) (2^(min (Int.toNat (2:Int)) 64)))) h
theorem yz {h:ab} {R:VP} (u:Int) (H:Hx u h R):af Tryz.prog 306 #[.int .u64 u] h R:=aI [] 6 [] [] [] [] Tryz.func306 (by kernel_rfl) (by kernel_rfl) H
def yA (u:Int) (R:Int->Prop):Prop:=
 ∀(h:ab),Hp h []->af Tryz.prog 306 #[.int .u64 u] h fun v h'=>∃(rV:Int),Sy h [] h' []/\v= .int .u64 rV/\R rV
def DW (u:Int) (R:Int->Prop):Prop:=0<=(2:Int)/\R (Int.fdiv (u64.wrap (u+0)) (2^(min (Int.toNat (2:Int)) 64)))
theorem Hy {u} {R:Int->Prop} (T:DW u R):yA u R:=by
 intro h H;have Y:Sy h [] h _:=Sy.startM H rfl;apply yz;unfold Hx;unfold DW at T;obtain⟨q,T⟩:=T;refine⟨q,?_⟩;exact⟨_,Y.pick [] rfl,rfl,T⟩
def Hz (u:Int) (h:ab) (R:VP):Prop:=0<=(2:Int)/\0<=(2:Int)/\R (.int .u64 (Int.fdiv (u64.wrap ((u64.wrap (u+1))+(bits .and .u64 (Int.fdiv u (2^(min (Int.toNat (2:Int)) 64))) (1:Int)))) (2^(min (Int.toNat (2:Int)) 64)))) h
theorem yB {h:ab} {R:VP} (u:Int) (H:Hz u h R):af Tryz.prog 307 #[.int .u64 u] h R:=aI [] 10 [] [] [] [] Tryz.func307 (by kernel_rfl) (by kernel_rfl) H
def yC (u:Int) (R:Int->Prop):Prop:=
 ∀(h:ab),Hp h []->af Tryz.prog 307 #[.int .u64 u] h fun v h'=>∃(rV:Int),Sy h [] h' []/\v= .int .u64 rV/\R rV
def DX (u:Int) (R:Int->Prop):Prop:=0<=(2:Int)/\0<=(2:Int)/\R (Int.fdiv (u64.wrap ((u64.wrap (u+1))+(bits .and .u64 (Int.fdiv u (2^(min (Int.toNat (2:Int)) 64))) (1:Int)))) (2^(min (Int.toNat (2:Int)) 64)))
theorem HB {u} {R:Int->Prop} (T:DX u R):yC u R:=by
 intro h H;have Y:Sy h [] h _:=Sy.startM H rfl;apply yB;unfold Hz;unfold DX at T;obtain⟨q_2,T⟩:=T;refine⟨q_2,?_⟩;obtain⟨q,T⟩:=T;refine⟨q,?_⟩;exact⟨_,Y.pick [] rfl,rfl,T⟩
def HC (preP:Option Addr) (ev p lp:Int) (h:ab) (R:VP):Prop:=0<=(i64.wrap (p-((-348):Int)))/\(i64.wrap (p-((-348):Int)))<(696:Int)/\∃e:Int,ac h 10 (0+(Int.toNat (i64.wrap (p-((-348):Int))))*2)=some (.int .u64 e)/\∃b o,preP=some ⟨b,o,none⟩/\(∃a,ac h b o=some a)/\ar h b o=true/\let c:ab:=ak h b o (.int .u64 e);0<=(i64.wrap (p-((-348):Int)))/\(i64.wrap (p-((-348):Int)))<(696:Int)/\∃f:Int,ac c 10 ((0+(Int.toNat (i64.wrap (p-((-348):Int))))*2)+1)=some (.int .u64 f)/\∃b2 o2,preP=some ⟨b2,o2,none⟩/\(∃a,ac c b2 (o2+1)=some a)/\ar c b2 (o2+1)=true/\let d:ab:=ak c b2 (o2+1) (.int .u64 f);∃b3 o3,preP=some ⟨b3,o3,none⟩/\(∃a,ac d b3 (o3+2)=some a)/\ar d b3 (o3+2)=true/\let g:ab:=ak d b3 (o3+2) (.int .i64 (i64.wrap (0-(i64.wrap ((i64.wrap (ev+lp))+(3:Int))))));R (.tuple #[]) g
theorem yD {h:ab} {R:VP} (preP:Option Addr) (ev p lp:Int) (H:HC preP ev p lp h R):af Tryz.prog 301 #[.pointer preP,.int .i64 ev,.int .i64 p,.int .i64 lp] h R:=aI [] 32 [] [] [] [] Tryz.func301 (by kernel_rfl) (by kernel_rfl) H
def yE (pmHiV pmLoV sV ev p lp:Int) (R:Int->Int->Int->Prop):Prop:=
 ∀(h:ab) (gl:GL) (preB:Nat),Hp h [Ck.glob gl,Ck.ob preB 329 [.int .u64 pmHiV,.int .u64 pmLoV,.int .i64 sV]]->af Tryz.prog 301 #[.pointer (some ⟨preB,0,none⟩),.int .i64 ev,.int .i64 p,.int .i64 lp] h fun v h'=>∃(pmHiV2:Int) (pmLoV2:Int) (sV2:Int),Sy h (ao [Ck.ob preB 329 [.int .u64 pmHiV,.int .u64 pmLoV,.int .i64 sV]]) h' [Ck.ob preB 329 [.int .u64 pmHiV2,.int .u64 pmLoV2,.int .i64 sV2]]/\v= .tuple #[]/\R pmHiV2 pmLoV2 sV2
def DY (pmHiV pmLoV sV ev p lp:Int) (R:Int->Int->Int->Prop):Prop:=0<=(i64.wrap (p-((-348):Int)))/\(i64.wrap (p-((-348):Int)))<(696:Int)/\∃a:Int,tT[(Int.toNat (i64.wrap (p-((-348):Int))))*2]? =some a/\0<=(i64.wrap (p-((-348):Int)))/\(i64.wrap (p-((-348):Int)))<(696:Int)/\∃b:Int,tT[(Int.toNat (i64.wrap (p-((-348):Int))))*2+1]? =some b/\R a b (i64.wrap (0-(i64.wrap ((i64.wrap (ev+lp))+(3:Int)))))
theorem HD {pmHiV pmLoV sV ev p lp} {R:Int->Int->Int->Prop} (T:DY pmHiV pmLoV sV ev p lp R):yE pmHiV pmLoV sV ev p lp R:=by
 intro h gl preB H;have Y:Sy h (ao [Ck.ob preB 329 [.int .u64 pmHiV,.int .u64 pmLoV,.int .i64 sV]]) h _:=Sy.startM H rfl;apply yD;unfold HC;unfold DY at T;obtain⟨q_3,q_4,T⟩:=T;refine⟨q_3,q_4,?_⟩;obtain⟨x_2,hx,T⟩:=T;refine⟨_,(Y.glo 0 rfl).t _ _ hx,?_⟩;refine⟨preB,0,rfl,?_⟩;refine⟨⟨_,Y.cellO 1 rfl 0 rfl⟩,Y.freeO 1 rfl _,?_⟩;intro hv;have Y:Sy _ _ hv [_,_]:=(Y.stO 1 rfl 0 _);clear_value hv;obtain⟨q,q_2,T⟩:=T;refine⟨q,q_2,?_⟩;obtain⟨x_3,hx_2,T⟩:=T;refine⟨_,(Y.glo 0 rfl).t _ _ hx_2,?_⟩;refine⟨preB,0,rfl,?_⟩;refine⟨⟨_,Y.cellO 1 rfl 1 rfl⟩,Y.freeO 1 rfl _,?_⟩;intro hv2;have Y:Sy _ _ hv2 [_,_]:=(Y.stO 1 rfl 1 _);clear_value hv2;refine⟨preB,0,rfl,?_⟩;refine⟨⟨_,Y.cellO 1 rfl 2 rfl⟩,Y.freeO 1 rfl _,?_⟩;intro hv3;have Y:Sy _ _ hv3 [_,_]:=(Y.stO 1 rfl 2 _);clear_value hv3;exact⟨_,_,_,Y.pick [1] rfl,rfl,T⟩
def HE (x:Int) (cP:Option Addr) (h:ab) (R:VP):Prop:=∃b o,cP=some ⟨b,o,none⟩/\∃l:Int,ac h b o=some (.int .u64 l)/\ah Tryz.prog 174 #[.int .u64 x,.int .u64 l] h [] fun q d=>∃c:Int,∃f:Int,q= .tuple #[.int .u64 c,.int .u64 f]/\∃b2 o2,cP=some ⟨b2,o2,none⟩/\∃a:Int,ac d b2 (o2+2)=some (.int .i64 a)/\0<=(bits .and .i64 a (63:Int))/\0<=(bits .and .i64 a (63:Int))/\cnd ((u64.wrap ((Int.fdiv c (2^(min (Int.toNat (bits .and .i64 a (63:Int))) 64)))*2^(min (Int.toNat (bits .and .i64 a (63:Int))) 64))) != c) (0<=(bits .and .i64 a (63:Int))/\R (.int .u64 (bits .or .u64 (Int.fdiv c (2^(min (Int.toNat (bits .and .i64 a (63:Int))) 64))) (1:Int))) d) (∃b3 o3,cP=some ⟨b3,o3,none⟩/\∃m:Int,ac d b3 (o3+1)=some (.int .u64 m)/\ah Tryz.prog 174 #[.int .u64 x,.int .u64 m] d [] fun r n=>∃e:Int,∃p:Int,r= .tuple #[.int .u64 e,.int .u64 p]/\ah Tryz.prog 337 #[.bool (decide (f<e))] n [] fun s g=>∃j:Int,s= .int .u64 j/\0<=(bits .and .i64 a (63:Int))/\ah Tryz.prog 337 #[.bool (decide ((u64.wrap (f-e))>(1:Int)))] g [] fun t i=>∃k:Int,t= .int .u64 k/\Fr [] g i/\R (.int .u64 (bits .or .u64 (Int.fdiv (u64.wrap (c-j)) (2^(min (Int.toNat (bits .and .i64 a (63:Int))) 64))) k)) i)
theorem yF {h:ab} {R:VP} (x:Int) (cP:Option Addr) (H:HE x cP h R):af Tryz.prog 303 #[.int .u64 x,.pointer cP] h R:=aI [] 59 [] [] [] [(7,⟨10,false⟩)] Tryz.func303 (by kernel_rfl) (by kernel_rfl) H
def qk (x pmHiV pmLoV sV:Int) (R:Int->Prop):Prop:=
 ∀(h:ab) (cB cO:Nat),Hp h [Ck.vob cB cO [.int .u64 pmHiV,.int .u64 pmLoV,.int .i64 sV]]->af Tryz.prog 303 #[.int .u64 x,.pointer (some ⟨cB,cO,none⟩)] h fun v h'=>∃(rV:Int),Sy h [] h' []/\v= .int .u64 rV/\R rV
def DZ (x pmHiV pmLoV sV:Int) (R:Int->Prop):Prop:=tN x pmHiV (fun a c=>0<=(bits .and .i64 sV (63:Int))/\0<=(bits .and .i64 sV (63:Int))/\cnd ((u64.wrap ((Int.fdiv a (2^(min (Int.toNat (bits .and .i64 sV (63:Int))) 64)))*2^(min (Int.toNat (bits .and .i64 sV (63:Int))) 64))) != a) (0<=(bits .and .i64 sV (63:Int))/\R (bits .or .u64 (Int.fdiv a (2^(min (Int.toNat (bits .and .i64 sV (63:Int))) 64))) (1:Int))) (tN x pmLoV (fun b f=>qj (decide (c<b)) (fun d=>0<=(bits .and .i64 sV (63:Int))/\qj (decide ((u64.wrap (c-b))>(1:Int))) (fun e=>R (bits .or .u64 (Int.fdiv (u64.wrap (a-d)) (2^(min (Int.toNat (bits .and .i64 sV (63:Int))) 64))) e))))))
theorem HF {x pmHiV pmLoV sV} {R:Int->Prop} (T:DZ x pmHiV pmLoV sV R):qk x pmHiV pmLoV sV R:=by
 intro h cB cO H;have Y:Sy h [] h _:=Sy.startM H rfl;apply yF;unfold HE;unfold DZ at T;refine⟨cB,cO,rfl,?_⟩;refine⟨_,Y.cellW 0 rfl 0 rfl,?_⟩;refine aj (T _ (Hp.nil _)) (fun _ _ ⟨_,_,p,_⟩=>p.fr) aF ?_;rintro v hv ⟨ra,rb,PP,rfl,T⟩;have Y:Sy _ _ hv [_]:=Y.gr PP.fr;clear PP;refine⟨ra,rb,rfl,?_⟩;refine⟨cB,cO,rfl,?_⟩;refine⟨_,Y.cellW 0 rfl 2 rfl,?_⟩;obtain⟨q_4,T⟩:=T;refine⟨q_4,?_⟩;obtain⟨q_3,T⟩:=T;refine⟨q_3,?_⟩;refine ae T (fun T=>?_) (fun T=>?_)
 ·obtain⟨q,T⟩:=T;refine⟨q,?_⟩;exact⟨_,Y.pick [] rfl,rfl,T⟩
 ·refine⟨cB,cO,rfl,?_⟩;refine⟨_,Y.cellW 0 rfl 1 rfl,?_⟩;refine aj (T _ (Hp.nil _)) (fun _ _ ⟨_,_,p,_⟩=>p.fr) aF ?_;rintro v2 hv2 ⟨ra2,rb2,PP,rfl,T⟩;have Y:Sy _ _ hv2 [_]:=Y.gr PP.fr;clear PP;refine⟨ra2,rb2,rfl,?_⟩;refine aj (T _ (Hp.nil _)) (fun _ _ ⟨_,p,_⟩=>p.fr) aF ?_;rintro v3 hv3 ⟨r,PP,rfl,T⟩;have Y:Sy _ _ hv3 [_]:=Y.gr PP.fr;clear PP;refine⟨r,rfl,?_⟩;have Y0:=Y;have F:Fr [] hv3 hv3:=Fr.refl _ _;obtain⟨q_2,T⟩:=T;refine⟨q_2,?_⟩;refine aj (T _ (Hp.nil _)) (fun _ _ ⟨_,p,_⟩=>p.fr) aF ?_;rintro v4 hv4 ⟨r2,PP,rfl,T⟩;have F:Fr _ _ hv4:=F.trans PP.fr.nil;have fshv4:=F.size;have Y:Sy _ _ hv4 [_]:=Y.gr PP.fr;clear PP;refine⟨r2,rfl,?_⟩;refine⟨F,?_⟩;exact⟨_,Y.pick [] rfl,rfl,T⟩
end Go.Proofs.YtlflalecmhgmjaaGreatDoor.N
