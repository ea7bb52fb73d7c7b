/- Functions: what is left to be shown of each, over memory and without: printed by program, tied to the loaded functions by the kernel. Conditions: none. -/
import Derived.Test.YtlflalecmhgmjaaGreatDoorWEnv
import Derived.Test.YtlflalecmhgmjaaGreatDoorSWr
import Derived.Test.YtlflalecmhgmjaaGreatDoorTLib
import Derived.Test.YtlflalecmhgmjaaGreatDoorTFmt
set_option linter.unusedVariables false
set_option linter.unusedSimpArgs false
open Go.IntKind (i64 u64 u8 i32)
namespace Go.Proofs.YtlflalecmhgmjaaGreatDoor.N
open Go.Proofs.YtlflalecmhgmjaaGreatDoor
open Go.X
set_option maxRecDepth 100000
set_option maxHeartbeats 2000000
def Em (x:Nat) (R:Nat->Prop):Prop:=
 ∀(h:ab),Hp h []->ae Tryz.prog 146 #[.float .f64 x] h fun v h'=>∃(rV:Nat),Sy h [] h' []/\v= .float .f64 rV/\R rV
def Eo (f:Nat) (sign:Int) (h:ab) (R:VP):Prop:=∃a:LP,(cnd (sign==0) (ai Tryz.prog 146 #[.float .f64 f] h [] fun k j=>∃i:Nat,k= .float .f64 i/\a [.float .f64 i] j) (∃b:LP,(cnd (decide (sign<0)) (b [.float .f64 (Op.negFloat .f64 f)] h) (b [.float .f64 f] h))/\∀c:Nat,∀e,b [.float .f64 c] e->a [.float .f64 c] e))/\∀d:Nat,∀g,a [.float .f64 d] g->R (.bool ((FloatKind.f64).format.order d 9218868437227405311==some .gt)) g
theorem wG {h:ab} {R:VP} (f:Nat) (sign:Int) (H:Eo f sign h R):ae Tryz.prog 106 #[.float .f64 f,.int .i64 sign] h R:=aR [] 15 [] [(6,⟨[],[0],[],[]⟩),(10,⟨[],[0],[],[]⟩)] [] [] Tryz.func106 (by kernel_rfl) (by kernel_rfl) H
def lP (f:Nat) (sign:Int) (R:Bool->Prop):Prop:=
 ∀(h:ab),Hp h []->ae Tryz.prog 106 #[.float .f64 f,.int .i64 sign] h fun v h'=>∃(rV:Bool),Sy h [] h' []/\v= .bool rV/\R rV
def yZ (f:Nat) (sign:Int) (R:Bool->Prop):Prop:=∃a:Nat->Prop,(cnd (sign==0) (Em f (fun e=>a e)) (∃b:Nat->Prop,(cnd (decide (sign<0)) (b (Op.negFloat .f64 f)) (b f))/\∀c:Nat,b c->a c))/\∀d:Nat,a d->R ((FloatKind.f64).format.order d 9218868437227405311==some .gt)
theorem Af {f sign} {R:Bool->Prop} (T:yZ f sign R):lP f sign R:=by
 intro h H;have Y:Sy h [] h _:=Sy.startM H rfl;apply wG;unfold Eo;unfold yZ at T;obtain⟨Jv,T0,T1⟩:=T;obtain⟨B,hB,_⟩:=Y.cut [] [] rfl;refine⟨fun lz h'=>∃(f3:Nat),lz=[.float .f64 f3]/\Sy h [] h' ([]++B)/\Jv f3,?_,?_⟩
 ·subst hB;replace T:=T0;clear T0 T1;refine aj T (fun T=>?_) (fun T=>?_)
  ·refine au (T _ (Hp.nil _)) (fun _ _ ⟨_,p,_⟩=>p.fr) bj ?_;rintro v hv ⟨r,PP,rfl,T⟩;have Y:Sy _ _ hv []:=Y.gr PP.fr;clear PP;refine⟨r,rfl,?_⟩;exact⟨_,rfl,Y.pick [] rfl,T⟩
  ·obtain⟨Jv2,T0,T1⟩:=T;obtain⟨B_2,hB_2,_⟩:=Y.cut [] [] rfl;refine⟨fun lz h'=>∃(f2:Nat),lz=[.float .f64 f2]/\Sy h [] h' ([]++B_2)/\Jv2 f2,?_,?_⟩
   ·subst hB_2;replace T:=T0;clear T0 T1;refine aj T (fun T=>?_) (fun T=>?_)
    ·exact⟨_,rfl,Y.pick [] rfl,T⟩
    ·exact⟨_,rfl,Y.pick [] rfl,T⟩
   ·subst hB_2;clear T0 Y;rintro f2 hv2 ⟨f2,e,Y,T⟩;cases e;replace T:=T1 f2 T;have Y:Sy _ _ _ []:=Y;exact⟨_,rfl,Y.pick [] rfl,T⟩
 ·subst hB;clear T0 Y;rintro f3 hv3 ⟨f3,e,Y,T⟩;cases e;replace T:=T1 f3 T;have Y:Sy _ _ _ []:=Y;exact⟨_,Y.pick [] rfl,rfl,T⟩
def S55 (x:Nat) (h:ab) (R:VP):Prop:=cnd ((FloatKind.f64).format.order x x != some .eq) (R (.string ⟨#[78,97,78]⟩) h) (ai Tryz.prog 106 #[.float .f64 x,.int .i64 1] h [] fun m c=>∃g:Bool,m= .bool g/\cnd g (R (.string ⟨#[73,78,70]⟩) c) (ai Tryz.prog 106 #[.float .f64 x,.int .i64 (-1)] c [] fun n d=>∃i:Bool,n= .bool i/\cnd i (R (.string ⟨#[45,73,78,70]⟩) d) (ai Tryz.prog 107 #[.float .f64 x,.int .u8 103,.int .i64 (-1),.int .i64 64] d [] fun o l=>∃a:ByteArray,o= .string a/\ai Tryz.prog 108 #[.string a,.string ⟨#[46,101]⟩] l [] fun p e=>∃j:Bool,p= .bool j/\∃b:LP,(cnd (!j) ((((a.size+(⟨#[46,48]⟩:ByteArray).size:Nat)):Int)<=9223372036854775807/\b [.string (a++(⟨#[46,48]⟩:ByteArray))] e) (b [.string a] e))/\∀k:ByteArray,∀f,b [.string k] f->R (.string k) f)))
theorem y8 {h:ab} {R:VP} (x:Nat) (H:S55 x h R):ae Tryz.prog 55 #[.float .f64 x] h R:=aR [] 22 [] [(18,⟨[],[3],[],[]⟩)] [] [] Tryz.func55 (by kernel_rfl) (by kernel_rfl) H
def Ep (x:Nat) (R:ByteArray->Prop):Prop:=
 ∀(h:ab) (gl:GL),Hp h [Ck.glob gl]->ae Tryz.prog 55 #[.float .f64 x] h fun v h'=>∃(rV:ByteArray),Sy h [] h' []/\v= .string rV/\R rV
def T55 (x:Nat) (R:ByteArray->Prop):Prop:=cnd ((FloatKind.f64).format.order x x != some .eq) (R (⟨#[78,97,78]⟩:ByteArray)) (lP x 1 (fun d=>cnd d (R (⟨#[73,78,70]⟩:ByteArray)) (lP x (-1) (fun e=>cnd e (R (⟨#[45,73,78,70]⟩:ByteArray)) (sN x 103 (-1) 64 (fun a=>Ad a (⟨#[46,101]⟩:ByteArray) (fun f=>∃b:ByteArray->Prop,(cnd (!f) ((((a.size+(⟨#[46,48]⟩:ByteArray).size:Nat)):Int)<=9223372036854775807/\b (a++(⟨#[46,48]⟩:ByteArray))) (b a))/\∀c:ByteArray,b c->R c)))))))
theorem Fe {x} {R:ByteArray->Prop} (T:T55 x R):Ep x R:=by
 intro h gl H;have Y:Sy h [] h _:=Sy.startM H rfl;apply y8;unfold S55;unfold T55 at T;refine aj T (fun T=>?_) (fun T=>?_)
 ·exact⟨_,Y.pick [] rfl,rfl,T⟩
 ·refine au (T _ (Hp.nil _)) (fun _ _ ⟨_,p,_⟩=>p.fr) bj ?_;rintro v hv ⟨r,PP,rfl,T⟩;have Y:Sy _ _ hv [_]:=Y.gr PP.fr;clear PP;refine⟨r,rfl,?_⟩;refine aj T (fun T=>?_) (fun T=>?_)
  ·exact⟨_,Y.pick [] rfl,rfl,T⟩
  ·refine au (T _ (Hp.nil _)) (fun _ _ ⟨_,p,_⟩=>p.fr) bj ?_;rintro v2 hv2 ⟨r2,PP,rfl,T⟩;have Y:Sy _ _ hv2 [_]:=Y.gr PP.fr;clear PP;refine⟨r2,rfl,?_⟩;refine aj T (fun T=>?_) (fun T=>?_)
   ·exact⟨_,Y.pick [] rfl,rfl,T⟩
   ·refine au (T _ _ (Y.pick [0] rfl).hp) (fun _ _ ⟨_,p,_⟩=>p.fr) bj ?_;rintro v3 hv3 ⟨r3,PP,rfl,T⟩;have Y:Sy _ _ hv3 [_]:=Y.gr PP.fr;clear PP;refine⟨r3,rfl,?_⟩;refine au (T _ (Hp.nil _)) (fun _ _ ⟨_,p,_⟩=>p.fr) bj ?_;rintro v4 hv4 ⟨r4,PP,rfl,T⟩;have Y:Sy _ _ hv4 [_]:=Y.gr PP.fr;clear PP;refine⟨r4,rfl,?_⟩;obtain⟨Jv,T0,T1⟩:=T;obtain⟨B,hB,_⟩:=Y.cut [] [0] rfl;refine⟨fun lz h'=>∃(s:ByteArray),lz=[.string s]/\Sy h [] h' ([]++B)/\Jv s,?_,?_⟩
    ·subst hB;replace T:=T0;clear T0 T1;refine aj T (fun T=>?_) (fun T=>?_)
     ·obtain⟨q,T⟩:=T;refine⟨q,?_⟩;exact⟨_,rfl,Y.pick [0] rfl,T⟩
     ·exact⟨_,rfl,Y.pick [0] rfl,T⟩
    ·subst hB;clear T0 Y;rintro s hv5 ⟨s,e,Y,T⟩;cases e;replace T:=T1 s T;have Y:Sy _ _ _ [_]:=Y;exact⟨_,Y.pick [] rfl,rfl,T⟩
def S70 (x:Nat) (h:ab) (R:VP):Prop:=cnd ((FloatKind.f64).format.order x x != some .eq) (R (.string ⟨#[78,97,78]⟩) h) (ai Tryz.prog 106 #[.float .f64 x,.int .i64 1] h [] fun n e=>∃i:Bool,n= .bool i/\cnd i (R (.string ⟨#[73,78,70]⟩) e) (ai Tryz.prog 106 #[.float .f64 x,.int .i64 (-1)] e [] fun o f=>∃j:Bool,o= .bool j/\cnd j (R (.string ⟨#[45,73,78,70]⟩) f) (ai Tryz.prog 107 #[.float .f64 x,.int .u8 103,.int .i64 (-1),.int .i64 64] f [] fun p m=>∃b:ByteArray,p= .string b/\∃(d:LP) (g:List Value->ab->Nat),d [.int .i64 0] m/\∀a:Int,∀c,d [.int .i64 a] c->cnd (decide (a<(b.size:Int))) (0<=a/\a<(b.size:Int)/\∃k:UInt8,b[Int.toNat a]? =some k/\cnd ((UInt8.toNat k:Int)==(46:Int)) (R (.string b) c) (0<=a/\a<(b.size:Int)/\∃l:UInt8,b[Int.toNat a]? =some l/\cnd ((UInt8.toNat l:Int)==(101:Int)) (R (.string b) c) (d [.int .i64 (i64.wrap (a+1))] c/\g [.int .i64 (i64.wrap (a+1))] c<g [.int .i64 a] c))) ((((b.size+(⟨#[46,48]⟩:ByteArray).size:Nat)):Int)<=9223372036854775807/\R (.string (b++(⟨#[46,48]⟩:ByteArray))) c))))
theorem y9 {h:ab} {R:VP} (x:Nat) (H:S70 x h R):ae Tryz.prog 70 #[.float .f64 x] h R:=aR [] 36 [(1,⟨[3],[4],[],[]⟩)] [] [] [] Tryz.func70 (by kernel_rfl) (by kernel_rfl) H
def Et (x:Nat) (R:ByteArray->Prop):Prop:=
 ∀(h:ab) (gl:GL),Hp h [Ck.glob gl]->ae Tryz.prog 70 #[.float .f64 x] h fun v h'=>∃(rV:ByteArray),Sy h [] h' []/\v= .string rV/\R rV
def T70 (x:Nat) (R:ByteArray->Prop):Prop:=cnd ((FloatKind.f64).format.order x x != some .eq) (R (⟨#[78,97,78]⟩:ByteArray)) (lP x 1 (fun g=>cnd g (R (⟨#[73,78,70]⟩:ByteArray)) (lP x (-1) (fun h=>cnd h (R (⟨#[45,73,78,70]⟩:ByteArray)) (sN x 103 (-1) 64 (fun b=>∃(c:Int->Prop) (d:Int->Nat),c 0/\∀a:Int,c a->cnd (decide (a<(b.size:Int))) (0<=a/\a<(b.size:Int)/\∃e:UInt8,b[Int.toNat a]? =some e/\cnd ((UInt8.toNat e:Int)==(46:Int)) (R b) (0<=a/\a<(b.size:Int)/\∃f:UInt8,b[Int.toNat a]? =some f/\cnd ((UInt8.toNat f:Int)==(101:Int)) (R b) (c (i64.wrap (a+1))/\d (i64.wrap (a+1))<d a))) ((((b.size+(⟨#[46,48]⟩:ByteArray).size:Nat)):Int)<=9223372036854775807/\R (b++(⟨#[46,48]⟩:ByteArray)))))))))
theorem Ff {x} {R:ByteArray->Prop} (T:T70 x R):Et x R:=by
 intro h gl H;have Y:Sy h [] h _:=Sy.startM H rfl;apply y9;unfold S70;unfold T70 at T;refine aj T (fun T=>?_) (fun T=>?_)
 ·exact⟨_,Y.pick [] rfl,rfl,T⟩
 ·refine au (T _ (Hp.nil _)) (fun _ _ ⟨_,p,_⟩=>p.fr) bj ?_;rintro v hv ⟨r,PP,rfl,T⟩;have Y:Sy _ _ hv [_]:=Y.gr PP.fr;clear PP;refine⟨r,rfl,?_⟩;refine aj T (fun T=>?_) (fun T=>?_)
  ·exact⟨_,Y.pick [] rfl,rfl,T⟩
  ·refine au (T _ (Hp.nil _)) (fun _ _ ⟨_,p,_⟩=>p.fr) bj ?_;rintro v2 hv2 ⟨r2,PP,rfl,T⟩;have Y:Sy _ _ hv2 [_]:=Y.gr PP.fr;clear PP;refine⟨r2,rfl,?_⟩;refine aj T (fun T=>?_) (fun T=>?_)
   ·exact⟨_,Y.pick [] rfl,rfl,T⟩
   ·refine au (T _ _ (Y.pick [0] rfl).hp) (fun _ _ ⟨_,p,_⟩=>p.fr) bj ?_;rintro v3 hv3 ⟨r3,PP,rfl,T⟩;have Y:Sy _ _ hv3 [_]:=Y.gr PP.fr;clear PP;refine⟨r3,rfl,?_⟩;obtain⟨Iv,m,T0,T1⟩:=T;obtain⟨B,hB,YB⟩:=Y.cut [] [0] rfl;obtain⟨JJ,hJJ⟩:∃JJ:Nat->LP,JJ=(fun k lz h'=>∃(i:Int),lz=[.int .i64 i]/\Sy h [] h' ([]++B)/\Iv i/\m i=k):=⟨_,rfl⟩;refine⟨fun lz h'=>∃k,JJ k lz h',Lm JJ,?_,?_⟩
    ·subst hJJ hB;exact⟨_,_,rfl,YB,T0,rfl⟩
    ·clear YB T0 Y;intro i hv4 hI;obtain⟨k,hI,hm⟩:=gT hI;subst hJJ hB;obtain⟨i,e,Y,T,rfl⟩:=hI;cases e;replace T:=T1 i T;have Y:Sy _ _ _ [_]:=Y;refine aj T (fun T=>?_) (fun T=>?_)
     ·obtain⟨q_3,q_4,T⟩:=T;refine⟨q_3,q_4,?_⟩;obtain⟨xc,hq,T⟩:=T;refine⟨xc,hq,?_⟩;refine aj T (fun T=>?_) (fun T=>?_)
      ·exact⟨_,Y.pick [] rfl,rfl,T⟩
      ·obtain⟨q,q_2,T⟩:=T;refine⟨q,q_2,?_⟩;obtain⟨xc2,hq,T⟩:=T;refine⟨xc2,hq,?_⟩;refine aj T (fun T=>?_) (fun T=>?_)
       ·exact⟨_,Y.pick [] rfl,rfl,T⟩
       ·exact dm hm ⟨_,rfl,Y.pick [0] rfl,T.1,rfl⟩ T.2
     ·obtain⟨q_5,T⟩:=T;refine⟨q_5,?_⟩;exact⟨_,Y.pick [] rfl,rfl,T⟩
def C9 (c:Int) (h:ab) (R:VP):Prop:=cnd (decide (c>=32)) (R (.bool (decide (c<=126))) h) (R (.bool false) h)
theorem vh {h:ab} {R:VP} (c:Int) (H:C9 c h R):ae Tryz.prog 114 #[.int .u8 c] h R:=aR [] 9 [] [] [] [] Tryz.func114 (by kernel_rfl) (by kernel_rfl) H
def S68 (s:ByteArray) (h:ab) (R:VP):Prop:=∃(c:LP) (e:List Value->ab->Nat),c [.int .i64 0] h/\∀a:Int,∀b,c [.int .i64 a] b->cnd (decide (a<(s.size:Int))) (0<=a/\a<(s.size:Int)/\∃g:UInt8,s[Int.toNat a]? =some g/\ai Tryz.prog 114 #[.int .u8 (UInt8.toNat g:Int)] b [] fun i d=>∃f:Bool,i= .bool f/\cnd (!f) (R (.bool false) d) (c [.int .i64 (i64.wrap (a+1))] d/\e [.int .i64 (i64.wrap (a+1))] d<e [.int .i64 a] b)) (R (.bool (decide ((s.size:Int)<=(256:Int)))) b)
theorem yp {h:ab} {R:VP} (s:ByteArray) (H:S68 s h R):ae Tryz.prog 68 #[.string s] h R:=aR [] 18 [(0,⟨[0,5],[6],[],[]⟩)] [] [] [] Tryz.func68 (by kernel_rfl) (by kernel_rfl) H
def S66 (g:Int) (gA:Option Addr) (gL gC:Nat) (h:ab) (R:VP):Prop:=let f:ab:=h.push (.cells #[.int .i64 g,.slice gA gL gC] 24);let n:=fun(r:ab)=>(R (.bool false) r);cnd (decide (g<0)) (n f) (cnd (decide (g>1024)) (n f) (cnd (decide ((gL:Int)>(3072:Int))) (R (.bool false) f) (∃(i:LP) (p:List Value->ab->Nat),i [.int .i64 0] f/\∀a:Int,∀c,i [.int .i64 a] c->cnd (decide (a<(gL:Int))) (∃b o,gA=some ⟨b,o,none⟩/\0<=a/\a<(gL:Nat)/\∃k:Int,ac c b (o+(Int.toNat a)*2)=some (.int .i64 k)/\∃l:Int,ac c b ((o+(Int.toNat a)*2)+1)=some (.int .i64 l)/\let s:ab:=c.push (.cells #[.int .i64 0,.int .i64 0] 48);let t:ab:=am (am s c.size 0 (.int .i64 k)) c.size (0+1) (.int .i64 l);∃(j:LP) (q:List Value->ab->Nat),j [.int .i64 0] t/\∀e:Int,∀d,j [.int .i64 e] d->cnd (decide (e<2)) (0<=e/\e<(2:Int)/\∃m:Int,(#[.int .i64 k,.int .i64 l]:Array Value)[Int.toNat e]? =some (.int .i64 m)/\cnd (decide (m<0)) (R (.bool false) d) (cnd (decide (m>=g)) (R (.bool false) d) (j [.int .i64 (i64.wrap (e+1))] d/\q [.int .i64 (i64.wrap (e+1))] d<q [.int .i64 e] d))) (i [.int .i64 (i64.wrap (a+1))] d/\p [.int .i64 (i64.wrap (a+1))] d<p [.int .i64 a] c)) (R (.bool true) c))))
theorem yV {h:ab} {R:VP} (g:Int) (gA:Option Addr) (gL gC:Nat) (H:S66 g gA gL gC h R):ae Tryz.prog 66 #[.agg #[.int .i64 g,.slice gA gL gC]] h R:=aR [1,4] 42 [(0,⟨[1,22,23],[24],[1],[]⟩),(2,⟨[1,22,23,24,28],[29],[1],[]⟩)] [] [] [] Tryz.func66 (by kernel_rfl) (by kernel_rfl) H
def Bk (g:Int) (edgesV:List (Int × Int)) (R:Bool->Prop):Prop:=
 ∀(h:ab) (gA:Option Addr) (gL gC:Nat),Hp h [Ck.vw eP gA gL gC edgesV]->ae Tryz.prog 66 #[.agg #[.int .i64 g,.slice gA gL gC]] h fun v h'=>∃(rV:Bool),Sy h [] h' []/\v= .bool rV/\R rV
def T66 (g:Int) (edgesV:List (Int × Int)) (R:Bool->Prop):Prop:=∃e:Prop,(cnd (decide (g<0)) (e) (cnd (decide (g>1024)) (e) (cnd (decide ((edgesV.length:Int)>(3072:Int))) (R false) (∃(c:Int->Prop) (i:Int->Nat),c 0/\∀a:Int,c a->cnd (decide (a<(edgesV.length:Int))) (0<=a/\a<(edgesV.length:Int)/\∀f:(Int × Int),edgesV[(Int.toNat a)]? =some f->∃(d:Int->Prop) (j:Int->Nat),d 0/\∀b:Int,d b->cnd (decide (b<2)) (0<=b/\b<(2:Int)/\∃h:Int,(#[.int .i64 f.1,.int .i64 f.2]:Array Value)[Int.toNat b]? =some (.int .i64 h)/\cnd (decide (h<0)) (R false) (cnd (decide (h>=g)) (R false) (d (i64.wrap (b+1))/\j (i64.wrap (b+1))<j b))) (c (i64.wrap (a+1))/\i (i64.wrap (a+1))<i a)) (R true)))))/\(e->R false)
theorem E8 {g edgesV} {R:Bool->Prop} (T:T66 g edgesV R):Bk g edgesV R:=by
 intro h gA gL gC H;have Y:Sy h [] h _:=Sy.startM H rfl;obtain rfl:=Y.lenV 0 rfl;apply yV;unfold S66;unfold T66 at T;intro hv;have Y:Sy _ _ hv [_,_]:=Y.junk _;clear_value hv;obtain⟨Jv,T0,T1⟩:=T;obtain⟨B,hB,_⟩:=Y.cut [] [0,1] rfl;intro K;have hK:∀(hv2:ab),(Sy h [] hv2 ([]++B)/\Jv)->K hv2:=by
  subst hB;clear T0 Y;rintro hv2 ⟨Y,T⟩;replace T:=T1 T;have Y:Sy _ _ _ [_,_]:=Y;unfold K;exact⟨_,Y.pick [] rfl,rfl,T⟩
 subst hB;replace T:=T0;clear T0 T1;refine aj T (fun T=>?_) (fun T=>?_)
 ·exact hK _ ⟨Y.pick [0,1] rfl,T⟩
 ·refine aj T (fun T=>?_) (fun T=>?_)
  ·exact hK _ ⟨Y.pick [0,1] rfl,T⟩
  ·refine aj T (fun T=>?_) (fun T=>?_)
   ·exact⟨_,Y.pick [] rfl,rfl,T⟩
   ·obtain⟨Iv,m,T0,T1⟩:=T;obtain⟨B_2,hB_2,YB⟩:=Y.cut [] [0,1] rfl;obtain⟨JJ,hJJ⟩:∃JJ:Nat->LP,JJ=(fun k lz h'=>∃(x:Int),lz=[.int .i64 x]/\Sy h [] h' ([]++B_2)/\Iv x/\m x=k):=⟨_,rfl⟩;refine⟨fun lz h'=>∃k,JJ k lz h',Lm JJ,?_,?_⟩
    ·subst hJJ hB_2;exact⟨_,_,rfl,YB,T0,rfl⟩
    ·clear YB T0 Y;intro x hv3 hI;obtain⟨k,hI,hm⟩:=gT hI;subst hJJ hB_2;obtain⟨x,e,Y,T,rfl⟩:=hI;cases e;replace T:=T1 x T;have Y:Sy _ _ _ [_,_]:=Y;refine aj T (fun T=>?_) (fun T=>?_)
     ·obtain⟨q,q_2,T⟩:=T;obtain⟨b_2,o_2,hb,hr,g_2,hx⟩:=Y.atV 0 rfl q q_2;refine⟨b_2,o_2,hb,q,q_2,?_⟩;replace T:=T g_2 hx;refine⟨_,Y.cellV 0 rfl hb (t:=0) hx rfl,?_⟩;refine⟨_,Y.cellV 0 rfl hb (t:=1) hx rfl,?_⟩;intro hv4;have Y:Sy _ _ hv4 [_,_,_]:=Y.junk _;clear_value hv4;intro hv5;have Y:Sy _ _ hv5 [_,_,_]:=((Y.stJ 2 rfl _ _).stJ 2 rfl _ _);clear_value hv5;obtain⟨Iv2,m2,T0,T1⟩:=T;obtain⟨B_3,hB_3,YB⟩:=Y.cut [] [0,1,2] rfl;obtain⟨JJ_2,hJJ_2⟩:∃JJ_2:Nat->LP,JJ_2=(fun k_2 lz h'=>∃(x4:Int),lz=[.int .i64 x4]/\Sy h [] h' ([]++B_3)/\Iv2 x4/\m2 x4=k_2):=⟨_,rfl⟩;refine⟨fun lz h'=>∃k_2,JJ_2 k_2 lz h',Lm JJ_2,?_,?_⟩
      ·subst hJJ_2 hB_3;exact⟨_,_,rfl,YB,T0,rfl⟩
      ·clear YB T0 Y;intro x4 hv6 hI;obtain⟨k_2,hI,hm_2⟩:=gT hI;subst hJJ_2 hB_3;obtain⟨x4,e,Y,T,rfl⟩:=hI;cases e;replace T:=T1 x4 T;have Y:Sy _ _ _ [_,_,_]:=Y;refine aj T (fun T=>?_) (fun T=>?_)
       ·obtain⟨q_3,q_4,x5,q_5,T⟩:=T;refine⟨q_3,q_4,x5,q_5,?_⟩;refine aj T (fun T=>?_) (fun T=>?_)
        ·exact⟨_,Y.pick [] rfl,rfl,T⟩
        ·refine aj T (fun T=>?_) (fun T=>?_)
         ·exact⟨_,Y.pick [] rfl,rfl,T⟩
         ·exact dm hm_2 ⟨_,rfl,Y.pick [0,1,2] rfl,T.1,rfl⟩ T.2
       ·exact dm hm ⟨_,rfl,Y.pick [0,1] rfl,T.1,rfl⟩ T.2
     ·exact⟨_,Y.pick [] rfl,rfl,T⟩
def S67 (length n:Int) (h:ab) (R:VP):Prop:=cnd (length==0) (R (.bool true) h) (R (.bool (length==n)) h)
theorem yW {h:ab} {R:VP} (length n:Int) (H:S67 length n h R):ae Tryz.prog 67 #[.int .i64 length,.int .i64 n] h R:=aR [] 12 [] [] [] [] Tryz.func67 (by kernel_rfl) (by kernel_rfl) H
def wF (length n:Int) (R:Bool->Prop):Prop:=
 ∀(h:ab),Hp h []->ae Tryz.prog 67 #[.int .i64 length,.int .i64 n] h fun v h'=>∃(rV:Bool),Sy h [] h' []/\v= .bool rV/\R rV
def T67 (length n:Int) (R:Bool->Prop):Prop:=cnd (length==0) (R true) (R (length==n))
theorem E9 {length n} {R:Bool->Prop} (T:T67 length n R):wF length n R:=by
 intro h H;have Y:Sy h [] h _:=Sy.startM H rfl;apply yW;unfold S67;unfold T67 at T;refine aj T (fun T=>?_) (fun T=>?_)
 ·exact⟨_,Y.pick [] rfl,rfl,T⟩
 ·exact⟨_,Y.pick [] rfl,rfl,T⟩
def Ek (s:ByteArray) (R:Bool->Prop):Prop:=
 ∀(h:ab),Hp h []->ae Tryz.prog 68 #[.string s] h fun v h'=>∃(rV:Bool),Sy h [] h' []/\v= .bool rV/\R rV
def S25 (d:Int) (dA:Option Addr) (dL dC:Nat) (d2:Bool) (dA2:Option Addr) (dL2 dC2:Nat) (dA3:Option Addr) (dL3 dC3:Nat) (dA4:Option Addr) (dL4 dC4:Nat) (h:ab) (R:VP):Prop:=let u:ab:=h.push (.cells #[.int .i64 d,.slice dA dL dC,.bool d2,.slice dA2 dL2 dC2,.slice dA3 dL3 dC3,.slice dA4 dL4 dC4] 29);let f:=fun(v:ab)=>(R (.bool false) v);ai Tryz.prog 66 #[.agg #[.int .i64 d,.slice dA dL dC]] u [h.size] fun w i=>∃n:Bool,w= .bool n/\cnd (!n) (f i) (ai Tryz.prog 67 #[.int .i64 (dL2:Int),.int .i64 d] i [h.size] fun x j=>∃p:Bool,x= .bool p/\cnd (!p) (f j) (ai Tryz.prog 67 #[.int .i64 (dL3:Int),.int .i64 d] j [h.size] fun y k=>∃q:Bool,y= .bool q/\cnd (!q) (f k) (ai Tryz.prog 67 #[.int .i64 (dL4:Int),.int .i64 (dL:Int)] k [h.size] fun z l=>∃r:Bool,z= .bool r/\cnd (!r) (R (.bool false) l) (∃(e:LP) (m:List Value->ab->Nat),e [.int .i64 0] l/\∀a:Int,∀c,e [.int .i64 a] c->cnd (decide (a<(dL2:Int))) (∃b o,dA2=some ⟨b,o,none⟩/\0<=a/\a<(dL2:Nat)/\∃t:ByteArray,ac c b (o+(Int.toNat a)*1)=some (.string t)/\ai Tryz.prog 68 #[.string t] c [] fun A g=>∃s:Bool,A= .bool s/\cnd (!s) (R (.bool false) g) (e [.int .i64 (i64.wrap (a+1))] g/\m [.int .i64 (i64.wrap (a+1))] g<m [.int .i64 a] c)) (R (.bool true) c)))))
theorem yX {h:ab} {R:VP} (d:Int) (dA:Option Addr) (dL dC:Nat) (d2:Bool) (dA2:Option Addr) (dL2 dC2:Nat) (dA3:Option Addr) (dL3 dC3:Nat) (dA4:Option Addr) (dL4 dC4:Nat) (H:S25 d dA dL dC d2 dA2 dL2 dC2 dA3 dL3 dC3 dA4 dL4 dC4 h R):ae Tryz.prog 25 #[.agg #[.int .i64 d,.slice dA dL dC,.bool d2,.slice dA2 dL2 dC2,.slice dA3 dL3 dC3,.slice dA4 dL4 dC4]] h R:=aR [1] 51 [(0,⟨[41,42],[43],[],[]⟩)] [] [] [] Tryz.func25 (by kernel_rfl) (by kernel_rfl) H
def El (d:Int) (edgesV:List (Int × Int)) (d2:Bool) (labelsV:List ByteArray) (atV:List (Nat × Nat)) (weightV:List Nat) (R:Bool->Prop):Prop:=
 ∀(h:ab) (dA:Option Addr) (dL dC:Nat) (dA2:Option Addr) (dL2 dC2:Nat) (dA3:Option Addr) (dL3 dC3:Nat) (dA4:Option Addr) (dL4 dC4:Nat),Hp h [Ck.vw eP dA dL dC edgesV,Ck.vw eS dA2 dL2 dC2 labelsV,Ck.vw eFF dA3 dL3 dC3 atV,Ck.vw eF dA4 dL4 dC4 weightV]->ae Tryz.prog 25 #[.agg #[.int .i64 d,.slice dA dL dC,.bool d2,.slice dA2 dL2 dC2,.slice dA3 dL3 dC3,.slice dA4 dL4 dC4]] h fun v h'=>∃(rV:Bool),Sy h [] h' []/\v= .bool rV/\R rV
def T25 (d:Int) (edgesV:List (Int × Int)) (d2:Bool) (labelsV:List ByteArray) (atV:List (Nat × Nat)) (weightV:List Nat) (R:Bool->Prop):Prop:=∃b:Prop,(Bk d edgesV (fun g=>cnd (!g) (b) (wF (labelsV.length:Int) d (fun h=>cnd (!h) (b) (wF (atV.length:Int) d (fun i=>cnd (!i) (b) (wF (weightV.length:Int) (edgesV.length:Int) (fun j=>cnd (!j) (R false) (∃(c:Int->Prop) (f:Int->Nat),c 0/\∀a:Int,c a->cnd (decide (a<(labelsV.length:Int))) (0<=a/\a<(labelsV.length:Int)/\∀e:ByteArray,labelsV[(Int.toNat a)]? =some e->Ek e (fun k=>cnd (!k) (R false) (c (i64.wrap (a+1))/\f (i64.wrap (a+1))<f a))) (R true))))))))))/\(b->R false)
theorem Fa {d edgesV d2 labelsV atV weightV} {R:Bool->Prop} (T:T25 d edgesV d2 labelsV atV weightV R):El d edgesV d2 labelsV atV weightV R:=by
 intro h dA dL dC dA2 dL2 dC2 dA3 dL3 dC3 dA4 dL4 dC4 H;have Y:Sy h [] h _:=Sy.startM H rfl;obtain rfl:=Y.lenV 0 rfl;obtain rfl:=Y.lenV 1 rfl;obtain rfl:=Y.lenV 2 rfl;obtain rfl:=Y.lenV 3 rfl;apply yX;unfold S25;unfold T25 at T;intro hv;have Y:Sy _ _ hv [_,_,_,_,_]:=Y.junk _;clear_value hv;obtain⟨Jv,T0,T1⟩:=T;obtain⟨B,hB,_⟩:=Y.cut [] [0,1,2,3,4] rfl;intro K;have hK:∀(hv6:ab),(Sy h [] hv6 ([]++B)/\Jv)->K hv6:=by
  subst hB;clear T0 Y;rintro hv6 ⟨Y,T⟩;replace T:=T1 T;have Y:Sy _ _ _ [_,_,_,_,_]:=Y;unfold K;exact⟨_,Y.pick [] rfl,rfl,T⟩
 subst hB;replace T:=T0;clear T0 T1;refine au (T _ _ _ _ (Y.pick [0] rfl).hp) (fun _ _ ⟨_,p,_⟩=>p.fr) (nF (fun h=>by cases h) bj) ?_;rintro v hv2 ⟨r,PP,rfl,T⟩;have Y:Sy _ _ hv2 [_,_,_,_,_]:=Y.gr PP.fr;clear PP;refine⟨r,rfl,?_⟩;refine aj T (fun T=>?_) (fun T=>?_)
 ·exact hK _ ⟨Y.pick [0,1,2,3,4] rfl,T⟩
 ·refine au (T _ (Hp.nil _)) (fun _ _ ⟨_,p,_⟩=>p.fr) (nF (fun h=>by cases h) bj) ?_;rintro v2 hv3 ⟨r2,PP,rfl,T⟩;have Y:Sy _ _ hv3 [_,_,_,_,_]:=Y.gr PP.fr;clear PP;refine⟨r2,rfl,?_⟩;refine aj T (fun T=>?_) (fun T=>?_)
  ·exact hK _ ⟨Y.pick [0,1,2,3,4] rfl,T⟩
  ·refine au (T _ (Hp.nil _)) (fun _ _ ⟨_,p,_⟩=>p.fr) (nF (fun h=>by cases h) bj) ?_;rintro v3 hv4 ⟨r3,PP,rfl,T⟩;have Y:Sy _ _ hv4 [_,_,_,_,_]:=Y.gr PP.fr;clear PP;refine⟨r3,rfl,?_⟩;refine aj T (fun T=>?_) (fun T=>?_)
   ·exact hK _ ⟨Y.pick [0,1,2,3,4] rfl,T⟩
   ·refine au (T _ (Hp.nil _)) (fun _ _ ⟨_,p,_⟩=>p.fr) (nF (fun h=>by cases h) bj) ?_;rintro v4 hv5 ⟨r4,PP,rfl,T⟩;have Y:Sy _ _ hv5 [_,_,_,_,_]:=Y.gr PP.fr;clear PP;refine⟨r4,rfl,?_⟩;refine aj T (fun T=>?_) (fun T=>?_)
    ·exact⟨_,Y.pick [] rfl,rfl,T⟩
    ·obtain⟨Iv,m,T0,T1⟩:=T;obtain⟨B_2,hB_2,YB⟩:=Y.cut [] [0,1,2,3,4] rfl;obtain⟨JJ,hJJ⟩:∃JJ:Nat->LP,JJ=(fun k lz h'=>∃(x:Int),lz=[.int .i64 x]/\Sy h [] h' ([]++B_2)/\Iv x/\m x=k):=⟨_,rfl⟩;refine⟨fun lz h'=>∃k,JJ k lz h',Lm JJ,?_,?_⟩
     ·subst hJJ hB_2;exact⟨_,_,rfl,YB,T0,rfl⟩
     ·clear YB T0 Y;intro x hv7 hI;obtain⟨k,hI,hm⟩:=gT hI;subst hJJ hB_2;obtain⟨x,e,Y,T,rfl⟩:=hI;cases e;replace T:=T1 x T;have Y:Sy _ _ _ [_,_,_,_,_]:=Y;refine aj T (fun T=>?_) (fun T=>?_)
      ·obtain⟨q,q_2,T⟩:=T;obtain⟨b_2,o_2,hb,hr,d_2,hx⟩:=Y.atV 1 rfl q q_2;refine⟨b_2,o_2,hb,q,q_2,?_⟩;replace T:=T d_2 hx;refine⟨_,Y.cellV 1 rfl hb (t:=0) hx rfl,?_⟩;refine au (T _ (Hp.nil _)) (fun _ _ ⟨_,p,_⟩=>p.fr) bj ?_;rintro v5 hv8 ⟨r5,PP,rfl,T⟩;have Y:Sy _ _ hv8 [_,_,_,_,_]:=Y.gr PP.fr;clear PP;refine⟨r5,rfl,?_⟩;refine aj T (fun T=>?_) (fun T=>?_)
       ·exact⟨_,Y.pick [] rfl,rfl,T⟩
       ·exact dm hm ⟨_,rfl,Y.pick [0,1,2,3,4] rfl,T.1,rfl⟩ T.2
      ·exact⟨_,Y.pick [] rfl,rfl,T⟩
def S33 (g:Int) (gA:Option Addr) (gL gC:Nat) (h:ab) (R:VP):Prop:=let e:ab:=h.push (.cells #[.int .i64 g,.slice gA gL gC] 24);let k:=fun(q:ab)=>(R (.bool false) q);cnd (decide (g<0)) (k e) (cnd (decide (g>1024)) (k e) (cnd (decide ((gL:Int)>(3072:Int))) (R (.bool false) e) (∃(i:LP) (l:List Value->ab->Nat),i [.int .i64 0] e/\∀a:Int,∀f,i [.int .i64 a] f->cnd (decide (a<(gL:Int))) (∃(j:LP) (m:List Value->ab->Nat),j [.int .i64 0] f/\∀c:Int,∀d,j [.int .i64 c] d->cnd (decide (c<2)) (∃b o,gA=some ⟨b,o,none⟩/\0<=a/\a<(gL:Nat)/\0<=c/\c<(2:Int)/\∃n:Int,ac d b ((o+(Int.toNat a)*2)+(Int.toNat c)*1)=some (.int .i64 n)/\cnd (decide (n<0)) (R (.bool false) d) (∃b2 o2,gA=some ⟨b2,o2,none⟩/\0<=a/\a<(gL:Nat)/\0<=c/\c<(2:Int)/\∃p:Int,ac d b2 ((o2+(Int.toNat a)*2)+(Int.toNat c)*1)=some (.int .i64 p)/\cnd (decide (p>=g)) (R (.bool false) d) (j [.int .i64 (i64.wrap (c+1))] d/\m [.int .i64 (i64.wrap (c+1))] d<m [.int .i64 c] d))) (i [.int .i64 (i64.wrap (a+1))] d/\l [.int .i64 (i64.wrap (a+1))] d<l [.int .i64 a] f)) (R (.bool true) f))))
theorem y5 {h:ab} {R:VP} (g:Int) (gA:Option Addr) (gL gC:Nat) (H:S33 g gA gL gC h R):ae Tryz.prog 33 #[.agg #[.int .i64 g,.slice gA gL gC]] h R:=aR [1] 50 [(0,⟨[1],[3],[1],[]⟩),(2,⟨[1,3],[4],[1],[]⟩)] [] [] [(9,⟨20,false⟩)] Tryz.func33 (by kernel_rfl) (by kernel_rfl) H
def y7 (g:Int) (edgesV:List (Int × Int)) (R:Bool->Prop):Prop:=
 ∀(h:ab) (gA:Option Addr) (gL gC:Nat),Hp h [Ck.vw eP gA gL gC edgesV]->ae Tryz.prog 33 #[.agg #[.int .i64 g,.slice gA gL gC]] h fun v h'=>∃(rV:Bool),Sy h [] h' []/\v= .bool rV/\R rV
def T33 (g:Int) (edgesV:List (Int × Int)) (R:Bool->Prop):Prop:=∃e:Prop,(cnd (decide (g<0)) (e) (cnd (decide (g>1024)) (e) (cnd (decide ((edgesV.length:Int)>(3072:Int))) (R false) (∃(c:Int->Prop) (h:Int->Nat),c 0/\∀b:Int,c b->cnd (decide (b<(edgesV.length:Int))) (∃(d:Int->Prop) (i:Int->Nat),d 0/\∀a:Int,d a->cnd (decide (a<2)) (0<=b/\b<(edgesV.length:Int)/\0<=a/\a<(2:Int)/\∀f:(Int × Int),edgesV[(Int.toNat b)]? =some f->cnd (decide ((ig f a)<(0:Int))) (R false) (0<=a/\a<(2:Int)/\cnd (decide ((ig f a)>=g)) (R false) (d (i64.wrap (a+1))/\i (i64.wrap (a+1))<i a))) (c (i64.wrap (b+1))/\h (i64.wrap (b+1))<h b)) (R true)))))/\(e->R false)
theorem Fc {g edgesV} {R:Bool->Prop} (T:T33 g edgesV R):y7 g edgesV R:=by
 intro h gA gL gC H;have Y:Sy h [] h _:=Sy.startM H rfl;obtain rfl:=Y.lenV 0 rfl;apply y5;unfold S33;unfold T33 at T;intro hv;have Y:Sy _ _ hv [_,_]:=Y.junk _;clear_value hv;obtain⟨Jv,T0,T1⟩:=T;obtain⟨B,hB,_⟩:=Y.cut [] [0,1] rfl;intro K;have hK:∀(hv2:ab),(Sy h [] hv2 ([]++B)/\Jv)->K hv2:=by
  subst hB;clear T0 Y;rintro hv2 ⟨Y,T⟩;replace T:=T1 T;have Y:Sy _ _ _ [_,_]:=Y;unfold K;exact⟨_,Y.pick [] rfl,rfl,T⟩
 subst hB;replace T:=T0;clear T0 T1;refine aj T (fun T=>?_) (fun T=>?_)
 ·exact hK _ ⟨Y.pick [0,1] rfl,T⟩
 ·refine aj T (fun T=>?_) (fun T=>?_)
  ·exact hK _ ⟨Y.pick [0,1] rfl,T⟩
  ·refine aj T (fun T=>?_) (fun T=>?_)
   ·exact⟨_,Y.pick [] rfl,rfl,T⟩
   ·obtain⟨Iv,m,T0,T1⟩:=T;obtain⟨B_2,hB_2,YB⟩:=Y.cut [] [0,1] rfl;obtain⟨JJ,hJJ⟩:∃JJ:Nat->LP,JJ=(fun k_2 lz h'=>∃(i:Int),lz=[.int .i64 i]/\Sy h [] h' ([]++B_2)/\Iv i/\m i=k_2):=⟨_,rfl⟩;refine⟨fun lz h'=>∃k_2,JJ k_2 lz h',Lm JJ,?_,?_⟩
    ·subst hJJ hB_2;exact⟨_,_,rfl,YB,T0,rfl⟩
    ·clear YB T0 Y;intro i hv3 hI;obtain⟨k_2,hI,hm⟩:=gT hI;subst hJJ hB_2;obtain⟨i,e,Y,T,rfl⟩:=hI;cases e;replace T:=T1 i T;have Y:Sy _ _ _ [_,_]:=Y;refine aj T (fun T=>?_) (fun T=>?_)
     ·obtain⟨Iv2,m2,T0,T1⟩:=T;obtain⟨B_3,hB_3,YB⟩:=Y.cut [] [0,1] rfl;obtain⟨JJ_2,hJJ_2⟩:∃JJ_2:Nat->LP,JJ_2=(fun k_3 lz h'=>∃(k:Int),lz=[.int .i64 k]/\Sy h [] h' ([]++B_3)/\Iv2 k/\m2 k=k_3):=⟨_,rfl⟩;refine⟨fun lz h'=>∃k_3,JJ_2 k_3 lz h',Lm JJ_2,?_,?_⟩
      ·subst hJJ_2 hB_3;exact⟨_,_,rfl,YB,T0,rfl⟩
      ·clear YB T0 Y;intro k hv4 hI;obtain⟨k_3,hI,hm_2⟩:=gT hI;subst hJJ_2 hB_3;obtain⟨k,e,Y,T,rfl⟩:=hI;cases e;replace T:=T1 k T;have Y:Sy _ _ _ [_,_]:=Y;refine aj T (fun T=>?_) (fun T=>?_)
       ·have Y0:=Y;have F:Fr [] hv4 hv4:=Fr.refl _ _;obtain⟨q,q_2,T⟩:=T;obtain⟨b_2,o_2,hb,hr,g_2,hx⟩:=Y0.atV 0 rfl q q_2;refine⟨b_2,o_2,hb,q,q_2,?_⟩;obtain⟨q_5,q_6,T⟩:=T;refine⟨q_5,q_6,?_⟩;replace T:=T g_2 hx;refine⟨_,oA (Y0.cellV 0 rfl hb (t:=0) hx rfl) (Y0.cellV 0 rfl hb (t:=1) hx rfl) (by assumption) (by assumption),?_⟩;refine aj T (fun T=>?_) (fun T=>?_)
        ·exact⟨_,Y.pick [] rfl,rfl,T⟩
        ·refine⟨b_2,o_2,hb,q,q_2,?_⟩;obtain⟨q_3,q_4,T⟩:=T;refine⟨q_3,q_4,?_⟩;refine⟨_,oA (Y0.cellV 0 rfl hb (t:=0) hx rfl) (Y0.cellV 0 rfl hb (t:=1) hx rfl) (by assumption) (by assumption),?_⟩;refine aj T (fun T=>?_) (fun T=>?_)
         ·exact⟨_,Y.pick [] rfl,rfl,T⟩
         ·exact dm hm_2 ⟨_,rfl,Y.pick [0,1] rfl,T.1,rfl⟩ T.2
       ·exact dm hm ⟨_,rfl,Y.pick [0,1] rfl,T.1,rfl⟩ T.2
     ·exact⟨_,Y.pick [] rfl,rfl,T⟩
def S32 (s:ByteArray) (h:ab) (R:VP):Prop:=cnd (decide ((s.size:Int)>(256:Int))) (R (.bool false) h) (∃(c:LP) (d:List Value->ab->Nat),c [.int .i64 0] h/\∀a:Int,∀b,c [.int .i64 a] b->cnd (decide (a<(s.size:Int))) (0<=a/\a<(s.size:Int)/\∃e:UInt8,s[Int.toNat a]? =some e/\cnd (decide ((UInt8.toNat e:Int)<(32:Int))) (R (.bool false) b) (0<=a/\a<(s.size:Int)/\∃f:UInt8,s[Int.toNat a]? =some f/\cnd (decide ((UInt8.toNat f:Int)>(126:Int))) (R (.bool false) b) (c [.int .i64 (i64.wrap (a+1))] b/\d [.int .i64 (i64.wrap (a+1))] b<d [.int .i64 a] b))) (R (.bool true) b))
theorem yY {h:ab} {R:VP} (s:ByteArray) (H:S32 s h R):ae Tryz.prog 32 #[.string s] h R:=aR [] 23 [(0,⟨[0],[3],[],[]⟩)] [] [] [] Tryz.func32 (by kernel_rfl) (by kernel_rfl) H
def Bl (s:ByteArray) (R:Bool->Prop):Prop:=
 ∀(h:ab),Hp h []->ae Tryz.prog 32 #[.string s] h fun v h'=>∃(rV:Bool),Sy h [] h' []/\v= .bool rV/\R rV
def T32 (s:ByteArray) (R:Bool->Prop):Prop:=cnd (decide ((s.size:Int)>(256:Int))) (R false) (∃(b:Int->Prop) (c:Int->Nat),b 0/\∀a:Int,b a->cnd (decide (a<(s.size:Int))) (0<=a/\a<(s.size:Int)/\∃d:UInt8,s[Int.toNat a]? =some d/\cnd (decide ((UInt8.toNat d:Int)<(32:Int))) (R false) (0<=a/\a<(s.size:Int)/\∃e:UInt8,s[Int.toNat a]? =some e/\cnd (decide ((UInt8.toNat e:Int)>(126:Int))) (R false) (b (i64.wrap (a+1))/\c (i64.wrap (a+1))<c a))) (R true))
theorem Fb {s} {R:Bool->Prop} (T:T32 s R):Bl s R:=by
 intro h H;have Y:Sy h [] h _:=Sy.startM H rfl;apply yY;unfold S32;unfold T32 at T;refine aj T (fun T=>?_) (fun T=>?_)
 ·exact⟨_,Y.pick [] rfl,rfl,T⟩
 ·obtain⟨Iv,m,T0,T1⟩:=T;obtain⟨B,hB,YB⟩:=Y.cut [] [] rfl;obtain⟨JJ,hJJ⟩:∃JJ:Nat->LP,JJ=(fun k lz h'=>∃(i:Int),lz=[.int .i64 i]/\Sy h [] h' ([]++B)/\Iv i/\m i=k):=⟨_,rfl⟩;refine⟨fun lz h'=>∃k,JJ k lz h',Lm JJ,?_,?_⟩
  ·subst hJJ hB;exact⟨_,_,rfl,YB,T0,rfl⟩
  ·clear YB T0 Y;intro i hv hI;obtain⟨k,hI,hm⟩:=gT hI;subst hJJ hB;obtain⟨i,e,Y,T,rfl⟩:=hI;cases e;replace T:=T1 i T;have Y:Sy _ _ _ []:=Y;refine aj T (fun T=>?_) (fun T=>?_)
   ·obtain⟨q_3,q_4,T⟩:=T;refine⟨q_3,q_4,?_⟩;obtain⟨xc,hq,T⟩:=T;refine⟨xc,hq,?_⟩;refine aj T (fun T=>?_) (fun T=>?_)
    ·exact⟨_,Y.pick [] rfl,rfl,T⟩
    ·obtain⟨q,q_2,T⟩:=T;refine⟨q,q_2,?_⟩;obtain⟨xc2,hq,T⟩:=T;refine⟨xc2,hq,?_⟩;refine aj T (fun T=>?_) (fun T=>?_)
     ·exact⟨_,Y.pick [] rfl,rfl,T⟩
     ·exact dm hm ⟨_,rfl,Y.pick [] rfl,T.1,rfl⟩ T.2
   ·exact⟨_,Y.pick [] rfl,rfl,T⟩
def S17 (d:Int) (dA:Option Addr) (dL dC:Nat) (d2:Bool) (dA2:Option Addr) (dL2 dC2:Nat) (dA3:Option Addr) (dL3 dC3:Nat) (dA4:Option Addr) (dL4 dC4:Nat) (h:ab) (R:VP):Prop:=let m:ab:=h.push (.cells #[.int .i64 d,.slice dA dL dC,.bool d2,.slice dA2 dL2 dC2,.slice dA3 dL3 dC3,.slice dA4 dL4 dC4] 29);let j:=fun(p:Int) (e:ab)=>(cnd (decide (p<=32768)) (cnd (decide ((dL2:Int)<=(2000:Int))) (cnd (decide ((dL3:Int)<=(2000:Int))) (cnd (decide ((dL4:Int)<=(4000:Int))) (cnd (decide ((dL:Int)<=(300:Int))) (cnd (decide (d<=300)) (R (.bool true) e) (ai Tryz.prog 33 #[.agg #[.int .i64 d,.slice dA dL dC]] e [h.size] fun q n=>∃l:Bool,q= .bool l/\R (.bool (!l)) n)) (R (.bool false) e)) (R (.bool false) e)) (R (.bool false) e)) (R (.bool false) e)) (R (.bool false) e));∃(g:LP) (k:List Value->ab->Nat),g [.int .i64 0,.int .i64 0] m/\∀f:Int,∀a:Int,∀c,g [.int .i64 f,.int .i64 a] c->cnd (decide (a<(dL2:Int))) (cnd (decide (a<2000)) (∃b o,dA2=some ⟨b,o,none⟩/\0<=a/\a<(dL2:Nat)/\∃i:ByteArray,ac c b (o+(Int.toNat a)*1)=some (.string i)/\g [.int .i64 (i64.wrap (f+(i.size:Int))),.int .i64 (i64.wrap (a+1))] c/\k [.int .i64 (i64.wrap (f+(i.size:Int))),.int .i64 (i64.wrap (a+1))] c<k [.int .i64 f,.int .i64 a] c) (j f c)) (j f c)
theorem yT {h:ab} {R:VP} (d:Int) (dA:Option Addr) (dL dC:Nat) (d2:Bool) (dA2:Option Addr) (dL2 dC2:Nat) (dA3:Option Addr) (dL3 dC3:Nat) (dA4:Option Addr) (dL4 dC4:Nat) (H:S17 d dA dL dC d2 dA2 dL2 dC2 dA3 dL3 dC3 dA4 dL4 dC4 h R):ae Tryz.prog 17 #[.agg #[.int .i64 d,.slice dA dL dC,.bool d2,.slice dA2 dL2 dC2,.slice dA3 dL3 dC3,.slice dA4 dL4 dC4]] h R:=aR [1] 63 [(0,⟨[1],[3,4],[1],[]⟩)] [] [] [] Tryz.func17 (by kernel_rfl) (by kernel_rfl) H
def DU (d:Int) (edgesV:List (Int × Int)) (d2:Bool) (labelsV:List ByteArray) (atV:List (Nat × Nat)) (weightV:List Nat) (R:Bool->Prop):Prop:=
 ∀(h:ab) (dA:Option Addr) (dL dC:Nat) (dA2:Option Addr) (dL2 dC2:Nat) (dA3:Option Addr) (dL3 dC3:Nat) (dA4:Option Addr) (dL4 dC4:Nat),Hp h [Ck.vw eP dA dL dC edgesV,Ck.vw eS dA2 dL2 dC2 labelsV,Ck.vw eFF dA3 dL3 dC3 atV,Ck.vw eF dA4 dL4 dC4 weightV]->ae Tryz.prog 17 #[.agg #[.int .i64 d,.slice dA dL dC,.bool d2,.slice dA2 dL2 dC2,.slice dA3 dL3 dC3,.slice dA4 dL4 dC4]] h fun v h'=>∃(rV:Bool),Sy h [] h' []/\v= .bool rV/\R rV
def T17 (d:Int) (edgesV:List (Int × Int)) (d2:Bool) (labelsV:List ByteArray) (atV:List (Nat × Nat)) (weightV:List Nat) (R:Bool->Prop):Prop:=∃e:Int->Prop,(∃(c:Int->Int->Prop) (g:Int->Int->Nat),c 0 0/\∀b:Int,∀a:Int,c b a->cnd (decide (a<(labelsV.length:Int))) (cnd (decide (a<2000)) (0<=a/\a<(labelsV.length:Int)/\∀f:ByteArray,labelsV[(Int.toNat a)]? =some f->c (i64.wrap (b+(f.size:Int))) (i64.wrap (a+1))/\g (i64.wrap (b+(f.size:Int))) (i64.wrap (a+1))<g b a) (e b)) (e b))/\∀h:Int,e h->cnd (decide (h<=32768)) (cnd (decide ((labelsV.length:Int)<=(2000:Int))) (cnd (decide ((atV.length:Int)<=(2000:Int))) (cnd (decide ((weightV.length:Int)<=(4000:Int))) (cnd (decide ((edgesV.length:Int)<=(300:Int))) (cnd (decide (d<=300)) (R true) (y7 d edgesV (fun i=>R (!i)))) (R false)) (R false)) (R false)) (R false)) (R false)
theorem E6 {d edgesV d2 labelsV atV weightV} {R:Bool->Prop} (T:T17 d edgesV d2 labelsV atV weightV R):DU d edgesV d2 labelsV atV weightV R:=by
 intro h dA dL dC dA2 dL2 dC2 dA3 dL3 dC3 dA4 dL4 dC4 H;have Y:Sy h [] h _:=Sy.startM H rfl;obtain rfl:=Y.lenV 0 rfl;obtain rfl:=Y.lenV 1 rfl;obtain rfl:=Y.lenV 2 rfl;obtain rfl:=Y.lenV 3 rfl;apply yT;unfold S17;unfold T17 at T;intro hv;have Y:Sy _ _ hv [_,_,_,_,_]:=Y.junk _;clear_value hv;obtain⟨Jv,T0,T1⟩:=T;obtain⟨B,hB,_⟩:=Y.cut [] [0,1,2,3,4] rfl;intro K;have hK:∀(n2:Int) (hv3:ab),(Sy h [] hv3 ([]++B)/\Jv n2)->K n2 hv3:=by
  subst hB;clear T0 Y;rintro n2 hv3 ⟨Y,T⟩;replace T:=T1 n2 T;have Y:Sy _ _ _ [_,_,_,_,_]:=Y;unfold K;refine aj T (fun T=>?_) (fun T=>?_)
  ·refine aj T (fun T=>?_) (fun T=>?_)
   ·refine aj T (fun T=>?_) (fun T=>?_)
    ·refine aj T (fun T=>?_) (fun T=>?_)
     ·refine aj T (fun T=>?_) (fun T=>?_)
      ·refine aj T (fun T=>?_) (fun T=>?_)
       ·exact⟨_,Y.pick [] rfl,rfl,T⟩
       ·refine au (T _ _ _ _ (Y.pick [0] rfl).hp) (fun _ _ ⟨_,p,_⟩=>p.fr) (nF (fun h=>by cases h) bj) ?_;rintro v hv4 ⟨r,PP,rfl,T⟩;have Y:Sy _ _ hv4 [_,_,_,_,_]:=Y.gr PP.fr;clear PP;refine⟨r,rfl,?_⟩;exact⟨_,Y.pick [] rfl,rfl,T⟩
      ·exact⟨_,Y.pick [] rfl,rfl,T⟩
     ·exact⟨_,Y.pick [] rfl,rfl,T⟩
    ·exact⟨_,Y.pick [] rfl,rfl,T⟩
   ·exact⟨_,Y.pick [] rfl,rfl,T⟩
  ·exact⟨_,Y.pick [] rfl,rfl,T⟩
 subst hB;replace T:=T0;clear T0 T1;obtain⟨Iv,m,T0,T1⟩:=T;obtain⟨B_2,hB_2,YB⟩:=Y.cut [] [0,1,2,3,4] rfl;obtain⟨JJ,hJJ⟩:∃JJ:Nat->LP,JJ=(fun k lz h'=>∃(n:Int) (i:Int),lz=[.int .i64 n,.int .i64 i]/\Sy h [] h' ([]++B_2)/\Iv n i/\m n i=k):=⟨_,rfl⟩;refine⟨fun lz h'=>∃k,JJ k lz h',Lm JJ,?_,?_⟩
 ·subst hJJ hB_2;exact⟨_,_,_,rfl,YB,T0,rfl⟩
 ·clear YB T0 Y;intro n i hv2 hI;obtain⟨k,hI,hm⟩:=gT hI;subst hJJ hB_2;obtain⟨n,i,e,Y,T,rfl⟩:=hI;cases e;replace T:=T1 n i T;have Y:Sy _ _ _ [_,_,_,_,_]:=Y;refine aj T (fun T=>?_) (fun T=>?_)
  ·refine aj T (fun T=>?_) (fun T=>?_)
   ·obtain⟨q,q_2,T⟩:=T;obtain⟨b_2,o_2,hb,hr,d_2,hx⟩:=Y.atV 1 rfl q q_2;refine⟨b_2,o_2,hb,q,q_2,?_⟩;replace T:=T d_2 hx;refine⟨_,Y.cellV 1 rfl hb (t:=0) hx rfl,?_⟩;exact dm hm ⟨_,_,rfl,Y.pick [0,1,2,3,4] rfl,T.1,rfl⟩ T.2
   ·exact hK _ _ ⟨Y.pick [0,1,2,3,4] rfl,T⟩
  ·exact hK _ _ ⟨Y.pick [0,1,2,3,4] rfl,T⟩
def S28 (d:Int) (dA:Option Addr) (dL dC:Nat) (d2:Bool) (dA2:Option Addr) (dL2 dC2:Nat) (dA3:Option Addr) (dL3 dC3:Nat) (dA4:Option Addr) (dL4 dC4:Nat) (h:ab) (R:VP):Prop:=let n:ab:=h.push (.cells #[.int .i64 d,.slice dA dL dC,.bool d2,.slice dA2 dL2 dC2,.slice dA3 dL3 dC3,.slice dA4 dL4 dC4] 29);let c:=fun(p:ab)=>(∃(g:LP) (j:List Value->ab->Nat),g [.int .i64 0] p/\∀e:Int,∀f,g [.int .i64 e] f->cnd (decide (e<(dL2:Int))) (∃b o,dA2=some ⟨b,o,none⟩/\0<=e/\e<(dL2:Nat)/\∃m:ByteArray,ac f b (o+(Int.toNat e)*1)=some (.string m)/\ai Tryz.prog 32 #[.string m] f [h.size] fun r i=>∃l:Bool,r= .bool l/\cnd (!l) (R (.bool false) i) (g [.int .i64 (i64.wrap (e+1))] i/\j [.int .i64 (i64.wrap (e+1))] i<j [.int .i64 e] f)) (R (.bool true) f));ai Tryz.prog 33 #[.agg #[.int .i64 d,.slice dA dL dC]] n [h.size] fun q a=>∃k:Bool,q= .bool k/\cnd (!k) (R (.bool false) a) (cnd ((dL2:Int) != (0:Int)) (cnd ((dL2:Int) != d) (R (.bool false) a) (cnd ((dL3:Int) != (0:Int)) (cnd ((dL3:Int) != d) (R (.bool false) a) (cnd ((dL4:Int) != (0:Int)) (cnd ((dL4:Int) != (dL:Int)) (R (.bool false) a) (c a)) (c a))) (cnd ((dL4:Int) != (0:Int)) (cnd ((dL4:Int) != (dL:Int)) (R (.bool false) a) (c a)) (c a)))) (cnd ((dL3:Int) != (0:Int)) (cnd ((dL3:Int) != d) (R (.bool false) a) (cnd ((dL4:Int) != (0:Int)) (cnd ((dL4:Int) != (dL:Int)) (R (.bool false) a) (c a)) (c a))) (cnd ((dL4:Int) != (0:Int)) (cnd ((dL4:Int) != (dL:Int)) (R (.bool false) a) (c a)) (c a))))
theorem yU {h:ab} {R:VP} (d:Int) (dA:Option Addr) (dL dC:Nat) (d2:Bool) (dA2:Option Addr) (dL2 dC2:Nat) (dA3:Option Addr) (dL3 dC3:Nat) (dA4:Option Addr) (dL4 dC4:Nat) (H:S28 d dA dL dC d2 dA2 dL2 dC2 dA3 dL3 dC3 dA4 dL4 dC4 h R):ae Tryz.prog 28 #[.agg #[.int .i64 d,.slice dA dL dC,.bool d2,.slice dA2 dL2 dC2,.slice dA3 dL3 dC3,.slice dA4 dL4 dC4]] h R:=aR [1] 70 [(0,⟨[1],[5],[1],[]⟩)] [] [] [(1,⟨9,false⟩)] Tryz.func28 (by kernel_rfl) (by kernel_rfl) H
def DV (d:Int) (edgesV:List (Int × Int)) (d2:Bool) (labelsV:List ByteArray) (atV:List (Nat × Nat)) (weightV:List Nat) (R:Bool->Prop):Prop:=
 ∀(h:ab) (dA:Option Addr) (dL dC:Nat) (dA2:Option Addr) (dL2 dC2:Nat) (dA3:Option Addr) (dL3 dC3:Nat) (dA4:Option Addr) (dL4 dC4:Nat),Hp h [Ck.vw eP dA dL dC edgesV,Ck.vw eS dA2 dL2 dC2 labelsV,Ck.vw eFF dA3 dL3 dC3 atV,Ck.vw eF dA4 dL4 dC4 weightV]->ae Tryz.prog 28 #[.agg #[.int .i64 d,.slice dA dL dC,.bool d2,.slice dA2 dL2 dC2,.slice dA3 dL3 dC3,.slice dA4 dL4 dC4]] h fun v h'=>∃(rV:Bool),Sy h [] h' []/\v= .bool rV/\R rV
def T28 (d:Int) (edgesV:List (Int × Int)) (d2:Bool) (labelsV:List ByteArray) (atV:List (Nat × Nat)) (weightV:List Nat) (R:Bool->Prop):Prop:=∃a:Prop,(y7 d edgesV (fun g=>cnd (!g) (R false) (cnd ((labelsV.length:Int) != (0:Int)) (cnd ((labelsV.length:Int) != d) (R false) (cnd ((atV.length:Int) != (0:Int)) (cnd ((atV.length:Int) != d) (R false) (cnd ((weightV.length:Int) != (0:Int)) (cnd ((weightV.length:Int) != (edgesV.length:Int)) (R false) (a)) (a))) (cnd ((weightV.length:Int) != (0:Int)) (cnd ((weightV.length:Int) != (edgesV.length:Int)) (R false) (a)) (a)))) (cnd ((atV.length:Int) != (0:Int)) (cnd ((atV.length:Int) != d) (R false) (cnd ((weightV.length:Int) != (0:Int)) (cnd ((weightV.length:Int) != (edgesV.length:Int)) (R false) (a)) (a))) (cnd ((weightV.length:Int) != (0:Int)) (cnd ((weightV.length:Int) != (edgesV.length:Int)) (R false) (a)) (a))))))/\(a->∃(c:Int->Prop) (f:Int->Nat),c 0/\∀b:Int,c b->cnd (decide (b<(labelsV.length:Int))) (0<=b/\b<(labelsV.length:Int)/\∀e:ByteArray,labelsV[(Int.toNat b)]? =some e->Bl e (fun h=>cnd (!h) (R false) (c (i64.wrap (b+1))/\f (i64.wrap (b+1))<f b))) (R true))
theorem E7 {d edgesV d2 labelsV atV weightV} {R:Bool->Prop} (T:T28 d edgesV d2 labelsV atV weightV R):DV d edgesV d2 labelsV atV weightV R:=by
 intro h dA dL dC dA2 dL2 dC2 dA3 dL3 dC3 dA4 dL4 dC4 H;have Y:Sy h [] h _:=Sy.startM H rfl;obtain rfl:=Y.lenV 0 rfl;obtain rfl:=Y.lenV 1 rfl;obtain rfl:=Y.lenV 2 rfl;obtain rfl:=Y.lenV 3 rfl;apply yU;unfold S28;unfold T28 at T;intro hv;have Y:Sy _ _ hv [_,_,_,_,_]:=Y.junk _;clear_value hv;have Y0:=Y;have F:Fr [] hv hv:=Fr.refl _ _;obtain⟨Jv,T0,T1⟩:=T;obtain⟨B,hB,_⟩:=Y.cut [] [0,1,2,3,4] rfl;intro K;have hK:∀(hv3:ab),(Sy h [] hv3 ([]++B)/\Jv)->K hv3:=by
  subst hB;clear T0 Y;rintro hv3 ⟨Y,T⟩;replace T:=T1 T;have Y:Sy _ _ _ [_,_,_,_,_]:=Y;unfold K;obtain⟨Iv,m,T0,T1⟩:=T;obtain⟨B_2,hB_2,YB⟩:=Y.cut [] [0,1,2,3,4] rfl;obtain⟨JJ,hJJ⟩:∃JJ:Nat->LP,JJ=(fun k lz h'=>∃(i:Int),lz=[.int .i64 i]/\Sy h [] h' ([]++B_2)/\Iv i/\m i=k):=⟨_,rfl⟩;refine⟨fun lz h'=>∃k,JJ k lz h',Lm JJ,?_,?_⟩
  ·subst hJJ hB_2;exact⟨_,_,rfl,YB,T0,rfl⟩
  ·clear YB T0 Y;intro i hv4 hI;obtain⟨k,hI,hm⟩:=gT hI;subst hJJ hB_2;obtain⟨i,e,Y,T,rfl⟩:=hI;cases e;replace T:=T1 i T;have Y:Sy _ _ _ [_,_,_,_,_]:=Y;refine aj T (fun T=>?_) (fun T=>?_)
   ·obtain⟨q,q_2,T⟩:=T;obtain⟨b_2,o_2,hb,hr,d_2,hx⟩:=Y.atV 1 rfl q q_2;refine⟨b_2,o_2,hb,q,q_2,?_⟩;replace T:=T d_2 hx;refine⟨_,Y.cellV 1 rfl hb (t:=0) hx rfl,?_⟩;refine au (T _ (Hp.nil _)) (fun _ _ ⟨_,p,_⟩=>p.fr) (nF (fun h=>by cases h) bj) ?_;rintro v2 hv5 ⟨r2,PP,rfl,T⟩;have Y:Sy _ _ hv5 [_,_,_,_,_]:=Y.gr PP.fr;clear PP;refine⟨r2,rfl,?_⟩;refine aj T (fun T=>?_) (fun T=>?_)
    ·exact⟨_,Y.pick [] rfl,rfl,T⟩
    ·exact dm hm ⟨_,rfl,Y.pick [0,1,2,3,4] rfl,T.1,rfl⟩ T.2
   ·exact⟨_,Y.pick [] rfl,rfl,T⟩
 subst hB;replace T:=T0;clear T0 T1;refine au (T _ _ _ _ (Y.pick [0] rfl).hp) (fun _ _ ⟨_,p,_⟩=>p.fr) (nF (fun h=>by cases h) bj) ?_;rintro v hv2 ⟨r,PP,rfl,T⟩;have Y:Sy _ _ hv2 [_,_,_,_,_]:=Y.gr PP.fr;clear PP;refine⟨r,rfl,?_⟩;refine aj T (fun T=>?_) (fun T=>?_)
 ·exact⟨_,Y.pick [] rfl,rfl,T⟩
 ·refine aj T (fun T=>?_) (fun T=>?_)
  ·refine aj T (fun T=>?_) (fun T=>?_)
   ·exact⟨_,Y.pick [] rfl,rfl,T⟩
   ·refine aj T (fun T=>?_) (fun T=>?_)
    ·refine aj T (fun T=>?_) (fun T=>?_)
     ·exact⟨_,Y.pick [] rfl,rfl,T⟩
     ·refine aj T (fun T=>?_) (fun T=>?_)
      ·refine aj T (fun T=>?_) (fun T=>?_)
       ·exact⟨_,Y.pick [] rfl,rfl,T⟩
       ·exact hK _ ⟨Y.pick [0,1,2,3,4] rfl,T⟩
      ·exact hK _ ⟨Y.pick [0,1,2,3,4] rfl,T⟩
    ·refine aj T (fun T=>?_) (fun T=>?_)
     ·refine aj T (fun T=>?_) (fun T=>?_)
      ·exact⟨_,Y.pick [] rfl,rfl,T⟩
      ·exact hK _ ⟨Y.pick [0,1,2,3,4] rfl,T⟩
     ·exact hK _ ⟨Y.pick [0,1,2,3,4] rfl,T⟩
  ·refine aj T (fun T=>?_) (fun T=>?_)
   ·refine aj T (fun T=>?_) (fun T=>?_)
    ·exact⟨_,Y.pick [] rfl,rfl,T⟩
    ·refine aj T (fun T=>?_) (fun T=>?_)
     ·refine aj T (fun T=>?_) (fun T=>?_)
      ·exact⟨_,Y.pick [] rfl,rfl,T⟩
      ·exact hK _ ⟨Y.pick [0,1,2,3,4] rfl,T⟩
     ·exact hK _ ⟨Y.pick [0,1,2,3,4] rfl,T⟩
   ·refine aj T (fun T=>?_) (fun T=>?_)
    ·refine aj T (fun T=>?_) (fun T=>?_)
     ·exact⟨_,Y.pick [] rfl,rfl,T⟩
     ·exact hK _ ⟨Y.pick [0,1,2,3,4] rfl,T⟩
    ·exact hK _ ⟨Y.pick [0,1,2,3,4] rfl,T⟩
end Go.Proofs.YtlflalecmhgmjaaGreatDoor.N
