/- Functions: what is left to be shown of each, over memory and without: printed by program, tied to the loaded functions by the kernel. Conditions: none. -/
import Derived.Test.YtemphinmoihdaaaGreatDoorWEnv
import Derived.Test.YtemphinmoihdaaaGreatDoorGTell
import Derived.Test.YtemphinmoihdaaaGreatDoorTPar
import Derived.Test.YtemphinmoihdaaaGreatDoorTFmt
set_option linter.unusedVariables false
set_option linter.unusedSimpArgs false
open Go.IntKind (i64 u64 u8 i32)
namespace Go.Proofs.YtemphinmoihdaaaGreatDoor.N
open Go.Proofs.YtemphinmoihdaaaGreatDoor
open Go.X
set_option maxRecDepth 100000
set_option maxHeartbeats 2000000
def S76 (x:Nat) (h:ab) (R:VP):Prop:=QL 46 #[QQ x] fun c=>∃a:Int,c= QO a/\QL 68 #[QO (bits .andNot .u64 a (9223372036854775808:Int))] fun d=>∃b:Nat,d= QQ b/\R (QQ b) h
theorem Ho {h:ab} {R:VP} (x:Nat) (H:S76 x h R):QH 76 #[QQ x] h R:=aN [] 7 [] [] [] [] Tryz.func76 QC QC H
def Kx (x:Nat) (R:Nat->Prop):Prop:=
 ∀(h:ab),Hp h []->QH 76 #[QQ x] h fun v h'=>∃(rV:Nat),Sy h [] h' []/\v= QQ rV/\R rV
def T76 (x:Nat) (R:Nat->Prop):Prop:=QL 46 #[QQ x] fun c=>∃a:Int,c= QO a/\QL 68 #[QO (bits .andNot .u64 a (9223372036854775808:Int))] fun d=>∃b:Nat,d= QQ b/\R b
theorem Qk {x} {R:Nat->Prop} (T:T76 x R):Kx x R:=by
 intro h H;have Y:Sy h [] h _:=Sy.startM H rfl;apply Ho;unfold S76;unfold T76 at T;obtain⟨Rx_2,hx_2,T⟩:=T;refine⟨Rx_2,hx_2,fun v hv=>?_⟩;obtain⟨r,rfl,T⟩:=T v hv;refine⟨r,rfl,?_⟩;obtain⟨Rx,hx,T⟩:=T;refine⟨Rx,hx,fun v2 hv=>?_⟩;obtain⟨r2,rfl,T⟩:=T v2 hv;refine⟨r2,rfl,?_⟩;exact⟨_,Y.pick [] rfl,rfl,T⟩
def Ot (sign:Int) (h:ab) (R:VP):Prop:=∃a:LP,(cnd (decide (sign>=0)) (a [QO 9218868437227405312] h) (a [QO 18442240474082181120] h))/\∀d:Int,∀b,a [QO d] b->QL 68 #[QO d] fun e=>∃c:Nat,e= QQ c/\R (QQ c) b
theorem DZ {h:ab} {R:VP} (sign:Int) (H:Ot sign h R):QH 180 #[QM sign] h R:=aN [] 8 [] [(5,⟨[],[3],[],[]⟩)] [] [] Tryz.func180 QC QC H
def D1 (sign:Int) (R:Nat->Prop):Prop:=
 ∀(h:ab),Hp h []->QH 180 #[QM sign] h fun v h'=>∃(rV:Nat),Sy h [] h' []/\v= QQ rV/\R rV
def Hq (sign:Int) (R:Nat->Prop):Prop:=∃a:Int->Prop,(cnd (decide (sign>=0)) (a 9218868437227405312) (a 18442240474082181120))/\∀c:Int,a c->QL 68 #[QO c] fun d=>∃b:Nat,d= QQ b/\R b
theorem I5 {sign} {R:Nat->Prop} (T:Hq sign R):D1 sign R:=by
 intro h H;have Y:Sy h [] h _:=Sy.startM H rfl;apply DZ;unfold Ot;unfold Hq at T;obtain⟨Jv,T0,T1⟩:=T;obtain⟨B,hB,_⟩:=Y.cut [] [] rfl;refine⟨fun lz h'=>∃(v:Int),lz=[QO v]/\Sy h [] h' ([]++B)/\Jv v,?_,?_⟩
 ·subst hB;replace T:=T0;clear T0 T1;refine ag T (fun T=>?_) (fun T=>?_)
  ·exact⟨_,rfl,Y.pick [] rfl,T⟩
  ·exact⟨_,rfl,Y.pick [] rfl,T⟩
 ·subst hB;clear T0 Y;rintro v hv ⟨v,e,Y,T⟩;cases e;replace T:=T1 v T;have Y:Sy _ _ _ []:=Y;obtain⟨Rx,hx,T⟩:=T;refine⟨Rx,hx,fun v2 hv=>?_⟩;obtain⟨r,rfl,T⟩:=T v2 hv;refine⟨r,rfl,?_⟩;exact⟨_,Y.pick [] rfl,rfl,T⟩
def S55 (f:Nat) (sign:Int) (h:ab) (R:VP):Prop:=∃a:LP,(cnd (sign==0) (QG 76 #[QQ f] h [] fun k j=>∃i:Nat,k= QQ i/\a [QQ i] j) (∃b:LP,(cnd (decide (sign<0)) (b [QQ (Op.negFloat .f64 f)] h) (b [QQ f] h))/\∀c:Nat,∀e,b [QQ c] e->a [QQ c] e))/\∀d:Nat,∀g,a [QQ d] g->R (.bool ((FloatKind.f64).format.order d 9218868437227405311==some .gt)) g
theorem Hr {h:ab} {R:VP} (f:Nat) (sign:Int) (H:S55 f sign h R):QH 55 #[QQ f,QM sign] h R:=aN [] 15 [] [(6,⟨[],[0],[],[]⟩),(10,⟨[],[0],[],[]⟩)] [] [] Tryz.func55 QC QC H
def Bt (f:Nat) (sign:Int) (R:Bool->Prop):Prop:=
 ∀(h:ab),Hp h []->QH 55 #[QQ f,QM sign] h fun v h'=>∃(rV:Bool),Sy h [] h' []/\v= .bool rV/\R rV
def T55 (f:Nat) (sign:Int) (R:Bool->Prop):Prop:=∃a:Nat->Prop,(cnd (sign==0) (Kx f (fun e=>a e)) (∃b:Nat->Prop,(cnd (decide (sign<0)) (b (Op.negFloat .f64 f)) (b f))/\∀c:Nat,b c->a c))/\∀d:Nat,a d->R ((FloatKind.f64).format.order d 9218868437227405311==some .gt)
theorem Ky {f sign} {R:Bool->Prop} (T:T55 f sign R):Bt f sign R:=by
 intro h H;have Y:Sy h [] h _:=Sy.startM H rfl;apply Hr;unfold S55;unfold T55 at T;obtain⟨Jv,T0,T1⟩:=T;obtain⟨B,hB,_⟩:=Y.cut [] [] rfl;refine⟨fun lz h'=>∃(f3:Nat),lz=[QQ f3]/\Sy h [] h' ([]++B)/\Jv f3,?_,?_⟩
 ·subst hB;replace T:=T0;clear T0 T1;refine ag T (fun T=>?_) (fun T=>?_)
  ·refine ak (T _ (Hp.nil _)) (fun _ _ ⟨_,p,_⟩=>p.fr) aI ?_;rintro v hv ⟨r,PP,rfl,T⟩;have Y:Sy _ _ hv []:=Y.gr PP.fr;clear PP;refine⟨r,rfl,?_⟩;exact⟨_,rfl,Y.pick [] rfl,T⟩
  ·obtain⟨Jv2,T0,T1⟩:=T;obtain⟨B_2,hB_2,_⟩:=Y.cut [] [] rfl;refine⟨fun lz h'=>∃(f2:Nat),lz=[QQ f2]/\Sy h [] h' ([]++B_2)/\Jv2 f2,?_,?_⟩
   ·subst hB_2;replace T:=T0;clear T0 T1;refine ag T (fun T=>?_) (fun T=>?_)
    ·exact⟨_,rfl,Y.pick [] rfl,T⟩
    ·exact⟨_,rfl,Y.pick [] rfl,T⟩
   ·subst hB_2;clear T0 Y;rintro f2 hv2 ⟨f2,e,Y,T⟩;cases e;replace T:=T1 f2 T;have Y:Sy _ _ _ []:=Y;exact⟨_,rfl,Y.pick [] rfl,T⟩
 ·subst hB;clear T0 Y;rintro f3 hv3 ⟨f3,e,Y,T⟩;cases e;replace T:=T1 f3 T;have Y:Sy _ _ _ []:=Y;exact⟨_,Y.pick [] rfl,rfl,T⟩
def Ou (s:ByteArray) (h:ab) (R:VP):Prop:=let a:=fun(d:ab)=>(R (.string s) d);cnd (!(s.toList==(⟨#[]⟩:ByteArray).toList)) (0<=(0:Int)/\(0:Int)<(s.size:Int)/\∃b:UInt8,s[Int.toNat (0:Int)]? =some b/\cnd ((UInt8.toNat b:Int)==(43:Int)) (0<=(1:Int)/\(1:Int)<=(s.size:Int)/\R (.string (s.extract (Int.toNat (1:Int)) s.size)) h) (0<=(0:Int)/\(0:Int)<(s.size:Int)/\∃c:UInt8,s[Int.toNat (0:Int)]? =some c/\cnd ((UInt8.toNat c:Int)==(45:Int)) (0<=(1:Int)/\(1:Int)<=(s.size:Int)/\R (.string (s.extract (Int.toNat (1:Int)) s.size)) h) (a h))) (a h)
theorem D2 {h:ab} {R:VP} (s:ByteArray) (H:Ou s h R):QH 201 #[.string s] h R:=aN [] 18 [] [] [] [] Tryz.func201 QC QC H
def Av (s:ByteArray) (R:ByteArray->Prop):Prop:=
 ∀(h:ab),Hp h []->QH 201 #[.string s] h fun v h'=>∃(rV:ByteArray),Sy h [] h' []/\v= .string rV/\R rV
def Kz (s:ByteArray) (R:ByteArray->Prop):Prop:=∃a:Prop,(cnd (!(s.toList==(⟨#[]⟩:ByteArray).toList)) (0<=(0:Int)/\(0:Int)<(s.size:Int)/\∃b:UInt8,s[Int.toNat (0:Int)]? =some b/\cnd ((UInt8.toNat b:Int)==(43:Int)) (0<=(1:Int)/\(1:Int)<=(s.size:Int)/\R (s.extract (Int.toNat (1:Int)) s.size)) (0<=(0:Int)/\(0:Int)<(s.size:Int)/\∃c:UInt8,s[Int.toNat (0:Int)]? =some c/\cnd ((UInt8.toNat c:Int)==(45:Int)) (0<=(1:Int)/\(1:Int)<=(s.size:Int)/\R (s.extract (Int.toNat (1:Int)) s.size)) (a))) (a))/\(a->R s)
theorem Ov {s} {R:ByteArray->Prop} (T:Kz s R):Av s R:=by
 intro h H;have Y:Sy h [] h _:=Sy.startM H rfl;apply D2;unfold Ou;unfold Kz at T;obtain⟨Jv,T0,T1⟩:=T;obtain⟨B,hB,_⟩:=Y.cut [] [] rfl;intro K;have hK:∀(hv:ab),(Sy h [] hv ([]++B)/\Jv)->K hv:=by
  subst hB;clear T0 Y;rintro hv ⟨Y,T⟩;replace T:=T1 T;have Y:Sy _ _ _ []:=Y;unfold K;exact⟨_,Y.pick [] rfl,rfl,T⟩
 subst hB;replace T:=T0;clear T0 T1;refine ag T (fun T=>?_) (fun T=>?_)
 ·obtain⟨q_7,q_8,T⟩:=T;refine⟨q_7,q_8,?_⟩;obtain⟨xc,hq,T⟩:=T;refine⟨xc,hq,?_⟩;refine ag T (fun T=>?_) (fun T=>?_)
  ·obtain⟨q,q_2,T⟩:=T;refine⟨q,q_2,?_⟩;exact⟨_,Y.pick [] rfl,rfl,T⟩
  ·obtain⟨q_5,q_6,T⟩:=T;refine⟨q_5,q_6,?_⟩;obtain⟨xc2,hq,T⟩:=T;refine⟨xc2,hq,?_⟩;refine ag T (fun T=>?_) (fun T=>?_)
   ·obtain⟨q_3,q_4,T⟩:=T;refine⟨q_3,q_4,?_⟩;exact⟨_,Y.pick [] rfl,rfl,T⟩
   ·exact hK _ ⟨Y.pick [] rfl,T⟩
 ·exact hK _ ⟨Y.pick [] rfl,T⟩
def Ow (s:ByteArray) (h:ab) (R:VP):Prop:=let e:=fun(l:Int) (k:ab)=>(R (QM l) k);∃(c:LP) (f:List Value->ab->Nat),c [QM 0] h/\∀a:Int,∀b,c [QM a] b->let d:=fun(j:ab)=>(e a j);cnd (decide (a<(s.size:Int))) (0<=a/\a<(s.size:Int)/\∃g:UInt8,s[Int.toNat a]? =some g/\cnd (decide ((UInt8.toNat g:Int)>=(48:Int))) (0<=a/\a<(s.size:Int)/\∃i:UInt8,s[Int.toNat a]? =some i/\cnd (decide ((UInt8.toNat i:Int)<=(57:Int))) (c [QM (i64.wrap (a+1))] b/\f [QM (i64.wrap (a+1))] b<f [QM a] b) (e a b)) (d b)) (d b)
theorem D3 {h:ab} {R:VP} (s:ByteArray) (H:Ow s h R):QH 202 #[.string s] h R:=aN [] 23 [(0,⟨[0],[3],[],[]⟩)] [] [] [] Tryz.func202 QC QC H
def wU (s:ByteArray) (R:Int->Prop):Prop:=
 ∀(h:ab),Hp h []->QH 202 #[.string s] h fun v h'=>∃(rV:Int),Sy h [] h' []/\v= QM rV/\R rV
def KA (s:ByteArray) (R:Int->Prop):Prop:=∃c:Int->Prop,(∃(b:Int->Prop) (e:Int->Nat),b 0/\∀a:Int,b a->∃d:Prop,(cnd (decide (a<(s.size:Int))) (0<=a/\a<(s.size:Int)/\∃g:UInt8,s[Int.toNat a]? =some g/\cnd (decide ((UInt8.toNat g:Int)>=(48:Int))) (0<=a/\a<(s.size:Int)/\∃h:UInt8,s[Int.toNat a]? =some h/\cnd (decide ((UInt8.toNat h:Int)<=(57:Int))) (b (i64.wrap (a+1))/\e (i64.wrap (a+1))<e a) (c a)) (d)) (d))/\(d->c a))/\∀f:Int,c f->R f
theorem Ox {s} {R:Int->Prop} (T:KA s R):wU s R:=by
 intro h H;have Y:Sy h [] h _:=Sy.startM H rfl;apply D3;unfold Ow;unfold KA at T;obtain⟨Jv,T0,T1⟩:=T;obtain⟨B,hB,_⟩:=Y.cut [] [] rfl;intro K2;have hK2:∀(n2:Int) (hv3:ab),(Sy h [] hv3 ([]++B)/\Jv n2)->K2 n2 hv3:=by
  subst hB;clear T0 Y;rintro n2 hv3 ⟨Y,T⟩;replace T:=T1 n2 T;have Y:Sy _ _ _ []:=Y;unfold K2;exact⟨_,Y.pick [] rfl,rfl,T⟩
 subst hB;replace T:=T0;clear T0 T1;obtain⟨Iv,m,T0,T1⟩:=T;obtain⟨B_2,hB_2,YB⟩:=Y.cut [] [] rfl;obtain⟨JJ,hJJ⟩:∃JJ:Nat->LP,JJ=(fun k lz h'=>∃(n:Int),lz=[QM n]/\Sy h [] h' ([]++B_2)/\Iv n/\m n=k):=⟨_,rfl⟩;refine⟨fun lz h'=>∃k,JJ k lz h',Lm JJ,?_,?_⟩
 ·subst hJJ hB_2;exact⟨_,_,rfl,YB,T0,rfl⟩
 ·clear YB T0 Y;intro n hv hI;obtain⟨k,hI,hm⟩:=gd hI;subst hJJ hB_2;obtain⟨n,e,Y,T,rfl⟩:=hI;cases e;replace T:=T1 n T;have Y:Sy _ _ _ []:=Y;obtain⟨Jv_2,T0,T1⟩:=T;obtain⟨B_3,hB_3,_⟩:=Y.cut [] [] rfl;intro K;have hK:∀(hv2:ab),(Sy h [] hv2 ([]++B_3)/\Jv_2)->K hv2:=by
   subst hB_3;clear T0 Y;rintro hv2 ⟨Y,T⟩;replace T:=T1 T;have Y:Sy _ _ _ []:=Y;unfold K;exact hK2 _ _ ⟨Y.pick [] rfl,T⟩
  subst hB_3;replace T:=T0;clear T0 T1;refine ag T (fun T=>?_) (fun T=>?_)
  ·obtain⟨q_3,q_4,T⟩:=T;refine⟨q_3,q_4,?_⟩;obtain⟨xc,hq,T⟩:=T;refine⟨xc,hq,?_⟩;refine ag T (fun T=>?_) (fun T=>?_)
   ·obtain⟨q,q_2,T⟩:=T;refine⟨q,q_2,?_⟩;obtain⟨xc2,hq,T⟩:=T;refine⟨xc2,hq,?_⟩;refine ag T (fun T=>?_) (fun T=>?_)
    ·exact cK hm ⟨_,rfl,Y.pick [] rfl,T.1,rfl⟩ T.2
    ·exact hK2 _ _ ⟨Y.pick [] rfl,T⟩
   ·exact hK _ ⟨Y.pick [] rfl,T⟩
  ·exact hK _ ⟨Y.pick [] rfl,T⟩
def Oy (s:ByteArray) (h:ab) (R:VP):Prop:=QG 201 #[.string s] h [] fun x u=>∃a:ByteArray,x= .string a/\QG 202 #[.string a] u [] fun y f=>∃b:Int,y= QM b/\cnd (b==0) (R (.bool false) f) (0<=b/\b<=(a.size:Int)/\let k:=fun(c:ByteArray) (g:ab)=>(cnd (c.toList==(⟨#[]⟩:ByteArray).toList) (R (.bool true) g) (let l:=fun(v:ab)=>(0<=(1:Int)/\(1:Int)<=(c.size:Int)/\QG 201 #[.string (c.extract (Int.toNat (1:Int)) c.size)] v [] fun A j=>∃e:ByteArray,A= .string e/\cnd (decide ((e.size:Int)>=(1:Int))) (cnd (decide ((e.size:Int)<=(4:Int))) (QG 202 #[.string e] j [] fun B w=>∃o:Int,B= QM o/\R (.bool (o==(e.size:Int))) w) (R (.bool false) j)) (R (.bool false) j));0<=(0:Int)/\(0:Int)<(c.size:Int)/\∃r:UInt8,c[Int.toNat (0:Int)]? =some r/\cnd ((UInt8.toNat r:Int) != (101:Int)) (0<=(0:Int)/\(0:Int)<(c.size:Int)/\∃t:UInt8,c[Int.toNat (0:Int)]? =some t/\cnd ((UInt8.toNat t:Int) != (69:Int)) (R (.bool false) g) (l g)) (l g)));cnd (!((a.extract (Int.toNat b) a.size).toList==(⟨#[]⟩:ByteArray).toList)) (0<=(0:Int)/\(0:Int)<((a.extract (Int.toNat b) a.size).size:Int)/\∃q:UInt8,(a.extract (Int.toNat b) a.size)[Int.toNat (0:Int)]? =some q/\∃i:LP,(cnd ((UInt8.toNat q:Int)==(46:Int)) (0<=(1:Int)/\(1:Int)<=((a.extract (Int.toNat b) a.size).size:Int)/\QG 202 #[.string ((a.extract (Int.toNat b) a.size).extract (Int.toNat (1:Int)) (a.extract (Int.toNat b) a.size).size)] f [] fun z m=>∃d:Int,z= QM d/\cnd (d==0) (R (.bool false) m) (0<=(i64.wrap ((1:Int)+d))/\(i64.wrap ((1:Int)+d))<=((a.extract (Int.toNat b) a.size).size:Int)/\i [.string ((a.extract (Int.toNat b) a.size).extract (Int.toNat (i64.wrap ((1:Int)+d))) (a.extract (Int.toNat b) a.size).size)] m)) (i [.string (a.extract (Int.toNat b) a.size)] f))/\∀p:ByteArray,∀n,i [.string p] n->k p n) (k (a.extract (Int.toNat b) a.size) f))
theorem D4 {h:ab} {R:VP} (s:ByteArray) (H:Oy s h R):QH 181 #[.string s] h R:=aN [] 57 [] [(19,⟨[],[0],[],[]⟩)] [] [] Tryz.func181 QC QC H
def I6 (s:ByteArray) (R:Bool->Prop):Prop:=
 ∀(h:ab),Hp h []->QH 181 #[.string s] h fun v h'=>∃(rV:Bool),Sy h [] h' []/\v= .bool rV/\R rV
def KB (s:ByteArray) (R:Bool->Prop):Prop:=Av s (fun a=>wU a (fun b=>cnd (b==0) (R false) (0<=b/\b<=(a.size:Int)/\∃g:ByteArray->Prop,(cnd (!((a.extract (Int.toNat b) a.size).toList==(⟨#[]⟩:ByteArray).toList)) (0<=(0:Int)/\(0:Int)<((a.extract (Int.toNat b) a.size).size:Int)/\∃j:UInt8,(a.extract (Int.toNat b) a.size)[Int.toNat (0:Int)]? =some j/\∃f:ByteArray->Prop,(cnd ((UInt8.toNat j:Int)==(46:Int)) (0<=(1:Int)/\(1:Int)<=((a.extract (Int.toNat b) a.size).size:Int)/\wU ((a.extract (Int.toNat b) a.size).extract (Int.toNat (1:Int)) (a.extract (Int.toNat b) a.size).size) (fun d=>cnd (d==0) (R false) (0<=(i64.wrap ((1:Int)+d))/\(i64.wrap ((1:Int)+d))<=((a.extract (Int.toNat b) a.size).size:Int)/\f ((a.extract (Int.toNat b) a.size).extract (Int.toNat (i64.wrap ((1:Int)+d))) (a.extract (Int.toNat b) a.size).size)))) (f (a.extract (Int.toNat b) a.size)))/\∀i:ByteArray,f i->g i) (g (a.extract (Int.toNat b) a.size)))/\∀c:ByteArray,g c->cnd (c.toList==(⟨#[]⟩:ByteArray).toList) (R true) (∃h:Prop,(0<=(0:Int)/\(0:Int)<(c.size:Int)/\∃k:UInt8,c[Int.toNat (0:Int)]? =some k/\cnd ((UInt8.toNat k:Int) != (101:Int)) (0<=(0:Int)/\(0:Int)<(c.size:Int)/\∃l:UInt8,c[Int.toNat (0:Int)]? =some l/\cnd ((UInt8.toNat l:Int) != (69:Int)) (R false) (h)) (h))/\(h->0<=(1:Int)/\(1:Int)<=(c.size:Int)/\Av (c.extract (Int.toNat (1:Int)) c.size) (fun e=>cnd (decide ((e.size:Int)>=(1:Int))) (cnd (decide ((e.size:Int)<=(4:Int))) (wU e (fun m=>R (m==(e.size:Int)))) (R false)) (R false)))))))
theorem Oz {s} {R:Bool->Prop} (T:KB s R):I6 s R:=by
 intro h H;have Y:Sy h [] h _:=Sy.startM H rfl;apply D4;unfold Oy;unfold KB at T;refine ak (T _ (Hp.nil _)) (fun _ _ ⟨_,p,_⟩=>p.fr) aI ?_;rintro v hv ⟨r,PP,rfl,T⟩;have Y:Sy _ _ hv []:=Y.gr PP.fr;clear PP;refine⟨r,rfl,?_⟩;refine ak (T _ (Hp.nil _)) (fun _ _ ⟨_,p,_⟩=>p.fr) aI ?_;rintro v2 hv2 ⟨r2,PP,rfl,T⟩;have Y:Sy _ _ hv2 []:=Y.gr PP.fr;clear PP;refine⟨r2,rfl,?_⟩;refine ag T (fun T=>?_) (fun T=>?_)
 ·exact⟨_,Y.pick [] rfl,rfl,T⟩
 ·obtain⟨q_13,q_14,T⟩:=T;refine⟨q_13,q_14,?_⟩;obtain⟨Jv_2,T0,T1⟩:=T;obtain⟨B,hB,_⟩:=Y.cut [] [] rfl;intro K;have hK:∀(s3:ByteArray) (hv5:ab),(Sy h [] hv5 ([]++B)/\Jv_2 s3)->K s3 hv5:=by
   subst hB;clear T0 Y;rintro s3 hv5 ⟨Y,T⟩;replace T:=T1 s3 T;have Y:Sy _ _ _ []:=Y;unfold K;refine ag T (fun T=>?_) (fun T=>?_)
   ·exact⟨_,Y.pick [] rfl,rfl,T⟩
   ·obtain⟨Jv_3,T0,T1⟩:=T;obtain⟨B_2,hB_2,_⟩:=Y.cut [] [] rfl;intro K2;have hK2:∀(hv6:ab),(Sy h [] hv6 ([]++B_2)/\Jv_3)->K2 hv6:=by
     subst hB_2;clear T0 Y;rintro hv6 ⟨Y,T⟩;replace T:=T1 T;have Y:Sy _ _ _ []:=Y;unfold K2;obtain⟨q,q_2,T⟩:=T;refine⟨q,q_2,?_⟩;refine ak (T _ (Hp.nil _)) (fun _ _ ⟨_,p,_⟩=>p.fr) aI ?_;rintro v4 hv7 ⟨r4,PP,rfl,T⟩;have Y:Sy _ _ hv7 []:=Y.gr PP.fr;clear PP;refine⟨r4,rfl,?_⟩;refine ag T (fun T=>?_) (fun T=>?_)
     ·refine ag T (fun T=>?_) (fun T=>?_)
      ·refine ak (T _ (Hp.nil _)) (fun _ _ ⟨_,p,_⟩=>p.fr) aI ?_;rintro v5 hv8 ⟨r5,PP,rfl,T⟩;have Y:Sy _ _ hv8 []:=Y.gr PP.fr;clear PP;refine⟨r5,rfl,?_⟩;exact⟨_,Y.pick [] rfl,rfl,T⟩
      ·exact⟨_,Y.pick [] rfl,rfl,T⟩
     ·exact⟨_,Y.pick [] rfl,rfl,T⟩
    subst hB_2;replace T:=T0;clear T0 T1;obtain⟨q_5,q_6,T⟩:=T;refine⟨q_5,q_6,?_⟩;obtain⟨xc2,hq,T⟩:=T;refine⟨xc2,hq,?_⟩;refine ag T (fun T=>?_) (fun T=>?_)
    ·obtain⟨q_3,q_4,T⟩:=T;refine⟨q_3,q_4,?_⟩;obtain⟨xc3,hq,T⟩:=T;refine⟨xc3,hq,?_⟩;refine ag T (fun T=>?_) (fun T=>?_)
     ·exact⟨_,Y.pick [] rfl,rfl,T⟩
     ·exact hK2 _ ⟨Y.pick [] rfl,T⟩
    ·exact hK2 _ ⟨Y.pick [] rfl,T⟩
  subst hB;replace T:=T0;clear T0 T1;refine ag T (fun T=>?_) (fun T=>?_)
  ·obtain⟨q_11,q_12,T⟩:=T;refine⟨q_11,q_12,?_⟩;obtain⟨xc,hq,T⟩:=T;refine⟨xc,hq,?_⟩;obtain⟨Jv,T0,T1⟩:=T;obtain⟨B_3,hB_3,_⟩:=Y.cut [] [] rfl;refine⟨fun lz h'=>∃(s2:ByteArray),lz=[.string s2]/\Sy h [] h' ([]++B_3)/\Jv s2,?_,?_⟩
   ·subst hB_3;replace T:=T0;clear T0 T1;refine ag T (fun T=>?_) (fun T=>?_)
    ·obtain⟨q_9,q_10,T⟩:=T;refine⟨q_9,q_10,?_⟩;refine ak (T _ (Hp.nil _)) (fun _ _ ⟨_,p,_⟩=>p.fr) aI ?_;rintro v3 hv3 ⟨r3,PP,rfl,T⟩;have Y:Sy _ _ hv3 []:=Y.gr PP.fr;clear PP;refine⟨r3,rfl,?_⟩;refine ag T (fun T=>?_) (fun T=>?_)
     ·exact⟨_,Y.pick [] rfl,rfl,T⟩
     ·obtain⟨q_7,q_8,T⟩:=T;refine⟨q_7,q_8,?_⟩;exact⟨_,rfl,Y.pick [] rfl,T⟩
    ·exact⟨_,rfl,Y.pick [] rfl,T⟩
   ·subst hB_3;clear T0 Y;rintro s2 hv4 ⟨s2,e,Y,T⟩;cases e;replace T:=T1 s2 T;have Y:Sy _ _ _ []:=Y;exact hK _ _ ⟨Y.pick [] rfl,T⟩
  ·exact hK _ _ ⟨Y.pick [] rfl,T⟩
def OA (s:ByteArray) (bitSize:Int) (h:ab) (R:VP):Prop:=QG 203 #[.string s,QM bitSize] h [] fun l b=>∃a:Nat,((l= .tuple #[QQ a,.nilIface]/\cnd (!true) (QG 204 #[.string ⟨#[80,97,114,115,101,70,108,111,97,116]⟩,.string s,QM 0,QM bitSize,.nilIface] b [] fun m c=>((m= .nilIface/\R (.tuple #[QQ a,.nilIface]) c)\/∃(g:Nat) (e:Value),m= .iface g e/\R (.tuple #[QQ a,.iface g e]) c)) (R (.tuple #[QQ a,.nilIface]) b))\/∃(k:Nat) (j:Value),l= .tuple #[QQ a,.iface k j]/\cnd (!false) (QG 204 #[.string ⟨#[80,97,114,115,101,70,108,111,97,116]⟩,.string s,QM 0,QM bitSize,.iface k j] b [] fun n d=>((n= .nilIface/\R (.tuple #[QQ a,.nilIface]) d)\/∃(i:Nat) (f:Value),n= .iface i f/\R (.tuple #[QQ a,.iface i f]) d)) (R (.tuple #[QQ a,.nilIface]) b))
theorem D5 {h:ab} {R:VP} (s:ByteArray) (bitSize:Int) (H:OA s bitSize h R):QH 182 #[.string s,QM bitSize] h R:=aN [] 22 [] [] [] [] Tryz.func182 QC QC H
def OB (s:ByteArray) (h:ab) (R:VP):Prop:=cnd (s.toList==(⟨#[78,97,78]⟩:ByteArray).toList) (QL 68 #[QO 9221120237041090561] fun t=>∃f:Nat,t= QQ f/\R (.tuple #[QQ f,QM 0]) h) (cnd (s.toList==(⟨#[73,78,70]⟩:ByteArray).toList) (QG 180 #[QM 1] h [] fun u n=>∃g:Nat,u= QQ g/\R (.tuple #[QQ g,QM 0]) n) (cnd (s.toList==(⟨#[45,73,78,70]⟩:ByteArray).toList) (QG 180 #[QM (-1)] h [] fun v o=>∃i:Nat,v= QQ i/\R (.tuple #[QQ i,QM 0]) o) (QG 181 #[.string s] h [] fun w b=>∃j:Bool,w= .bool j/\cnd (!j) (R (.tuple #[QQ 0,QM 17]) b) (cnd (decide ((s.size:Int)>(64:Int))) (R (.tuple #[QQ 0,QM 23]) b) (let c:=fun(m:Nat) (p:ab)=>(QG 55 #[QQ m,QM 0] p [] fun x e=>∃k:Bool,x= .bool k/\cnd k (R (.tuple #[QQ 0,QM 2]) e) (R (.tuple #[QQ m,QM 0]) e));QG 182 #[.string s,QM 64] b [] fun l d=>∃a:Nat,((l= .tuple #[QQ a,.nilIface]/\c a d)\/∃(r:Nat) (q:Value),l= .tuple #[QQ a,.iface r q]/\c a d))))))
theorem D6 {h:ab} {R:VP} (s:ByteArray) (H:OB s h R):QH 149 #[.string s] h R:=aN [] 32 [] [] [] [] Tryz.func149 QC QC H
def S32 (x:Nat) (h:ab) (R:VP):Prop:=cnd ((FloatKind.f64).format.order x x != some .eq) (R (.string ⟨#[78,97,78]⟩) h) (QG 55 #[QQ x,QM 1] h [] fun m c=>∃g:Bool,m= .bool g/\cnd g (R (.string ⟨#[73,78,70]⟩) c) (QG 55 #[QQ x,QM (-1)] c [] fun n d=>∃i:Bool,n= .bool i/\cnd i (R (.string ⟨#[45,73,78,70]⟩) d) (QG 56 #[QQ x,QP 103,QM (-1),QM 64] d [] fun o l=>∃a:ByteArray,o= .string a/\QG 57 #[.string a,.string ⟨#[46,101]⟩] l [] fun p e=>∃j:Bool,p= .bool j/\∃b:LP,(cnd (!j) ((((a.size+(⟨#[46,48]⟩:ByteArray).size:Nat)):Int)<=9223372036854775807/\b [.string (a++(⟨#[46,48]⟩:ByteArray))] e) (b [.string a] e))/\∀k:ByteArray,∀f,b [.string k] f->R (.string k) f)))
theorem Hu {h:ab} {R:VP} (x:Nat) (H:S32 x h R):QH 32 #[QQ x] h R:=aN [] 22 [] [(18,⟨[],[3],[],[]⟩)] [] [] Tryz.func32 QC QC H
def OC (x:Nat) (R:ByteArray->Prop):Prop:=
 ∀(h:ab) (gl:GL),Hp h [Ck.glob gl]->QH 32 #[QQ x] h fun v h'=>∃(rV:ByteArray),Sy h [] h' []/\v= .string rV/\R rV
def T32 (x:Nat) (R:ByteArray->Prop):Prop:=cnd ((FloatKind.f64).format.order x x != some .eq) (R (⟨#[78,97,78]⟩:ByteArray)) (Bt x 1 (fun d=>cnd d (R (⟨#[73,78,70]⟩:ByteArray)) (Bt x (-1) (fun e=>cnd e (R (⟨#[45,73,78,70]⟩:ByteArray)) (J6 x 103 (-1) 64 (fun a=>Ns a (⟨#[46,101]⟩:ByteArray) (fun f=>∃b:ByteArray->Prop,(cnd (!f) ((((a.size+(⟨#[46,48]⟩:ByteArray).size:Nat)):Int)<=9223372036854775807/\b (a++(⟨#[46,48]⟩:ByteArray))) (b a))/\∀c:ByteArray,b c->R c)))))))
theorem Qn {x} {R:ByteArray->Prop} (T:T32 x R):OC x R:=by
 intro h gl H;have Y:Sy h [] h _:=Sy.startM H rfl;apply Hu;unfold S32;unfold T32 at T;refine ag T (fun T=>?_) (fun T=>?_)
 ·exact⟨_,Y.pick [] rfl,rfl,T⟩
 ·refine ak (T _ (Hp.nil _)) (fun _ _ ⟨_,p,_⟩=>p.fr) aI ?_;rintro v hv ⟨r,PP,rfl,T⟩;have Y:Sy _ _ hv [_]:=Y.gr PP.fr;clear PP;refine⟨r,rfl,?_⟩;refine ag T (fun T=>?_) (fun T=>?_)
  ·exact⟨_,Y.pick [] rfl,rfl,T⟩
  ·refine ak (T _ (Hp.nil _)) (fun _ _ ⟨_,p,_⟩=>p.fr) aI ?_;rintro v2 hv2 ⟨r2,PP,rfl,T⟩;have Y:Sy _ _ hv2 [_]:=Y.gr PP.fr;clear PP;refine⟨r2,rfl,?_⟩;refine ag T (fun T=>?_) (fun T=>?_)
   ·exact⟨_,Y.pick [] rfl,rfl,T⟩
   ·refine ak (T _ _ (Y.pick [0] rfl).hp) (fun _ _ ⟨_,p,_⟩=>p.fr) aI ?_;rintro v3 hv3 ⟨r3,PP,rfl,T⟩;have Y:Sy _ _ hv3 [_]:=Y.gr PP.fr;clear PP;refine⟨r3,rfl,?_⟩;refine ak (T _ (Hp.nil _)) (fun _ _ ⟨_,p,_⟩=>p.fr) aI ?_;rintro v4 hv4 ⟨r4,PP,rfl,T⟩;have Y:Sy _ _ hv4 [_]:=Y.gr PP.fr;clear PP;refine⟨r4,rfl,?_⟩;obtain⟨Jv,T0,T1⟩:=T;obtain⟨B,hB,_⟩:=Y.cut [] [0] rfl;refine⟨fun lz h'=>∃(s:ByteArray),lz=[.string s]/\Sy h [] h' ([]++B)/\Jv s,?_,?_⟩
    ·subst hB;replace T:=T0;clear T0 T1;refine ag T (fun T=>?_) (fun T=>?_)
     ·obtain⟨q,T⟩:=T;refine⟨q,?_⟩;exact⟨_,rfl,Y.pick [0] rfl,T⟩
     ·exact⟨_,rfl,Y.pick [0] rfl,T⟩
    ·subst hB;clear T0 Y;rintro s hv5 ⟨s,e,Y,T⟩;cases e;replace T:=T1 s T;have Y:Sy _ _ _ [_]:=Y;exact⟨_,Y.pick [] rfl,rfl,T⟩
end Go.Proofs.YtemphinmoihdaaaGreatDoor.N
