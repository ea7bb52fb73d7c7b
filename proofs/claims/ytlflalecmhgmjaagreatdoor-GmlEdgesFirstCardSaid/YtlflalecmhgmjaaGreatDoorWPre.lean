/- Functions: what is left to be shown of each, over memory and without: printed by program, tied to the loaded functions by the kernel. Conditions: none. -/
import Derived.Test.YtlflalecmhgmjaaGreatDoorWEnv
import Derived.Test.YtlflalecmhgmjaaGreatDoorYGl
import Derived.Test.YtlflalecmhgmjaaGreatDoorTPar
import Derived.Test.YtlflalecmhgmjaaGreatDoorTLib
set_option linter.unusedVariables false
set_option linter.unusedSimpArgs false
namespace Go.Proofs.YtlflalecmhgmjaaGreatDoor.N
open Go.Proofs.YtlflalecmhgmjaaGreatDoor
open Go.X
set_option maxRecDepth 100000
set_option maxHeartbeats 2000000
def S146 (x:Nat) (h:Heap) (R:Value->Heap->Prop):Prop:=
 callE Tryz.prog 101 #[.float .f64 x] fun c=>
 ∃a:Int,c= .int .u64 a/\
 callE Tryz.prog 143 #[.int .u64 (bits .andNot .u64 a (9223372036854775808:Int))] fun d=>
 ∃b:Nat,d= .float .f64 b/\
 R (.float .f64 b) h
theorem calls146 {h:Heap} {R:Value->Heap->Prop} (x:Nat) (H:S146 x h R):CallsH Tryz.prog 146 #[.float .f64 x] h R:=by
 have e:S146 x h R=FX (envX [] 7) {loops:=[],joins:=[],blocks:=[],draws:=[]} Tryz.f146 (Tryz.f146.body.getD .skip) [.float .f64 x] h R:=by kernel_rfl
 exact calls_of_FX (envX_ok _ _) Tryz.func146 (by kernel_rfl) (by kernel_rfl) (by kernel_rfl) (e▸H)
def Ok146 (x:Nat) (R:Nat->Prop):Prop:=
 ∀(h:Heap),Hp h []->CallsH Tryz.prog 146 #[.float .f64 x] h fun v h'=>∃(rV:Nat),Sy h [] h' []/\v= .float .f64 rV/\R rV
def T146 (x:Nat) (R:Nat->Prop):Prop:=
 callE Tryz.prog 101 #[.float .f64 x] fun c=>
 ∃a:Int,c= .int .u64 a/\
 callE Tryz.prog 143 #[.int .u64 (bits .andNot .u64 a (9223372036854775808:Int))] fun d=>
 ∃b:Nat,d= .float .f64 b/\
 R b
theorem ok146 {x} {R:Nat->Prop} (T:T146 x R):Ok146 x R:=by
 intro h H
 have Y:Sy h [] h _:=Sy.startM H rfl
 apply calls146
 unfold S146
 unfold T146 at T
 obtain⟨Rx_2,hx_2,T⟩:=T
 refine⟨Rx_2,hx_2,fun v hv=>?_⟩
 obtain⟨r,rfl,T⟩:=T v hv
 refine⟨r,rfl,?_⟩
 obtain⟨Rx,hx,T⟩:=T
 refine⟨Rx,hx,fun v2 hv=>?_⟩
 obtain⟨r2,rfl,T⟩:=T v2 hv
 refine⟨r2,rfl,?_⟩
 exact⟨_,Y.pick [] rfl,rfl,T⟩
def S276 (sign:Int) (h:Heap) (R:Value->Heap->Prop):Prop:=
 ∃a:List Value->Heap->Prop,
 (cnd (decide (sign>=(0:Int)))
   (a [.int .u64 9218868437227405312] h)
   (a [.int .u64 18442240474082181120] h))/\
 ∀d:Int,∀b,a [.int .u64 d] b->
 callE Tryz.prog 143 #[.int .u64 d] fun e=>
 ∃c:Nat,e= .float .f64 c/\
 R (.float .f64 c) b
theorem calls276 {h:Heap} {R:Value->Heap->Prop} (sign:Int) (H:S276 sign h R):CallsH Tryz.prog 276 #[.int .i64 sign] h R:=by
 have e:S276 sign h R=FX (envX [] 8) {loops:=[],joins:=[(5,⟨[],[3],[],[]⟩)],blocks:=[],draws:=[]} Tryz.f276 (Tryz.f276.body.getD .skip) [.int .i64 sign] h R:=by kernel_rfl
 exact calls_of_FX (envX_ok _ _) Tryz.func276 (by kernel_rfl) (by kernel_rfl) (by kernel_rfl) (e▸H)
def Ok276 (sign:Int) (R:Nat->Prop):Prop:=
 ∀(h:Heap),Hp h []->CallsH Tryz.prog 276 #[.int .i64 sign] h fun v h'=>∃(rV:Nat),Sy h [] h' []/\v= .float .f64 rV/\R rV
def T276 (sign:Int) (R:Nat->Prop):Prop:=
 ∃a:Int->Prop,
 (cnd (decide (sign>=(0:Int)))
   (a 9218868437227405312)
   (a 18442240474082181120))/\
 ∀c:Int,a c->
 callE Tryz.prog 143 #[.int .u64 c] fun d=>
 ∃b:Nat,d= .float .f64 b/\
 R b
theorem ok276 {sign} {R:Nat->Prop} (T:T276 sign R):Ok276 sign R:=by
 intro h H
 have Y:Sy h [] h _:=Sy.startM H rfl
 apply calls276
 unfold S276
 unfold T276 at T
 obtain⟨Jv,T0,T1⟩:=T
 obtain⟨B,hB,_⟩:=Y.cut [] [] rfl
 refine⟨fun lz h'=>∃(v:Int),lz=[.int .u64 v]/\Sy h [] h' ([]++B)/\Jv v,?_,?_⟩
 ·subst hB
  replace T:=T0
  clear T0 T1
  refine cnd_imp T (fun T=>?_) (fun T=>?_)
  ·exact ⟨_,rfl,Y.pick [] rfl,T⟩
  ·exact ⟨_,rfl,Y.pick [] rfl,T⟩
 ·subst hB
  clear T0 Y
  rintro v hv ⟨v,e,Y,T⟩
  cases e
  replace T:=T1 v T
  have Y:Sy _ _ _ []:=Y
  obtain⟨Rx,hx,T⟩:=T
  refine⟨Rx,hx,fun v2 hv=>?_⟩
  obtain⟨r,rfl,T⟩:=T v2 hv
  refine⟨r,rfl,?_⟩
  exact⟨_,Y.pick [] rfl,rfl,T⟩
def S106 (f:Nat) (sign:Int) (h:Heap) (R:Value->Heap->Prop):Prop:=
 ∃a:List Value->Heap->Prop,
 (cnd (sign==(0:Int))
   (callX Tryz.prog 146 #[.float .f64 f] h [] fun k j=>
   ∃i:Nat,k= .float .f64 i/\
   a [.float .f64 i] j)
   (∃b:List Value->Heap->Prop,
   (cnd (decide (sign<(0:Int)))
    (b [.float .f64 (Op.negFloat .f64 f)] h)
    (b [.float .f64 f] h))/\
   ∀c:Nat,∀e,b [.float .f64 c] e->
   a [.float .f64 c] e))/\
 ∀d:Nat,∀g,a [.float .f64 d] g->
 R (.bool ((FloatKind.f64).format.order d 9218868437227405311==some .gt)) g
theorem calls106 {h:Heap} {R:Value->Heap->Prop} (f:Nat) (sign:Int) (H:S106 f sign h R):CallsH Tryz.prog 106 #[.float .f64 f,.int .i64 sign] h R:=by
 have e:S106 f sign h R=FX (envX [] 15) {loops:=[],joins:=[(6,⟨[],[0],[],[]⟩),(10,⟨[],[0],[],[]⟩)],blocks:=[],draws:=[]} Tryz.f106 (Tryz.f106.body.getD .skip) [.float .f64 f,.int .i64 sign] h R:=by kernel_rfl
 exact calls_of_FX (envX_ok _ _) Tryz.func106 (by kernel_rfl) (by kernel_rfl) (by kernel_rfl) (e▸H)
def Ok106 (f:Nat) (sign:Int) (R:Bool->Prop):Prop:=
 ∀(h:Heap),Hp h []->CallsH Tryz.prog 106 #[.float .f64 f,.int .i64 sign] h fun v h'=>∃(rV:Bool),Sy h [] h' []/\v= .bool rV/\R rV
def T106 (f:Nat) (sign:Int) (R:Bool->Prop):Prop:=
 ∃a:Nat->Prop,
 (cnd (sign==(0:Int))
   (Ok146 f (fun e=>
   a e))
   (∃b:Nat->Prop,
   (cnd (decide (sign<(0:Int)))
    (b (Op.negFloat .f64 f))
    (b f))/\
   ∀c:Nat,b c->
   a c))/\
 ∀d:Nat,a d->
 R ((FloatKind.f64).format.order d 9218868437227405311==some .gt)
theorem ok106 {f sign} {R:Bool->Prop} (T:T106 f sign R):Ok106 f sign R:=by
 intro h H
 have Y:Sy h [] h _:=Sy.startM H rfl
 apply calls106
 unfold S106
 unfold T106 at T
 obtain⟨Jv,T0,T1⟩:=T
 obtain⟨B,hB,_⟩:=Y.cut [] [] rfl
 refine⟨fun lz h'=>∃(f3:Nat),lz=[.float .f64 f3]/\Sy h [] h' ([]++B)/\Jv f3,?_,?_⟩
 ·subst hB
  replace T:=T0
  clear T0 T1
  refine cnd_imp T (fun T=>?_) (fun T=>?_)
  ·refine callX_sy (T _ (Hp.nil _)) (fun _ _ ⟨_,p,_⟩=>p.fr) alln ?_
   rintro v hv ⟨r,PP,rfl,T⟩
   have Y:Sy _ _ hv []:=Y.gr PP.fr
   clear PP
   refine⟨r,rfl,?_⟩
   exact⟨_,rfl,Y.pick [] rfl,T⟩
  ·obtain ⟨Jv2,T0,T1⟩:=T
   obtain⟨B_2,hB_2,_⟩:=Y.cut [] [] rfl
   refine⟨fun lz h'=>∃(f2:Nat),lz=[.float .f64 f2]/\Sy h [] h' ([]++B_2)/\Jv2 f2,?_,?_⟩
   ·subst hB_2
    replace T:=T0
    clear T0 T1
    refine cnd_imp T (fun T=>?_) (fun T=>?_)
    ·exact ⟨_,rfl,Y.pick [] rfl,T⟩
    ·exact ⟨_,rfl,Y.pick [] rfl,T⟩
   ·subst hB_2
    clear T0 Y
    rintro f2 hv2 ⟨f2,e,Y,T⟩
    cases e
    replace T:=T1 f2 T
    have Y:Sy _ _ _ []:=Y
    exact⟨_,rfl,Y.pick [] rfl,T⟩
 ·subst hB
  clear T0 Y
  rintro f3 hv3 ⟨f3,e,Y,T⟩
  cases e
  replace T:=T1 f3 T
  have Y:Sy _ _ _ []:=Y
  exact⟨_,Y.pick [] rfl,rfl,T⟩
def S340 (s:ByteArray) (h:Heap) (R:Value->Heap->Prop):Prop:=
 let a:=fun(d:Heap)=>
  (R (.string s) d)
 cnd (!(s.toList==(⟨#[]⟩:ByteArray).toList))
  (0<=(0:Int)/\(0:Int)<((s.size:Nat):Int)/\∃b:UInt8,s[Int.toNat (0:Int)]? =some b/\cnd (((UInt8.toNat b:Nat):Int)==(43:Int))
   (0<=(1:Int)/\(1:Int)<=((s.size:Nat):Int)/\R (.string (s.extract (Int.toNat (1:Int)) s.size)) h)
   (0<=(0:Int)/\(0:Int)<((s.size:Nat):Int)/\∃c:UInt8,s[Int.toNat (0:Int)]? =some c/\cnd (((UInt8.toNat c:Nat):Int)==(45:Int))
    (0<=(1:Int)/\(1:Int)<=((s.size:Nat):Int)/\R (.string (s.extract (Int.toNat (1:Int)) s.size)) h)
    (a h)))
  (a h)
theorem calls340 {h:Heap} {R:Value->Heap->Prop} (s:ByteArray) (H:S340 s h R):CallsH Tryz.prog 340 #[.string s] h R:=by
 have e:S340 s h R=FX (envX [] 18) {loops:=[],joins:=[],blocks:=[],draws:=[]} Tryz.f340 (Tryz.f340.body.getD .skip) [.string s] h R:=by kernel_rfl
 exact calls_of_FX (envX_ok _ _) Tryz.func340 (by kernel_rfl) (by kernel_rfl) (by kernel_rfl) (e▸H)
def Ok340 (s:ByteArray) (R:ByteArray->Prop):Prop:=
 ∀(h:Heap),Hp h []->CallsH Tryz.prog 340 #[.string s] h fun v h'=>∃(rV:ByteArray),Sy h [] h' []/\v= .string rV/\R rV
def T340 (s:ByteArray) (R:ByteArray->Prop):Prop:=
 ∃a:Prop,
 (cnd (!(s.toList==(⟨#[]⟩:ByteArray).toList))
   (0<=(0:Int)/\(0:Int)<((s.size:Nat):Int)/\∃b:UInt8,s[Int.toNat (0:Int)]? =some b/\cnd (((UInt8.toNat b:Nat):Int)==(43:Int))
    (0<=(1:Int)/\(1:Int)<=((s.size:Nat):Int)/\R (s.extract (Int.toNat (1:Int)) s.size))
    (0<=(0:Int)/\(0:Int)<((s.size:Nat):Int)/\∃c:UInt8,s[Int.toNat (0:Int)]? =some c/\cnd (((UInt8.toNat c:Nat):Int)==(45:Int))
     (0<=(1:Int)/\(1:Int)<=((s.size:Nat):Int)/\R (s.extract (Int.toNat (1:Int)) s.size))
     (a)))
   (a))/\
 (a->
 R s)
theorem ok340 {s} {R:ByteArray->Prop} (T:T340 s R):Ok340 s R:=by
 intro h H
 have Y:Sy h [] h _:=Sy.startM H rfl
 apply calls340
 unfold S340
 unfold T340 at T
 obtain⟨Jv,T0,T1⟩:=T
 obtain⟨B,hB,_⟩:=Y.cut [] [] rfl
 intro K
 have hK:∀(hv:Heap),(Sy h [] hv ([]++B)/\Jv)->K hv:=by
  subst hB
  clear T0 Y
  rintro hv ⟨Y,T⟩
  replace T:=T1 T
  have Y:Sy _ _ _ []:=Y
  unfold K
  exact⟨_,Y.pick [] rfl,rfl,T⟩
 subst hB
 replace T:=T0
 clear T0 T1
 refine cnd_imp T (fun T=>?_) (fun T=>?_)
 ·obtain ⟨q_7,q_8,T⟩:=T
  refine⟨q_7,q_8,?_⟩
  obtain⟨xc,hq,T⟩:=T
  refine⟨xc,hq,?_⟩
  refine cnd_imp T (fun T=>?_) (fun T=>?_)
  ·obtain ⟨q,q_2,T⟩:=T
   refine⟨q,q_2,?_⟩
   exact⟨_,Y.pick [] rfl,rfl,T⟩
  ·obtain ⟨q_5,q_6,T⟩:=T
   refine⟨q_5,q_6,?_⟩
   obtain⟨xc2,hq,T⟩:=T
   refine⟨xc2,hq,?_⟩
   refine cnd_imp T (fun T=>?_) (fun T=>?_)
   ·obtain ⟨q_3,q_4,T⟩:=T
    refine⟨q_3,q_4,?_⟩
    exact⟨_,Y.pick [] rfl,rfl,T⟩
   ·exact hK _ ⟨Y.pick [] rfl,T⟩
 ·exact hK _ ⟨Y.pick [] rfl,T⟩
def S341 (s:ByteArray) (h:Heap) (R:Value->Heap->Prop):Prop:=
 let e:=fun(l:Int) (k:Heap)=>
  (R (.int .i64 l) k)
 ∃(c:List Value->Heap->Prop) (f:List Value->Heap->Nat),c [.int .i64 0] h/\
 ∀a:Int,∀b,c [.int .i64 a] b->
 let d:=fun(j:Heap)=>
  (e a j)
 cnd (decide (a<((s.size:Nat):Int)))
  (0<=a/\a<((s.size:Nat):Int)/\∃g:UInt8,s[Int.toNat a]? =some g/\cnd (decide (((UInt8.toNat g:Nat):Int)>=(48:Int)))
   (0<=a/\a<((s.size:Nat):Int)/\∃i:UInt8,s[Int.toNat a]? =some i/\cnd (decide (((UInt8.toNat i:Nat):Int)<=(57:Int)))
    (c [.int .i64 (IntKind.i64.wrap (a+(1:Int)))] b/\f [.int .i64 (IntKind.i64.wrap (a+(1:Int)))] b<f [.int .i64 a] b)
    (e a b))
   (d b))
  (d b)
theorem calls341 {h:Heap} {R:Value->Heap->Prop} (s:ByteArray) (H:S341 s h R):CallsH Tryz.prog 341 #[.string s] h R:=by
 have e:S341 s h R=FX (envX [] 23) {loops:=[(0,⟨[0],[3],[],[]⟩)],joins:=[],blocks:=[],draws:=[]} Tryz.f341 (Tryz.f341.body.getD .skip) [.string s] h R:=by kernel_rfl
 exact calls_of_FX (envX_ok _ _) Tryz.func341 (by kernel_rfl) (by kernel_rfl) (by kernel_rfl) (e▸H)
def Ok341 (s:ByteArray) (R:Int->Prop):Prop:=
 ∀(h:Heap),Hp h []->CallsH Tryz.prog 341 #[.string s] h fun v h'=>∃(rV:Int),Sy h [] h' []/\v= .int .i64 rV/\R rV
def T341 (s:ByteArray) (R:Int->Prop):Prop:=
 ∃c:Int->Prop,
 (∃(b:Int->Prop) (e:Int->Nat),b 0/\
  ∀a:Int,b a->
  ∃d:Prop,
  (cnd (decide (a<((s.size:Nat):Int)))
   (0<=a/\a<((s.size:Nat):Int)/\∃g:UInt8,s[Int.toNat a]? =some g/\cnd (decide (((UInt8.toNat g:Nat):Int)>=(48:Int)))
    (0<=a/\a<((s.size:Nat):Int)/\∃h:UInt8,s[Int.toNat a]? =some h/\cnd (decide (((UInt8.toNat h:Nat):Int)<=(57:Int)))
     (b (IntKind.i64.wrap (a+(1:Int)))/\e (IntKind.i64.wrap (a+(1:Int)))<e a)
     (c a))
    (d))
   (d))/\
  (d->
  c a))/\
 ∀f:Int,c f->
 R f
theorem ok341 {s} {R:Int->Prop} (T:T341 s R):Ok341 s R:=by
 intro h H
 have Y:Sy h [] h _:=Sy.startM H rfl
 apply calls341
 unfold S341
 unfold T341 at T
 obtain⟨Jv,T0,T1⟩:=T
 obtain⟨B,hB,_⟩:=Y.cut [] [] rfl
 intro K2
 have hK2:∀(n2:Int) (hv3:Heap),(Sy h [] hv3 ([]++B)/\Jv n2)->K2 n2 hv3:=by
  subst hB
  clear T0 Y
  rintro n2 hv3 ⟨Y,T⟩
  replace T:=T1 n2 T
  have Y:Sy _ _ _ []:=Y
  unfold K2
  exact⟨_,Y.pick [] rfl,rfl,T⟩
 subst hB
 replace T:=T0
 clear T0 T1
 obtain⟨Iv,m,T0,T1⟩:=T
 obtain⟨B_2,hB_2,YB⟩:=Y.cut [] [] rfl
 obtain⟨JJ,hJJ⟩:∃JJ:Nat->List Value->Heap->Prop,JJ=(fun k lz h'=>∃(n:Int),lz=[.int .i64 n]/\Sy h [] h' ([]++B_2)/\Iv n/\m n=k):=⟨_,rfl⟩
 refine⟨fun lz h'=>∃k,JJ k lz h',Lm JJ,?_,?_⟩
 ·subst hJJ hB_2
  exact⟨_,_,rfl,YB,T0,rfl⟩
 ·clear YB T0 Y
  intro n hv hI
  obtain⟨k,hI,hm⟩:=loopIn hI
  subst hJJ hB_2
  obtain⟨n,e,Y,T,rfl⟩:=hI
  cases e
  replace T:=T1 n T
  have Y:Sy _ _ _ []:=Y
  obtain⟨Jv_2,T0,T1⟩:=T
  obtain⟨B_3,hB_3,_⟩:=Y.cut [] [] rfl
  intro K
  have hK:∀(hv2:Heap),(Sy h [] hv2 ([]++B_3)/\Jv_2)->K hv2:=by
   subst hB_3
   clear T0 Y
   rintro hv2 ⟨Y,T⟩
   replace T:=T1 T
   have Y:Sy _ _ _ []:=Y
   unfold K
   exact hK2 _ _ ⟨Y.pick [] rfl,T⟩
  subst hB_3
  replace T:=T0
  clear T0 T1
  refine cnd_imp T (fun T=>?_) (fun T=>?_)
  ·obtain ⟨q_3,q_4,T⟩:=T
   refine⟨q_3,q_4,?_⟩
   obtain⟨xc,hq,T⟩:=T
   refine⟨xc,hq,?_⟩
   refine cnd_imp T (fun T=>?_) (fun T=>?_)
   ·obtain ⟨q,q_2,T⟩:=T
    refine⟨q,q_2,?_⟩
    obtain⟨xc2,hq,T⟩:=T
    refine⟨xc2,hq,?_⟩
    refine cnd_imp T (fun T=>?_) (fun T=>?_)
    ·exact loopBack hm ⟨_,rfl,Y.pick [] rfl,T.1,rfl⟩ T.2
    ·exact hK2 _ _ ⟨Y.pick [] rfl,T⟩
   ·exact hK _ ⟨Y.pick [] rfl,T⟩
  ·exact hK _ ⟨Y.pick [] rfl,T⟩
def S316 (s:ByteArray) (h:Heap) (R:Value->Heap->Prop):Prop:=
 callX Tryz.prog 340 #[.string s] h [] fun x u=>
 ∃a:ByteArray,x= .string a/\
 callX Tryz.prog 341 #[.string a] u [] fun y f=>
 ∃b:Int,y= .int .i64 b/\
 cnd (b==(0:Int))
  (R (.bool false) f)
  (0<=b/\b<=((a.size:Nat):Int)/\let k:=fun(c:ByteArray) (g:Heap)=>
   (cnd (c.toList==(⟨#[]⟩:ByteArray).toList)
    (R (.bool true) g)
    (let l:=fun(v:Heap)=>
     (0<=(1:Int)/\(1:Int)<=((c.size:Nat):Int)/\callX Tryz.prog 340 #[.string (c.extract (Int.toNat (1:Int)) c.size)] v [] fun A j=>
     ∃e:ByteArray,A= .string e/\
     cnd (decide (((e.size:Nat):Int)>=(1:Int)))
      (cnd (decide (((e.size:Nat):Int)<=(4:Int)))
       (callX Tryz.prog 341 #[.string e] j [] fun B w=>
       ∃o:Int,B= .int .i64 o/\
       R (.bool (o==((e.size:Nat):Int))) w)
       (R (.bool false) j))
      (R (.bool false) j))
    0<=(0:Int)/\(0:Int)<((c.size:Nat):Int)/\∃r:UInt8,c[Int.toNat (0:Int)]? =some r/\cnd (((UInt8.toNat r:Nat):Int) != (101:Int))
     (0<=(0:Int)/\(0:Int)<((c.size:Nat):Int)/\∃t:UInt8,c[Int.toNat (0:Int)]? =some t/\cnd (((UInt8.toNat t:Nat):Int) != (69:Int))
      (R (.bool false) g)
      (l g))
     (l g)))
  cnd (!((a.extract (Int.toNat b) a.size).toList==(⟨#[]⟩:ByteArray).toList))
   (0<=(0:Int)/\(0:Int)<(((a.extract (Int.toNat b) a.size).size:Nat):Int)/\∃q:UInt8,(a.extract (Int.toNat b) a.size)[Int.toNat (0:Int)]? =some q/\∃i:List Value->Heap->Prop,
   (cnd (((UInt8.toNat q:Nat):Int)==(46:Int))
     (0<=(1:Int)/\(1:Int)<=(((a.extract (Int.toNat b) a.size).size:Nat):Int)/\callX Tryz.prog 341 #[.string ((a.extract (Int.toNat b) a.size).extract (Int.toNat (1:Int)) (a.extract (Int.toNat b) a.size).size)] f [] fun z m=>
     ∃d:Int,z= .int .i64 d/\
     cnd (d==(0:Int))
      (R (.bool false) m)
      (0<=(IntKind.i64.wrap ((1:Int)+d))/\(IntKind.i64.wrap ((1:Int)+d))<=(((a.extract (Int.toNat b) a.size).size:Nat):Int)/\i [.string ((a.extract (Int.toNat b) a.size).extract (Int.toNat (IntKind.i64.wrap ((1:Int)+d))) (a.extract (Int.toNat b) a.size).size)] m))
     (i [.string (a.extract (Int.toNat b) a.size)] f))/\
   ∀p:ByteArray,∀n,i [.string p] n->
   k p n)
   (k (a.extract (Int.toNat b) a.size) f))
theorem calls316 {h:Heap} {R:Value->Heap->Prop} (s:ByteArray) (H:S316 s h R):CallsH Tryz.prog 316 #[.string s] h R:=by
 have e:S316 s h R=FX (envX [] 57) {loops:=[],joins:=[(19,⟨[],[0],[],[]⟩)],blocks:=[],draws:=[]} Tryz.f316 (Tryz.f316.body.getD .skip) [.string s] h R:=by kernel_rfl
 exact calls_of_FX (envX_ok _ _) Tryz.func316 (by kernel_rfl) (by kernel_rfl) (by kernel_rfl) (e▸H)
def Ok316 (s:ByteArray) (R:Bool->Prop):Prop:=
 ∀(h:Heap),Hp h []->CallsH Tryz.prog 316 #[.string s] h fun v h'=>∃(rV:Bool),Sy h [] h' []/\v= .bool rV/\R rV
def T316 (s:ByteArray) (R:Bool->Prop):Prop:=
 Ok340 s (fun a=>
 Ok341 a (fun b=>
 cnd (b==(0:Int))
  (R false)
  (0<=b/\b<=((a.size:Nat):Int)/\∃g:ByteArray->Prop,
  (cnd (!((a.extract (Int.toNat b) a.size).toList==(⟨#[]⟩:ByteArray).toList))
    (0<=(0:Int)/\(0:Int)<(((a.extract (Int.toNat b) a.size).size:Nat):Int)/\∃j:UInt8,(a.extract (Int.toNat b) a.size)[Int.toNat (0:Int)]? =some j/\∃f:ByteArray->Prop,
    (cnd (((UInt8.toNat j:Nat):Int)==(46:Int))
     (0<=(1:Int)/\(1:Int)<=(((a.extract (Int.toNat b) a.size).size:Nat):Int)/\Ok341 ((a.extract (Int.toNat b) a.size).extract (Int.toNat (1:Int)) (a.extract (Int.toNat b) a.size).size) (fun d=>
     cnd (d==(0:Int))
      (R false)
      (0<=(IntKind.i64.wrap ((1:Int)+d))/\(IntKind.i64.wrap ((1:Int)+d))<=(((a.extract (Int.toNat b) a.size).size:Nat):Int)/\f ((a.extract (Int.toNat b) a.size).extract (Int.toNat (IntKind.i64.wrap ((1:Int)+d))) (a.extract (Int.toNat b) a.size).size))))
     (f (a.extract (Int.toNat b) a.size)))/\
    ∀i:ByteArray,f i->
    g i)
    (g (a.extract (Int.toNat b) a.size)))/\
  ∀c:ByteArray,g c->
  cnd (c.toList==(⟨#[]⟩:ByteArray).toList)
   (R true)
   (∃h:Prop,
   (0<=(0:Int)/\(0:Int)<((c.size:Nat):Int)/\∃k:UInt8,c[Int.toNat (0:Int)]? =some k/\cnd (((UInt8.toNat k:Nat):Int) != (101:Int))
     (0<=(0:Int)/\(0:Int)<((c.size:Nat):Int)/\∃l:UInt8,c[Int.toNat (0:Int)]? =some l/\cnd (((UInt8.toNat l:Nat):Int) != (69:Int))
      (R false)
      (h))
     (h))/\
   (h->
   0<=(1:Int)/\(1:Int)<=((c.size:Nat):Int)/\Ok340 (c.extract (Int.toNat (1:Int)) c.size) (fun e=>
   cnd (decide (((e.size:Nat):Int)>=(1:Int)))
    (cnd (decide (((e.size:Nat):Int)<=(4:Int)))
     (Ok341 e (fun m=>
     R (m==((e.size:Nat):Int))))
     (R false))
    (R false)))))))
theorem ok316 {s} {R:Bool->Prop} (T:T316 s R):Ok316 s R:=by
 intro h H
 have Y:Sy h [] h _:=Sy.startM H rfl
 apply calls316
 unfold S316
 unfold T316 at T
 refine callX_sy (T _ (Hp.nil _)) (fun _ _ ⟨_,p,_⟩=>p.fr) alln ?_
 rintro v hv ⟨r,PP,rfl,T⟩
 have Y:Sy _ _ hv []:=Y.gr PP.fr
 clear PP
 refine⟨r,rfl,?_⟩
 refine callX_sy (T _ (Hp.nil _)) (fun _ _ ⟨_,p,_⟩=>p.fr) alln ?_
 rintro v2 hv2 ⟨r2,PP,rfl,T⟩
 have Y:Sy _ _ hv2 []:=Y.gr PP.fr
 clear PP
 refine⟨r2,rfl,?_⟩
 refine cnd_imp T (fun T=>?_) (fun T=>?_)
 ·exact ⟨_,Y.pick [] rfl,rfl,T⟩
 ·obtain ⟨q_13,q_14,T⟩:=T
  refine⟨q_13,q_14,?_⟩
  obtain⟨Jv_2,T0,T1⟩:=T
  obtain⟨B,hB,_⟩:=Y.cut [] [] rfl
  intro K
  have hK:∀(s3:ByteArray) (hv5:Heap),(Sy h [] hv5 ([]++B)/\Jv_2 s3)->K s3 hv5:=by
   subst hB
   clear T0 Y
   rintro s3 hv5 ⟨Y,T⟩
   replace T:=T1 s3 T
   have Y:Sy _ _ _ []:=Y
   unfold K
   refine cnd_imp T (fun T=>?_) (fun T=>?_)
   ·exact ⟨_,Y.pick [] rfl,rfl,T⟩
   ·obtain ⟨Jv_3,T0,T1⟩:=T
    obtain⟨B_2,hB_2,_⟩:=Y.cut [] [] rfl
    intro K2
    have hK2:∀(hv6:Heap),(Sy h [] hv6 ([]++B_2)/\Jv_3)->K2 hv6:=by
     subst hB_2
     clear T0 Y
     rintro hv6 ⟨Y,T⟩
     replace T:=T1 T
     have Y:Sy _ _ _ []:=Y
     unfold K2
     obtain⟨q,q_2,T⟩:=T
     refine⟨q,q_2,?_⟩
     refine callX_sy (T _ (Hp.nil _)) (fun _ _ ⟨_,p,_⟩=>p.fr) alln ?_
     rintro v4 hv7 ⟨r4,PP,rfl,T⟩
     have Y:Sy _ _ hv7 []:=Y.gr PP.fr
     clear PP
     refine⟨r4,rfl,?_⟩
     refine cnd_imp T (fun T=>?_) (fun T=>?_)
     ·refine cnd_imp T (fun T=>?_) (fun T=>?_)
      ·refine callX_sy (T _ (Hp.nil _)) (fun _ _ ⟨_,p,_⟩=>p.fr) alln ?_
       rintro v5 hv8 ⟨r5,PP,rfl,T⟩
       have Y:Sy _ _ hv8 []:=Y.gr PP.fr
       clear PP
       refine⟨r5,rfl,?_⟩
       exact⟨_,Y.pick [] rfl,rfl,T⟩
      ·exact ⟨_,Y.pick [] rfl,rfl,T⟩
     ·exact ⟨_,Y.pick [] rfl,rfl,T⟩
    subst hB_2
    replace T:=T0
    clear T0 T1
    obtain⟨q_5,q_6,T⟩:=T
    refine⟨q_5,q_6,?_⟩
    obtain⟨xc2,hq,T⟩:=T
    refine⟨xc2,hq,?_⟩
    refine cnd_imp T (fun T=>?_) (fun T=>?_)
    ·obtain ⟨q_3,q_4,T⟩:=T
     refine⟨q_3,q_4,?_⟩
     obtain⟨xc3,hq,T⟩:=T
     refine⟨xc3,hq,?_⟩
     refine cnd_imp T (fun T=>?_) (fun T=>?_)
     ·exact ⟨_,Y.pick [] rfl,rfl,T⟩
     ·exact hK2 _ ⟨Y.pick [] rfl,T⟩
    ·exact hK2 _ ⟨Y.pick [] rfl,T⟩
  subst hB
  replace T:=T0
  clear T0 T1
  refine cnd_imp T (fun T=>?_) (fun T=>?_)
  ·obtain ⟨q_11,q_12,T⟩:=T
   refine⟨q_11,q_12,?_⟩
   obtain⟨xc,hq,T⟩:=T
   refine⟨xc,hq,?_⟩
   obtain⟨Jv,T0,T1⟩:=T
   obtain⟨B_3,hB_3,_⟩:=Y.cut [] [] rfl
   refine⟨fun lz h'=>∃(s2:ByteArray),lz=[.string s2]/\Sy h [] h' ([]++B_3)/\Jv s2,?_,?_⟩
   ·subst hB_3
    replace T:=T0
    clear T0 T1
    refine cnd_imp T (fun T=>?_) (fun T=>?_)
    ·obtain ⟨q_9,q_10,T⟩:=T
     refine⟨q_9,q_10,?_⟩
     refine callX_sy (T _ (Hp.nil _)) (fun _ _ ⟨_,p,_⟩=>p.fr) alln ?_
     rintro v3 hv3 ⟨r3,PP,rfl,T⟩
     have Y:Sy _ _ hv3 []:=Y.gr PP.fr
     clear PP
     refine⟨r3,rfl,?_⟩
     refine cnd_imp T (fun T=>?_) (fun T=>?_)
     ·exact ⟨_,Y.pick [] rfl,rfl,T⟩
     ·obtain ⟨q_7,q_8,T⟩:=T
      refine⟨q_7,q_8,?_⟩
      exact⟨_,rfl,Y.pick [] rfl,T⟩
    ·exact ⟨_,rfl,Y.pick [] rfl,T⟩
   ·subst hB_3
    clear T0 Y
    rintro s2 hv4 ⟨s2,e,Y,T⟩
    cases e
    replace T:=T1 s2 T
    have Y:Sy _ _ _ []:=Y
    exact hK _ _ ⟨Y.pick [] rfl,T⟩
  ·exact hK _ _ ⟨Y.pick [] rfl,T⟩
def S278 (s:ByteArray) (bitSize:Int) (h:Heap) (R:Value->Heap->Prop):Prop:=
 callX Tryz.prog 323 #[.string s,.int .i64 bitSize] h [] fun l b=>
 ∃a:Nat,((l= .tuple #[.float .f64 a,.nilIface]/\
  cnd (!true)
   (callX Tryz.prog 214 #[.string (⟨#[80,97,114,115,101,70,108,111,97,116]⟩:ByteArray),.string s,.int .i64 0,.int .i64 bitSize,.nilIface] b [] fun m c=>
   ((m= .nilIface/\
    R (.tuple #[.float .f64 a,.nilIface]) c)
   \/∃(g:Nat) (e:Value),m= .iface g e/\
    R (.tuple #[.float .f64 a,.iface g e]) c))
   (R (.tuple #[.float .f64 a,.nilIface]) b))
 \/∃(k:Nat) (j:Value),l= .tuple #[.float .f64 a,.iface k j]/\
  cnd (!false)
   (callX Tryz.prog 214 #[.string (⟨#[80,97,114,115,101,70,108,111,97,116]⟩:ByteArray),.string s,.int .i64 0,.int .i64 bitSize,.iface k j] b [] fun n d=>
   ((n= .nilIface/\
    R (.tuple #[.float .f64 a,.nilIface]) d)
   \/∃(i:Nat) (f:Value),n= .iface i f/\
    R (.tuple #[.float .f64 a,.iface i f]) d))
   (R (.tuple #[.float .f64 a,.nilIface]) b))
theorem calls278 {h:Heap} {R:Value->Heap->Prop} (s:ByteArray) (bitSize:Int) (H:S278 s bitSize h R):CallsH Tryz.prog 278 #[.string s,.int .i64 bitSize] h R:=by
 have e:S278 s bitSize h R=FX (envX [] 22) {loops:=[],joins:=[],blocks:=[],draws:=[]} Tryz.f278 (Tryz.f278.body.getD .skip) [.string s,.int .i64 bitSize] h R:=by kernel_rfl
 exact calls_of_FX (envX_ok _ _) Tryz.func278 (by kernel_rfl) (by kernel_rfl) (by kernel_rfl) (e▸H)
def S260 (s:ByteArray) (h:Heap) (R:Value->Heap->Prop):Prop:=
 cnd (s.toList==(⟨#[78,97,78]⟩:ByteArray).toList)
  (callE Tryz.prog 143 #[.int .u64 9221120237041090561] fun t=>
  ∃f:Nat,t= .float .f64 f/\
  R (.tuple #[.float .f64 f,.int .i64 0]) h)
  (cnd (s.toList==(⟨#[73,78,70]⟩:ByteArray).toList)
   (callX Tryz.prog 276 #[.int .i64 1] h [] fun u n=>
   ∃g:Nat,u= .float .f64 g/\
   R (.tuple #[.float .f64 g,.int .i64 0]) n)
   (cnd (s.toList==(⟨#[45,73,78,70]⟩:ByteArray).toList)
    (callX Tryz.prog 276 #[.int .i64 (-1)] h [] fun v o=>
    ∃i:Nat,v= .float .f64 i/\
    R (.tuple #[.float .f64 i,.int .i64 0]) o)
    (callX Tryz.prog 316 #[.string s] h [] fun w b=>
    ∃j:Bool,w= .bool j/\
    cnd (!j)
     (R (.tuple #[.float .f64 0,.int .i64 17]) b)
     (cnd (decide (((s.size:Nat):Int)>(64:Int)))
      (R (.tuple #[.float .f64 0,.int .i64 23]) b)
      (let c:=fun(m:Nat) (p:Heap)=>
       (callX Tryz.prog 106 #[.float .f64 m,.int .i64 0] p [] fun x e=>
       ∃k:Bool,x= .bool k/\
       cnd k
        (R (.tuple #[.float .f64 0,.int .i64 2]) e)
        (R (.tuple #[.float .f64 m,.int .i64 0]) e))
      callX Tryz.prog 278 #[.string s,.int .i64 64] b [] fun l d=>
      ∃a:Nat,((l= .tuple #[.float .f64 a,.nilIface]/\
       c a d)
      \/∃(r:Nat) (q:Value),l= .tuple #[.float .f64 a,.iface r q]/\
       c a d))))))
theorem calls260 {h:Heap} {R:Value->Heap->Prop} (s:ByteArray) (H:S260 s h R):CallsH Tryz.prog 260 #[.string s] h R:=by
 have e:S260 s h R=FX (envX [] 32) {loops:=[],joins:=[],blocks:=[],draws:=[]} Tryz.f260 (Tryz.f260.body.getD .skip) [.string s] h R:=by kernel_rfl
 exact calls_of_FX (envX_ok _ _) Tryz.func260 (by kernel_rfl) (by kernel_rfl) (by kernel_rfl) (e▸H)
end Go.Proofs.YtlflalecmhgmjaaGreatDoor.N
namespace Go.Proofs.YtlflalecmhgmjaaGreatDoor.N
open Go.X Go.Proofs.YtlflalecmhgmjaaGreatDoor
set_option maxRecDepth 100000
set_option maxHeartbeats 1000000
theorem powN (k:Nat):((2:Int)^k)=((2^k:Nat):Int):=by rw[Int.natCast_pow];rfl
theorem shr (a k:Nat):Int.fdiv (a:Int) (2^k)=((a/2^k:Nat):Int):=by
 rw[powN,Int.fdiv_eq_ediv_of_nonneg _ (Int.natCast_nonneg _)];rfl
theorem wrapU' {a:Nat} (h:a<18446744073709551616):IntKind.u64.wrap (a:Int)=(a:Int):=by rw[IntKind.wrap_u64];omega
theorem wr1 {k:Nat} (h:k<1000000):IntKind.i64.wrap ((k:Int)+1)=((k+1:Nat):Int):=by rw[wr (by omega) (by omega)];omega
theorem ok337' {b:Bool} {R:Int->Prop} (r:R (((if b then 1 else 0:Nat)):Int)):Ok337 b R:=by
 apply ok337;unfold T337
 cases b
 ·exact cnd_f rfl r
 ·exact cnd_t rfl r
theorem bits101 (b:Nat):ExtH Tryz.prog 101 #[.float .f64 b] (· = .int .u64 b):=
 ext_pure Tryz.func101 (by kernel_rfl) (by kernel_rfl) (by kernel_rfl) (e:=Extern.MathFloatBits.float64bits) (by kernel_rfl) rfl
theorem from373 (n:Int):ExtH Tryz.prog 373 #[.int .u64 n] (· = .float .f64 n.toNat):=
 ext_pure Tryz.func373 (by kernel_rfl) (by kernel_rfl) (by kernel_rfl) (e:=Extern.MathFloatBits.float64frombits) (by kernel_rfl) rfl
def exactF (m:Nat) (e:Int) (neg:Bool):Nat × Bool:=
 if m/4503599627370496≠0 then(0,false)
 else
  let f:=if neg then Op.negFloat .f64 (FloatKind.f64.nearest (m:Int))else FloatKind.f64.nearest (m:Int)
  if e=0 then(f,true)
  else if 0<e/\e<=37 then
   let f2:=if e>22 then mulM f (tF.getD (e-22).toNat 0)else f
   let e2:=if e>22 then 22 else e
   if F64.order f2 4831355200913801216=some .gt then(f2,false)
   else if F64.order f2 14054727237768577024=some .lt then(f2,false)
   else(mulM f2 (tF.getD e2.toNat 0),true)
  else if-22<=e/\e<0 then(divM f (tF.getD (-e).toNat 0),true)
  else(f,false)
abbrev MAXF :Nat:=9218868437227405311
def isInf (x:Nat):Bool:=F64.order x MAXF==some .gt
theorem int_near (m:Nat):FloatKind.f64.nearest (m:Int)=F64.nearest false m 0:=by
 show F64.write (.number (decide ((m:Int)<0)) ((m:Int)).natAbs 0)=_
 rw[decide_eq_false (by omega),Int.natAbs_natCast];rfl
end Go.Proofs.YtlflalecmhgmjaaGreatDoor.N
