/- Functions: what is left to be shown of each, over memory and without: printed by program, tied to the loaded functions by the kernel. Conditions: none. -/
import Derived.Test.YtlflalecmhgmjaaGreatDoorWEnv
import Derived.Test.YtlflalecmhgmjaaGreatDoorYGl
import Derived.Test.YtlflalecmhgmjaaGreatDoorTLib
set_option linter.unusedVariables false
set_option linter.unusedSimpArgs false
namespace Go.Proofs.YtlflalecmhgmjaaGreatDoor.N
open Go.Proofs.YtlflalecmhgmjaaGreatDoor
open Go.X
set_option maxRecDepth 100000
set_option maxHeartbeats 2000000
def Ok377 (sign:Int) (R:Nat->Prop):Prop:=
 ∀(h:Heap),Hp h []->CallsH Tryz.prog 377 #[.int .i64 sign] h fun v h'=>∃(rV:Nat),Sy h [] h' []/\v= .float .f64 rV/\R rV
def Ok378 (R:Nat->Prop):Prop:=
 ∀(h:Heap),Hp h []->CallsH Tryz.prog 378 #[] h fun v h'=>∃(rV:Nat),Sy h [] h' []/\v= .float .f64 rV/\R rV
def S376 (s:ByteArray) (prefixv:ByteArray) (h:Heap) (R:Value->Heap->Prop):Prop:=
 ∃(d:List Value->Heap->Prop) (k:List Value->Heap->Nat),d [.int .i64 0] h/\
 ∀a:Int,∀b,d [.int .i64 a] b->
 cnd (decide (a<(if((s.size:Nat):Int)<((prefixv.size:Nat):Int)then((s.size:Nat):Int)else((prefixv.size:Nat):Int))))
  (0<=a/\a<((s.size:Nat):Int)/\∃c:UInt8,s[Int.toNat a]? =some c/\let g:=fun(m:Int) (f:Heap)=>
   (0<=a/\a<((prefixv.size:Nat):Int)/\∃l:UInt8,prefixv[Int.toNat a]? =some l/\cnd (m != ((UInt8.toNat l:Nat):Int))
    (R (.int .i64 a) f)
    (d [.int .i64 (IntKind.i64.wrap (a+(1:Int)))] f/\k [.int .i64 (IntKind.i64.wrap (a+(1:Int)))] f<k [.int .i64 a] b))
  cnd (decide ((65:Int)<=((UInt8.toNat c:Nat):Int)))
   (∃e:List Value->Heap->Prop,
   (cnd (decide (((UInt8.toNat c:Nat):Int)<=(90:Int)))
     (e [.int .u8 (IntKind.u8.wrap (((UInt8.toNat c:Nat):Int)+(32:Int)))] b)
     (e [.int .u8 ((UInt8.toNat c:Nat):Int)] b))/\
   ∀i:Int,∀j,e [.int .u8 i] j->
   g i j)
   (g ((UInt8.toNat c:Nat):Int) b))
  (R (.int .i64 (if((s.size:Nat):Int)<((prefixv.size:Nat):Int)then((s.size:Nat):Int)else((prefixv.size:Nat):Int))) b)
theorem calls376 {h:Heap} {R:Value->Heap->Prop} (s:ByteArray) (prefixv:ByteArray) (H:S376 s prefixv h R):CallsH Tryz.prog 376 #[.string s,.string prefixv] h R:=by
 have e:S376 s prefixv h R=FX (envX [] 36) {loops:=[(0,⟨[0,1,5],[6],[],[]⟩)],joins:=[(26,⟨[0,1,5,6],[7],[],[]⟩)],blocks:=[],draws:=[]} Tryz.f376 (Tryz.f376.body.getD .skip) [.string s,.string prefixv] h R:=by kernel_rfl
 exact calls_of_FX (envX_ok _ _) Tryz.func376 (by kernel_rfl) (by kernel_rfl) (by kernel_rfl) (e▸H)
def Ok376 (s:ByteArray) (prefixv:ByteArray) (R:Int->Prop):Prop:=
 ∀(h:Heap),Hp h []->CallsH Tryz.prog 376 #[.string s,.string prefixv] h fun v h'=>∃(rV:Int),Sy h [] h' []/\v= .int .i64 rV/\R rV
def T376 (s:ByteArray) (prefixv:ByteArray) (R:Int->Prop):Prop:=
 ∃(c:Int->Prop) (h:Int->Nat),c 0/\
 ∀a:Int,c a->
 cnd (decide (a<(if((s.size:Nat):Int)<((prefixv.size:Nat):Int)then((s.size:Nat):Int)else((prefixv.size:Nat):Int))))
  (0<=a/\a<((s.size:Nat):Int)/\∃b:UInt8,s[Int.toNat a]? =some b/\∃e:Int->Prop,
  (cnd (decide ((65:Int)<=((UInt8.toNat b:Nat):Int)))
    (∃d:Int->Prop,
    (cnd (decide (((UInt8.toNat b:Nat):Int)<=(90:Int)))
     (d (IntKind.u8.wrap (((UInt8.toNat b:Nat):Int)+(32:Int))))
     (d ((UInt8.toNat b:Nat):Int)))/\
    ∀f:Int,d f->
    e f)
    (e ((UInt8.toNat b:Nat):Int)))/\
  ∀g:Int,e g->
  0<=a/\a<((prefixv.size:Nat):Int)/\∃i:UInt8,prefixv[Int.toNat a]? =some i/\cnd (g != ((UInt8.toNat i:Nat):Int))
   (R a)
   (c (IntKind.i64.wrap (a+(1:Int)))/\h (IntKind.i64.wrap (a+(1:Int)))<h a))
  (R (if((s.size:Nat):Int)<((prefixv.size:Nat):Int)then((s.size:Nat):Int)else((prefixv.size:Nat):Int)))
theorem ok376 {s prefixv} {R:Int->Prop} (T:T376 s prefixv R):Ok376 s prefixv R:=by
 intro h H
 have Y:Sy h [] h _:=Sy.startM H rfl
 apply calls376
 unfold S376
 unfold T376 at T
 obtain⟨Iv,m,T0,T1⟩:=T
 obtain⟨B,hB,YB⟩:=Y.cut [] [] rfl
 obtain⟨JJ,hJJ⟩:∃JJ:Nat->List Value->Heap->Prop,JJ=(fun k lz h'=>∃(i:Int),lz=[.int .i64 i]/\Sy h [] h' ([]++B)/\Iv i/\m i=k):=⟨_,rfl⟩
 refine⟨fun lz h'=>∃k,JJ k lz h',Lm JJ,?_,?_⟩
 ·subst hJJ hB
  exact⟨_,_,rfl,YB,T0,rfl⟩
 ·clear YB T0 Y
  intro i hv hI
  obtain⟨k,hI,hm⟩:=loopIn hI
  subst hJJ hB
  obtain⟨i,e,Y,T,rfl⟩:=hI
  cases e
  replace T:=T1 i T
  have Y:Sy _ _ _ []:=Y
  refine cnd_imp T (fun T=>?_) (fun T=>?_)
  ·obtain ⟨q_3,q_4,T⟩:=T
   refine⟨q_3,q_4,?_⟩
   obtain⟨xc,hq,T⟩:=T
   refine⟨xc,hq,?_⟩
   obtain⟨Jv_2,T0,T1⟩:=T
   obtain⟨B_2,hB_2,_⟩:=Y.cut [] [] rfl
   intro K
   have hK:∀(c2:Int) (hv3:Heap),(Sy h [] hv3 ([]++B_2)/\Jv_2 c2)->K c2 hv3:=by
    subst hB_2
    clear T0 Y
    rintro c2 hv3 ⟨Y,T⟩
    replace T:=T1 c2 T
    have Y:Sy _ _ _ []:=Y
    unfold K
    obtain⟨q,q_2,T⟩:=T
    refine⟨q,q_2,?_⟩
    obtain⟨xc2,hq,T⟩:=T
    refine⟨xc2,hq,?_⟩
    refine cnd_imp T (fun T=>?_) (fun T=>?_)
    ·exact ⟨_,Y.pick [] rfl,rfl,T⟩
    ·exact loopBack hm ⟨_,rfl,Y.pick [] rfl,T.1,rfl⟩ T.2
   subst hB_2
   replace T:=T0
   clear T0 T1
   refine cnd_imp T (fun T=>?_) (fun T=>?_)
   ·obtain ⟨Jv,T0,T1⟩:=T
    obtain⟨B_3,hB_3,_⟩:=Y.cut [] [] rfl
    refine⟨fun lz h'=>∃(c:Int),lz=[.int .u8 c]/\Sy h [] h' ([]++B_3)/\Jv c,?_,?_⟩
    ·subst hB_3
     replace T:=T0
     clear T0 T1
     refine cnd_imp T (fun T=>?_) (fun T=>?_)
     ·exact ⟨_,rfl,Y.pick [] rfl,T⟩
     ·exact ⟨_,rfl,Y.pick [] rfl,T⟩
    ·subst hB_3
     clear T0 Y
     rintro c hv2 ⟨c,e,Y,T⟩
     cases e
     replace T:=T1 c T
     have Y:Sy _ _ _ []:=Y
     exact hK _ _ ⟨Y.pick [] rfl,T⟩
   ·exact hK _ _ ⟨Y.pick [] rfl,T⟩
  ·exact ⟨_,Y.pick [] rfl,rfl,T⟩
def S299 (c:Int) (h:Heap) (R:Value->Heap->Prop):Prop:=
 R (.int .u8 (bits .or .u8 c (32:Int))) h
theorem calls299 {h:Heap} {R:Value->Heap->Prop} (c:Int) (H:S299 c h R):CallsH Tryz.prog 299 #[.int .u8 c] h R:=by
 have e:S299 c h R=FX (envX [] 5) {loops:=[],joins:=[],blocks:=[],draws:=[]} Tryz.f299 (Tryz.f299.body.getD .skip) [.int .u8 c] h R:=by kernel_rfl
 exact calls_of_FX (envX_ok _ _) Tryz.func299 (by kernel_rfl) (by kernel_rfl) (by kernel_rfl) (e▸H)
def Ok299 (c:Int) (R:Int->Prop):Prop:=
 ∀(h:Heap),Hp h []->CallsH Tryz.prog 299 #[.int .u8 c] h fun v h'=>∃(rV:Int),Sy h [] h' []/\v= .int .u8 rV/\R rV
def T299 (c:Int) (R:Int->Prop):Prop:=
 R (bits .or .u8 c (32:Int))
theorem ok299 {c} {R:Int->Prop} (T:T299 c R):Ok299 c R:=by
 intro h H
 have Y:Sy h [] h _:=Sy.startM H rfl
 apply calls299
 unfold S299
 unfold T299 at T
 exact⟨_,Y.pick [] rfl,rfl,T⟩
def S364 (s:ByteArray) (h:Heap) (R:Value->Heap->Prop):Prop:=
 cnd (((s.size:Nat):Int)==(0:Int))
  (R (.tuple #[.float .f64 0,.int .i64 0,.bool false]) h)
  (0<=(0:Int)/\(0:Int)<((s.size:Nat):Int)/\∃a:UInt8,s[Int.toNat (0:Int)]? =some a/\∃c:List Value->Heap->Prop,
  (∃f:List Value->Heap->Prop,
   (let o:=fun(P:Bool) (d:Heap)=>
    (cnd P
     (0<=(0:Int)/\(0:Int)<((s.size:Nat):Int)/\∃G:UInt8,s[Int.toNat (0:Int)]? =some G/\∃g:List Value->Heap->Prop,
     (cnd (((UInt8.toNat G:Nat):Int)==(45:Int))
       (g [.int .i64 (-1)] d)
       (g [.int .i64 1] d))/\
     ∀F:Int,∀w,g [.int .i64 F] w->
     0<=(1:Int)/\(1:Int)<=((s.size:Nat):Int)/\f [.string (s.extract (Int.toNat (1:Int)) s.size),.int .i64 F,.int .i64 1] w)
     (let p:=fun(Q:Bool) (j:Heap)=>
      (cnd Q
       (f [.string s,.int .i64 1,.int .i64 0] j)
       (let q:=fun(S:Bool) (v:Heap)=>
        (cnd S
         (callX Tryz.prog 376 #[.string s,.string (⟨#[110,97,110]⟩:ByteArray)] v [] fun N t=>
         ∃C:Int,N= .int .i64 C/\
         cnd (C==(3:Int))
          (callX Tryz.prog 378 #[] t [] fun O I=>
          ∃D:Nat,O= .float .f64 D/\
          R (.tuple #[.float .f64 D,.int .i64 3,.bool true]) I)
          (c [] t))
         (c [] v))
       cnd (((UInt8.toNat a:Nat):Int)==(110:Int))
        (q (((UInt8.toNat a:Nat):Int)==(110:Int)) j)
        (q (((UInt8.toNat a:Nat):Int)==(78:Int)) j)))
     cnd (((UInt8.toNat a:Nat):Int)==(105:Int))
      (p (((UInt8.toNat a:Nat):Int)==(105:Int)) d)
      (p (((UInt8.toNat a:Nat):Int)==(73:Int)) d)))
   cnd (((UInt8.toNat a:Nat):Int)==(43:Int))
    (o (((UInt8.toNat a:Nat):Int)==(43:Int)) h)
    (o (((UInt8.toNat a:Nat):Int)==(45:Int)) h))/\
   ∀E:ByteArray,∀n:Int,∀m:Int,∀x,f [.string E,.int .i64 n,.int .i64 m] x->
   callX Tryz.prog 376 #[.string E,.string (⟨#[105,110,102,105,110,105,116,121]⟩:ByteArray)] x [] fun K k=>
   ∃b:Int,K= .int .i64 b/\
   let r:=fun(e:Int) (l:Heap)=>
    (cnd (e==(3:Int))
     (callX Tryz.prog 377 #[.int .i64 n] l [] fun L J=>
     ∃A:Nat,L= .float .f64 A/\
     R (.tuple #[.float .f64 A,.int .i64 (IntKind.i64.wrap (m+e)),.bool true]) J)
     (cnd (e==(8:Int))
      (callX Tryz.prog 377 #[.int .i64 n] l [] fun M H=>
      ∃B:Nat,M= .float .f64 B/\
      R (.tuple #[.float .f64 B,.int .i64 (IntKind.i64.wrap (m+e)),.bool true]) H)
      (c [] l)))
   cnd (decide ((3:Int)<b))
    (∃i:List Value->Heap->Prop,
    (cnd (decide (b<(8:Int)))
     (i [.int .i64 3] k)
     (i [.int .i64 b] k))/\
    ∀z:Int,∀y,i [.int .i64 z] y->
    r z y)
    (r b k))/\
  ∀u,c [] u->
  R (.tuple #[.float .f64 0,.int .i64 0,.bool false]) u)
theorem calls364 {h:Heap} {R:Value->Heap->Prop} (s:ByteArray) (H:S364 s h R):CallsH Tryz.prog 364 #[.string s] h R:=by
 have e:S364 s h R=FX (envX [] 50) {loops:=[],joins:=[(24,⟨[0],[5],[],[]⟩),(34,⟨[5,6],[7],[],[]⟩)],blocks:=[(0,⟨[],[],[],[]⟩),(2,⟨[],[0,5,6],[],[]⟩)],draws:=[]} Tryz.f364 (Tryz.f364.body.getD .skip) [.string s] h R:=by kernel_rfl
 exact calls_of_FX (envX_ok _ _) Tryz.func364 (by kernel_rfl) (by kernel_rfl) (by kernel_rfl) (e▸H)
def Ok364 (s:ByteArray) (R:Nat->Int->Bool->Prop):Prop:=
 ∀(h:Heap),Hp h []->CallsH Tryz.prog 364 #[.string s] h fun v h'=>∃(raV:Nat) (rbV:Int) (rcV:Bool),Sy h [] h' []/\v= .tuple #[.float .f64 raV,.int .i64 rbV,.bool rcV]/\R raV rbV rcV
def T364 (s:ByteArray) (R:Nat->Int->Bool->Prop):Prop:=
 cnd (((s.size:Nat):Int)==(0:Int))
  (R 0 0 false)
  (0<=(0:Int)/\(0:Int)<((s.size:Nat):Int)/\∃a:UInt8,s[Int.toNat (0:Int)]? =some a/\∃c:Prop,
  (∃e:ByteArray->Int->Int->Prop,
   (∃h:Bool->Prop,
   (cnd (((UInt8.toNat a:Nat):Int)==(43:Int))
     (h (((UInt8.toNat a:Nat):Int)==(43:Int)))
     (h (((UInt8.toNat a:Nat):Int)==(45:Int))))/\
   ∀q:Bool,h q->
   cnd q
    (0<=(0:Int)/\(0:Int)<((s.size:Nat):Int)/\∃u:UInt8,s[Int.toNat (0:Int)]? =some u/\∃f:Int->Prop,
    (cnd (((UInt8.toNat u:Nat):Int)==(45:Int))
      (f (-1))
      (f 1))/\
    ∀p:Int,f p->
    0<=(1:Int)/\(1:Int)<=((s.size:Nat):Int)/\e (s.extract (Int.toNat (1:Int)) s.size) p 1)
    (∃i:Bool->Prop,
    (cnd (((UInt8.toNat a:Nat):Int)==(105:Int))
      (i (((UInt8.toNat a:Nat):Int)==(105:Int)))
      (i (((UInt8.toNat a:Nat):Int)==(73:Int))))/\
    ∀r:Bool,i r->
    cnd r
     (e s 1 0)
     (∃j:Bool->Prop,
     (cnd (((UInt8.toNat a:Nat):Int)==(110:Int))
       (j (((UInt8.toNat a:Nat):Int)==(110:Int)))
       (j (((UInt8.toNat a:Nat):Int)==(78:Int))))/\
     ∀t:Bool,j t->
     cnd t
      (Ok376 s (⟨#[110,97,110]⟩:ByteArray) (fun x=>
      cnd (x==(3:Int))
       (Ok378 (fun y=>
       R y 3 true))
       (c)))
      (c))))/\
   ∀o:ByteArray,∀m:Int,∀l:Int,e o m l->
   Ok376 o (⟨#[105,110,102,105,110,105,116,121]⟩:ByteArray) (fun d=>
   ∃k:Int->Prop,
   (cnd (decide ((3:Int)<d))
    (∃g:Int->Prop,
    (cnd (decide (d<(8:Int)))
      (g 3)
      (g d))/\
    ∀n:Int,g n->
    k n)
    (k d))/\
   ∀b:Int,k b->
   cnd (b==(3:Int))
    (Ok377 m (fun v=>
    R v (IntKind.i64.wrap (l+b)) true))
    (cnd (b==(8:Int))
     (Ok377 m (fun w=>
     R w (IntKind.i64.wrap (l+b)) true))
     (c))))/\
  (c->
  R 0 0 false))
theorem ok364 {s} {R:Nat->Int->Bool->Prop} (T:T364 s R):Ok364 s R:=by
 intro h H
 have Y:Sy h [] h _:=Sy.startM H rfl
 apply calls364
 unfold S364
 unfold T364 at T
 refine cnd_imp T (fun T=>?_) (fun T=>?_)
 ·exact ⟨_,_,_,Y.pick [] rfl,rfl,T⟩
 ·obtain ⟨q_5,q_6,T⟩:=T
  refine⟨q_5,q_6,?_⟩
  obtain⟨xc,hq,T⟩:=T
  refine⟨xc,hq,?_⟩
  obtain⟨Jv,T0,T1⟩:=T
  obtain⟨B,hB,_⟩:=Y.cut [] [] rfl
  refine⟨fun lz h'=>lz=[]/\Sy h [] h' ([]++B)/\Jv,?_,?_⟩
  ·subst hB
   replace T:=T0
   clear T0 T1
   obtain⟨Jv2,T0,T1⟩:=T
   obtain⟨B_2,hB_2,_⟩:=Y.cut [] [] rfl
   refine⟨fun lz h'=>∃(s2:ByteArray) (sign2:Int) (nsign:Int),lz=[.string s2,.int .i64 sign2,.int .i64 nsign]/\Sy h [] h' ([]++B_2)/\Jv2 s2 sign2 nsign,?_,?_⟩
   ·subst hB_2
    replace T:=T0
    clear T0 T1
    obtain⟨Jv_2,T0,T1⟩:=T
    obtain⟨B_3,hB_3,_⟩:=Y.cut [] [] rfl
    intro K
    have hK:∀(x:Bool) (hv:Heap),(Sy h [] hv ([]++B_3)/\Jv_2 x)->K x hv:=by
     subst hB_3
     clear T0 Y
     rintro x hv ⟨Y,T⟩
     replace T:=T1 x T
     have Y:Sy _ _ _ []:=Y
     unfold K
     refine cnd_imp T (fun T=>?_) (fun T=>?_)
     ·obtain ⟨q_3,q_4,T⟩:=T
      refine⟨q_3,q_4,?_⟩
      obtain⟨xc2,hq,T⟩:=T
      refine⟨xc2,hq,?_⟩
      obtain⟨Jv3,T0,T1⟩:=T
      obtain⟨B_4,hB_4,_⟩:=Y.cut [] [] rfl
      refine⟨fun lz h'=>∃(sign:Int),lz=[.int .i64 sign]/\Sy h [] h' ([]++B_4)/\Jv3 sign,?_,?_⟩
      ·subst hB_4
       replace T:=T0
       clear T0 T1
       refine cnd_imp T (fun T=>?_) (fun T=>?_)
       ·exact ⟨_,rfl,Y.pick [] rfl,T⟩
       ·exact ⟨_,rfl,Y.pick [] rfl,T⟩
      ·subst hB_4
       clear T0 Y
       rintro sign hv4 ⟨sign,e,Y,T⟩
       cases e
       replace T:=T1 sign T
       have Y:Sy _ _ _ []:=Y
       obtain⟨q,q_2,T⟩:=T
       refine⟨q,q_2,?_⟩
       exact⟨_,_,_,rfl,Y.pick [] rfl,T⟩
     ·obtain ⟨Jv_3,T0,T1⟩:=T
      obtain⟨B_5,hB_5,_⟩:=Y.cut [] [] rfl
      intro K2
      have hK2:∀(x2:Bool) (hv2:Heap),(Sy h [] hv2 ([]++B_5)/\Jv_3 x2)->K2 x2 hv2:=by
       subst hB_5
       clear T0 Y
       rintro x2 hv2 ⟨Y,T⟩
       replace T:=T1 x2 T
       have Y:Sy _ _ _ []:=Y
       unfold K2
       refine cnd_imp T (fun T=>?_) (fun T=>?_)
       ·exact ⟨_,_,_,rfl,Y.pick [] rfl,T⟩
       ·obtain ⟨Jv_4,T0,T1⟩:=T
        obtain⟨B_6,hB_6,_⟩:=Y.cut [] [] rfl
        intro K3
        have hK3:∀(x3:Bool) (hv3:Heap),(Sy h [] hv3 ([]++B_6)/\Jv_4 x3)->K3 x3 hv3:=by
         subst hB_6
         clear T0 Y
         rintro x3 hv3 ⟨Y,T⟩
         replace T:=T1 x3 T
         have Y:Sy _ _ _ []:=Y
         unfold K3
         refine cnd_imp T (fun T=>?_) (fun T=>?_)
         ·refine callX_sy (T _ (Hp.nil _)) (fun _ _ ⟨_,p,_⟩=>p.fr) alln ?_
          rintro v4 hv11 ⟨r4,PP,rfl,T⟩
          have Y:Sy _ _ hv11 []:=Y.gr PP.fr
          clear PP
          refine⟨r4,rfl,?_⟩
          refine cnd_imp T (fun T=>?_) (fun T=>?_)
          ·refine callX_sy (T _ (Hp.nil _)) (fun _ _ ⟨_,p,_⟩=>p.fr) alln ?_
           rintro v5 hv12 ⟨r5,PP,rfl,T⟩
           have Y:Sy _ _ hv12 []:=Y.gr PP.fr
           clear PP
           refine⟨r5,rfl,?_⟩
           exact⟨_,_,_,Y.pick [] rfl,rfl,T⟩
          ·exact ⟨rfl,Y.pick [] rfl,T⟩
         ·exact ⟨rfl,Y.pick [] rfl,T⟩
        subst hB_6
        replace T:=T0
        clear T0 T1
        refine cnd_imp T (fun T=>?_) (fun T=>?_)
        ·exact hK3 _ _ ⟨Y.pick [] rfl,T⟩
        ·exact hK3 _ _ ⟨Y.pick [] rfl,T⟩
      subst hB_5
      replace T:=T0
      clear T0 T1
      refine cnd_imp T (fun T=>?_) (fun T=>?_)
      ·exact hK2 _ _ ⟨Y.pick [] rfl,T⟩
      ·exact hK2 _ _ ⟨Y.pick [] rfl,T⟩
    subst hB_3
    replace T:=T0
    clear T0 T1
    refine cnd_imp T (fun T=>?_) (fun T=>?_)
    ·exact hK _ _ ⟨Y.pick [] rfl,T⟩
    ·exact hK _ _ ⟨Y.pick [] rfl,T⟩
   ·subst hB_2
    clear T0 Y
    rintro s2 sign2 nsign hv5 ⟨s2,sign2,nsign,e,Y,T⟩
    cases e
    replace T:=T1 s2 sign2 nsign T
    have Y:Sy _ _ _ []:=Y
    refine callX_sy (T _ (Hp.nil _)) (fun _ _ ⟨_,p,_⟩=>p.fr) alln ?_
    rintro v hv6 ⟨r,PP,rfl,T⟩
    have Y:Sy _ _ hv6 []:=Y.gr PP.fr
    clear PP
    refine⟨r,rfl,?_⟩
    obtain⟨Jv_5,T0,T1⟩:=T
    obtain⟨B_7,hB_7,_⟩:=Y.cut [] [] rfl
    intro K4
    have hK4:∀(n2:Int) (hv8:Heap),(Sy h [] hv8 ([]++B_7)/\Jv_5 n2)->K4 n2 hv8:=by
     subst hB_7
     clear T0 Y
     rintro n2 hv8 ⟨Y,T⟩
     replace T:=T1 n2 T
     have Y:Sy _ _ _ []:=Y
     unfold K4
     refine cnd_imp T (fun T=>?_) (fun T=>?_)
     ·refine callX_sy (T _ (Hp.nil _)) (fun _ _ ⟨_,p,_⟩=>p.fr) alln ?_
      rintro v2 hv9 ⟨r2,PP,rfl,T⟩
      have Y:Sy _ _ hv9 []:=Y.gr PP.fr
      clear PP
      refine⟨r2,rfl,?_⟩
      exact⟨_,_,_,Y.pick [] rfl,rfl,T⟩
     ·refine cnd_imp T (fun T=>?_) (fun T=>?_)
      ·refine callX_sy (T _ (Hp.nil _)) (fun _ _ ⟨_,p,_⟩=>p.fr) alln ?_
       rintro v3 hv10 ⟨r3,PP,rfl,T⟩
       have Y:Sy _ _ hv10 []:=Y.gr PP.fr
       clear PP
       refine⟨r3,rfl,?_⟩
       exact⟨_,_,_,Y.pick [] rfl,rfl,T⟩
      ·exact ⟨rfl,Y.pick [] rfl,T⟩
    subst hB_7
    replace T:=T0
    clear T0 T1
    refine cnd_imp T (fun T=>?_) (fun T=>?_)
    ·obtain ⟨Jv4,T0,T1⟩:=T
     obtain⟨B_8,hB_8,_⟩:=Y.cut [] [] rfl
     refine⟨fun lz h'=>∃(n:Int),lz=[.int .i64 n]/\Sy h [] h' ([]++B_8)/\Jv4 n,?_,?_⟩
     ·subst hB_8
      replace T:=T0
      clear T0 T1
      refine cnd_imp T (fun T=>?_) (fun T=>?_)
      ·exact ⟨_,rfl,Y.pick [] rfl,T⟩
      ·exact ⟨_,rfl,Y.pick [] rfl,T⟩
     ·subst hB_8
      clear T0 Y
      rintro n hv7 ⟨n,e,Y,T⟩
      cases e
      replace T:=T1 n T
      have Y:Sy _ _ _ []:=Y
      exact hK4 _ _ ⟨Y.pick [] rfl,T⟩
    ·exact hK4 _ _ ⟨Y.pick [] rfl,T⟩
  ·subst hB
   clear T0 Y
   rintro hv13 ⟨e,Y,T⟩
   cases e
   replace T:=T1 T
   have Y:Sy _ _ _ []:=Y
   exact⟨_,_,_,Y.pick [] rfl,rfl,T⟩
def S365 (s:ByteArray) (h:Heap) (R:Value->Heap->Prop):Prop:=
 cnd (decide ((0:Int)>=((s.size:Nat):Int)))
  (R (.tuple #[.int .u64 0,.int .i64 0,.bool false,.bool false,.bool false,.int .i64 0,.bool false]) h)
  (0<=(0:Int)/\(0:Int)<((s.size:Nat):Int)/\∃i6:UInt8,s[Int.toNat (0:Int)]? =some i6/\∃b8:List Value->Heap->Prop,
  (cnd (((UInt8.toNat i6:Nat):Int)==(43:Int))
    (b8 [.bool false,.int .i64 (IntKind.i64.wrap ((0:Int)+(1:Int)))] h)
    (∃c7:List Value->Heap->Prop,
    (cnd (((UInt8.toNat i6:Nat):Int)==(45:Int))
     (c7 [.bool true,.int .i64 (IntKind.i64.wrap ((0:Int)+(1:Int)))] h)
     (c7 [.bool false,.int .i64 0] h))/\
    ∀q2:Bool,∀o0:Int,∀l7,c7 [.bool q2,.int .i64 o0] l7->
    b8 [.bool q2,.int .i64 o0] l7))/\
  ∀e:Bool,∀o:Int,∀a9,b8 [.bool e,.int .i64 o] a9->
  let i9:=fun(v6:Heap)=>
   (∃a3:List Value->Heap->Prop,
   (∃(b6:List Value->Heap->Prop) (o8:List Value->Heap->Nat),b6 [.int .u64 0,.bool false,.int .i64 o,.bool false,.bool false,.bool false,.int .i64 0,.int .i64 0,.int .i64 0] v6/\
    ∀j:Int,∀t:Bool,∀m:Int,∀G:Bool,∀z:Bool,∀M:Bool,∀l:Int,∀g:Int,∀B:Int,∀J,b6 [.int .u64 j,.bool t,.int .i64 m,.bool G,.bool z,.bool M,.int .i64 l,.int .i64 g,.int .i64 B] J->
    cnd (decide (m<((s.size:Nat):Int)))
     (∃N:List Value->Heap->Prop,
     (0<=m/\m<((s.size:Nat):Int)/\∃u:UInt8,s[Int.toNat m]? =some u/\cnd (true==(((UInt8.toNat u:Nat):Int)==(95:Int)))
      (N [.int .u64 j,.bool t,.bool true,.bool z,.bool M,.int .i64 l,.int .i64 g,.int .i64 B] J)
      (cnd (true==(((UInt8.toNat u:Nat):Int)==(46:Int)))
       (cnd z
        (a3 [.int .u64 j,.bool t,.int .i64 m,.bool G,.bool z,.bool M,.int .i64 l,.int .i64 g,.int .i64 B] J)
        (N [.int .u64 j,.bool t,.bool G,.bool true,.bool M,.int .i64 l,.int .i64 g,.int .i64 l] J))
       (let j1:=fun(y2:Bool) (W:Heap)=>
        (cnd y2
         (let j2:=fun(f9:Heap)=>
          (∃c6:List Value->Heap->Prop,
          (cnd (decide (g<(19:Int)))
            (c6 [.int .u64 (IntKind.u64.wrap ((IntKind.u64.wrap (j*(10:Int)))+(IntKind.u64.wrap (IntKind.u8.wrap (((UInt8.toNat u:Nat):Int)-(48:Int)))))),.bool t,.int .i64 (IntKind.i64.wrap (g+(1:Int)))] f9)
            (∃c8:List Value->Heap->Prop,
            (cnd (((UInt8.toNat u:Nat):Int) != (48:Int))
             (c8 [.bool true] f9)
             (c8 [.bool t] f9))/\
            ∀s2:Bool,∀m8,c8 [.bool s2] m8->
            c6 [.int .u64 j,.bool s2,.int .i64 g] m8))/\
          ∀p2:Int,∀s3:Bool,∀q0:Int,∀m9,c6 [.int .u64 p2,.bool s3,.int .i64 q0] m9->
          N [.int .u64 p2,.bool s3,.bool G,.bool z,.bool true,.int .i64 (IntKind.i64.wrap (l+(1:Int))),.int .i64 q0,.int .i64 B] m9)
         cnd (((UInt8.toNat u:Nat):Int)==(48:Int))
          (cnd (l==(0:Int))
           (N [.int .u64 j,.bool t,.bool G,.bool z,.bool true,.int .i64 l,.int .i64 g,.int .i64 (IntKind.i64.wrap (B-(1:Int)))] W)
           (j2 W))
          (j2 W))
         (let e3:=fun(y3:Bool) (g0:Heap)=>
          (cnd y3
           (∃c9:List Value->Heap->Prop,
           (cnd (decide (g<(19:Int)))
             (callX Tryz.prog 299 #[.int .u8 ((UInt8.toNat u:Nat):Int)] g0 [] fun x8 v8=>
             ∃r3:Int,x8= .int .u8 r3/\
             c9 [.int .u64 (IntKind.u64.wrap ((IntKind.u64.wrap (j*(16:Int)))+(IntKind.u64.wrap (IntKind.u8.wrap ((IntKind.u8.wrap (r3-(97:Int)))+(10:Int)))))),.bool t,.int .i64 (IntKind.i64.wrap (g+(1:Int)))] v8)
             (c9 [.int .u64 j,.bool true,.int .i64 g] g0))/\
           ∀p3:Int,∀r8:Bool,∀q1:Int,∀n1,c9 [.int .u64 p3,.bool r8,.int .i64 q1] n1->
           N [.int .u64 p3,.bool r8,.bool G,.bool z,.bool true,.int .i64 (IntKind.i64.wrap (l+(1:Int))),.int .i64 q1,.int .i64 B] n1)
           (a3 [.int .u64 j,.bool t,.int .i64 m,.bool G,.bool z,.bool M,.int .i64 l,.int .i64 g,.int .i64 B] g0))
         cnd ((10:Int)==(16:Int))
          (callX Tryz.prog 299 #[.int .u8 ((UInt8.toNat u:Nat):Int)] W [] fun x6 n0=>
          ∃r1:Int,x6= .int .u8 r1/\
          cnd (decide ((97:Int)<=r1))
           (callX Tryz.prog 299 #[.int .u8 ((UInt8.toNat u:Nat):Int)] n0 [] fun x7 v7=>
           ∃r2:Int,x7= .int .u8 r2/\
           e3 (true==(decide (r2<=(102:Int)))) v7)
           (e3 (true==false) n0))
          (e3 (true==false) W)))
       cnd (decide ((48:Int)<=((UInt8.toNat u:Nat):Int)))
        (j1 (true==(decide (((UInt8.toNat u:Nat):Int)<=(57:Int)))) J)
        (j1 (true==false) J))))/\
     ∀g8:Int,∀i0:Bool,∀i2:Bool,∀h9:Bool,∀h7:Bool,∀h1:Int,∀h2:Int,∀e8:Int,∀g1,N [.int .u64 g8,.bool i0,.bool i2,.bool h9,.bool h7,.int .i64 h1,.int .i64 h2,.int .i64 e8] g1->
     b6 [.int .u64 g8,.bool i0,.int .i64 (IntKind.i64.wrap (m+(1:Int))),.bool i2,.bool h9,.bool h7,.int .i64 h1,.int .i64 h2,.int .i64 e8] g1/\o8 [.int .u64 g8,.bool i0,.int .i64 (IntKind.i64.wrap (m+(1:Int))),.bool i2,.bool h9,.bool h7,.int .i64 h1,.int .i64 h2,.int .i64 e8] g1<o8 [.int .u64 j,.bool t,.int .i64 m,.bool G,.bool z,.bool M,.int .i64 l,.int .i64 g,.int .i64 B] J)
     (a3 [.int .u64 j,.bool t,.int .i64 m,.bool G,.bool z,.bool M,.int .i64 l,.int .i64 g,.int .i64 B] J))/\
   ∀w:Int,∀D:Bool,∀c:Int,∀b2:Bool,∀r7:Bool,∀r5:Bool,∀p5:Int,∀h3:Int,∀k6:Int,∀b0,a3 [.int .u64 w,.bool D,.int .i64 c,.bool b2,.bool r7,.bool r5,.int .i64 p5,.int .i64 h3,.int .i64 k6] b0->
   cnd (!r5)
    (R (.tuple #[.int .u64 w,.int .i64 0,.bool e,.bool D,.bool false,.int .i64 c,.bool false]) b0)
    (∃d0:List Value->Heap->Prop,
    (cnd (!r7)
      (d0 [.int .i64 p5] b0)
      (d0 [.int .i64 k6] b0))/\
    ∀e5:Int,∀g2,d0 [.int .i64 e5] g2->
    ∃d1:List Value->Heap->Prop,
    (cnd ((10:Int)==(16:Int))
      (d1 [.int .i64 (IntKind.i64.wrap (h3*(4:Int))),.int .i64 (IntKind.i64.wrap (e5*(4:Int)))] g2)
      (d1 [.int .i64 h3,.int .i64 e5] g2))/\
    ∀p6:Int,∀a5:Int,∀b1,d1 [.int .i64 p6,.int .i64 a5] b1->
    let j7:=fun(a0:Int) (w5:Bool) (u6:Int) (n7:Heap)=>
     (∃d7:List Value->Heap->Prop,
     (cnd (w != (0:Int))
       (d7 [.int .i64 (IntKind.i64.wrap (u6-p6))] n7)
       (d7 [.int .i64 0] n7))/\
     ∀f2:Int,∀g5,d7 [.int .i64 f2] g5->
     let j8:=fun(w1:Heap)=>
      (R (.tuple #[.int .u64 w,.int .i64 f2,.bool e,.bool D,.bool false,.int .i64 a0,.bool true]) w1)
     cnd w5
      (0<=a0/\a0<=((s.size:Nat):Int)/\callX Tryz.prog 319 #[.string (s.extract 0 (Int.toNat a0))] g5 [] fun x0 n8=>
      ∃q5:Bool,x0= .bool q5/\
      cnd (!q5)
       (R (.tuple #[.int .u64 w,.int .i64 f2,.bool e,.bool D,.bool false,.int .i64 a0,.bool false]) n8)
       (j8 n8))
      (j8 g5))
    cnd (decide (c<((s.size:Nat):Int)))
     (0<=c/\c<((s.size:Nat):Int)/\∃t1:UInt8,s[Int.toNat c]? =some t1/\callX Tryz.prog 299 #[.int .u8 ((UInt8.toNat t1:Nat):Int)] b1 [] fun w9 T=>
     ∃q4:Int,w9= .int .u8 q4/\
     ∃d2:List Value->Heap->Prop,
     (cnd (q4==(101:Int))
       (cnd (decide ((IntKind.i64.wrap (c+(1:Int)))>=((s.size:Nat):Int)))
        (R (.tuple #[.int .u64 w,.int .i64 0,.bool e,.bool D,.bool false,.int .i64 (IntKind.i64.wrap (c+(1:Int))),.bool false]) T)
        (0<=(IntKind.i64.wrap (c+(1:Int)))/\(IntKind.i64.wrap (c+(1:Int)))<((s.size:Nat):Int)/\∃i7:UInt8,s[Int.toNat (IntKind.i64.wrap (c+(1:Int)))]? =some i7/\∃d3:List Value->Heap->Prop,
        (cnd (((UInt8.toNat i7:Nat):Int)==(43:Int))
         (d3 [.int .i64 (IntKind.i64.wrap ((IntKind.i64.wrap (c+(1:Int)))+(1:Int))),.int .i64 1] T)
         (∃d4:List Value->Heap->Prop,
         (cnd (((UInt8.toNat i7:Nat):Int)==(45:Int))
           (d4 [.int .i64 (IntKind.i64.wrap ((IntKind.i64.wrap (c+(1:Int)))+(1:Int))),.int .i64 (-1)] T)
           (d4 [.int .i64 (IntKind.i64.wrap (c+(1:Int))),.int .i64 1] T))/\
         ∀o2:Int,∀l2:Int,∀n3,d4 [.int .i64 o2,.int .i64 l2] n3->
         d3 [.int .i64 o2,.int .i64 l2] n3))/\
        ∀n:Int,∀l3:Int,∀X,d3 [.int .i64 n,.int .i64 l3] X->
        let j3:=fun(v9:Heap)=>
         (R (.tuple #[.int .u64 w,.int .i64 0,.bool e,.bool D,.bool false,.int .i64 n,.bool false]) v9)
        cnd (decide (n>=((s.size:Nat):Int)))
         (j3 X)
         (0<=n/\n<((s.size:Nat):Int)/\∃t2:UInt8,s[Int.toNat n]? =some t2/\cnd (decide (((UInt8.toNat t2:Nat):Int)<(48:Int)))
          (j3 X)
          (0<=n/\n<((s.size:Nat):Int)/\∃t3:UInt8,s[Int.toNat n]? =some t3/\cnd (decide (((UInt8.toNat t3:Nat):Int)>(57:Int)))
           (R (.tuple #[.int .u64 w,.int .i64 0,.bool e,.bool D,.bool false,.int .i64 n,.bool false]) X)
           (let j6:=fun(w2:Int) (w4:Bool) (v0:Int) (w0:Heap)=>
            (d2 [.int .i64 w2,.bool w4,.int .i64 (IntKind.i64.wrap (a5+(IntKind.i64.wrap (v0*l3))))] w0)
           ∃(b7:List Value->Heap->Prop) (o9:List Value->Heap->Nat),b7 [.int .i64 n,.bool b2,.int .i64 0] X/\
           ∀a:Int,∀a1:Bool,∀I:Int,∀U,b7 [.int .i64 a,.bool a1,.int .i64 I] U->
           let j5:=fun(g3:Heap)=>
            (∃d5:List Value->Heap->Prop,
            (0<=a/\a<((s.size:Nat):Int)/\∃t9:UInt8,s[Int.toNat a]? =some t9/\cnd (((UInt8.toNat t9:Nat):Int)==(95:Int))
             (d5 [.bool true,.int .i64 I] g3)
             (∃d6:List Value->Heap->Prop,
             (cnd (decide (I<(10000:Int)))
               (0<=a/\a<((s.size:Nat):Int)/\∃u0:UInt8,s[Int.toNat a]? =some u0/\d6 [.int .i64 (IntKind.i64.wrap ((IntKind.i64.wrap ((IntKind.i64.wrap (I*(10:Int)))+(IntKind.i64.wrap ((UInt8.toNat u0:Nat):Int))))-(48:Int)))] g3)
               (d6 [.int .i64 I] g3))/\
             ∀l5:Int,∀n5,d6 [.int .i64 l5] n5->
             d5 [.bool a1,.int .i64 l5] n5))/\
            ∀i3:Bool,∀f0:Int,∀g4,d5 [.bool i3,.int .i64 f0] g4->
            b7 [.int .i64 (IntKind.i64.wrap (a+(1:Int))),.bool i3,.int .i64 f0] g4/\o9 [.int .i64 (IntKind.i64.wrap (a+(1:Int))),.bool i3,.int .i64 f0] g4<o9 [.int .i64 a,.bool a1,.int .i64 I] U)
           let j4:=fun(y4:Bool) (n4:Heap)=>
            (cnd y4
             (j5 n4)
             (j6 a a1 I n4))
           cnd (decide (a<((s.size:Nat):Int)))
            (0<=a/\a<((s.size:Nat):Int)/\∃t5:UInt8,s[Int.toNat a]? =some t5/\cnd (decide ((48:Int)<=((UInt8.toNat t5:Nat):Int)))
             (0<=a/\a<((s.size:Nat):Int)/\∃t6:UInt8,s[Int.toNat a]? =some t6/\cnd (decide (((UInt8.toNat t6:Nat):Int)<=(57:Int)))
              (j5 U)
              (0<=a/\a<((s.size:Nat):Int)/\∃t7:UInt8,s[Int.toNat a]? =some t7/\j4 (((UInt8.toNat t7:Nat):Int)==(95:Int)) U))
             (0<=a/\a<((s.size:Nat):Int)/\∃t8:UInt8,s[Int.toNat a]? =some t8/\j4 (((UInt8.toNat t8:Nat):Int)==(95:Int)) U))
            (j6 a a1 I U))))))
       (cnd ((10:Int)==(16:Int))
        (R (.tuple #[.int .u64 w,.int .i64 0,.bool e,.bool D,.bool false,.int .i64 c,.bool false]) T)
        (d2 [.int .i64 c,.bool b2,.int .i64 a5] T)))/\
     ∀o3:Int,∀s4:Bool,∀k7:Int,∀n6,d2 [.int .i64 o3,.bool s4,.int .i64 k7] n6->
     j7 o3 s4 k7 n6)
     (cnd ((10:Int)==(16:Int))
      (R (.tuple #[.int .u64 w,.int .i64 0,.bool e,.bool D,.bool false,.int .i64 c,.bool false]) b1)
      (j7 c b2 a5 b1))))
  cnd (decide ((IntKind.i64.wrap (o+(2:Int)))<((s.size:Nat):Int)))
   (0<=o/\o<((s.size:Nat):Int)/\∃t4:UInt8,s[Int.toNat o]? =some t4/\cnd (((UInt8.toNat t4:Nat):Int)==(48:Int))
    (0<=(IntKind.i64.wrap (o+(1:Int)))/\(IntKind.i64.wrap (o+(1:Int)))<((s.size:Nat):Int)/\∃u1:UInt8,s[Int.toNat (IntKind.i64.wrap (o+(1:Int)))]? =some u1/\callX Tryz.prog 299 #[.int .u8 ((UInt8.toNat u1:Nat):Int)] a9 [] fun w8 m4=>
    ∃q3:Int,w8= .int .u8 q3/\
    ∃d8:List Value->Heap->Prop,
    (cnd (q3==(120:Int))
      (d8 [.bool true,.int .i64 (IntKind.i64.wrap (o+(2:Int))),.int .u64 16,.int .i64 16,.int .u8 112] m4)
      (d8 [.bool false,.int .i64 o,.int .u64 10,.int .i64 19,.int .u8 101] m4))/\
    ∀C:Bool,∀o4:Int,∀P:Int,∀g9:Int,∀l6:Int,∀n2,d8 [.bool C,.int .i64 o4,.int .u64 P,.int .i64 g9,.int .u8 l6] n2->
    ∃a4:List Value->Heap->Prop,
    (∃(b4:List Value->Heap->Prop) (o6:List Value->Heap->Nat),b4 [.int .u64 0,.bool false,.int .i64 o4,.bool false,.bool false,.bool false,.int .i64 0,.int .i64 0,.int .i64 0] n2/\
     ∀i:Int,∀r:Bool,∀p:Int,∀F:Bool,∀y:Bool,∀L:Bool,∀k:Int,∀f:Int,∀A:Int,∀K,b4 [.int .u64 i,.bool r,.int .i64 p,.bool F,.bool y,.bool L,.int .i64 k,.int .i64 f,.int .i64 A] K->
     cnd (decide (p<((s.size:Nat):Int)))
      (∃O:List Value->Heap->Prop,
      (0<=p/\p<((s.size:Nat):Int)/\∃v:UInt8,s[Int.toNat p]? =some v/\cnd (true==(((UInt8.toNat v:Nat):Int)==(95:Int)))
       (O [.int .u64 i,.bool r,.bool true,.bool y,.bool L,.int .i64 k,.int .i64 f,.int .i64 A] K)
       (cnd (true==(((UInt8.toNat v:Nat):Int)==(46:Int)))
        (cnd y
         (a4 [.int .u64 i,.bool r,.int .i64 p,.bool F,.bool y,.bool L,.int .i64 k,.int .i64 f,.int .i64 A] K)
         (O [.int .u64 i,.bool r,.bool F,.bool true,.bool L,.int .i64 k,.int .i64 f,.int .i64 k] K))
        (let j9:=fun(x9:Bool) (Y:Heap)=>
         (cnd x9
          (let k0:=fun(g6:Heap)=>
           (∃d9:List Value->Heap->Prop,
           (cnd (decide (f<g9))
             (d9 [.int .u64 (IntKind.u64.wrap ((IntKind.u64.wrap (i*P))+(IntKind.u64.wrap (IntKind.u8.wrap (((UInt8.toNat v:Nat):Int)-(48:Int)))))),.bool r,.int .i64 (IntKind.i64.wrap (f+(1:Int)))] g6)
             (∃e0:List Value->Heap->Prop,
             (cnd (((UInt8.toNat v:Nat):Int) != (48:Int))
              (e0 [.bool true] g6)
              (e0 [.bool r] g6))/\
             ∀r9:Bool,∀n9,e0 [.bool r9] n9->
             d9 [.int .u64 i,.bool r9,.int .i64 f] n9))/\
           ∀p0:Int,∀s0:Bool,∀p7:Int,∀l8,d9 [.int .u64 p0,.bool s0,.int .i64 p7] l8->
           O [.int .u64 p0,.bool s0,.bool F,.bool y,.bool true,.int .i64 (IntKind.i64.wrap (k+(1:Int))),.int .i64 p7,.int .i64 A] l8)
          cnd (((UInt8.toNat v:Nat):Int)==(48:Int))
           (cnd (k==(0:Int))
            (O [.int .u64 i,.bool r,.bool F,.bool y,.bool true,.int .i64 k,.int .i64 f,.int .i64 (IntKind.i64.wrap (A-(1:Int)))] Y)
            (k0 Y))
           (k0 Y))
          (let e4:=fun(y0:Bool) (f3:Heap)=>
           (cnd y0
            (∃e1:List Value->Heap->Prop,
            (cnd (decide (f<g9))
              (callX Tryz.prog 299 #[.int .u8 ((UInt8.toNat v:Nat):Int)] f3 [] fun x3 v2=>
              ∃q8:Int,x3= .int .u8 q8/\
              e1 [.int .u64 (IntKind.u64.wrap ((IntKind.u64.wrap (i*(16:Int)))+(IntKind.u64.wrap (IntKind.u8.wrap ((IntKind.u8.wrap (q8-(97:Int)))+(10:Int)))))),.bool r,.int .i64 (IntKind.i64.wrap (f+(1:Int)))] v2)
              (e1 [.int .u64 i,.bool true,.int .i64 f] f3))/\
            ∀p1:Int,∀s1:Bool,∀p8:Int,∀m0,e1 [.int .u64 p1,.bool s1,.int .i64 p8] m0->
            O [.int .u64 p1,.bool s1,.bool F,.bool y,.bool true,.int .i64 (IntKind.i64.wrap (k+(1:Int))),.int .i64 p8,.int .i64 A] m0)
            (a4 [.int .u64 i,.bool r,.int .i64 p,.bool F,.bool y,.bool L,.int .i64 k,.int .i64 f,.int .i64 A] f3))
          cnd (P==(16:Int))
           (callX Tryz.prog 299 #[.int .u8 ((UInt8.toNat v:Nat):Int)] Y [] fun x1 l9=>
           ∃q6:Int,x1= .int .u8 q6/\
           cnd (decide ((97:Int)<=q6))
            (callX Tryz.prog 299 #[.int .u8 ((UInt8.toNat v:Nat):Int)] l9 [] fun x2 v1=>
            ∃q7:Int,x2= .int .u8 q7/\
            e4 (true==(decide (q7<=(102:Int)))) v1)
            (e4 (true==false) l9))
           (e4 (true==false) Y)))
        cnd (decide ((48:Int)<=((UInt8.toNat v:Nat):Int)))
         (j9 (true==(decide (((UInt8.toNat v:Nat):Int)<=(57:Int)))) K)
         (j9 (true==false) K))))/\
      ∀g7:Int,∀i1:Bool,∀i4:Bool,∀h8:Bool,∀h6:Bool,∀h0:Int,∀h4:Int,∀e6:Int,∀f4,O [.int .u64 g7,.bool i1,.bool i4,.bool h8,.bool h6,.int .i64 h0,.int .i64 h4,.int .i64 e6] f4->
      b4 [.int .u64 g7,.bool i1,.int .i64 (IntKind.i64.wrap (p+(1:Int))),.bool i4,.bool h8,.bool h6,.int .i64 h0,.int .i64 h4,.int .i64 e6] f4/\o6 [.int .u64 g7,.bool i1,.int .i64 (IntKind.i64.wrap (p+(1:Int))),.bool i4,.bool h8,.bool h6,.int .i64 h0,.int .i64 h4,.int .i64 e6] f4<o6 [.int .u64 i,.bool r,.int .i64 p,.bool F,.bool y,.bool L,.int .i64 k,.int .i64 f,.int .i64 A] K)
      (a4 [.int .u64 i,.bool r,.int .i64 p,.bool F,.bool y,.bool L,.int .i64 k,.int .i64 f,.int .i64 A] K))/\
    ∀x:Int,∀E:Bool,∀d:Int,∀b3:Bool,∀r6:Bool,∀r4:Bool,∀p4:Int,∀h5:Int,∀k8:Int,∀a7,a4 [.int .u64 x,.bool E,.int .i64 d,.bool b3,.bool r6,.bool r4,.int .i64 p4,.int .i64 h5,.int .i64 k8] a7->
    cnd (!r4)
     (R (.tuple #[.int .u64 x,.int .i64 0,.bool e,.bool E,.bool C,.int .i64 d,.bool false]) a7)
     (∃e2:List Value->Heap->Prop,
     (cnd (!r6)
       (e2 [.int .i64 p4] a7)
       (e2 [.int .i64 k8] a7))/\
     ∀e7:Int,∀f5,e2 [.int .i64 e7] f5->
     ∃b9:List Value->Heap->Prop,
     (cnd (P==(16:Int))
       (b9 [.int .i64 (IntKind.i64.wrap (h5*(4:Int))),.int .i64 (IntKind.i64.wrap (e7*(4:Int)))] f5)
       (b9 [.int .i64 h5,.int .i64 e7] f5))/\
     ∀p9:Int,∀a6:Int,∀a8,b9 [.int .i64 p9,.int .i64 a6] a8->
     let k5:=fun(Z:Int) (w7:Bool) (u7:Int) (m6:Heap)=>
      (∃c5:List Value->Heap->Prop,
      (cnd (x != (0:Int))
        (c5 [.int .i64 (IntKind.i64.wrap (u7-p9))] m6)
        (c5 [.int .i64 0] m6))/\
      ∀f1:Int,∀f8,c5 [.int .i64 f1] f8->
      let j0:=fun(v5:Heap)=>
       (R (.tuple #[.int .u64 x,.int .i64 f1,.bool e,.bool E,.bool C,.int .i64 Z,.bool true]) v5)
      cnd w7
       (0<=Z/\Z<=((s.size:Nat):Int)/\callX Tryz.prog 319 #[.string (s.extract 0 (Int.toNat Z))] f8 [] fun x5 m7=>
       ∃r0:Bool,x5= .bool r0/\
       cnd (!r0)
        (R (.tuple #[.int .u64 x,.int .i64 f1,.bool e,.bool E,.bool C,.int .i64 Z,.bool false]) m7)
        (j0 m7))
       (j0 f8))
     cnd (decide (d<((s.size:Nat):Int)))
      (0<=d/\d<((s.size:Nat):Int)/\∃u2:UInt8,s[Int.toNat d]? =some u2/\callX Tryz.prog 299 #[.int .u8 ((UInt8.toNat u2:Nat):Int)] a8 [] fun x4 Q=>
      ∃q9:Int,x4= .int .u8 q9/\
      ∃c0:List Value->Heap->Prop,
      (cnd (q9==l6)
        (cnd (decide ((IntKind.i64.wrap (d+(1:Int)))>=((s.size:Nat):Int)))
         (R (.tuple #[.int .u64 x,.int .i64 0,.bool e,.bool E,.bool C,.int .i64 (IntKind.i64.wrap (d+(1:Int))),.bool false]) Q)
         (0<=(IntKind.i64.wrap (d+(1:Int)))/\(IntKind.i64.wrap (d+(1:Int)))<((s.size:Nat):Int)/\∃i8:UInt8,s[Int.toNat (IntKind.i64.wrap (d+(1:Int)))]? =some i8/\∃c1:List Value->Heap->Prop,
         (cnd (((UInt8.toNat i8:Nat):Int)==(43:Int))
          (c1 [.int .i64 (IntKind.i64.wrap ((IntKind.i64.wrap (d+(1:Int)))+(1:Int))),.int .i64 1] Q)
          (∃c2:List Value->Heap->Prop,
          (cnd (((UInt8.toNat i8:Nat):Int)==(45:Int))
            (c2 [.int .i64 (IntKind.i64.wrap ((IntKind.i64.wrap (d+(1:Int)))+(1:Int))),.int .i64 (-1)] Q)
            (c2 [.int .i64 (IntKind.i64.wrap (d+(1:Int))),.int .i64 1] Q))/\
          ∀o5:Int,∀l0:Int,∀m1,c2 [.int .i64 o5,.int .i64 l0] m1->
          c1 [.int .i64 o5,.int .i64 l0] m1))/\
         ∀q:Int,∀l1:Int,∀V,c1 [.int .i64 q,.int .i64 l1] V->
         let k1:=fun(v3:Heap)=>
          (R (.tuple #[.int .u64 x,.int .i64 0,.bool e,.bool E,.bool C,.int .i64 q,.bool false]) v3)
         cnd (decide (q>=((s.size:Nat):Int)))
          (k1 V)
          (0<=q/\q<((s.size:Nat):Int)/\∃u3:UInt8,s[Int.toNat q]? =some u3/\cnd (decide (((UInt8.toNat u3:Nat):Int)<(48:Int)))
           (k1 V)
           (0<=q/\q<((s.size:Nat):Int)/\∃u4:UInt8,s[Int.toNat q]? =some u4/\cnd (decide (((UInt8.toNat u4:Nat):Int)>(57:Int)))
            (R (.tuple #[.int .u64 x,.int .i64 0,.bool e,.bool E,.bool C,.int .i64 q,.bool false]) V)
            (let k4:=fun(w3:Int) (w6:Bool) (u9:Int) (v4:Heap)=>
             (c0 [.int .i64 w3,.bool w6,.int .i64 (IntKind.i64.wrap (a6+(IntKind.i64.wrap (u9*l1))))] v4)
            ∃(b5:List Value->Heap->Prop) (o7:List Value->Heap->Nat),b5 [.int .i64 q,.bool b3,.int .i64 0] V/\
            ∀b:Int,∀a2:Bool,∀H:Int,∀S,b5 [.int .i64 b,.bool a2,.int .i64 H] S->
            let k3:=fun(f6:Heap)=>
             (∃c3:List Value->Heap->Prop,
             (0<=b/\b<((s.size:Nat):Int)/\∃s9:UInt8,s[Int.toNat b]? =some s9/\cnd (((UInt8.toNat s9:Nat):Int)==(95:Int))
              (c3 [.bool true,.int .i64 H] f6)
              (∃c4:List Value->Heap->Prop,
              (cnd (decide (H<(10000:Int)))
                (0<=b/\b<((s.size:Nat):Int)/\∃t0:UInt8,s[Int.toNat b]? =some t0/\c4 [.int .i64 (IntKind.i64.wrap ((IntKind.i64.wrap ((IntKind.i64.wrap (H*(10:Int)))+(IntKind.i64.wrap ((UInt8.toNat t0:Nat):Int))))-(48:Int)))] f6)
                (c4 [.int .i64 H] f6))/\
              ∀l4:Int,∀m3,c4 [.int .i64 l4] m3->
              c3 [.bool a2,.int .i64 l4] m3))/\
             ∀i5:Bool,∀e9:Int,∀f7,c3 [.bool i5,.int .i64 e9] f7->
             b5 [.int .i64 (IntKind.i64.wrap (b+(1:Int))),.bool i5,.int .i64 e9] f7/\o7 [.int .i64 (IntKind.i64.wrap (b+(1:Int))),.bool i5,.int .i64 e9] f7<o7 [.int .i64 b,.bool a2,.int .i64 H] S)
            let k2:=fun(y1:Bool) (m2:Heap)=>
             (cnd y1
              (k3 m2)
              (k4 b a2 H m2))
            cnd (decide (b<((s.size:Nat):Int)))
             (0<=b/\b<((s.size:Nat):Int)/\∃u5:UInt8,s[Int.toNat b]? =some u5/\cnd (decide ((48:Int)<=((UInt8.toNat u5:Nat):Int)))
              (0<=b/\b<((s.size:Nat):Int)/\∃s6:UInt8,s[Int.toNat b]? =some s6/\cnd (decide (((UInt8.toNat s6:Nat):Int)<=(57:Int)))
               (k3 S)
               (0<=b/\b<((s.size:Nat):Int)/\∃s7:UInt8,s[Int.toNat b]? =some s7/\k2 (((UInt8.toNat s7:Nat):Int)==(95:Int)) S))
              (0<=b/\b<((s.size:Nat):Int)/\∃s8:UInt8,s[Int.toNat b]? =some s8/\k2 (((UInt8.toNat s8:Nat):Int)==(95:Int)) S))
             (k4 b a2 H S))))))
        (cnd (P==(16:Int))
         (R (.tuple #[.int .u64 x,.int .i64 0,.bool e,.bool E,.bool C,.int .i64 d,.bool false]) Q)
         (c0 [.int .i64 d,.bool b3,.int .i64 a6] Q)))/\
      ∀o1:Int,∀s5:Bool,∀k9:Int,∀m5,c0 [.int .i64 o1,.bool s5,.int .i64 k9] m5->
      k5 o1 s5 k9 m5)
      (cnd (P==(16:Int))
       (R (.tuple #[.int .u64 x,.int .i64 0,.bool e,.bool E,.bool C,.int .i64 d,.bool false]) a8)
       (k5 d b3 a6 a8))))
    (i9 a9))
   (i9 a9))
theorem calls365 {h:Heap} {R:Value->Heap->Prop} (s:ByteArray) (H:S365 s h R):CallsH Tryz.prog 365 #[.string s] h R:=by
 have e:S365 s h R=FX (envX [] 253) {loops:=[(1,⟨[0,3,4,6,8,10,11,12],[2,5,7,9,13,14,15,16,17],[],[]⟩),(5,⟨[0,2,3,4,5,6,8,16,17,19],[7,9,20],[],[]⟩)],joins:=[(28,⟨[0,2,3,5,6,8,9],[4,7],[],[]⟩),(32,⟨[0,2,3,5,6,8,9],[4,7],[],[]⟩),(54,⟨[0,2,3,4,5,8,9],[6,7,10,11,12],[],[]⟩),(96,⟨[0,3,4,6,7,8,9,10,11,12,13,14,15,17],[2,5,16],[],[]⟩),(108,⟨[0,2,3,4,6,7,8,9,10,11,12,13,14,15,16,17],[5],[],[]⟩),(127,⟨[0,3,4,6,7,8,9,10,11,12,13,14,15,17],[2,5,16],[],[]⟩),(142,⟨[0,2,3,4,5,6,7,8,9,10,12,16],[17],[],[]⟩),(145,⟨[0,2,3,4,5,6,7,8,9,10,12],[16,17],[],[]⟩),(161,⟨[0,2,3,4,5,6,8,16],[7,9,17],[],[]⟩),(171,⟨[0,2,3,4,5,6,8,9,16,17],[7,19],[],[]⟩),(175,⟨[0,2,3,4,5,6,8,9,16,17],[7,19],[],[]⟩),(224,⟨[0,2,3,4,5,6,7,8,9,16,17,19],[20],[],[]⟩),(241,⟨[0,2,4,5,6,7,8,9],[3],[],[]⟩)],blocks:=[(1,⟨[0,3,4,6,8,10,12],[2,5,7,9,13,14,15,16,17],[],[]⟩),(2,⟨[0,3,4,6,7,8,10,11,12],[2,5,9,13,14,15,16,17],[],[]⟩),(6,⟨[0,2,3,4,5,6,7,8,16,17,19],[9,20],[],[]⟩)],draws:=[]} Tryz.f365 (Tryz.f365.body.getD .skip) [.string s] h R:=by kernel_rfl
 exact calls_of_FX (envX_ok _ _) Tryz.func365 (by kernel_rfl) (by kernel_rfl) (by kernel_rfl) (e▸H)
def Ok365 (s:ByteArray) (R:Int->Int->Bool->Bool->Bool->Int->Bool->Prop):Prop:=
 ∀(h:Heap),Hp h []->CallsH Tryz.prog 365 #[.string s] h fun v h'=>∃(raV:Int) (rbV:Int) (rcV:Bool) (rdV:Bool) (reV:Bool) (rfV:Int) (rgV:Bool),Sy h [] h' []/\v= .tuple #[.int .u64 raV,.int .i64 rbV,.bool rcV,.bool rdV,.bool reV,.int .i64 rfV,.bool rgV]/\R raV rbV rcV rdV reV rfV rgV
def S374 (mantissa:Int) (exp:Int) (neg:Bool) (h:Heap) (R:Value->Heap->Prop):Prop:=
 ∃k:Int,hcell h 13 0=some (.int .u64 k)/\0<=k/\cnd ((Int.fdiv mantissa (2^(min (Int.toNat k) 64))) != (0:Int))
  (R (.tuple #[.float .f64 0,.bool false]) h)
  (∃i:List Value->Heap->Prop,
  (cnd neg
    (i [.float .f64 (Op.negFloat .f64 ((FloatKind.f64).nearest mantissa))] h)
    (i [.float .f64 ((FloatKind.f64).nearest mantissa)] h))/\
  ∀c:Nat,∀a,i [.float .f64 c] a->
  let f:=fun(C:Heap)=>
   (R (.tuple #[.float .f64 c,.bool false]) C)
  cnd (exp==(0:Int))
   (R (.tuple #[.float .f64 c,.bool true]) a)
   (cnd (decide (exp>(0:Int)))
    (cnd (decide (exp<=(37:Int)))
     (∃j:List Value->Heap->Prop,
     (cnd (decide (exp>(22:Int)))
       (∃(u:Option Addr) (y D:Nat),hcell a 16 0=some (.slice u y D)/\∃b o,u=some ⟨b,o,none⟩/\0<=(IntKind.i64.wrap (exp-(22:Int)))/\(IntKind.i64.wrap (exp-(22:Int)))<(y:Nat)/\∃l:Nat,hcell a b (o+(Int.toNat (IntKind.i64.wrap (exp-(22:Int))))*1)=some (.float .f64 l)/\∀q,FRes .f64 c l ((FloatKind.f64).format.mul c l) q->j [.int .i64 22,.float .f64 q] a)
       (j [.int .i64 exp,.float .f64 c] a))/\
     ∀g:Int,∀d:Nat,∀e,j [.int .i64 g,.float .f64 d] e->
     cnd ((FloatKind.f64).format.order d 4831355200913801216==some .gt)
      (R (.tuple #[.float .f64 d,.bool false]) e)
      (cnd ((FloatKind.f64).format.order d 14054727237768577024==some .lt)
       (R (.tuple #[.float .f64 d,.bool false]) e)
       (∃(v:Option Addr) (z E:Nat),hcell e 16 0=some (.slice v z E)/\∃b2 o2,v=some ⟨b2,o2,none⟩/\0<=g/\g<(z:Nat)/\∃m:Nat,hcell e b2 (o2+(Int.toNat g)*1)=some (.float .f64 m)/\∀r,FRes .f64 d m ((FloatKind.f64).format.mul d m) r->R (.tuple #[.float .f64 r,.bool true]) e)))
     (cnd (decide (exp<(0:Int)))
      (cnd (decide (exp>=((-22):Int)))
       (∃(w:Option Addr) (A F:Nat),hcell a 16 0=some (.slice w A F)/\∃b3 o3,w=some ⟨b3,o3,none⟩/\0<=(IntKind.i64.wrap (0-exp))/\(IntKind.i64.wrap (0-exp))<(A:Nat)/\∃n:Nat,hcell a b3 (o3+(Int.toNat (IntKind.i64.wrap (0-exp)))*1)=some (.float .f64 n)/\∀s,FRes .f64 c n ((FloatKind.f64).format.div c n) s->R (.tuple #[.float .f64 s,.bool true]) a)
       (f a))
      (f a)))
    (cnd (decide (exp<(0:Int)))
     (cnd (decide (exp>=((-22):Int)))
      (∃(x:Option Addr) (B G:Nat),hcell a 16 0=some (.slice x B G)/\∃b4 o4,x=some ⟨b4,o4,none⟩/\0<=(IntKind.i64.wrap (0-exp))/\(IntKind.i64.wrap (0-exp))<(B:Nat)/\∃p:Nat,hcell a b4 (o4+(Int.toNat (IntKind.i64.wrap (0-exp)))*1)=some (.float .f64 p)/\∀t,FRes .f64 c p ((FloatKind.f64).format.div c p) t->R (.tuple #[.float .f64 t,.bool true]) a)
      (f a))
     (f a))))
theorem calls374 {h:Heap} {R:Value->Heap->Prop} (mantissa:Int) (exp:Int) (neg:Bool) (H:S374 mantissa exp neg h R):CallsH Tryz.prog 374 #[.int .u64 mantissa,.int .i64 exp,.bool neg] h R:=by
 have e:S374 mantissa exp neg h R=FX (envX [] 64) {loops:=[],joins:=[(15,⟨[1,7],[6],[],[]⟩),(30,⟨[7],[1,6],[],[]⟩)],blocks:=[],draws:=[]} Tryz.f374 (Tryz.f374.body.getD .skip) [.int .u64 mantissa,.int .i64 exp,.bool neg] h R:=by kernel_rfl
 exact calls_of_FX (envX_ok _ _) Tryz.func374 (by kernel_rfl) (by kernel_rfl) (by kernel_rfl) (e▸H)
def Ok374 (mantissa:Int) (exp:Int) (neg:Bool) (R:Nat->Bool->Prop):Prop:=
 ∀(h:Heap) (gl:GL),Hp h [Ck.glob gl]->CallsH Tryz.prog 374 #[.int .u64 mantissa,.int .i64 exp,.bool neg] h fun v h'=>∃(raV:Nat) (rbV:Bool),Sy h [] h' []/\v= .tuple #[.float .f64 raV,.bool rbV]/\R raV rbV
def T374 (mantissa:Int) (exp:Int) (neg:Bool) (R:Nat->Bool->Prop):Prop:=
 0<=(52:Int)/\cnd ((Int.fdiv mantissa (2^(min (Int.toNat (52:Int)) 64))) != (0:Int))
  (R 0 false)
  (∃e:Nat->Prop,
  (cnd neg
    (e (Op.negFloat .f64 ((FloatKind.f64).nearest mantissa)))
    (e ((FloatKind.f64).nearest mantissa)))/\
  ∀a:Nat,e a->
  ∃c:Prop,
  (cnd (exp==(0:Int))
    (R a true)
    (cnd (decide (exp>(0:Int)))
     (cnd (decide (exp<=(37:Int)))
      (∃f:Int->Nat->Prop,
      (cnd (decide (exp>(22:Int)))
       (0<=(IntKind.i64.wrap (exp-(22:Int)))/\(IntKind.i64.wrap (exp-(22:Int)))<((23:Nat):Int)/\∃g:Nat,tF[(Int.toNat (IntKind.i64.wrap (exp-(22:Int))))*1]? =some g/\∀k:Nat,FRes .f64 a g ((FloatKind.f64).format.mul a g) k->f 22 k)
       (f exp a))/\
      ∀d:Int,∀b:Nat,f d b->
      cnd ((FloatKind.f64).format.order b 4831355200913801216==some .gt)
       (R b false)
       (cnd ((FloatKind.f64).format.order b 14054727237768577024==some .lt)
        (R b false)
        (0<=d/\d<((23:Nat):Int)/\∃h:Nat,tF[(Int.toNat d)*1]? =some h/\∀l:Nat,FRes .f64 b h ((FloatKind.f64).format.mul b h) l->R l true)))
      (cnd (decide (exp<(0:Int)))
       (cnd (decide (exp>=((-22):Int)))
        (0<=(IntKind.i64.wrap (0-exp))/\(IntKind.i64.wrap (0-exp))<((23:Nat):Int)/\∃i:Nat,tF[(Int.toNat (IntKind.i64.wrap (0-exp)))*1]? =some i/\∀m:Nat,FRes .f64 a i ((FloatKind.f64).format.div a i) m->R m true)
        (c))
       (c)))
     (cnd (decide (exp<(0:Int)))
      (cnd (decide (exp>=((-22):Int)))
       (0<=(IntKind.i64.wrap (0-exp))/\(IntKind.i64.wrap (0-exp))<((23:Nat):Int)/\∃j:Nat,tF[(Int.toNat (IntKind.i64.wrap (0-exp)))*1]? =some j/\∀n:Nat,FRes .f64 a j ((FloatKind.f64).format.div a j) n->R n true)
       (c))
      (c))))/\
  (c->
  R a false))
theorem ok374 {mantissa exp neg} {R:Nat->Bool->Prop} (T:T374 mantissa exp neg R):Ok374 mantissa exp neg R:=by
 intro h gl H
 have Y:Sy h [] h _:=Sy.startM H rfl
 apply calls374
 unfold S374
 unfold T374 at T
 refine⟨_,(Y.glo 0 rfl).i0,?_⟩
 obtain⟨q_9,T⟩:=T
 refine⟨q_9,?_⟩
 refine cnd_imp T (fun T=>?_) (fun T=>?_)
 ·exact ⟨_,_,Y.pick [] rfl,rfl,T⟩
 ·obtain ⟨Jv,T0,T1⟩:=T
  obtain⟨B,hB,_⟩:=Y.cut [] [0] rfl
  refine⟨fun lz h'=>∃(f:Nat),lz=[.float .f64 f]/\Sy h [] h' ([]++B)/\Jv f,?_,?_⟩
  ·subst hB
   replace T:=T0
   clear T0 T1
   refine cnd_imp T (fun T=>?_) (fun T=>?_)
   ·exact ⟨_,rfl,Y.pick [0] rfl,T⟩
   ·exact ⟨_,rfl,Y.pick [0] rfl,T⟩
  ·subst hB
   clear T0 Y
   rintro f hv ⟨f,e,Y,T⟩
   cases e
   replace T:=T1 f T
   have Y:Sy _ _ _ [_]:=Y
   obtain⟨Jv_2,T0,T1⟩:=T
   obtain⟨B_2,hB_2,_⟩:=Y.cut [] [0] rfl
   intro K
   have hK:∀(hv3:Heap),(Sy h [] hv3 ([]++B_2)/\Jv_2)->K hv3:=by
    subst hB_2
    clear T0 Y
    rintro hv3 ⟨Y,T⟩
    replace T:=T1 T
    have Y:Sy _ _ _ [_]:=Y
    unfold K
    exact⟨_,_,Y.pick [] rfl,rfl,T⟩
   subst hB_2
   replace T:=T0
   clear T0 T1
   refine cnd_imp T (fun T=>?_) (fun T=>?_)
   ·exact ⟨_,_,Y.pick [] rfl,rfl,T⟩
   ·refine cnd_imp T (fun T=>?_) (fun T=>?_)
    ·refine cnd_imp T (fun T=>?_) (fun T=>?_)
     ·obtain ⟨Jv2,T0,T1⟩:=T
      obtain⟨B_3,hB_3,_⟩:=Y.cut [] [0] rfl
      refine⟨fun lz h'=>∃(exp2:Int) (f2:Nat),lz=[.int .i64 exp2,.float .f64 f2]/\Sy h [] h' ([]++B_3)/\Jv2 exp2 f2,?_,?_⟩
      ·subst hB_3
       replace T:=T0
       clear T0 T1
       refine cnd_imp T (fun T=>?_) (fun T=>?_)
       ·refine ⟨_,_,_,(Y.glo 0 rfl).f0,?_⟩
        obtain⟨q,q_2,T⟩:=T
        refine⟨_,_,rfl,q,q_2,?_⟩
        obtain⟨x_2,hx,T⟩:=T
        refine⟨_,(Y.glo 0 rfl).f _ _ hx,?_⟩
        intro r hq
        replace T:=T r hq
        exact⟨_,_,rfl,Y.pick [0] rfl,T⟩
       ·exact ⟨_,_,rfl,Y.pick [0] rfl,T⟩
      ·subst hB_3
       clear T0 Y
       rintro exp2 f2 hv2 ⟨exp2,f2,e,Y,T⟩
       cases e
       replace T:=T1 exp2 f2 T
       have Y:Sy _ _ _ [_]:=Y
       refine cnd_imp T (fun T=>?_) (fun T=>?_)
       ·exact ⟨_,_,Y.pick [] rfl,rfl,T⟩
       ·refine cnd_imp T (fun T=>?_) (fun T=>?_)
        ·exact ⟨_,_,Y.pick [] rfl,rfl,T⟩
        ·refine ⟨_,_,_,(Y.glo 0 rfl).f0,?_⟩
         obtain⟨q_3,q_4,T⟩:=T
         refine⟨_,_,rfl,q_3,q_4,?_⟩
         obtain⟨x_3,hx_2,T⟩:=T
         refine⟨_,(Y.glo 0 rfl).f _ _ hx_2,?_⟩
         intro r2 hq
         replace T:=T r2 hq
         exact⟨_,_,Y.pick [] rfl,rfl,T⟩
     ·refine cnd_imp T (fun T=>?_) (fun T=>?_)
      ·refine cnd_imp T (fun T=>?_) (fun T=>?_)
       ·refine ⟨_,_,_,(Y.glo 0 rfl).f0,?_⟩
        obtain⟨q_5,q_6,T⟩:=T
        refine⟨_,_,rfl,q_5,q_6,?_⟩
        obtain⟨x_4,hx_3,T⟩:=T
        refine⟨_,(Y.glo 0 rfl).f _ _ hx_3,?_⟩
        intro r3 hq
        replace T:=T r3 hq
        exact⟨_,_,Y.pick [] rfl,rfl,T⟩
       ·exact hK _ ⟨Y.pick [0] rfl,T⟩
      ·exact hK _ ⟨Y.pick [0] rfl,T⟩
    ·refine cnd_imp T (fun T=>?_) (fun T=>?_)
     ·refine cnd_imp T (fun T=>?_) (fun T=>?_)
      ·refine ⟨_,_,_,(Y.glo 0 rfl).f0,?_⟩
       obtain⟨q_7,q_8,T⟩:=T
       refine⟨_,_,rfl,q_7,q_8,?_⟩
       obtain⟨x_5,hx_4,T⟩:=T
       refine⟨_,(Y.glo 0 rfl).f _ _ hx_4,?_⟩
       intro r4 hq
       replace T:=T r4 hq
       exact⟨_,_,Y.pick [] rfl,rfl,T⟩
      ·exact hK _ ⟨Y.pick [0] rfl,T⟩
     ·exact hK _ ⟨Y.pick [0] rfl,T⟩
def Ok375 (d:Int) (p:Int) (sign:Int) (R:Nat->Option Int->Prop):Prop:=
 ∀(h:Heap) (gl:GL),Hp h [Ck.glob gl]->CallsH Tryz.prog 375 #[.int .u64 d,.int .i64 p,.int .u64 sign] h fun v h'=>∃(raV:Nat) (rbE:Option Int),Sy h [] h' []/\v= .tuple #[.float .f64 raV,(errV 297 rbE)]/\R raV rbE
def S355 (s:ByteArray) (h:Heap) (R:Value->Heap->Prop):Prop:=
 callX Tryz.prog 364 #[.string s] h [] fun W u=>
 ∃D:Nat,∃F:Int,∃H:Bool,W= .tuple #[.float .f64 D,.int .i64 F,.bool H]/\
 cnd H
  (R (.tuple #[.float .f64 D,.int .i64 F,.nilIface]) u)
  (callX Tryz.prog 365 #[.string s] u [] fun X g=>
  ∃e:Int,∃d:Int,∃p:Bool,∃l:Bool,∃I:Bool,∃a:Int,∃J:Bool,X= .tuple #[.int .u64 e,.int .i64 d,.bool p,.bool l,.bool I,.int .i64 a,.bool J]/\
  cnd (!J)
   (R (.tuple #[.float .f64 0,.int .i64 a,.iface 297 (.int .i64 2)]) g)
   (cnd I
    (False)
    (let m:=fun(a3:Heap)=>
     (False)
    ∃N:Bool,hcell g 3 0=some (.bool N)/\cnd N
     (callX Tryz.prog 337 #[.bool p] g [] fun Y f=>
     ∃c:Int,Y= .int .u64 c/\
     0<=(63:Int)/\cnd (e==(0:Int))
      (callE Tryz.prog 373 #[.int .u64 (bits .or .u64 (IntKind.u64.wrap (c*2^(min (Int.toNat (63:Int)) 64))) (0:Int))] fun Z=>
      ∃A:Nat,Z= .float .f64 A/\
      R (.tuple #[.float .f64 A,.int .i64 a,.nilIface]) f)
      (cnd (decide (d>(310:Int)))
       (callE Tryz.prog 373 #[.int .u64 (bits .or .u64 (IntKind.u64.wrap (c*2^(min (Int.toNat (63:Int)) 64))) (9218868437227405312:Int))] fun a0=>
       ∃B:Nat,a0= .float .f64 B/\
       R (.tuple #[.float .f64 B,.int .i64 a,.iface 297 (.int .i64 1)]) f)
       (cnd (decide (d<((-345):Int)))
        (callE Tryz.prog 373 #[.int .u64 (bits .or .u64 (IntKind.u64.wrap (c*2^(min (Int.toNat (63:Int)) 64))) (0:Int))] fun a1=>
        ∃C:Nat,a1= .float .f64 C/\
        R (.tuple #[.float .f64 C,.int .i64 a,.nilIface]) f)
        (let q:=fun(Q:Heap)=>
         (callX Tryz.prog 375 #[.int .u64 e,.int .i64 d,.int .u64 (IntKind.u64.wrap (c*2^(min (Int.toNat (63:Int)) 64)))] Q [] fun L i=>
         ∃b:Nat,((L= .tuple #[.float .f64 b,.nilIface]/\
          cnd (!l)
           (R (.tuple #[.float .f64 b,.int .i64 a,.nilIface]) i)
           (let r:=fun(O:Nat) (y:Heap)=>
            (cnd ((FloatKind.f64).format.order b O==some .eq)
             (R (.tuple #[.float .f64 b,.int .i64 a,.nilIface]) y)
             (m y))
           callX Tryz.prog 375 #[.int .u64 (IntKind.u64.wrap (e+(1:Int))),.int .i64 d,.int .u64 (IntKind.u64.wrap (c*2^(min (Int.toNat (63:Int)) 64)))] i [] fun M x=>
           ∃j:Nat,((M= .tuple #[.float .f64 j,.nilIface]/\
            r j x)
           \/∃(U:Nat) (S:Value),M= .tuple #[.float .f64 j,.iface U S]/\
            r j x)))
         \/∃(o:Nat) (n:Value),L= .tuple #[.float .f64 b,.iface o n]/\
          cnd (!l)
           (R (.tuple #[.float .f64 b,.int .i64 a,.iface o n]) i)
           (let t:=fun(P:Nat) (v:Heap)=>
            (cnd ((FloatKind.f64).format.order b P==some .eq)
             (R (.tuple #[.float .f64 b,.int .i64 a,.iface o n]) v)
             (m v))
           callX Tryz.prog 375 #[.int .u64 (IntKind.u64.wrap (e+(1:Int))),.int .i64 d,.int .u64 (IntKind.u64.wrap (c*2^(min (Int.toNat (63:Int)) 64)))] i [] fun K z=>
           ∃k:Nat,((K= .tuple #[.float .f64 k,.nilIface]/\
            t k z)
           \/∃(V:Nat) (T:Value),K= .tuple #[.float .f64 k,.iface V T]/\
            t k z))))
        cnd (!l)
         (callX Tryz.prog 374 #[.int .u64 e,.int .i64 d,.bool p] f [] fun a2 w=>
         ∃E:Nat,∃G:Bool,a2= .tuple #[.float .f64 E,.bool G]/\
         cnd G
          (R (.tuple #[.float .f64 E,.int .i64 a,.nilIface]) w)
          (q w))
         (q f)))))
     (m g))))
theorem calls355 {h:Heap} {R:Value->Heap->Prop} (s:ByteArray) (H:S355 s h R):CallsH Tryz.prog 355 #[.string s] h R:=by
 have e:S355 s h R=FX (envX [] 143) {loops:=[],joins:=[],blocks:=[],draws:=[],cut:=[8,28]} Tryz.f355 (Tryz.f355.body.getD .skip) [.string s] h R:=by kernel_rfl
 exact calls_of_FX (envX_ok _ _) Tryz.func355 (by kernel_rfl) (by kernel_rfl) (by kernel_rfl) (e▸H)
def Ok355 (s:ByteArray) (R:Nat->Int->Option Int->Prop):Prop:=
 ∀(h:Heap) (gl:GL),Hp h [Ck.glob gl]->CallsH Tryz.prog 355 #[.string s] h fun v h'=>∃(raV:Nat) (rbV:Int) (rcE:Option Int),Sy h [] h' []/\v= .tuple #[.float .f64 raV,.int .i64 rbV,(errV 297 rcE)]/\R raV rbV rcE
def T355 (s:ByteArray) (R:Nat->Int->Option Int->Prop):Prop:=
 Ok364 s (fun z B D=>
 cnd D
  (R z B none)
  (Ok365 s (fun e d w k E a F=>
  cnd (!F)
   (R 0 a (some 2))
   (cnd E
    (False)
    (∃f:Prop,
    (cnd true
      (Ok337 w (fun b=>
      0<=(63:Int)/\cnd (e==(0:Int))
       (callE Tryz.prog 373 #[.int .u64 (bits .or .u64 (IntKind.u64.wrap (b*2^(min (Int.toNat (63:Int)) 64))) (0:Int))] fun G=>
       ∃n:Nat,G= .float .f64 n/\
       R n a none)
       (cnd (decide (d>(310:Int)))
        (callE Tryz.prog 373 #[.int .u64 (bits .or .u64 (IntKind.u64.wrap (b*2^(min (Int.toNat (63:Int)) 64))) (9218868437227405312:Int))] fun H=>
        ∃o:Nat,H= .float .f64 o/\
        R o a (some 1))
        (cnd (decide (d<((-345):Int)))
         (callE Tryz.prog 373 #[.int .u64 (bits .or .u64 (IntKind.u64.wrap (b*2^(min (Int.toNat (63:Int)) 64))) (0:Int))] fun I=>
         ∃p:Nat,I= .float .f64 p/\
         R p a none)
         (∃g:Prop,
         (cnd (!k)
          (Ok374 e d w (fun A C=>
          cnd C
           (R A a none)
           (g)))
          (g))/\
         (g->
         Ok375 e d (IntKind.u64.wrap (b*2^(min (Int.toNat (63:Int)) 64))) (fun c t=>
         (t=none->
          cnd (!k)
           (R c a none)
           (∃h:Nat->Prop,
           (Ok375 (IntKind.u64.wrap (e+(1:Int))) d (IntKind.u64.wrap (b*2^(min (Int.toNat (63:Int)) 64))) (fun q u=>
           (u=none->
            h q)/\
           ∀x:Int,u=some x->
           h q))/\
           ∀l:Nat,h l->
           cnd ((FloatKind.f64).format.order c l==some .eq)
            (R c a none)
            (f)))/\
         ∀j:Int,t=some j->
         cnd (!k)
          (R c a (some j))
          (∃i:Nat->Prop,
          (Ok375 (IntKind.u64.wrap (e+(1:Int))) d (IntKind.u64.wrap (b*2^(min (Int.toNat (63:Int)) 64))) (fun r v=>
          (v=none->
           i r)/\
          ∀y:Int,v=some y->
          i r))/\
          ∀m:Nat,i m->
          cnd ((FloatKind.f64).format.order c m==some .eq)
           (R c a (some j))
           (f)))))))))
      (f))/\
    (f->
    False))))))
theorem ok355 {s} {R:Nat->Int->Option Int->Prop} (T:T355 s R):Ok355 s R:=by
 intro h gl H
 have Y:Sy h [] h _:=Sy.startM H rfl
 apply calls355
 unfold S355
 unfold T355 at T
 refine callX_sy (T _ (Hp.nil _)) (fun _ _ ⟨_,_,_,p,_⟩=>p.fr) alln ?_
 rintro v hv ⟨ra,rb,rc,PP,rfl,T⟩
 have Y:Sy _ _ hv [_]:=Y.gr PP.fr
 clear PP
 refine⟨ra,rb,rc,rfl,?_⟩
 refine cnd_imp T (fun T=>?_) (fun T=>?_)
 ·exact ⟨_,_,none,Y.pick [] rfl,rfl,T⟩
 ·refine callX_sy (T _ (Hp.nil _)) (fun _ _ ⟨_,_,_,_,_,_,_,p,_⟩=>p.fr) alln ?_
  rintro v2 hv2 ⟨ra2,rb2,rc2,rd,re,rf,rg,PP,rfl,T⟩
  have Y:Sy _ _ hv2 [_]:=Y.gr PP.fr
  clear PP
  refine⟨ra2,rb2,rc2,rd,re,rf,rg,rfl,?_⟩
  refine cnd_imp T (fun T=>?_) (fun T=>?_)
  ·exact ⟨_,_,(some 2),Y.pick [] rfl,rfl,T⟩
  ·refine cnd_imp T (fun T=>?_) (fun T=>?_)
   ·exact T.elim
   ·obtain ⟨Jv,T0,T1⟩:=T
    obtain⟨B,hB,_⟩:=Y.cut [] [0] rfl
    intro K4
    have hK4:∀(hv11:Heap),(Sy h [] hv11 ([]++B)/\Jv)->K4 hv11:=by
     subst hB
     clear T0 Y
     rintro hv11 ⟨Y,T⟩
     replace T:=T1 T
     have Y:Sy _ _ _ [_]:=Y
     unfold K4
     exact T.elim
    subst hB
    replace T:=T0
    clear T0 T1
    refine⟨_,(Y.glo 0 rfl).opt,?_⟩
    refine cnd_imp T (fun T=>?_) (fun T=>?_)
    ·refine callX_sy (T _ (Hp.nil _)) (fun _ _ ⟨_,p,_⟩=>p.fr) alln ?_
     rintro v3 hv3 ⟨r,PP,rfl,T⟩
     have Y:Sy _ _ hv3 [_]:=Y.gr PP.fr
     clear PP
     refine⟨r,rfl,?_⟩
     obtain⟨q,T⟩:=T
     refine⟨q,?_⟩
     refine cnd_imp T (fun T=>?_) (fun T=>?_)
     ·obtain ⟨Rx,hx,T⟩:=T
      refine⟨Rx,hx,fun v4 hv=>?_⟩
      obtain⟨r2,rfl,T⟩:=T v4 hv
      refine⟨r2,rfl,?_⟩
      exact⟨_,_,none,Y.pick [] rfl,rfl,T⟩
     ·refine cnd_imp T (fun T=>?_) (fun T=>?_)
      ·obtain ⟨Rx_2,hx_2,T⟩:=T
       refine⟨Rx_2,hx_2,fun v5 hv=>?_⟩
       obtain⟨r3,rfl,T⟩:=T v5 hv
       refine⟨r3,rfl,?_⟩
       exact⟨_,_,(some 1),Y.pick [] rfl,rfl,T⟩
      ·refine cnd_imp T (fun T=>?_) (fun T=>?_)
       ·obtain ⟨Rx_3,hx_3,T⟩:=T
        refine⟨Rx_3,hx_3,fun v6 hv=>?_⟩
        obtain⟨r4,rfl,T⟩:=T v6 hv
        refine⟨r4,rfl,?_⟩
        exact⟨_,_,none,Y.pick [] rfl,rfl,T⟩
       ·obtain ⟨Jv_2,T0,T1⟩:=T
        obtain⟨B_2,hB_2,_⟩:=Y.cut [] [0] rfl
        intro K
        have hK:∀(hv5:Heap),(Sy h [] hv5 ([]++B_2)/\Jv_2)->K hv5:=by
         subst hB_2
         clear T0 Y
         rintro hv5 ⟨Y,T⟩
         replace T:=T1 T
         have Y:Sy _ _ _ [_]:=Y
         unfold K
         refine callX_sy (T _ _ (Y.pick [0] rfl).hp) (fun _ _ ⟨_,_,p,_⟩=>p.fr) alln ?_
         rintro v8 hv6 ⟨ra4,rbE,PP,rfl,T⟩
         have Y:Sy _ _ hv6 [_]:=Y.gr PP.fr
         clear PP
         cases rbE
         ·replace T:=T.1 rfl
          refine⟨ra4,.inl ⟨rfl,?_⟩⟩
          refine cnd_imp T (fun T=>?_) (fun T=>?_)
          ·exact ⟨_,_,none,Y.pick [] rfl,rfl,T⟩
          ·obtain ⟨Jv_3,T0,T1⟩:=T
           obtain⟨B_3,hB_3,_⟩:=Y.cut [] [0] rfl
           intro K2
           have hK2:∀(f1:Nat) (hv8:Heap),(Sy h [] hv8 ([]++B_3)/\Jv_3 f1)->K2 f1 hv8:=by
            subst hB_3
            clear T0 Y
            rintro f1 hv8 ⟨Y,T⟩
            replace T:=T1 f1 T
            have Y:Sy _ _ _ [_]:=Y
            unfold K2
            refine cnd_imp T (fun T=>?_) (fun T=>?_)
            ·exact ⟨_,_,none,Y.pick [] rfl,rfl,T⟩
            ·exact hK4 _ ⟨Y.pick [0] rfl,T⟩
           subst hB_3
           replace T:=T0
           clear T0 T1
           refine callX_sy (T _ _ (Y.pick [0] rfl).hp) (fun _ _ ⟨_,_,p,_⟩=>p.fr) alln ?_
           rintro v9 hv7 ⟨ra5,rbE_2,PP,rfl,T⟩
           have Y:Sy _ _ hv7 [_]:=Y.gr PP.fr
           clear PP
           cases rbE_2
           ·replace T:=T.1 rfl
            refine⟨ra5,.inl ⟨rfl,?_⟩⟩
            exact hK2 _ _ ⟨Y.pick [0] rfl,T⟩
           ·rename_i c_2
            replace T:=T.2 c_2 rfl
            refine⟨ra5,.inr ⟨297,.int .i64 c_2,rfl,?_⟩⟩
            exact hK2 _ _ ⟨Y.pick [0] rfl,T⟩
         ·rename_i c
          replace T:=T.2 c rfl
          refine⟨ra4,.inr ⟨297,.int .i64 c,rfl,?_⟩⟩
          refine cnd_imp T (fun T=>?_) (fun T=>?_)
          ·exact ⟨_,_,(some c),Y.pick [] rfl,rfl,T⟩
          ·obtain ⟨Jv_4,T0,T1⟩:=T
           obtain⟨B_4,hB_4,_⟩:=Y.cut [] [0] rfl
           intro K3
           have hK3:∀(f1_2:Nat) (hv10:Heap),(Sy h [] hv10 ([]++B_4)/\Jv_4 f1_2)->K3 f1_2 hv10:=by
            subst hB_4
            clear T0 Y
            rintro f1_2 hv10 ⟨Y,T⟩
            replace T:=T1 f1_2 T
            have Y:Sy _ _ _ [_]:=Y
            unfold K3
            refine cnd_imp T (fun T=>?_) (fun T=>?_)
            ·exact ⟨_,_,(some c),Y.pick [] rfl,rfl,T⟩
            ·exact hK4 _ ⟨Y.pick [0] rfl,T⟩
           subst hB_4
           replace T:=T0
           clear T0 T1
           refine callX_sy (T _ _ (Y.pick [0] rfl).hp) (fun _ _ ⟨_,_,p,_⟩=>p.fr) alln ?_
           rintro v10 hv9 ⟨ra6,rbE_3,PP,rfl,T⟩
           have Y:Sy _ _ hv9 [_]:=Y.gr PP.fr
           clear PP
           cases rbE_3
           ·replace T:=T.1 rfl
            refine⟨ra6,.inl ⟨rfl,?_⟩⟩
            exact hK3 _ _ ⟨Y.pick [0] rfl,T⟩
           ·rename_i c_3
            replace T:=T.2 c_3 rfl
            refine⟨ra6,.inr ⟨297,.int .i64 c_3,rfl,?_⟩⟩
            exact hK3 _ _ ⟨Y.pick [0] rfl,T⟩
        subst hB_2
        replace T:=T0
        clear T0 T1
        refine cnd_imp T (fun T=>?_) (fun T=>?_)
        ·refine callX_sy (T _ _ (Y.pick [0] rfl).hp) (fun _ _ ⟨_,_,p,_⟩=>p.fr) alln ?_
         rintro v7 hv4 ⟨ra3,rb3,PP,rfl,T⟩
         have Y:Sy _ _ hv4 [_]:=Y.gr PP.fr
         clear PP
         refine⟨ra3,rb3,rfl,?_⟩
         refine cnd_imp T (fun T=>?_) (fun T=>?_)
         ·exact ⟨_,_,none,Y.pick [] rfl,rfl,T⟩
         ·exact hK _ ⟨Y.pick [0] rfl,T⟩
        ·exact hK _ ⟨Y.pick [0] rfl,T⟩
    ·exact hK4 _ ⟨Y.pick [0] rfl,T⟩
def S342 (s:ByteArray) (bitSize:Int) (h:Heap) (R:Value->Heap->Prop):Prop:=
 cnd (bitSize==(32:Int))
  (callX Tryz.prog 354 #[.string s] h [] fun i m=>
  ∃d:Nat,∃e:Int,((i= .tuple #[.float .f32 d,.int .i64 e,.nilIface]/\
   False)
  \/∃(l:Nat) (k:Value),i= .tuple #[.float .f32 d,.int .i64 e,.iface l k]/\
   False))
  (callX Tryz.prog 355 #[.string s] h [] fun j c=>
  ∃a:Nat,∃b:Int,((j= .tuple #[.float .f64 a,.int .i64 b,.nilIface]/\
   R (.tuple #[.float .f64 a,.int .i64 b,.nilIface]) c)
  \/∃(g:Nat) (f:Value),j= .tuple #[.float .f64 a,.int .i64 b,.iface g f]/\
   R (.tuple #[.float .f64 a,.int .i64 b,.iface g f]) c))
theorem calls342 {h:Heap} {R:Value->Heap->Prop} (s:ByteArray) (bitSize:Int) (H:S342 s bitSize h R):CallsH Tryz.prog 342 #[.string s,.int .i64 bitSize] h R:=by
 have e:S342 s bitSize h R=FX (envX [] 27) {loops:=[],joins:=[],blocks:=[],draws:=[]} Tryz.f342 (Tryz.f342.body.getD .skip) [.string s,.int .i64 bitSize] h R:=by kernel_rfl
 exact calls_of_FX (envX_ok _ _) Tryz.func342 (by kernel_rfl) (by kernel_rfl) (by kernel_rfl) (e▸H)
def Ok342 (s:ByteArray) (bitSize:Int) (R:Nat->Int->Option Int->Prop):Prop:=
 ∀(h:Heap) (gl:GL),Hp h [Ck.glob gl]->CallsH Tryz.prog 342 #[.string s,.int .i64 bitSize] h fun v h'=>∃(raV:Nat) (rbV:Int) (rcE:Option Int),Sy h [] h' []/\v= .tuple #[.float .f64 raV,.int .i64 rbV,(errV 297 rcE)]/\R raV rbV rcE
def T342 (s:ByteArray) (bitSize:Int) (R:Nat->Int->Option Int->Prop):Prop:=
 cnd (bitSize==(32:Int))
  (False)
  (Ok355 s (fun b c d=>
  (d=none->
   R b c none)/\
  ∀a:Int,d=some a->
  R b c (some a)))
theorem ok342 {s bitSize} {R:Nat->Int->Option Int->Prop} (T:T342 s bitSize R):Ok342 s bitSize R:=by
 intro h gl H
 have Y:Sy h [] h _:=Sy.startM H rfl
 apply calls342
 unfold S342
 unfold T342 at T
 refine cnd_imp T (fun T=>?_) (fun T=>?_)
 ·exact T.elim
 ·refine callX_sy (T _ _ (Y.pick [0] rfl).hp) (fun _ _ ⟨_,_,_,p,_⟩=>p.fr) alln ?_
  rintro v2 hv2 ⟨ra2,rb2,rcE_2,PP,rfl,T⟩
  have Y:Sy _ _ hv2 [_]:=Y.gr PP.fr
  clear PP
  cases rcE_2
  ·replace T:=T.1 rfl
   refine⟨ra2,rb2,.inl ⟨rfl,?_⟩⟩
   exact⟨_,_,none,Y.pick [] rfl,rfl,T⟩
  ·rename_i c
   replace T:=T.2 c rfl
   refine⟨ra2,rb2,.inr ⟨297,.int .i64 c,rfl,?_⟩⟩
   exact⟨_,_,(some c),Y.pick [] rfl,rfl,T⟩
def S323 (s:ByteArray) (bitSize:Int) (h:Heap) (R:Value->Heap->Prop):Prop:=
 callX Tryz.prog 342 #[.string s,.int .i64 bitSize] h [] fun f a=>
 ∃b:Nat,∃c:Int,((f= .tuple #[.float .f64 b,.int .i64 c,.nilIface]/\
  cnd (c != ((s.size:Nat):Int))
   (R (.tuple #[.float .f64 0,.iface 297 (.int .i64 2)]) a)
   (R (.tuple #[.float .f64 b,.nilIface]) a))
 \/∃(e:Nat) (d:Value),f= .tuple #[.float .f64 b,.int .i64 c,.iface e d]/\
  cnd (c != ((s.size:Nat):Int))
   (R (.tuple #[.float .f64 0,.iface 297 (.int .i64 2)]) a)
   (R (.tuple #[.float .f64 b,.iface e d]) a))
theorem calls323 {h:Heap} {R:Value->Heap->Prop} (s:ByteArray) (bitSize:Int) (H:S323 s bitSize h R):CallsH Tryz.prog 323 #[.string s,.int .i64 bitSize] h R:=by
 have e:S323 s bitSize h R=FX (envX [] 23) {loops:=[],joins:=[],blocks:=[],draws:=[]} Tryz.f323 (Tryz.f323.body.getD .skip) [.string s,.int .i64 bitSize] h R:=by kernel_rfl
 exact calls_of_FX (envX_ok _ _) Tryz.func323 (by kernel_rfl) (by kernel_rfl) (by kernel_rfl) (e▸H)
def Ok323 (s:ByteArray) (bitSize:Int) (R:Nat->Option Int->Prop):Prop:=
 ∀(h:Heap) (gl:GL),Hp h [Ck.glob gl]->CallsH Tryz.prog 323 #[.string s,.int .i64 bitSize] h fun v h'=>∃(raV:Nat) (rbE:Option Int),Sy h [] h' []/\v= .tuple #[.float .f64 raV,(errV 297 rbE)]/\R raV rbE
def T323 (s:ByteArray) (bitSize:Int) (R:Nat->Option Int->Prop):Prop:=
 Ok342 s bitSize (fun b c d=>
 (d=none->
  cnd (c != ((s.size:Nat):Int))
   (R 0 (some 2))
   (R b none))/\
 ∀a:Int,d=some a->
 cnd (c != ((s.size:Nat):Int))
  (R 0 (some 2))
  (R b (some a)))
theorem ok323 {s bitSize} {R:Nat->Option Int->Prop} (T:T323 s bitSize R):Ok323 s bitSize R:=by
 intro h gl H
 have Y:Sy h [] h _:=Sy.startM H rfl
 apply calls323
 unfold S323
 unfold T323 at T
 refine callX_sy (T _ _ (Y.pick [0] rfl).hp) (fun _ _ ⟨_,_,_,p,_⟩=>p.fr) alln ?_
 rintro v hv ⟨ra,rb,rcE,PP,rfl,T⟩
 have Y:Sy _ _ hv [_]:=Y.gr PP.fr
 clear PP
 cases rcE
 ·replace T:=T.1 rfl
  refine⟨ra,rb,.inl ⟨rfl,?_⟩⟩
  refine cnd_imp T (fun T=>?_) (fun T=>?_)
  ·exact ⟨_,(some 2),Y.pick [] rfl,rfl,T⟩
  ·exact ⟨_,none,Y.pick [] rfl,rfl,T⟩
 ·rename_i c
  replace T:=T.2 c rfl
  refine⟨ra,rb,.inr ⟨297,.int .i64 c,rfl,?_⟩⟩
  refine cnd_imp T (fun T=>?_) (fun T=>?_)
  ·exact ⟨_,(some 2),Y.pick [] rfl,rfl,T⟩
  ·exact ⟨_,(some c),Y.pick [] rfl,rfl,T⟩
end Go.Proofs.YtlflalecmhgmjaaGreatDoor.N
