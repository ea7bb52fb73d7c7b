/- Functions: what is left to be shown of each, over memory and without: printed by program, tied to the loaded functions by the kernel. Conditions: none. -/
import Derived.Test.YtlflalecmhgmjaaGreatDoorWEnv
import Derived.Test.YtlflalecmhgmjaaGreatDoorSWr
import Derived.Test.YtlflalecmhgmjaaGreatDoorSRd
set_option linter.unusedVariables false
set_option linter.unusedSimpArgs false
open Go.IntKind (i64 u64 u8 i32)
namespace Go.Proofs.YtlflalecmhgmjaaGreatDoor.N
open Go.Proofs.YtlflalecmhgmjaaGreatDoor
open Go.X
set_option maxRecDepth 100000
set_option maxHeartbeats 2000000
def S66 (g:Int) (gA:Option Addr) (gL gC:Nat) (h:ab) (R:VP):Prop:=let f:ab:=h.push (.cells #[.int .i64 g,.slice gA gL gC] 24);let n:=fun(r:ab)=>(R (.bool false) r);cnd (decide (g<0)) (n f) (cnd (decide (g>1024)) (n f) (cnd (decide ((gL:Int)>(3072:Int))) (R (.bool false) f) (∃(i:LP) (p:List Value->ab->Nat),i [.int .i64 0] f/\∀a:Int,∀c,i [.int .i64 a] c->cnd (decide (a<(gL:Int))) (∃b o,gA=some ⟨b,o,none⟩/\0<=a/\a<(gL:Nat)/\∃k:Int,ac c b (o+(Int.toNat a)*2)=some (.int .i64 k)/\∃l:Int,ac c b ((o+(Int.toNat a)*2)+1)=some (.int .i64 l)/\let s:ab:=c.push (.cells #[.int .i64 0,.int .i64 0] 48);let t:ab:=ag (ag s c.size 0 (.int .i64 k)) c.size (0+1) (.int .i64 l);∃(j:LP) (q:List Value->ab->Nat),j [.int .i64 0] t/\∀e:Int,∀d,j [.int .i64 e] d->cnd (decide (e<2)) (0<=e/\e<(2:Int)/\∃m:Int,(#[.int .i64 k,.int .i64 l]:Array Value)[Int.toNat e]? =some (.int .i64 m)/\cnd (decide (m<0)) (R (.bool false) d) (cnd (decide (m>=g)) (R (.bool false) d) (j [.int .i64 (i64.wrap (e+1))] d/\q [.int .i64 (i64.wrap (e+1))] d<q [.int .i64 e] d))) (i [.int .i64 (i64.wrap (a+1))] d/\p [.int .i64 (i64.wrap (a+1))] d<p [.int .i64 a] c)) (R (.bool true) c))))
theorem xw {h:ab} {R:VP} (g:Int) (gA:Option Addr) (gL gC:Nat) (H:S66 g gA gL gC h R):af Tryz.prog 66 #[.agg #[.int .i64 g,.slice gA gL gC]] h R:=bT [1,4] 42 [(0,⟨[1,22,23],[24],[1],[]⟩),(2,⟨[1,22,23,24,28],[29],[1],[]⟩)] [] [] [] Tryz.func66 (by kernel_rfl) (by kernel_rfl) H
def zd (g:Int) (edgesV:List (Int × Int)) (R:Bool->Prop):Prop:=
 ∀(h:ab) (gA:Option Addr) (gL gC:Nat),Hp h [Ck.vw eP gA gL gC edgesV]->af Tryz.prog 66 #[.agg #[.int .i64 g,.slice gA gL gC]] h fun v h'=>∃(rV:Bool),Sy h [] h' []/\v= .bool rV/\R rV
def T66 (g:Int) (edgesV:List (Int × Int)) (R:Bool->Prop):Prop:=∃e:Prop,(cnd (decide (g<0)) (e) (cnd (decide (g>1024)) (e) (cnd (decide ((edgesV.length:Int)>(3072:Int))) (R false) (∃(c:Int->Prop) (i:Int->Nat),c 0/\∀a:Int,c a->cnd (decide (a<(edgesV.length:Int))) (0<=a/\a<(edgesV.length:Int)/\∀f:(Int × Int),edgesV[(Int.toNat a)]? =some f->∃(d:Int->Prop) (j:Int->Nat),d 0/\∀b:Int,d b->cnd (decide (b<2)) (0<=b/\b<(2:Int)/\∃h:Int,(#[.int .i64 f.1,.int .i64 f.2]:Array Value)[Int.toNat b]? =some (.int .i64 h)/\cnd (decide (h<0)) (R false) (cnd (decide (h>=g)) (R false) (d (i64.wrap (b+1))/\j (i64.wrap (b+1))<j b))) (c (i64.wrap (a+1))/\i (i64.wrap (a+1))<i a)) (R true)))))/\(e->R false)
theorem BD {g edgesV} {R:Bool->Prop} (T:T66 g edgesV R):zd g edgesV R:=by
 intro h gA gL gC H;have Y:Sy h [] h _:=Sy.startM H rfl;obtain rfl:=Y.lenV 0 rfl;apply xw;unfold S66;unfold T66 at T;intro hv;have Y:Sy _ _ hv [_,_]:=Y.junk _;clear_value hv;obtain⟨Jv,T0,T1⟩:=T;obtain⟨B,hB,_⟩:=Y.cut [] [0,1] rfl;intro K;have hK:∀(hv2:ab),(Sy h [] hv2 ([]++B)/\Jv)->K hv2:=by
  subst hB;clear T0 Y;rintro hv2 ⟨Y,T⟩;replace T:=T1 T;have Y:Sy _ _ _ [_,_]:=Y;unfold K;exact⟨_,Y.pick [] rfl,rfl,T⟩
 subst hB;replace T:=T0;clear T0 T1;refine ao T (fun T=>?_) (fun T=>?_)
 ·exact hK _ ⟨Y.pick [0,1] rfl,T⟩
 ·refine ao T (fun T=>?_) (fun T=>?_)
  ·exact hK _ ⟨Y.pick [0,1] rfl,T⟩
  ·refine ao T (fun T=>?_) (fun T=>?_)
   ·exact⟨_,Y.pick [] rfl,rfl,T⟩
   ·obtain⟨Iv,m,T0,T1⟩:=T;obtain⟨B_2,hB_2,YB⟩:=Y.cut [] [0,1] rfl;obtain⟨JJ,hJJ⟩:∃JJ:Nat->LP,JJ=(fun k lz h'=>∃(x:Int),lz=[.int .i64 x]/\Sy h [] h' ([]++B_2)/\Iv x/\m x=k):=⟨_,rfl⟩;refine⟨fun lz h'=>∃k,JJ k lz h',Lm JJ,?_,?_⟩
    ·subst hJJ hB_2;exact⟨_,_,rfl,YB,T0,rfl⟩
    ·clear YB T0 Y;intro x hv3 hI;obtain⟨k,hI,hm⟩:=fT hI;subst hJJ hB_2;obtain⟨x,e,Y,T,rfl⟩:=hI;cases e;replace T:=T1 x T;have Y:Sy _ _ _ [_,_]:=Y;refine ao T (fun T=>?_) (fun T=>?_)
     ·obtain⟨q,q_2,T⟩:=T;obtain⟨b_2,o_2,hb,hr,g_2,hx⟩:=Y.atV 0 rfl q q_2;refine⟨b_2,o_2,hb,q,q_2,?_⟩;replace T:=T g_2 hx;refine⟨_,Y.cellV 0 rfl hb (t:=0) hx rfl,?_⟩;refine⟨_,Y.cellV 0 rfl hb (t:=1) hx rfl,?_⟩;intro hv4;have Y:Sy _ _ hv4 [_,_,_]:=Y.junk _;clear_value hv4;intro hv5;have Y:Sy _ _ hv5 [_,_,_]:=((Y.stJ 2 rfl _ _).stJ 2 rfl _ _);clear_value hv5;obtain⟨Iv2,m2,T0,T1⟩:=T;obtain⟨B_3,hB_3,YB⟩:=Y.cut [] [0,1,2] rfl;obtain⟨JJ_2,hJJ_2⟩:∃JJ_2:Nat->LP,JJ_2=(fun k_2 lz h'=>∃(x4:Int),lz=[.int .i64 x4]/\Sy h [] h' ([]++B_3)/\Iv2 x4/\m2 x4=k_2):=⟨_,rfl⟩;refine⟨fun lz h'=>∃k_2,JJ_2 k_2 lz h',Lm JJ_2,?_,?_⟩
      ·subst hJJ_2 hB_3;exact⟨_,_,rfl,YB,T0,rfl⟩
      ·clear YB T0 Y;intro x4 hv6 hI;obtain⟨k_2,hI,hm_2⟩:=fT hI;subst hJJ_2 hB_3;obtain⟨x4,e,Y,T,rfl⟩:=hI;cases e;replace T:=T1 x4 T;have Y:Sy _ _ _ [_,_,_]:=Y;refine ao T (fun T=>?_) (fun T=>?_)
       ·obtain⟨q_3,q_4,x5,q_5,T⟩:=T;refine⟨q_3,q_4,x5,q_5,?_⟩;refine ao T (fun T=>?_) (fun T=>?_)
        ·exact⟨_,Y.pick [] rfl,rfl,T⟩
        ·refine ao T (fun T=>?_) (fun T=>?_)
         ·exact⟨_,Y.pick [] rfl,rfl,T⟩
         ·exact cP hm_2 ⟨_,rfl,Y.pick [0,1,2] rfl,T.1,rfl⟩ T.2
       ·exact cP hm ⟨_,rfl,Y.pick [0,1] rfl,T.1,rfl⟩ T.2
     ·exact⟨_,Y.pick [] rfl,rfl,T⟩
def S67 (length n:Int) (h:ab) (R:VP):Prop:=cnd (length==0) (R (.bool true) h) (R (.bool (length==n)) h)
theorem xx {h:ab} {R:VP} (length n:Int) (H:S67 length n h R):af Tryz.prog 67 #[.int .i64 length,.int .i64 n] h R:=bT [] 12 [] [] [] [] Tryz.func67 (by kernel_rfl) (by kernel_rfl) H
def vk (length n:Int) (R:Bool->Prop):Prop:=
 ∀(h:ab),Hp h []->af Tryz.prog 67 #[.int .i64 length,.int .i64 n] h fun v h'=>∃(rV:Bool),Sy h [] h' []/\v= .bool rV/\R rV
def T67 (length n:Int) (R:Bool->Prop):Prop:=cnd (length==0) (R true) (R (length==n))
theorem BF {length n} {R:Bool->Prop} (T:T67 length n R):vk length n R:=by
 intro h H;have Y:Sy h [] h _:=Sy.startM H rfl;apply xx;unfold S67;unfold T67 at T;refine ao T (fun T=>?_) (fun T=>?_)
 ·exact⟨_,Y.pick [] rfl,rfl,T⟩
 ·exact⟨_,Y.pick [] rfl,rfl,T⟩
def AX (s:ByteArray) (R:Bool->Prop):Prop:=
 ∀(h:ab),Hp h []->af Tryz.prog 68 #[.string s] h fun v h'=>∃(rV:Bool),Sy h [] h' []/\v= .bool rV/\R rV
def S25 (d:Int) (dA:Option Addr) (dL dC:Nat) (d2:Bool) (dA2:Option Addr) (dL2 dC2:Nat) (dA3:Option Addr) (dL3 dC3:Nat) (dA4:Option Addr) (dL4 dC4:Nat) (h:ab) (R:VP):Prop:=let u:ab:=h.push (.cells #[.int .i64 d,.slice dA dL dC,.bool d2,.slice dA2 dL2 dC2,.slice dA3 dL3 dC3,.slice dA4 dL4 dC4] 29);let f:=fun(v:ab)=>(R (.bool false) v);aj Tryz.prog 66 #[.agg #[.int .i64 d,.slice dA dL dC]] u [h.size] fun w i=>∃n:Bool,w= .bool n/\cnd (!n) (f i) (aj Tryz.prog 67 #[.int .i64 (dL2:Int),.int .i64 d] i [h.size] fun x j=>∃p:Bool,x= .bool p/\cnd (!p) (f j) (aj Tryz.prog 67 #[.int .i64 (dL3:Int),.int .i64 d] j [h.size] fun y k=>∃q:Bool,y= .bool q/\cnd (!q) (f k) (aj Tryz.prog 67 #[.int .i64 (dL4:Int),.int .i64 (dL:Int)] k [h.size] fun z l=>∃r:Bool,z= .bool r/\cnd (!r) (R (.bool false) l) (∃(e:LP) (m:List Value->ab->Nat),e [.int .i64 0] l/\∀a:Int,∀c,e [.int .i64 a] c->cnd (decide (a<(dL2:Int))) (∃b o,dA2=some ⟨b,o,none⟩/\0<=a/\a<(dL2:Nat)/\∃t:ByteArray,ac c b (o+(Int.toNat a)*1)=some (.string t)/\aj Tryz.prog 68 #[.string t] c [] fun A g=>∃s:Bool,A= .bool s/\cnd (!s) (R (.bool false) g) (e [.int .i64 (i64.wrap (a+1))] g/\m [.int .i64 (i64.wrap (a+1))] g<m [.int .i64 a] c)) (R (.bool true) c)))))
theorem xy {h:ab} {R:VP} (d:Int) (dA:Option Addr) (dL dC:Nat) (d2:Bool) (dA2:Option Addr) (dL2 dC2:Nat) (dA3:Option Addr) (dL3 dC3:Nat) (dA4:Option Addr) (dL4 dC4:Nat) (H:S25 d dA dL dC d2 dA2 dL2 dC2 dA3 dL3 dC3 dA4 dL4 dC4 h R):af Tryz.prog 25 #[.agg #[.int .i64 d,.slice dA dL dC,.bool d2,.slice dA2 dL2 dC2,.slice dA3 dL3 dC3,.slice dA4 dL4 dC4]] h R:=bT [1] 51 [(0,⟨[41,42],[43],[],[]⟩)] [] [] [] Tryz.func25 (by kernel_rfl) (by kernel_rfl) H
def AY (d:Int) (edgesV:List (Int × Int)) (d2:Bool) (labelsV:List ByteArray) (atV:List (Nat × Nat)) (weightV:List Nat) (R:Bool->Prop):Prop:=
 ∀(h:ab) (dA:Option Addr) (dL dC:Nat) (dA2:Option Addr) (dL2 dC2:Nat) (dA3:Option Addr) (dL3 dC3:Nat) (dA4:Option Addr) (dL4 dC4:Nat),Hp h [Ck.vw eP dA dL dC edgesV,Ck.vw eS dA2 dL2 dC2 labelsV,Ck.vw eFF dA3 dL3 dC3 atV,Ck.vw eF dA4 dL4 dC4 weightV]->af Tryz.prog 25 #[.agg #[.int .i64 d,.slice dA dL dC,.bool d2,.slice dA2 dL2 dC2,.slice dA3 dL3 dC3,.slice dA4 dL4 dC4]] h fun v h'=>∃(rV:Bool),Sy h [] h' []/\v= .bool rV/\R rV
def T25 (d:Int) (edgesV:List (Int × Int)) (d2:Bool) (labelsV:List ByteArray) (atV:List (Nat × Nat)) (weightV:List Nat) (R:Bool->Prop):Prop:=∃b:Prop,(zd d edgesV (fun g=>cnd (!g) (b) (vk (labelsV.length:Int) d (fun h=>cnd (!h) (b) (vk (atV.length:Int) d (fun i=>cnd (!i) (b) (vk (weightV.length:Int) (edgesV.length:Int) (fun j=>cnd (!j) (R false) (∃(c:Int->Prop) (f:Int->Nat),c 0/\∀a:Int,c a->cnd (decide (a<(labelsV.length:Int))) (0<=a/\a<(labelsV.length:Int)/\∀e:ByteArray,labelsV[(Int.toNat a)]? =some e->AX e (fun k=>cnd (!k) (R false) (c (i64.wrap (a+1))/\f (i64.wrap (a+1))<f a))) (R true))))))))))/\(b->R false)
theorem BG {d edgesV d2 labelsV atV weightV} {R:Bool->Prop} (T:T25 d edgesV d2 labelsV atV weightV R):AY d edgesV d2 labelsV atV weightV R:=by
 intro h dA dL dC dA2 dL2 dC2 dA3 dL3 dC3 dA4 dL4 dC4 H;have Y:Sy h [] h _:=Sy.startM H rfl;obtain rfl:=Y.lenV 0 rfl;obtain rfl:=Y.lenV 1 rfl;obtain rfl:=Y.lenV 2 rfl;obtain rfl:=Y.lenV 3 rfl;apply xy;unfold S25;unfold T25 at T;intro hv;have Y:Sy _ _ hv [_,_,_,_,_]:=Y.junk _;clear_value hv;obtain⟨Jv,T0,T1⟩:=T;obtain⟨B,hB,_⟩:=Y.cut [] [0,1,2,3,4] rfl;intro K;have hK:∀(hv6:ab),(Sy h [] hv6 ([]++B)/\Jv)->K hv6:=by
  subst hB;clear T0 Y;rintro hv6 ⟨Y,T⟩;replace T:=T1 T;have Y:Sy _ _ _ [_,_,_,_,_]:=Y;unfold K;exact⟨_,Y.pick [] rfl,rfl,T⟩
 subst hB;replace T:=T0;clear T0 T1;refine bB (T _ _ _ _ (Y.pick [0] rfl).hp) (fun _ _ ⟨_,p,_⟩=>p.fr) (jQ (fun h=>by cases h) iV) ?_;rintro v hv2 ⟨r,PP,rfl,T⟩;have Y:Sy _ _ hv2 [_,_,_,_,_]:=Y.gr PP.fr;clear PP;refine⟨r,rfl,?_⟩;refine ao T (fun T=>?_) (fun T=>?_)
 ·exact hK _ ⟨Y.pick [0,1,2,3,4] rfl,T⟩
 ·refine bB (T _ (Hp.nil _)) (fun _ _ ⟨_,p,_⟩=>p.fr) (jQ (fun h=>by cases h) iV) ?_;rintro v2 hv3 ⟨r2,PP,rfl,T⟩;have Y:Sy _ _ hv3 [_,_,_,_,_]:=Y.gr PP.fr;clear PP;refine⟨r2,rfl,?_⟩;refine ao T (fun T=>?_) (fun T=>?_)
  ·exact hK _ ⟨Y.pick [0,1,2,3,4] rfl,T⟩
  ·refine bB (T _ (Hp.nil _)) (fun _ _ ⟨_,p,_⟩=>p.fr) (jQ (fun h=>by cases h) iV) ?_;rintro v3 hv4 ⟨r3,PP,rfl,T⟩;have Y:Sy _ _ hv4 [_,_,_,_,_]:=Y.gr PP.fr;clear PP;refine⟨r3,rfl,?_⟩;refine ao T (fun T=>?_) (fun T=>?_)
   ·exact hK _ ⟨Y.pick [0,1,2,3,4] rfl,T⟩
   ·refine bB (T _ (Hp.nil _)) (fun _ _ ⟨_,p,_⟩=>p.fr) (jQ (fun h=>by cases h) iV) ?_;rintro v4 hv5 ⟨r4,PP,rfl,T⟩;have Y:Sy _ _ hv5 [_,_,_,_,_]:=Y.gr PP.fr;clear PP;refine⟨r4,rfl,?_⟩;refine ao T (fun T=>?_) (fun T=>?_)
    ·exact⟨_,Y.pick [] rfl,rfl,T⟩
    ·obtain⟨Iv,m,T0,T1⟩:=T;obtain⟨B_2,hB_2,YB⟩:=Y.cut [] [0,1,2,3,4] rfl;obtain⟨JJ,hJJ⟩:∃JJ:Nat->LP,JJ=(fun k lz h'=>∃(x:Int),lz=[.int .i64 x]/\Sy h [] h' ([]++B_2)/\Iv x/\m x=k):=⟨_,rfl⟩;refine⟨fun lz h'=>∃k,JJ k lz h',Lm JJ,?_,?_⟩
     ·subst hJJ hB_2;exact⟨_,_,rfl,YB,T0,rfl⟩
     ·clear YB T0 Y;intro x hv7 hI;obtain⟨k,hI,hm⟩:=fT hI;subst hJJ hB_2;obtain⟨x,e,Y,T,rfl⟩:=hI;cases e;replace T:=T1 x T;have Y:Sy _ _ _ [_,_,_,_,_]:=Y;refine ao T (fun T=>?_) (fun T=>?_)
      ·obtain⟨q,q_2,T⟩:=T;obtain⟨b_2,o_2,hb,hr,d_2,hx⟩:=Y.atV 1 rfl q q_2;refine⟨b_2,o_2,hb,q,q_2,?_⟩;replace T:=T d_2 hx;refine⟨_,Y.cellV 1 rfl hb (t:=0) hx rfl,?_⟩;refine bB (T _ (Hp.nil _)) (fun _ _ ⟨_,p,_⟩=>p.fr) iV ?_;rintro v5 hv8 ⟨r5,PP,rfl,T⟩;have Y:Sy _ _ hv8 [_,_,_,_,_]:=Y.gr PP.fr;clear PP;refine⟨r5,rfl,?_⟩;refine ao T (fun T=>?_) (fun T=>?_)
       ·exact⟨_,Y.pick [] rfl,rfl,T⟩
       ·exact cP hm ⟨_,rfl,Y.pick [0,1,2,3,4] rfl,T.1,rfl⟩ T.2
      ·exact⟨_,Y.pick [] rfl,rfl,T⟩
def S33 (g:Int) (gA:Option Addr) (gL gC:Nat) (h:ab) (R:VP):Prop:=let e:ab:=h.push (.cells #[.int .i64 g,.slice gA gL gC] 24);let k:=fun(q:ab)=>(R (.bool false) q);cnd (decide (g<0)) (k e) (cnd (decide (g>1024)) (k e) (cnd (decide ((gL:Int)>(3072:Int))) (R (.bool false) e) (∃(i:LP) (l:List Value->ab->Nat),i [.int .i64 0] e/\∀a:Int,∀f,i [.int .i64 a] f->cnd (decide (a<(gL:Int))) (∃(j:LP) (m:List Value->ab->Nat),j [.int .i64 0] f/\∀c:Int,∀d,j [.int .i64 c] d->cnd (decide (c<2)) (∃b o,gA=some ⟨b,o,none⟩/\0<=a/\a<(gL:Nat)/\0<=c/\c<(2:Int)/\∃n:Int,ac d b ((o+(Int.toNat a)*2)+(Int.toNat c)*1)=some (.int .i64 n)/\cnd (decide (n<0)) (R (.bool false) d) (∃b2 o2,gA=some ⟨b2,o2,none⟩/\0<=a/\a<(gL:Nat)/\0<=c/\c<(2:Int)/\∃p:Int,ac d b2 ((o2+(Int.toNat a)*2)+(Int.toNat c)*1)=some (.int .i64 p)/\cnd (decide (p>=g)) (R (.bool false) d) (j [.int .i64 (i64.wrap (c+1))] d/\m [.int .i64 (i64.wrap (c+1))] d<m [.int .i64 c] d))) (i [.int .i64 (i64.wrap (a+1))] d/\l [.int .i64 (i64.wrap (a+1))] d<l [.int .i64 a] f)) (R (.bool true) f))))
theorem xA {h:ab} {R:VP} (g:Int) (gA:Option Addr) (gL gC:Nat) (H:S33 g gA gL gC h R):af Tryz.prog 33 #[.agg #[.int .i64 g,.slice gA gL gC]] h R:=bT [1] 50 [(0,⟨[1],[3],[1],[]⟩),(2,⟨[1,3],[4],[1],[]⟩)] [] [] [(9,⟨20,false⟩)] Tryz.func33 (by kernel_rfl) (by kernel_rfl) H
def zg (g:Int) (edgesV:List (Int × Int)) (R:Bool->Prop):Prop:=
 ∀(h:ab) (gA:Option Addr) (gL gC:Nat),Hp h [Ck.vw eP gA gL gC edgesV]->af Tryz.prog 33 #[.agg #[.int .i64 g,.slice gA gL gC]] h fun v h'=>∃(rV:Bool),Sy h [] h' []/\v= .bool rV/\R rV
def T33 (g:Int) (edgesV:List (Int × Int)) (R:Bool->Prop):Prop:=∃e:Prop,(cnd (decide (g<0)) (e) (cnd (decide (g>1024)) (e) (cnd (decide ((edgesV.length:Int)>(3072:Int))) (R false) (∃(c:Int->Prop) (h:Int->Nat),c 0/\∀b:Int,c b->cnd (decide (b<(edgesV.length:Int))) (∃(d:Int->Prop) (i:Int->Nat),d 0/\∀a:Int,d a->cnd (decide (a<2)) (0<=b/\b<(edgesV.length:Int)/\0<=a/\a<(2:Int)/\∀f:(Int × Int),edgesV[(Int.toNat b)]? =some f->cnd (decide ((gW f a)<(0:Int))) (R false) (0<=a/\a<(2:Int)/\cnd (decide ((gW f a)>=g)) (R false) (d (i64.wrap (a+1))/\i (i64.wrap (a+1))<i a))) (c (i64.wrap (b+1))/\h (i64.wrap (b+1))<h b)) (R true)))))/\(e->R false)
theorem BI {g edgesV} {R:Bool->Prop} (T:T33 g edgesV R):zg g edgesV R:=by
 intro h gA gL gC H;have Y:Sy h [] h _:=Sy.startM H rfl;obtain rfl:=Y.lenV 0 rfl;apply xA;unfold S33;unfold T33 at T;intro hv;have Y:Sy _ _ hv [_,_]:=Y.junk _;clear_value hv;obtain⟨Jv,T0,T1⟩:=T;obtain⟨B,hB,_⟩:=Y.cut [] [0,1] rfl;intro K;have hK:∀(hv2:ab),(Sy h [] hv2 ([]++B)/\Jv)->K hv2:=by
  subst hB;clear T0 Y;rintro hv2 ⟨Y,T⟩;replace T:=T1 T;have Y:Sy _ _ _ [_,_]:=Y;unfold K;exact⟨_,Y.pick [] rfl,rfl,T⟩
 subst hB;replace T:=T0;clear T0 T1;refine ao T (fun T=>?_) (fun T=>?_)
 ·exact hK _ ⟨Y.pick [0,1] rfl,T⟩
 ·refine ao T (fun T=>?_) (fun T=>?_)
  ·exact hK _ ⟨Y.pick [0,1] rfl,T⟩
  ·refine ao T (fun T=>?_) (fun T=>?_)
   ·exact⟨_,Y.pick [] rfl,rfl,T⟩
   ·obtain⟨Iv,m,T0,T1⟩:=T;obtain⟨B_2,hB_2,YB⟩:=Y.cut [] [0,1] rfl;obtain⟨JJ,hJJ⟩:∃JJ:Nat->LP,JJ=(fun k_2 lz h'=>∃(i:Int),lz=[.int .i64 i]/\Sy h [] h' ([]++B_2)/\Iv i/\m i=k_2):=⟨_,rfl⟩;refine⟨fun lz h'=>∃k_2,JJ k_2 lz h',Lm JJ,?_,?_⟩
    ·subst hJJ hB_2;exact⟨_,_,rfl,YB,T0,rfl⟩
    ·clear YB T0 Y;intro i hv3 hI;obtain⟨k_2,hI,hm⟩:=fT hI;subst hJJ hB_2;obtain⟨i,e,Y,T,rfl⟩:=hI;cases e;replace T:=T1 i T;have Y:Sy _ _ _ [_,_]:=Y;refine ao T (fun T=>?_) (fun T=>?_)
     ·obtain⟨Iv2,m2,T0,T1⟩:=T;obtain⟨B_3,hB_3,YB⟩:=Y.cut [] [0,1] rfl;obtain⟨JJ_2,hJJ_2⟩:∃JJ_2:Nat->LP,JJ_2=(fun k_3 lz h'=>∃(k:Int),lz=[.int .i64 k]/\Sy h [] h' ([]++B_3)/\Iv2 k/\m2 k=k_3):=⟨_,rfl⟩;refine⟨fun lz h'=>∃k_3,JJ_2 k_3 lz h',Lm JJ_2,?_,?_⟩
      ·subst hJJ_2 hB_3;exact⟨_,_,rfl,YB,T0,rfl⟩
      ·clear YB T0 Y;intro k hv4 hI;obtain⟨k_3,hI,hm_2⟩:=fT hI;subst hJJ_2 hB_3;obtain⟨k,e,Y,T,rfl⟩:=hI;cases e;replace T:=T1 k T;have Y:Sy _ _ _ [_,_]:=Y;refine ao T (fun T=>?_) (fun T=>?_)
       ·have Y0:=Y;have F:Fr [] hv4 hv4:=Fr.refl _ _;obtain⟨q,q_2,T⟩:=T;obtain⟨b_2,o_2,hb,hr,g_2,hx⟩:=Y0.atV 0 rfl q q_2;refine⟨b_2,o_2,hb,q,q_2,?_⟩;obtain⟨q_5,q_6,T⟩:=T;refine⟨q_5,q_6,?_⟩;replace T:=T g_2 hx;refine⟨_,nV (Y0.cellV 0 rfl hb (t:=0) hx rfl) (Y0.cellV 0 rfl hb (t:=1) hx rfl) (by assumption) (by assumption),?_⟩;refine ao T (fun T=>?_) (fun T=>?_)
        ·exact⟨_,Y.pick [] rfl,rfl,T⟩
        ·refine⟨b_2,o_2,hb,q,q_2,?_⟩;obtain⟨q_3,q_4,T⟩:=T;refine⟨q_3,q_4,?_⟩;refine⟨_,nV (Y0.cellV 0 rfl hb (t:=0) hx rfl) (Y0.cellV 0 rfl hb (t:=1) hx rfl) (by assumption) (by assumption),?_⟩;refine ao T (fun T=>?_) (fun T=>?_)
         ·exact⟨_,Y.pick [] rfl,rfl,T⟩
         ·exact cP hm_2 ⟨_,rfl,Y.pick [0,1] rfl,T.1,rfl⟩ T.2
       ·exact cP hm ⟨_,rfl,Y.pick [0,1] rfl,T.1,rfl⟩ T.2
     ·exact⟨_,Y.pick [] rfl,rfl,T⟩
def S35 (a:Int) (aA:Option Addr) (aL aC:Nat) (b:Int) (bA:Option Addr) (bL bC:Nat) (h:ab) (R:VP):Prop:=let m:ab:=h.push (.cells #[.int .i64 a,.slice aA aL aC] 24);let f:ab:=m.push (.cells #[.int .i64 b,.slice bA bL bC] 24);cnd (a != b) (R (.bool false) f) (cnd ((aL:Int) != (bL:Int)) (R (.bool false) f) (∃(e:LP) (g:List Value->ab->Nat),e [.int .i64 0] f/\∀c:Int,∀d,e [.int .i64 c] d->cnd (decide (c<(aL:Int))) (∃b2 o,aA=some ⟨b2,o,none⟩/\0<=c/\c<(aL:Nat)/\∃i:Int,ac d b2 (o+(Int.toNat c)*2)=some (.int .i64 i)/\∃j:Int,ac d b2 ((o+(Int.toNat c)*2)+1)=some (.int .i64 j)/\∃b3 o2,bA=some ⟨b3,o2,none⟩/\0<=c/\c<(bL:Nat)/\∃k:Int,ac d b3 (o2+(Int.toNat c)*2)=some (.int .i64 k)/\∃l:Int,ac d b3 ((o2+(Int.toNat c)*2)+1)=some (.int .i64 l)/\cnd (!((i==k)&&(j==l))) (R (.bool false) d) (e [.int .i64 (i64.wrap (c+1))] d/\g [.int .i64 (i64.wrap (c+1))] d<g [.int .i64 c] d)) (R (.bool true) d)))
theorem xB {h:ab} {R:VP} (a:Int) (aA:Option Addr) (aL aC:Nat) (b:Int) (bA:Option Addr) (bL bC:Nat) (H:S35 a aA aL aC b bA bL bC h R):af Tryz.prog 35 #[.agg #[.int .i64 a,.slice aA aL aC],.agg #[.int .i64 b,.slice bA bL bC]] h R:=bT [2,3] 38 [(0,⟨[2,3],[5],[2,3],[]⟩)] [] [] [(6,⟨11,false⟩)] Tryz.func35 (by kernel_rfl) (by kernel_rfl) H
def zh (a:Int) (edgesV:List (Int × Int)) (b:Int) (edgesV2:List (Int × Int)) (R:Bool->Prop):Prop:=
 ∀(h:ab) (aA:Option Addr) (aL aC:Nat) (bA:Option Addr) (bL bC:Nat),Hp h [Ck.vw eP aA aL aC edgesV,Ck.vw eP bA bL bC edgesV2]->af Tryz.prog 35 #[.agg #[.int .i64 a,.slice aA aL aC],.agg #[.int .i64 b,.slice bA bL bC]] h fun v h'=>∃(rV:Bool),Sy h [] h' []/\v= .bool rV/\R rV
def T35 (a:Int) (edgesV:List (Int × Int)) (b:Int) (edgesV2:List (Int × Int)) (R:Bool->Prop):Prop:=cnd (a != b) (R false) (cnd ((edgesV.length:Int) != (edgesV2.length:Int)) (R false) (∃(d:Int->Prop) (g:Int->Nat),d 0/\∀c:Int,d c->cnd (decide (c<(edgesV.length:Int))) (0<=c/\c<(edgesV.length:Int)/\∀e:(Int × Int),edgesV[(Int.toNat c)]? =some e->0<=c/\c<(edgesV2.length:Int)/\∀f:(Int × Int),edgesV2[(Int.toNat c)]? =some f->cnd (!((e.1==f.1)&&(e.2==f.2))) (R false) (d (i64.wrap (c+1))/\g (i64.wrap (c+1))<g c)) (R true)))
theorem BJ {a edgesV b edgesV2} {R:Bool->Prop} (T:T35 a edgesV b edgesV2 R):zh a edgesV b edgesV2 R:=by
 intro h aA aL aC bA bL bC H;have Y:Sy h [] h _:=Sy.startM H rfl;obtain rfl:=Y.lenV 0 rfl;obtain rfl:=Y.lenV 1 rfl;apply xB;unfold S35;unfold T35 at T;intro hv;have Y:Sy _ _ hv [_,_,_]:=Y.junk _;clear_value hv;intro hv2;have Y:Sy _ _ hv2 [_,_,_,_]:=Y.junk _;clear_value hv2;refine ao T (fun T=>?_) (fun T=>?_)
 ·exact⟨_,Y.pick [] rfl,rfl,T⟩
 ·refine ao T (fun T=>?_) (fun T=>?_)
  ·exact⟨_,Y.pick [] rfl,rfl,T⟩
  ·obtain⟨Iv,m,T0,T1⟩:=T;obtain⟨B,hB,YB⟩:=Y.cut [] [0,1,2,3] rfl;obtain⟨JJ,hJJ⟩:∃JJ:Nat->LP,JJ=(fun k lz h'=>∃(i:Int),lz=[.int .i64 i]/\Sy h [] h' ([]++B)/\Iv i/\m i=k):=⟨_,rfl⟩;refine⟨fun lz h'=>∃k,JJ k lz h',Lm JJ,?_,?_⟩
   ·subst hJJ hB;exact⟨_,_,rfl,YB,T0,rfl⟩
   ·clear YB T0 Y;intro i hv3 hI;obtain⟨k,hI,hm⟩:=fT hI;subst hJJ hB;obtain⟨i,e,Y,T,rfl⟩:=hI;cases e;replace T:=T1 i T;have Y:Sy _ _ _ [_,_,_,_]:=Y;refine ao T (fun T=>?_) (fun T=>?_)
    ·have Y0:=Y;have F:Fr [] hv3 hv3:=Fr.refl _ _;obtain⟨q,q_2,T⟩:=T;obtain⟨b_2,o_2,hb,hr,a_2,hx⟩:=Y0.atV 0 rfl q q_2;refine⟨b_2,o_2,hb,q,q_2,?_⟩;replace T:=T a_2 hx;refine⟨_,Y0.cellV 0 rfl hb (t:=0) hx rfl,?_⟩;refine⟨_,Y0.cellV 0 rfl hb (t:=1) hx rfl,?_⟩;obtain⟨q_3,q_4,T⟩:=T;obtain⟨b_3,o_3,hb_2,hr_2,b_4,hx_2⟩:=Y0.atV 1 rfl q_3 q_4;refine⟨b_3,o_3,hb_2,q_3,q_4,?_⟩;replace T:=T b_4 hx_2;refine⟨_,Y0.cellV 1 rfl hb_2 (t:=0) hx_2 rfl,?_⟩;refine⟨_,Y0.cellV 1 rfl hb_2 (t:=1) hx_2 rfl,?_⟩;refine ao T (fun T=>?_) (fun T=>?_)
     ·exact⟨_,Y.pick [] rfl,rfl,T⟩
     ·exact cP hm ⟨_,rfl,Y.pick [0,1,2,3] rfl,T.1,rfl⟩ T.2
    ·exact⟨_,Y.pick [] rfl,rfl,T⟩
def S32 (s:ByteArray) (h:ab) (R:VP):Prop:=cnd (decide ((s.size:Int)>(256:Int))) (R (.bool false) h) (∃(c:LP) (d:List Value->ab->Nat),c [.int .i64 0] h/\∀a:Int,∀b,c [.int .i64 a] b->cnd (decide (a<(s.size:Int))) (0<=a/\a<(s.size:Int)/\∃e:UInt8,s[Int.toNat a]? =some e/\cnd (decide ((UInt8.toNat e:Int)<(32:Int))) (R (.bool false) b) (0<=a/\a<(s.size:Int)/\∃f:UInt8,s[Int.toNat a]? =some f/\cnd (decide ((UInt8.toNat f:Int)>(126:Int))) (R (.bool false) b) (c [.int .i64 (i64.wrap (a+1))] b/\d [.int .i64 (i64.wrap (a+1))] b<d [.int .i64 a] b))) (R (.bool true) b))
theorem xz {h:ab} {R:VP} (s:ByteArray) (H:S32 s h R):af Tryz.prog 32 #[.string s] h R:=bT [] 23 [(0,⟨[0],[3],[],[]⟩)] [] [] [] Tryz.func32 (by kernel_rfl) (by kernel_rfl) H
def zf (s:ByteArray) (R:Bool->Prop):Prop:=
 ∀(h:ab),Hp h []->af Tryz.prog 32 #[.string s] h fun v h'=>∃(rV:Bool),Sy h [] h' []/\v= .bool rV/\R rV
def T32 (s:ByteArray) (R:Bool->Prop):Prop:=cnd (decide ((s.size:Int)>(256:Int))) (R false) (∃(b:Int->Prop) (c:Int->Nat),b 0/\∀a:Int,b a->cnd (decide (a<(s.size:Int))) (0<=a/\a<(s.size:Int)/\∃d:UInt8,s[Int.toNat a]? =some d/\cnd (decide ((UInt8.toNat d:Int)<(32:Int))) (R false) (0<=a/\a<(s.size:Int)/\∃e:UInt8,s[Int.toNat a]? =some e/\cnd (decide ((UInt8.toNat e:Int)>(126:Int))) (R false) (b (i64.wrap (a+1))/\c (i64.wrap (a+1))<c a))) (R true))
theorem BH {s} {R:Bool->Prop} (T:T32 s R):zf s R:=by
 intro h H;have Y:Sy h [] h _:=Sy.startM H rfl;apply xz;unfold S32;unfold T32 at T;refine ao T (fun T=>?_) (fun T=>?_)
 ·exact⟨_,Y.pick [] rfl,rfl,T⟩
 ·obtain⟨Iv,m,T0,T1⟩:=T;obtain⟨B,hB,YB⟩:=Y.cut [] [] rfl;obtain⟨JJ,hJJ⟩:∃JJ:Nat->LP,JJ=(fun k lz h'=>∃(i:Int),lz=[.int .i64 i]/\Sy h [] h' ([]++B)/\Iv i/\m i=k):=⟨_,rfl⟩;refine⟨fun lz h'=>∃k,JJ k lz h',Lm JJ,?_,?_⟩
  ·subst hJJ hB;exact⟨_,_,rfl,YB,T0,rfl⟩
  ·clear YB T0 Y;intro i hv hI;obtain⟨k,hI,hm⟩:=fT hI;subst hJJ hB;obtain⟨i,e,Y,T,rfl⟩:=hI;cases e;replace T:=T1 i T;have Y:Sy _ _ _ []:=Y;refine ao T (fun T=>?_) (fun T=>?_)
   ·obtain⟨q_3,q_4,T⟩:=T;refine⟨q_3,q_4,?_⟩;obtain⟨xc,hq,T⟩:=T;refine⟨xc,hq,?_⟩;refine ao T (fun T=>?_) (fun T=>?_)
    ·exact⟨_,Y.pick [] rfl,rfl,T⟩
    ·obtain⟨q,q_2,T⟩:=T;refine⟨q,q_2,?_⟩;obtain⟨xc2,hq,T⟩:=T;refine⟨xc2,hq,?_⟩;refine ao T (fun T=>?_) (fun T=>?_)
     ·exact⟨_,Y.pick [] rfl,rfl,T⟩
     ·exact cP hm ⟨_,rfl,Y.pick [] rfl,T.1,rfl⟩ T.2
   ·exact⟨_,Y.pick [] rfl,rfl,T⟩
def S48 (a b:Nat) (h:ab) (R:VP):Prop:=l4 Tryz.prog 101 #[.float .f64 a] fun e=>∃c:Int,e= .int .u64 c/\l4 Tryz.prog 101 #[.float .f64 b] fun f=>∃d:Int,f= .int .u64 d/\R (.bool (c==d)) h
theorem xo {h:ab} {R:VP} (a b:Nat) (H:S48 a b h R):af Tryz.prog 48 #[.float .f64 a,.float .f64 b] h R:=bT [] 10 [] [] [] [] Tryz.func48 (by kernel_rfl) (by kernel_rfl) H
def xp (a b:Nat) (R:Bool->Prop):Prop:=
 ∀(h:ab),Hp h []->af Tryz.prog 48 #[.float .f64 a,.float .f64 b] h fun v h'=>∃(rV:Bool),Sy h [] h' []/\v= .bool rV/\R rV
def T48 (a b:Nat) (R:Bool->Prop):Prop:=l4 Tryz.prog 101 #[.float .f64 a] fun e=>∃c:Int,e= .int .u64 c/\l4 Tryz.prog 101 #[.float .f64 b] fun f=>∃d:Int,f= .int .u64 d/\R (c==d)
theorem Bz {a b} {R:Bool->Prop} (T:T48 a b R):xp a b R:=by
 intro h H;have Y:Sy h [] h _:=Sy.startM H rfl;apply xo;unfold S48;unfold T48 at T;obtain⟨Rx_2,hx_2,T⟩:=T;refine⟨Rx_2,hx_2,fun v hv=>?_⟩;obtain⟨r,rfl,T⟩:=T v hv;refine⟨r,rfl,?_⟩;obtain⟨Rx,hx,T⟩:=T;refine⟨Rx,hx,fun v2 hv=>?_⟩;obtain⟨r2,rfl,T⟩:=T v2 hv;refine⟨r2,rfl,?_⟩;exact⟨_,Y.pick [] rfl,rfl,T⟩
def S71 (a b:Nat) (h:ab) (R:VP):Prop:=let c:=fun(l:Bool) (i:ab)=>(R (.bool l) i);cnd ((FloatKind.f64).format.order a a != some .eq) (cnd ((FloatKind.f64).format.order b b != some .eq) (R (.bool true) h) (aj Tryz.prog 48 #[.float .f64 a,.float .f64 b] h [] fun j f=>∃d:Bool,j= .bool d/\c d f)) (aj Tryz.prog 48 #[.float .f64 a,.float .f64 b] h [] fun k g=>∃e:Bool,k= .bool e/\c e g)
theorem xq {h:ab} {R:VP} (a b:Nat) (H:S71 a b h R):af Tryz.prog 71 #[.float .f64 a,.float .f64 b] h R:=bT [] 18 [] [] [] [] Tryz.func71 (by kernel_rfl) (by kernel_rfl) H
def vj (a b:Nat) (R:Bool->Prop):Prop:=
 ∀(h:ab),Hp h []->af Tryz.prog 71 #[.float .f64 a,.float .f64 b] h fun v h'=>∃(rV:Bool),Sy h [] h' []/\v= .bool rV/\R rV
def T71 (a b:Nat) (R:Bool->Prop):Prop:=∃c:Bool->Prop,(cnd ((FloatKind.f64).format.order a a != some .eq) (cnd ((FloatKind.f64).format.order b b != some .eq) (R true) (xp a b (fun e=>c e))) (xp a b (fun f=>c f)))/\∀d:Bool,c d->R d
theorem BA {a b} {R:Bool->Prop} (T:T71 a b R):vj a b R:=by
 intro h H;have Y:Sy h [] h _:=Sy.startM H rfl;apply xq;unfold S71;unfold T71 at T;obtain⟨Jv,T0,T1⟩:=T;obtain⟨B,hB,_⟩:=Y.cut [] [] rfl;intro K;have hK:∀(x:Bool) (hv3:ab),(Sy h [] hv3 ([]++B)/\Jv x)->K x hv3:=by
  subst hB;clear T0 Y;rintro x hv3 ⟨Y,T⟩;replace T:=T1 x T;have Y:Sy _ _ _ []:=Y;unfold K;exact⟨_,Y.pick [] rfl,rfl,T⟩
 subst hB;replace T:=T0;clear T0 T1;refine ao T (fun T=>?_) (fun T=>?_)
 ·refine ao T (fun T=>?_) (fun T=>?_)
  ·exact⟨_,Y.pick [] rfl,rfl,T⟩
  ·refine bB (T _ (Hp.nil _)) (fun _ _ ⟨_,p,_⟩=>p.fr) iV ?_;rintro v hv ⟨r,PP,rfl,T⟩;have Y:Sy _ _ hv []:=Y.gr PP.fr;clear PP;refine⟨r,rfl,?_⟩;exact hK _ _ ⟨Y.pick [] rfl,T⟩
 ·refine bB (T _ (Hp.nil _)) (fun _ _ ⟨_,p,_⟩=>p.fr) iV ?_;rintro v2 hv2 ⟨r2,PP,rfl,T⟩;have Y:Sy _ _ hv2 []:=Y.gr PP.fr;clear PP;refine⟨r2,rfl,?_⟩;exact hK _ _ ⟨Y.pick [] rfl,T⟩
def S28 (d:Int) (dA:Option Addr) (dL dC:Nat) (d2:Bool) (dA2:Option Addr) (dL2 dC2:Nat) (dA3:Option Addr) (dL3 dC3:Nat) (dA4:Option Addr) (dL4 dC4:Nat) (h:ab) (R:VP):Prop:=let n:ab:=h.push (.cells #[.int .i64 d,.slice dA dL dC,.bool d2,.slice dA2 dL2 dC2,.slice dA3 dL3 dC3,.slice dA4 dL4 dC4] 29);let c:=fun(p:ab)=>(∃(g:LP) (j:List Value->ab->Nat),g [.int .i64 0] p/\∀e:Int,∀f,g [.int .i64 e] f->cnd (decide (e<(dL2:Int))) (∃b o,dA2=some ⟨b,o,none⟩/\0<=e/\e<(dL2:Nat)/\∃m:ByteArray,ac f b (o+(Int.toNat e)*1)=some (.string m)/\aj Tryz.prog 32 #[.string m] f [h.size] fun r i=>∃l:Bool,r= .bool l/\cnd (!l) (R (.bool false) i) (g [.int .i64 (i64.wrap (e+1))] i/\j [.int .i64 (i64.wrap (e+1))] i<j [.int .i64 e] f)) (R (.bool true) f));aj Tryz.prog 33 #[.agg #[.int .i64 d,.slice dA dL dC]] n [h.size] fun q a=>∃k:Bool,q= .bool k/\cnd (!k) (R (.bool false) a) (cnd ((dL2:Int) != (0:Int)) (cnd ((dL2:Int) != d) (R (.bool false) a) (cnd ((dL3:Int) != (0:Int)) (cnd ((dL3:Int) != d) (R (.bool false) a) (cnd ((dL4:Int) != (0:Int)) (cnd ((dL4:Int) != (dL:Int)) (R (.bool false) a) (c a)) (c a))) (cnd ((dL4:Int) != (0:Int)) (cnd ((dL4:Int) != (dL:Int)) (R (.bool false) a) (c a)) (c a)))) (cnd ((dL3:Int) != (0:Int)) (cnd ((dL3:Int) != d) (R (.bool false) a) (cnd ((dL4:Int) != (0:Int)) (cnd ((dL4:Int) != (dL:Int)) (R (.bool false) a) (c a)) (c a))) (cnd ((dL4:Int) != (0:Int)) (cnd ((dL4:Int) != (dL:Int)) (R (.bool false) a) (c a)) (c a))))
theorem xu {h:ab} {R:VP} (d:Int) (dA:Option Addr) (dL dC:Nat) (d2:Bool) (dA2:Option Addr) (dL2 dC2:Nat) (dA3:Option Addr) (dL3 dC3:Nat) (dA4:Option Addr) (dL4 dC4:Nat) (H:S28 d dA dL dC d2 dA2 dL2 dC2 dA3 dL3 dC3 dA4 dL4 dC4 h R):af Tryz.prog 28 #[.agg #[.int .i64 d,.slice dA dL dC,.bool d2,.slice dA2 dL2 dC2,.slice dA3 dL3 dC3,.slice dA4 dL4 dC4]] h R:=bT [1] 70 [(0,⟨[1],[5],[1],[]⟩)] [] [] [(1,⟨9,false⟩)] Tryz.func28 (by kernel_rfl) (by kernel_rfl) H
def AV (d:Int) (edgesV:List (Int × Int)) (d2:Bool) (labelsV:List ByteArray) (atV:List (Nat × Nat)) (weightV:List Nat) (R:Bool->Prop):Prop:=
 ∀(h:ab) (dA:Option Addr) (dL dC:Nat) (dA2:Option Addr) (dL2 dC2:Nat) (dA3:Option Addr) (dL3 dC3:Nat) (dA4:Option Addr) (dL4 dC4:Nat),Hp h [Ck.vw eP dA dL dC edgesV,Ck.vw eS dA2 dL2 dC2 labelsV,Ck.vw eFF dA3 dL3 dC3 atV,Ck.vw eF dA4 dL4 dC4 weightV]->af Tryz.prog 28 #[.agg #[.int .i64 d,.slice dA dL dC,.bool d2,.slice dA2 dL2 dC2,.slice dA3 dL3 dC3,.slice dA4 dL4 dC4]] h fun v h'=>∃(rV:Bool),Sy h [] h' []/\v= .bool rV/\R rV
def T28 (d:Int) (edgesV:List (Int × Int)) (d2:Bool) (labelsV:List ByteArray) (atV:List (Nat × Nat)) (weightV:List Nat) (R:Bool->Prop):Prop:=∃a:Prop,(zg d edgesV (fun g=>cnd (!g) (R false) (cnd ((labelsV.length:Int) != (0:Int)) (cnd ((labelsV.length:Int) != d) (R false) (cnd ((atV.length:Int) != (0:Int)) (cnd ((atV.length:Int) != d) (R false) (cnd ((weightV.length:Int) != (0:Int)) (cnd ((weightV.length:Int) != (edgesV.length:Int)) (R false) (a)) (a))) (cnd ((weightV.length:Int) != (0:Int)) (cnd ((weightV.length:Int) != (edgesV.length:Int)) (R false) (a)) (a)))) (cnd ((atV.length:Int) != (0:Int)) (cnd ((atV.length:Int) != d) (R false) (cnd ((weightV.length:Int) != (0:Int)) (cnd ((weightV.length:Int) != (edgesV.length:Int)) (R false) (a)) (a))) (cnd ((weightV.length:Int) != (0:Int)) (cnd ((weightV.length:Int) != (edgesV.length:Int)) (R false) (a)) (a))))))/\(a->∃(c:Int->Prop) (f:Int->Nat),c 0/\∀b:Int,c b->cnd (decide (b<(labelsV.length:Int))) (0<=b/\b<(labelsV.length:Int)/\∀e:ByteArray,labelsV[(Int.toNat b)]? =some e->zf e (fun h=>cnd (!h) (R false) (c (i64.wrap (b+1))/\f (i64.wrap (b+1))<f b))) (R true))
theorem BB {d edgesV d2 labelsV atV weightV} {R:Bool->Prop} (T:T28 d edgesV d2 labelsV atV weightV R):AV d edgesV d2 labelsV atV weightV R:=by
 intro h dA dL dC dA2 dL2 dC2 dA3 dL3 dC3 dA4 dL4 dC4 H;have Y:Sy h [] h _:=Sy.startM H rfl;obtain rfl:=Y.lenV 0 rfl;obtain rfl:=Y.lenV 1 rfl;obtain rfl:=Y.lenV 2 rfl;obtain rfl:=Y.lenV 3 rfl;apply xu;unfold S28;unfold T28 at T;intro hv;have Y:Sy _ _ hv [_,_,_,_,_]:=Y.junk _;clear_value hv;have Y0:=Y;have F:Fr [] hv hv:=Fr.refl _ _;obtain⟨Jv,T0,T1⟩:=T;obtain⟨B,hB,_⟩:=Y.cut [] [0,1,2,3,4] rfl;intro K;have hK:∀(hv3:ab),(Sy h [] hv3 ([]++B)/\Jv)->K hv3:=by
  subst hB;clear T0 Y;rintro hv3 ⟨Y,T⟩;replace T:=T1 T;have Y:Sy _ _ _ [_,_,_,_,_]:=Y;unfold K;obtain⟨Iv,m,T0,T1⟩:=T;obtain⟨B_2,hB_2,YB⟩:=Y.cut [] [0,1,2,3,4] rfl;obtain⟨JJ,hJJ⟩:∃JJ:Nat->LP,JJ=(fun k lz h'=>∃(i:Int),lz=[.int .i64 i]/\Sy h [] h' ([]++B_2)/\Iv i/\m i=k):=⟨_,rfl⟩;refine⟨fun lz h'=>∃k,JJ k lz h',Lm JJ,?_,?_⟩
  ·subst hJJ hB_2;exact⟨_,_,rfl,YB,T0,rfl⟩
  ·clear YB T0 Y;intro i hv4 hI;obtain⟨k,hI,hm⟩:=fT hI;subst hJJ hB_2;obtain⟨i,e,Y,T,rfl⟩:=hI;cases e;replace T:=T1 i T;have Y:Sy _ _ _ [_,_,_,_,_]:=Y;refine ao T (fun T=>?_) (fun T=>?_)
   ·obtain⟨q,q_2,T⟩:=T;obtain⟨b_2,o_2,hb,hr,d_2,hx⟩:=Y.atV 1 rfl q q_2;refine⟨b_2,o_2,hb,q,q_2,?_⟩;replace T:=T d_2 hx;refine⟨_,Y.cellV 1 rfl hb (t:=0) hx rfl,?_⟩;refine bB (T _ (Hp.nil _)) (fun _ _ ⟨_,p,_⟩=>p.fr) (jQ (fun h=>by cases h) iV) ?_;rintro v2 hv5 ⟨r2,PP,rfl,T⟩;have Y:Sy _ _ hv5 [_,_,_,_,_]:=Y.gr PP.fr;clear PP;refine⟨r2,rfl,?_⟩;refine ao T (fun T=>?_) (fun T=>?_)
    ·exact⟨_,Y.pick [] rfl,rfl,T⟩
    ·exact cP hm ⟨_,rfl,Y.pick [0,1,2,3,4] rfl,T.1,rfl⟩ T.2
   ·exact⟨_,Y.pick [] rfl,rfl,T⟩
 subst hB;replace T:=T0;clear T0 T1;refine bB (T _ _ _ _ (Y.pick [0] rfl).hp) (fun _ _ ⟨_,p,_⟩=>p.fr) (jQ (fun h=>by cases h) iV) ?_;rintro v hv2 ⟨r,PP,rfl,T⟩;have Y:Sy _ _ hv2 [_,_,_,_,_]:=Y.gr PP.fr;clear PP;refine⟨r,rfl,?_⟩;refine ao T (fun T=>?_) (fun T=>?_)
 ·exact⟨_,Y.pick [] rfl,rfl,T⟩
 ·refine ao T (fun T=>?_) (fun T=>?_)
  ·refine ao T (fun T=>?_) (fun T=>?_)
   ·exact⟨_,Y.pick [] rfl,rfl,T⟩
   ·refine ao T (fun T=>?_) (fun T=>?_)
    ·refine ao T (fun T=>?_) (fun T=>?_)
     ·exact⟨_,Y.pick [] rfl,rfl,T⟩
     ·refine ao T (fun T=>?_) (fun T=>?_)
      ·refine ao T (fun T=>?_) (fun T=>?_)
       ·exact⟨_,Y.pick [] rfl,rfl,T⟩
       ·exact hK _ ⟨Y.pick [0,1,2,3,4] rfl,T⟩
      ·exact hK _ ⟨Y.pick [0,1,2,3,4] rfl,T⟩
    ·refine ao T (fun T=>?_) (fun T=>?_)
     ·refine ao T (fun T=>?_) (fun T=>?_)
      ·exact⟨_,Y.pick [] rfl,rfl,T⟩
      ·exact hK _ ⟨Y.pick [0,1,2,3,4] rfl,T⟩
     ·exact hK _ ⟨Y.pick [0,1,2,3,4] rfl,T⟩
  ·refine ao T (fun T=>?_) (fun T=>?_)
   ·refine ao T (fun T=>?_) (fun T=>?_)
    ·exact⟨_,Y.pick [] rfl,rfl,T⟩
    ·refine ao T (fun T=>?_) (fun T=>?_)
     ·refine ao T (fun T=>?_) (fun T=>?_)
      ·exact⟨_,Y.pick [] rfl,rfl,T⟩
      ·exact hK _ ⟨Y.pick [0,1,2,3,4] rfl,T⟩
     ·exact hK _ ⟨Y.pick [0,1,2,3,4] rfl,T⟩
   ·refine ao T (fun T=>?_) (fun T=>?_)
    ·refine ao T (fun T=>?_) (fun T=>?_)
     ·exact⟨_,Y.pick [] rfl,rfl,T⟩
     ·exact hK _ ⟨Y.pick [0,1,2,3,4] rfl,T⟩
    ·exact hK _ ⟨Y.pick [0,1,2,3,4] rfl,T⟩
def S29 (a:Int) (aA:Option Addr) (aL aC:Nat) (a2:Bool) (aA2:Option Addr) (aL2 aC2:Nat) (aA3:Option Addr) (aL3 aC3:Nat) (aA4:Option Addr) (aL4 aC4:Nat) (b:Int) (bA:Option Addr) (bL bC:Nat) (b2:Bool) (bA2:Option Addr) (bL2 bC2:Nat) (bA3:Option Addr) (bL3 bC3:Nat) (bA4:Option Addr) (bL4 bC4:Nat) (h:ab) (R:VP):Prop:=let k:ab:=h.push (.cells #[.int .i64 a,.slice aA aL aC,.bool a2,.slice aA2 aL2 aC2,.slice aA3 aL3 aC3,.slice aA4 aL4 aC4] 29);let I:ab:=k.push (.cells #[.int .i64 b,.slice bA bL bC,.bool b2,.slice bA2 bL2 bC2,.slice bA3 bL3 bC3,.slice bA4 bL4 bC4] 29);let l:=fun(J:ab)=>(R (.bool false) J);aj Tryz.prog 35 #[.agg #[.int .i64 a,.slice aA aL aC],.agg #[.int .i64 b,.slice bA bL bC]] I [k.size,h.size] fun K j=>∃w:Bool,K= .bool w/\cnd (!w) (l j) (cnd (!(a2==b2)) (l j) (cnd ((aL2:Int) != (bL2:Int)) (l j) (cnd ((aL3:Int) != (bL3:Int)) (l j) (cnd ((aL4:Int) != (bL4:Int)) (R (.bool false) j) (∃(q:LP) (t:List Value->ab->Nat),q [.int .i64 0] j/\∀e:Int,∀g,q [.int .i64 e] g->cnd (decide (e<(aL2:Int))) (∃b3 o,aA2=some ⟨b3,o,none⟩/\0<=e/\e<(aL2:Nat)/\∃A:ByteArray,ac g b3 (o+(Int.toNat e)*1)=some (.string A)/\∃b4 o2,bA2=some ⟨b4,o2,none⟩/\0<=e/\e<(bL2:Nat)/\∃B:ByteArray,ac g b4 (o2+(Int.toNat e)*1)=some (.string B)/\cnd (!(A.toList==B.toList)) (R (.bool false) g) (q [.int .i64 (i64.wrap (e+1))] g/\t [.int .i64 (i64.wrap (e+1))] g<t [.int .i64 e] g)) (∃(r:LP) (u:List Value->ab->Nat),r [.int .i64 0] g/\∀c:Int,∀d,r [.int .i64 c] d->cnd (decide (c<(aL3:Int))) (∃b5 o3,aA3=some ⟨b5,o3,none⟩/\0<=c/\c<(aL3:Nat)/\∃C:Nat,ac d b5 (o3+(Int.toNat c)*2)=some (.float .f64 C)/\∃b6 o4,bA3=some ⟨b6,o4,none⟩/\0<=c/\c<(bL3:Nat)/\∃D:Nat,ac d b6 (o4+(Int.toNat c)*2)=some (.float .f64 D)/\aj Tryz.prog 71 #[.float .f64 C,.float .f64 D] d [h.size,k.size] fun L n=>∃x:Bool,L= .bool x/\Fr [] d n/\cnd (!x) (Fr [] d n/\R (.bool false) n) (∃b7 o5,aA3=some ⟨b7,o5,none⟩/\0<=c/\c<(aL3:Nat)/\∃E:Nat,ac d b7 ((o5+(Int.toNat c)*2)+1)=some (.float .f64 E)/\∃b8 o6,bA3=some ⟨b8,o6,none⟩/\0<=c/\c<(bL3:Nat)/\∃F:Nat,ac d b8 ((o6+(Int.toNat c)*2)+1)=some (.float .f64 F)/\aj Tryz.prog 71 #[.float .f64 E,.float .f64 F] n [h.size,k.size] fun M p=>∃y:Bool,M= .bool y/\Fr [] d p/\cnd (!y) (R (.bool false) p) (r [.int .i64 (i64.wrap (c+1))] p/\u [.int .i64 (i64.wrap (c+1))] p<u [.int .i64 c] d))) (∃(s:LP) (v:List Value->ab->Nat),s [.int .i64 0] d/\∀f:Int,∀i,s [.int .i64 f] i->cnd (decide (f<(aL4:Int))) (∃b9 o7,aA4=some ⟨b9,o7,none⟩/\0<=f/\f<(aL4:Nat)/\∃G:Nat,ac i b9 (o7+(Int.toNat f)*1)=some (.float .f64 G)/\∃b10 o8,bA4=some ⟨b10,o8,none⟩/\0<=f/\f<(bL4:Nat)/\∃H:Nat,ac i b10 (o8+(Int.toNat f)*1)=some (.float .f64 H)/\aj Tryz.prog 71 #[.float .f64 G,.float .f64 H] i [h.size,k.size] fun N m=>∃z:Bool,N= .bool z/\Fr [] i m/\cnd (!z) (R (.bool false) m) (s [.int .i64 (i64.wrap (f+1))] m/\v [.int .i64 (i64.wrap (f+1))] m<v [.int .i64 f] i)) (R (.bool true) i))))))))
theorem xv {h:ab} {R:VP} (a:Int) (aA:Option Addr) (aL aC:Nat) (a2:Bool) (aA2:Option Addr) (aL2 aC2:Nat) (aA3:Option Addr) (aL3 aC3:Nat) (aA4:Option Addr) (aL4 aC4:Nat) (b:Int) (bA:Option Addr) (bL bC:Nat) (b2:Bool) (bA2:Option Addr) (bL2 bC2:Nat) (bA3:Option Addr) (bL3 bC3:Nat) (bA4:Option Addr) (bL4 bC4:Nat) (H:S29 a aA aL aC a2 aA2 aL2 aC2 aA3 aL3 aC3 aA4 aL4 aC4 b bA bL bC b2 bA2 bL2 bC2 bA3 bL3 bC3 bA4 bL4 bC4 h R):af Tryz.prog 29 #[.agg #[.int .i64 a,.slice aA aL aC,.bool a2,.slice aA2 aL2 aC2,.slice aA3 aL3 aC3,.slice aA4 aL4 aC4],.agg #[.int .i64 b,.slice bA bL bC,.bool b2,.slice bA2 bL2 bC2,.slice bA3 bL3 bC3,.slice bA4 bL4 bC4]] h R:=bT [2,3] 122 [(0,⟨[2,3],[5],[2,3],[]⟩),(2,⟨[2,3],[6],[2,3],[]⟩),(4,⟨[2,3],[7],[2,3],[]⟩)] [] [] [(6,⟨11,false⟩),(11,⟨30,false⟩),(16,⟨12,false⟩)] Tryz.func29 (by kernel_rfl) (by kernel_rfl) H
def AW (a:Int) (edgesV:List (Int × Int)) (a2:Bool) (labelsV:List ByteArray) (atV:List (Nat × Nat)) (weightV:List Nat) (b:Int) (edgesV2:List (Int × Int)) (b2:Bool) (labelsV2:List ByteArray) (atV2:List (Nat × Nat)) (weightV2:List Nat) (R:Bool->Prop):Prop:=
 ∀(h:ab) (aA:Option Addr) (aL aC:Nat) (aA2:Option Addr) (aL2 aC2:Nat) (aA3:Option Addr) (aL3 aC3:Nat) (aA4:Option Addr) (aL4 aC4:Nat) (bA:Option Addr) (bL bC:Nat) (bA2:Option Addr) (bL2 bC2:Nat) (bA3:Option Addr) (bL3 bC3:Nat) (bA4:Option Addr) (bL4 bC4:Nat),Hp h [Ck.vw eP aA aL aC edgesV,Ck.vw eS aA2 aL2 aC2 labelsV,Ck.vw eFF aA3 aL3 aC3 atV,Ck.vw eF aA4 aL4 aC4 weightV,Ck.vw eP bA bL bC edgesV2,Ck.vw eS bA2 bL2 bC2 labelsV2,Ck.vw eFF bA3 bL3 bC3 atV2,Ck.vw eF bA4 bL4 bC4 weightV2]->af Tryz.prog 29 #[.agg #[.int .i64 a,.slice aA aL aC,.bool a2,.slice aA2 aL2 aC2,.slice aA3 aL3 aC3,.slice aA4 aL4 aC4],.agg #[.int .i64 b,.slice bA bL bC,.bool b2,.slice bA2 bL2 bC2,.slice bA3 bL3 bC3,.slice bA4 bL4 bC4]] h fun v h'=>∃(rV:Bool),Sy h [] h' []/\v= .bool rV/\R rV
def T29 (a:Int) (edgesV:List (Int × Int)) (a2:Bool) (labelsV:List ByteArray) (atV:List (Nat × Nat)) (weightV:List Nat) (b:Int) (edgesV2:List (Int × Int)) (b2:Bool) (labelsV2:List ByteArray) (atV2:List (Nat × Nat)) (weightV2:List Nat) (R:Bool->Prop):Prop:=∃f:Prop,(zh a edgesV b edgesV2 (fun s=>cnd (!s) (f) (cnd (!(a2==b2)) (f) (cnd ((labelsV.length:Int) != (labelsV2.length:Int)) (f) (cnd ((atV.length:Int) != (atV2.length:Int)) (f) (cnd ((weightV.length:Int) != (weightV2.length:Int)) (R false) (∃(g:Int->Prop) (p:Int->Nat),g 0/\∀c:Int,g c->cnd (decide (c<(labelsV.length:Int))) (0<=c/\c<(labelsV.length:Int)/\∀l:ByteArray,labelsV[(Int.toNat c)]? =some l->0<=c/\c<(labelsV2.length:Int)/\∀o:ByteArray,labelsV2[(Int.toNat c)]? =some o->cnd (!(l.toList==o.toList)) (R false) (g (i64.wrap (c+1))/\p (i64.wrap (c+1))<p c)) (∃(h:Int->Prop) (q:Int->Nat),h 0/\∀d:Int,h d->cnd (decide (d<(atV.length:Int))) (0<=d/\d<(atV.length:Int)/\∀j:(Nat × Nat),atV[(Int.toNat d)]? =some j->0<=d/\d<(atV2.length:Int)/\∀k:(Nat × Nat),atV2[(Int.toNat d)]? =some k->vj j.1 k.1 (fun t=>cnd (!t) (R false) (vj j.2 k.2 (fun u=>cnd (!u) (R false) (h (i64.wrap (d+1))/\q (i64.wrap (d+1))<q d))))) (∃(i:Int->Prop) (r:Int->Nat),i 0/\∀e:Int,i e->cnd (decide (e<(weightV.length:Int))) (0<=e/\e<(weightV.length:Int)/\∀m:Nat,weightV[(Int.toNat e)]? =some m->0<=e/\e<(weightV2.length:Int)/\∀n:Nat,weightV2[(Int.toNat e)]? =some n->vj m n (fun v=>cnd (!v) (R false) (i (i64.wrap (e+1))/\r (i64.wrap (e+1))<r e))) (R true))))))))))/\(f->R false)
theorem BC {a edgesV a2 labelsV atV weightV b edgesV2 b2 labelsV2 atV2 weightV2} {R:Bool->Prop} (T:T29 a edgesV a2 labelsV atV weightV b edgesV2 b2 labelsV2 atV2 weightV2 R):AW a edgesV a2 labelsV atV weightV b edgesV2 b2 labelsV2 atV2 weightV2 R:=by
 intro h aA aL aC aA2 aL2 aC2 aA3 aL3 aC3 aA4 aL4 aC4 bA bL bC bA2 bL2 bC2 bA3 bL3 bC3 bA4 bL4 bC4 H;have Y:Sy h [] h _:=Sy.startM H rfl;obtain rfl:=Y.lenV 0 rfl;obtain rfl:=Y.lenV 1 rfl;obtain rfl:=Y.lenV 2 rfl;obtain rfl:=Y.lenV 3 rfl;obtain rfl:=Y.lenV 4 rfl;obtain rfl:=Y.lenV 5 rfl;obtain rfl:=Y.lenV 6 rfl;obtain rfl:=Y.lenV 7 rfl;apply xv;unfold S29;unfold T29 at T;intro hv;have Y:Sy _ _ hv [_,_,_,_,_,_,_,_,_]:=Y.junk _;clear_value hv;intro hv2;have Y:Sy _ _ hv2 [_,_,_,_,_,_,_,_,_,_]:=Y.junk _;clear_value hv2;obtain⟨Jv,T0,T1⟩:=T;obtain⟨B,hB,_⟩:=Y.cut [] [0,1,2,3,4,5,6,7,8,9] rfl;intro K;have hK:∀(hv4:ab),(Sy h [] hv4 ([]++B)/\Jv)->K hv4:=by
  subst hB;clear T0 Y;rintro hv4 ⟨Y,T⟩;replace T:=T1 T;have Y:Sy _ _ _ [_,_,_,_,_,_,_,_,_,_]:=Y;unfold K;exact⟨_,Y.pick [] rfl,rfl,T⟩
 subst hB;replace T:=T0;clear T0 T1;refine bB (T _ _ _ _ _ _ _ (Y.pick [0,4] rfl).hp) (fun _ _ ⟨_,p,_⟩=>p.fr) (jQ (fun h=>by cases h) (jQ (fun h=>by cases h) iV)) ?_;rintro v hv3 ⟨r,PP,rfl,T⟩;have Y:Sy _ _ hv3 [_,_,_,_,_,_,_,_,_,_]:=Y.gr PP.fr;clear PP;refine⟨r,rfl,?_⟩;refine ao T (fun T=>?_) (fun T=>?_)
 ·exact hK _ ⟨Y.pick [0,1,2,3,4,5,6,7,8,9] rfl,T⟩
 ·refine ao T (fun T=>?_) (fun T=>?_)
  ·exact hK _ ⟨Y.pick [0,1,2,3,4,5,6,7,8,9] rfl,T⟩
  ·refine ao T (fun T=>?_) (fun T=>?_)
   ·exact hK _ ⟨Y.pick [0,1,2,3,4,5,6,7,8,9] rfl,T⟩
   ·refine ao T (fun T=>?_) (fun T=>?_)
    ·exact hK _ ⟨Y.pick [0,1,2,3,4,5,6,7,8,9] rfl,T⟩
    ·refine ao T (fun T=>?_) (fun T=>?_)
     ·exact⟨_,Y.pick [] rfl,rfl,T⟩
     ·obtain⟨Iv,m,T0,T1⟩:=T;obtain⟨B_2,hB_2,YB⟩:=Y.cut [] [0,1,2,3,4,5,6,7,8,9] rfl;obtain⟨JJ,hJJ⟩:∃JJ:Nat->LP,JJ=(fun k lz h'=>∃(i:Int),lz=[.int .i64 i]/\Sy h [] h' ([]++B_2)/\Iv i/\m i=k):=⟨_,rfl⟩;refine⟨fun lz h'=>∃k,JJ k lz h',Lm JJ,?_,?_⟩
      ·subst hJJ hB_2;exact⟨_,_,rfl,YB,T0,rfl⟩
      ·clear YB T0 Y;intro i hv5 hI;obtain⟨k,hI,hm⟩:=fT hI;subst hJJ hB_2;obtain⟨i,e,Y,T,rfl⟩:=hI;cases e;replace T:=T1 i T;have Y:Sy _ _ _ [_,_,_,_,_,_,_,_,_,_]:=Y;refine ao T (fun T=>?_) (fun T=>?_)
       ·have Y0:=Y;have F:Fr [] hv5 hv5:=Fr.refl _ _;obtain⟨q,q_2,T⟩:=T;obtain⟨b_2,o_2,hb,hr,a_2,hx⟩:=Y0.atV 1 rfl q q_2;refine⟨b_2,o_2,hb,q,q_2,?_⟩;replace T:=T a_2 hx;refine⟨_,Y0.cellV 1 rfl hb (t:=0) hx rfl,?_⟩;obtain⟨q_3,q_4,T⟩:=T;obtain⟨b_3,o_3,hb_2,hr_2,b_4,hx_2⟩:=Y0.atV 5 rfl q_3 q_4;refine⟨b_3,o_3,hb_2,q_3,q_4,?_⟩;replace T:=T b_4 hx_2;refine⟨_,Y0.cellV 5 rfl hb_2 (t:=0) hx_2 rfl,?_⟩;refine ao T (fun T=>?_) (fun T=>?_)
        ·exact⟨_,Y.pick [] rfl,rfl,T⟩
        ·exact cP hm ⟨_,rfl,Y.pick [0,1,2,3,4,5,6,7,8,9] rfl,T.1,rfl⟩ T.2
       ·obtain⟨Iv2,m2,T0,T1⟩:=T;obtain⟨B_3,hB_3,YB⟩:=Y.cut [] [0,1,2,3,4,5,6,7,8,9] rfl;obtain⟨JJ_2,hJJ_2⟩:∃JJ_2:Nat->LP,JJ_2=(fun k_2 lz h'=>∃(i2:Int),lz=[.int .i64 i2]/\Sy h [] h' ([]++B_3)/\Iv2 i2/\m2 i2=k_2):=⟨_,rfl⟩;refine⟨fun lz h'=>∃k_2,JJ_2 k_2 lz h',Lm JJ_2,?_,?_⟩
        ·subst hJJ_2 hB_3;exact⟨_,_,rfl,YB,T0,rfl⟩
        ·clear YB T0 Y;intro i2 hv6 hI;obtain⟨k_2,hI,hm_2⟩:=fT hI;subst hJJ_2 hB_3;obtain⟨i2,e,Y,T,rfl⟩:=hI;cases e;replace T:=T1 i2 T;have Y:Sy _ _ _ [_,_,_,_,_,_,_,_,_,_]:=Y;refine ao T (fun T=>?_) (fun T=>?_)
         ·have Y0:=Y;have F:Fr [] hv6 hv6:=Fr.refl _ _;obtain⟨q_5,q_6,T⟩:=T;obtain⟨b_5,o_4,hb_3,hr_3,a_3,hx_3⟩:=Y0.atV 2 rfl q_5 q_6;refine⟨b_5,o_4,hb_3,q_5,q_6,?_⟩;replace T:=T a_3 hx_3;refine⟨_,Y0.cellV 2 rfl hb_3 (t:=0) hx_3 rfl,?_⟩;obtain⟨q_7,q_8,T⟩:=T;obtain⟨b_6,o_5,hb_4,hr_4,b_7,hx_4⟩:=Y0.atV 6 rfl q_7 q_8;refine⟨b_6,o_5,hb_4,q_7,q_8,?_⟩;replace T:=T b_7 hx_4;refine⟨_,Y0.cellV 6 rfl hb_4 (t:=0) hx_4 rfl,?_⟩;refine bB (T _ (Hp.nil _)) (fun _ _ ⟨_,p,_⟩=>p.fr) (jQ (fun h=>by cases h) (jQ (fun h=>by cases h) iV)) ?_;rintro v2 hv7 ⟨r2,PP,rfl,T⟩;have F:Fr _ _ hv7:=F.trans PP.fr.nil;have fshv7:=F.size;have Y:Sy _ _ hv7 [_,_,_,_,_,_,_,_,_,_]:=Y.gr PP.fr;clear PP;refine⟨r2,rfl,?_⟩;refine⟨F,?_⟩;refine ao T (fun T=>?_) (fun T=>?_)
          ·refine⟨F,?_⟩;exact⟨_,Y.pick [] rfl,rfl,T⟩
          ·refine⟨b_5,o_4,hb_3,q_5,q_6,?_⟩;refine⟨_,Y0.cellV 2 rfl hb_3 (t:=1) hx_3 rfl,?_⟩;refine⟨b_6,o_5,hb_4,q_7,q_8,?_⟩;refine⟨_,Y0.cellV 6 rfl hb_4 (t:=1) hx_4 rfl,?_⟩;refine bB (T _ (Hp.nil _)) (fun _ _ ⟨_,p,_⟩=>p.fr) (jQ (fun h=>by cases h) (jQ (fun h=>by cases h) iV)) ?_;rintro v3 hv8 ⟨r3,PP,rfl,T⟩;have F:Fr _ _ hv8:=F.trans PP.fr.nil;have fshv8:=F.size;have Y:Sy _ _ hv8 [_,_,_,_,_,_,_,_,_,_]:=Y.gr PP.fr;clear PP;refine⟨r3,rfl,?_⟩;refine⟨F,?_⟩;refine ao T (fun T=>?_) (fun T=>?_)
           ·exact⟨_,Y.pick [] rfl,rfl,T⟩
           ·exact cP hm_2 ⟨_,rfl,Y.pick [0,1,2,3,4,5,6,7,8,9] rfl,T.1,rfl⟩ T.2
         ·obtain⟨Iv3,m3,T0,T1⟩:=T;obtain⟨B_4,hB_4,YB⟩:=Y.cut [] [0,1,2,3,4,5,6,7,8,9] rfl;obtain⟨JJ_3,hJJ_3⟩:∃JJ_3:Nat->LP,JJ_3=(fun k_3 lz h'=>∃(i3:Int),lz=[.int .i64 i3]/\Sy h [] h' ([]++B_4)/\Iv3 i3/\m3 i3=k_3):=⟨_,rfl⟩;refine⟨fun lz h'=>∃k_3,JJ_3 k_3 lz h',Lm JJ_3,?_,?_⟩
          ·subst hJJ_3 hB_4;exact⟨_,_,rfl,YB,T0,rfl⟩
          ·clear YB T0 Y;intro i3 hv9 hI;obtain⟨k_3,hI,hm_3⟩:=fT hI;subst hJJ_3 hB_4;obtain⟨i3,e,Y,T,rfl⟩:=hI;cases e;replace T:=T1 i3 T;have Y:Sy _ _ _ [_,_,_,_,_,_,_,_,_,_]:=Y;refine ao T (fun T=>?_) (fun T=>?_)
           ·have Y0:=Y;have F:Fr [] hv9 hv9:=Fr.refl _ _;obtain⟨q_9,q_10,T⟩:=T;obtain⟨b_8,o_6,hb_5,hr_5,a_4,hx_5⟩:=Y0.atV 3 rfl q_9 q_10;refine⟨b_8,o_6,hb_5,q_9,q_10,?_⟩;replace T:=T a_4 hx_5;refine⟨_,Y0.cellV 3 rfl hb_5 (t:=0) hx_5 rfl,?_⟩;obtain⟨q_11,q_12,T⟩:=T;obtain⟨b_9,o_7,hb_6,hr_6,b_10,hx_6⟩:=Y0.atV 7 rfl q_11 q_12;refine⟨b_9,o_7,hb_6,q_11,q_12,?_⟩;replace T:=T b_10 hx_6;refine⟨_,Y0.cellV 7 rfl hb_6 (t:=0) hx_6 rfl,?_⟩;refine bB (T _ (Hp.nil _)) (fun _ _ ⟨_,p,_⟩=>p.fr) (jQ (fun h=>by cases h) (jQ (fun h=>by cases h) iV)) ?_;rintro v4 hv10 ⟨r4,PP,rfl,T⟩;have F:Fr _ _ hv10:=F.trans PP.fr.nil;have fshv10:=F.size;have Y:Sy _ _ hv10 [_,_,_,_,_,_,_,_,_,_]:=Y.gr PP.fr;clear PP;refine⟨r4,rfl,?_⟩;refine⟨F,?_⟩;refine ao T (fun T=>?_) (fun T=>?_)
            ·exact⟨_,Y.pick [] rfl,rfl,T⟩
            ·exact cP hm_3 ⟨_,rfl,Y.pick [0,1,2,3,4,5,6,7,8,9] rfl,T.1,rfl⟩ T.2
           ·exact⟨_,Y.pick [] rfl,rfl,T⟩
end Go.Proofs.YtlflalecmhgmjaaGreatDoor.N
