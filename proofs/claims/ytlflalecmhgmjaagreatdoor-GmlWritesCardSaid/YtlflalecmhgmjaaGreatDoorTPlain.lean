/- Functions: what is left to be shown of each, over memory and without: printed by program, tied to the loaded functions by the kernel. Conditions: none. -/
import Derived.Test.YtlflalecmhgmjaaGreatDoorWEnv
import Derived.Test.YtlflalecmhgmjaaGreatDoorYGl
import Derived.Test.YtlflalecmhgmjaaGreatDoorSRd
set_option linter.unusedVariables false
set_option linter.unusedSimpArgs false
open Go.IntKind (i64 u64 u8 i32)
namespace Go.Proofs.YtlflalecmhgmjaaGreatDoor.N
open Go.Proofs.YtlflalecmhgmjaaGreatDoor
open Go.X
set_option maxRecDepth 100000
set_option maxHeartbeats 2000000
def S66 (g:Int) (gA:Option Addr) (gL gC:Nat) (h:ab) (R:VP):Prop:=let f:ab:=h.push (.cells #[.int .i64 g,.slice gA gL gC] 24);let n:=fun(r:ab)=>(R (.bool false) r);cnd (decide (g<0)) (n f) (cnd (decide (g>1024)) (n f) (cnd (decide ((gL:Int)>(3072:Int))) (R (.bool false) f) (∃(i:LP) (p:List Value->ab->Nat),i [.int .i64 0] f/\∀a:Int,∀c,i [.int .i64 a] c->cnd (decide (a<(gL:Int))) (∃b o,gA=some ⟨b,o,none⟩/\0<=a/\a<(gL:Nat)/\∃k:Int,ac c b (o+(Int.toNat a)*2)=some (.int .i64 k)/\∃l:Int,ac c b ((o+(Int.toNat a)*2)+1)=some (.int .i64 l)/\let s:ab:=c.push (.cells #[.int .i64 0,.int .i64 0] 48);let t:ab:=ak (ak s c.size 0 (.int .i64 k)) c.size (0+1) (.int .i64 l);∃(j:LP) (q:List Value->ab->Nat),j [.int .i64 0] t/\∀e:Int,∀d,j [.int .i64 e] d->cnd (decide (e<2)) (0<=e/\e<(2:Int)/\∃m:Int,(#[.int .i64 k,.int .i64 l]:Array Value)[Int.toNat e]? =some (.int .i64 m)/\cnd (decide (m<0)) (R (.bool false) d) (cnd (decide (m>=g)) (R (.bool false) d) (j [.int .i64 (i64.wrap (e+1))] d/\q [.int .i64 (i64.wrap (e+1))] d<q [.int .i64 e] d))) (i [.int .i64 (i64.wrap (a+1))] d/\p [.int .i64 (i64.wrap (a+1))] d<p [.int .i64 a] c)) (R (.bool true) c))))
theorem Bt {h:ab} {R:VP} (g:Int) (gA:Option Addr) (gL gC:Nat) (H:S66 g gA gL gC h R):af Tryz.prog 66 #[.agg #[.int .i64 g,.slice gA gL gC]] h R:=aI [1,4] 42 [(0,⟨[1,22,23],[24],[1],[]⟩),(2,⟨[1,22,23,24,28],[29],[1],[]⟩)] [] [] [] Tryz.func66 (by kernel_rfl) (by kernel_rfl) H
def D2 (g:Int) (edgesV:List (Int × Int)) (R:Bool->Prop):Prop:=
 ∀(h:ab) (gA:Option Addr) (gL gC:Nat),Hp h [Ck.vw eP gA gL gC edgesV]->af Tryz.prog 66 #[.agg #[.int .i64 g,.slice gA gL gC]] h fun v h'=>∃(rV:Bool),Sy h [] h' []/\v= .bool rV/\R rV
def T66 (g:Int) (edgesV:List (Int × Int)) (R:Bool->Prop):Prop:=∃e:Prop,(cnd (decide (g<0)) (e) (cnd (decide (g>1024)) (e) (cnd (decide ((edgesV.length:Int)>(3072:Int))) (R false) (∃(c:Int->Prop) (i:Int->Nat),c 0/\∀a:Int,c a->cnd (decide (a<(edgesV.length:Int))) (0<=a/\a<(edgesV.length:Int)/\∀f:(Int × Int),edgesV[(Int.toNat a)]? =some f->∃(d:Int->Prop) (j:Int->Nat),d 0/\∀b:Int,d b->cnd (decide (b<2)) (0<=b/\b<(2:Int)/\∃h:Int,(#[.int .i64 f.1,.int .i64 f.2]:Array Value)[Int.toNat b]? =some (.int .i64 h)/\cnd (decide (h<0)) (R false) (cnd (decide (h>=g)) (R false) (d (i64.wrap (b+1))/\j (i64.wrap (b+1))<j b))) (c (i64.wrap (a+1))/\i (i64.wrap (a+1))<i a)) (R true)))))/\(e->R false)
theorem Jr {g edgesV} {R:Bool->Prop} (T:T66 g edgesV R):D2 g edgesV R:=by
 intro h gA gL gC H;have Y:Sy h [] h _:=Sy.startM H rfl;obtain rfl:=Y.lenV 0 rfl;apply Bt;unfold S66;unfold T66 at T;intro hv;have Y:Sy _ _ hv [_,_]:=Y.junk _;clear_value hv;obtain⟨Jv,T0,T1⟩:=T;obtain⟨B,hB,_⟩:=Y.cut [] [0,1] rfl;intro K;have hK:∀(hv2:ab),(Sy h [] hv2 ([]++B)/\Jv)->K hv2:=by
  subst hB;clear T0 Y;rintro hv2 ⟨Y,T⟩;replace T:=T1 T;have Y:Sy _ _ _ [_,_]:=Y;unfold K;exact⟨_,Y.pick [] rfl,rfl,T⟩
 subst hB;replace T:=T0;clear T0 T1;refine ae T (fun T=>?_) (fun T=>?_)
 ·exact hK _ ⟨Y.pick [0,1] rfl,T⟩
 ·refine ae T (fun T=>?_) (fun T=>?_)
  ·exact hK _ ⟨Y.pick [0,1] rfl,T⟩
  ·refine ae T (fun T=>?_) (fun T=>?_)
   ·exact⟨_,Y.pick [] rfl,rfl,T⟩
   ·obtain⟨Iv,m,T0,T1⟩:=T;obtain⟨B_2,hB_2,YB⟩:=Y.cut [] [0,1] rfl;obtain⟨JJ,hJJ⟩:∃JJ:Nat->LP,JJ=(fun k lz h'=>∃(x:Int),lz=[.int .i64 x]/\Sy h [] h' ([]++B_2)/\Iv x/\m x=k):=⟨_,rfl⟩;refine⟨fun lz h'=>∃k,JJ k lz h',Lm JJ,?_,?_⟩
    ·subst hJJ hB_2;exact⟨_,_,rfl,YB,T0,rfl⟩
    ·clear YB T0 Y;intro x hv3 hI;obtain⟨k,hI,hm⟩:=bT hI;subst hJJ hB_2;obtain⟨x,e,Y,T,rfl⟩:=hI;cases e;replace T:=T1 x T;have Y:Sy _ _ _ [_,_]:=Y;refine ae T (fun T=>?_) (fun T=>?_)
     ·obtain⟨q,q_2,T⟩:=T;obtain⟨b_2,o_2,hb,hr,g_2,hx⟩:=Y.atV 0 rfl q q_2;refine⟨b_2,o_2,hb,q,q_2,?_⟩;replace T:=T g_2 hx;refine⟨_,Y.cellV 0 rfl hb (t:=0) hx rfl,?_⟩;refine⟨_,Y.cellV 0 rfl hb (t:=1) hx rfl,?_⟩;intro hv4;have Y:Sy _ _ hv4 [_,_,_]:=Y.junk _;clear_value hv4;intro hv5;have Y:Sy _ _ hv5 [_,_,_]:=((Y.stJ 2 rfl _ _).stJ 2 rfl _ _);clear_value hv5;obtain⟨Iv2,m2,T0,T1⟩:=T;obtain⟨B_3,hB_3,YB⟩:=Y.cut [] [0,1,2] rfl;obtain⟨JJ_2,hJJ_2⟩:∃JJ_2:Nat->LP,JJ_2=(fun k_2 lz h'=>∃(x4:Int),lz=[.int .i64 x4]/\Sy h [] h' ([]++B_3)/\Iv2 x4/\m2 x4=k_2):=⟨_,rfl⟩;refine⟨fun lz h'=>∃k_2,JJ_2 k_2 lz h',Lm JJ_2,?_,?_⟩
      ·subst hJJ_2 hB_3;exact⟨_,_,rfl,YB,T0,rfl⟩
      ·clear YB T0 Y;intro x4 hv6 hI;obtain⟨k_2,hI,hm_2⟩:=bT hI;subst hJJ_2 hB_3;obtain⟨x4,e,Y,T,rfl⟩:=hI;cases e;replace T:=T1 x4 T;have Y:Sy _ _ _ [_,_,_]:=Y;refine ae T (fun T=>?_) (fun T=>?_)
       ·obtain⟨q_3,q_4,x5,q_5,T⟩:=T;refine⟨q_3,q_4,x5,q_5,?_⟩;refine ae T (fun T=>?_) (fun T=>?_)
        ·exact⟨_,Y.pick [] rfl,rfl,T⟩
        ·refine ae T (fun T=>?_) (fun T=>?_)
         ·exact⟨_,Y.pick [] rfl,rfl,T⟩
         ·exact bi hm_2 ⟨_,rfl,Y.pick [0,1,2] rfl,T.1,rfl⟩ T.2
       ·exact bi hm ⟨_,rfl,Y.pick [0,1] rfl,T.1,rfl⟩ T.2
     ·exact⟨_,Y.pick [] rfl,rfl,T⟩
def S67 (length n:Int) (h:ab) (R:VP):Prop:=cnd (length==0) (R (.bool true) h) (R (.bool (length==n)) h)
theorem Bu {h:ab} {R:VP} (length n:Int) (H:S67 length n h R):af Tryz.prog 67 #[.int .i64 length,.int .i64 n] h R:=aI [] 12 [] [] [] [] Tryz.func67 (by kernel_rfl) (by kernel_rfl) H
def yG (length n:Int) (R:Bool->Prop):Prop:=
 ∀(h:ab),Hp h []->af Tryz.prog 67 #[.int .i64 length,.int .i64 n] h fun v h'=>∃(rV:Bool),Sy h [] h' []/\v= .bool rV/\R rV
def T67 (length n:Int) (R:Bool->Prop):Prop:=cnd (length==0) (R true) (R (length==n))
theorem Js {length n} {R:Bool->Prop} (T:T67 length n R):yG length n R:=by
 intro h H;have Y:Sy h [] h _:=Sy.startM H rfl;apply Bu;unfold S67;unfold T67 at T;refine ae T (fun T=>?_) (fun T=>?_)
 ·exact⟨_,Y.pick [] rfl,rfl,T⟩
 ·exact⟨_,Y.pick [] rfl,rfl,T⟩
def HG (s:ByteArray) (R:Bool->Prop):Prop:=
 ∀(h:ab),Hp h []->af Tryz.prog 68 #[.string s] h fun v h'=>∃(rV:Bool),Sy h [] h' []/\v= .bool rV/\R rV
def S25 (d:Int) (dA:Option Addr) (dL dC:Nat) (d2:Bool) (dA2:Option Addr) (dL2 dC2:Nat) (dA3:Option Addr) (dL3 dC3:Nat) (dA4:Option Addr) (dL4 dC4:Nat) (h:ab) (R:VP):Prop:=let u:ab:=h.push (.cells #[.int .i64 d,.slice dA dL dC,.bool d2,.slice dA2 dL2 dC2,.slice dA3 dL3 dC3,.slice dA4 dL4 dC4] 29);let f:=fun(v:ab)=>(R (.bool false) v);ah Tryz.prog 66 #[.agg #[.int .i64 d,.slice dA dL dC]] u [h.size] fun w i=>∃n:Bool,w= .bool n/\cnd (!n) (f i) (ah Tryz.prog 67 #[.int .i64 (dL2:Int),.int .i64 d] i [h.size] fun x j=>∃p:Bool,x= .bool p/\cnd (!p) (f j) (ah Tryz.prog 67 #[.int .i64 (dL3:Int),.int .i64 d] j [h.size] fun y k=>∃q:Bool,y= .bool q/\cnd (!q) (f k) (ah Tryz.prog 67 #[.int .i64 (dL4:Int),.int .i64 (dL:Int)] k [h.size] fun z l=>∃r:Bool,z= .bool r/\cnd (!r) (R (.bool false) l) (∃(e:LP) (m:List Value->ab->Nat),e [.int .i64 0] l/\∀a:Int,∀c,e [.int .i64 a] c->cnd (decide (a<(dL2:Int))) (∃b o,dA2=some ⟨b,o,none⟩/\0<=a/\a<(dL2:Nat)/\∃t:ByteArray,ac c b (o+(Int.toNat a)*1)=some (.string t)/\ah Tryz.prog 68 #[.string t] c [] fun A g=>∃s:Bool,A= .bool s/\cnd (!s) (R (.bool false) g) (e [.int .i64 (i64.wrap (a+1))] g/\m [.int .i64 (i64.wrap (a+1))] g<m [.int .i64 a] c)) (R (.bool true) c)))))
theorem Bv {h:ab} {R:VP} (d:Int) (dA:Option Addr) (dL dC:Nat) (d2:Bool) (dA2:Option Addr) (dL2 dC2:Nat) (dA3:Option Addr) (dL3 dC3:Nat) (dA4:Option Addr) (dL4 dC4:Nat) (H:S25 d dA dL dC d2 dA2 dL2 dC2 dA3 dL3 dC3 dA4 dL4 dC4 h R):af Tryz.prog 25 #[.agg #[.int .i64 d,.slice dA dL dC,.bool d2,.slice dA2 dL2 dC2,.slice dA3 dL3 dC3,.slice dA4 dL4 dC4]] h R:=aI [1] 51 [(0,⟨[41,42],[43],[],[]⟩)] [] [] [] Tryz.func25 (by kernel_rfl) (by kernel_rfl) H
def HH (d:Int) (edgesV:List (Int × Int)) (d2:Bool) (labelsV:List ByteArray) (atV:List (Nat × Nat)) (weightV:List Nat) (R:Bool->Prop):Prop:=
 ∀(h:ab) (dA:Option Addr) (dL dC:Nat) (dA2:Option Addr) (dL2 dC2:Nat) (dA3:Option Addr) (dL3 dC3:Nat) (dA4:Option Addr) (dL4 dC4:Nat),Hp h [Ck.vw eP dA dL dC edgesV,Ck.vw eS dA2 dL2 dC2 labelsV,Ck.vw eFF dA3 dL3 dC3 atV,Ck.vw eF dA4 dL4 dC4 weightV]->af Tryz.prog 25 #[.agg #[.int .i64 d,.slice dA dL dC,.bool d2,.slice dA2 dL2 dC2,.slice dA3 dL3 dC3,.slice dA4 dL4 dC4]] h fun v h'=>∃(rV:Bool),Sy h [] h' []/\v= .bool rV/\R rV
def T25 (d:Int) (edgesV:List (Int × Int)) (d2:Bool) (labelsV:List ByteArray) (atV:List (Nat × Nat)) (weightV:List Nat) (R:Bool->Prop):Prop:=∃b:Prop,(D2 d edgesV (fun g=>cnd (!g) (b) (yG (labelsV.length:Int) d (fun h=>cnd (!h) (b) (yG (atV.length:Int) d (fun i=>cnd (!i) (b) (yG (weightV.length:Int) (edgesV.length:Int) (fun j=>cnd (!j) (R false) (∃(c:Int->Prop) (f:Int->Nat),c 0/\∀a:Int,c a->cnd (decide (a<(labelsV.length:Int))) (0<=a/\a<(labelsV.length:Int)/\∀e:ByteArray,labelsV[(Int.toNat a)]? =some e->HG e (fun k=>cnd (!k) (R false) (c (i64.wrap (a+1))/\f (i64.wrap (a+1))<f a))) (R true))))))))))/\(b->R false)
theorem Jt {d edgesV d2 labelsV atV weightV} {R:Bool->Prop} (T:T25 d edgesV d2 labelsV atV weightV R):HH d edgesV d2 labelsV atV weightV R:=by
 intro h dA dL dC dA2 dL2 dC2 dA3 dL3 dC3 dA4 dL4 dC4 H;have Y:Sy h [] h _:=Sy.startM H rfl;obtain rfl:=Y.lenV 0 rfl;obtain rfl:=Y.lenV 1 rfl;obtain rfl:=Y.lenV 2 rfl;obtain rfl:=Y.lenV 3 rfl;apply Bv;unfold S25;unfold T25 at T;intro hv;have Y:Sy _ _ hv [_,_,_,_,_]:=Y.junk _;clear_value hv;obtain⟨Jv,T0,T1⟩:=T;obtain⟨B,hB,_⟩:=Y.cut [] [0,1,2,3,4] rfl;intro K;have hK:∀(hv6:ab),(Sy h [] hv6 ([]++B)/\Jv)->K hv6:=by
  subst hB;clear T0 Y;rintro hv6 ⟨Y,T⟩;replace T:=T1 T;have Y:Sy _ _ _ [_,_,_,_,_]:=Y;unfold K;exact⟨_,Y.pick [] rfl,rfl,T⟩
 subst hB;replace T:=T0;clear T0 T1;refine aj (T _ _ _ _ (Y.pick [0] rfl).hp) (fun _ _ ⟨_,p,_⟩=>p.fr) (bq (fun h=>by cases h) aF) ?_;rintro v hv2 ⟨r,PP,rfl,T⟩;have Y:Sy _ _ hv2 [_,_,_,_,_]:=Y.gr PP.fr;clear PP;refine⟨r,rfl,?_⟩;refine ae T (fun T=>?_) (fun T=>?_)
 ·exact hK _ ⟨Y.pick [0,1,2,3,4] rfl,T⟩
 ·refine aj (T _ (Hp.nil _)) (fun _ _ ⟨_,p,_⟩=>p.fr) (bq (fun h=>by cases h) aF) ?_;rintro v2 hv3 ⟨r2,PP,rfl,T⟩;have Y:Sy _ _ hv3 [_,_,_,_,_]:=Y.gr PP.fr;clear PP;refine⟨r2,rfl,?_⟩;refine ae T (fun T=>?_) (fun T=>?_)
  ·exact hK _ ⟨Y.pick [0,1,2,3,4] rfl,T⟩
  ·refine aj (T _ (Hp.nil _)) (fun _ _ ⟨_,p,_⟩=>p.fr) (bq (fun h=>by cases h) aF) ?_;rintro v3 hv4 ⟨r3,PP,rfl,T⟩;have Y:Sy _ _ hv4 [_,_,_,_,_]:=Y.gr PP.fr;clear PP;refine⟨r3,rfl,?_⟩;refine ae T (fun T=>?_) (fun T=>?_)
   ·exact hK _ ⟨Y.pick [0,1,2,3,4] rfl,T⟩
   ·refine aj (T _ (Hp.nil _)) (fun _ _ ⟨_,p,_⟩=>p.fr) (bq (fun h=>by cases h) aF) ?_;rintro v4 hv5 ⟨r4,PP,rfl,T⟩;have Y:Sy _ _ hv5 [_,_,_,_,_]:=Y.gr PP.fr;clear PP;refine⟨r4,rfl,?_⟩;refine ae T (fun T=>?_) (fun T=>?_)
    ·exact⟨_,Y.pick [] rfl,rfl,T⟩
    ·obtain⟨Iv,m,T0,T1⟩:=T;obtain⟨B_2,hB_2,YB⟩:=Y.cut [] [0,1,2,3,4] rfl;obtain⟨JJ,hJJ⟩:∃JJ:Nat->LP,JJ=(fun k lz h'=>∃(x:Int),lz=[.int .i64 x]/\Sy h [] h' ([]++B_2)/\Iv x/\m x=k):=⟨_,rfl⟩;refine⟨fun lz h'=>∃k,JJ k lz h',Lm JJ,?_,?_⟩
     ·subst hJJ hB_2;exact⟨_,_,rfl,YB,T0,rfl⟩
     ·clear YB T0 Y;intro x hv7 hI;obtain⟨k,hI,hm⟩:=bT hI;subst hJJ hB_2;obtain⟨x,e,Y,T,rfl⟩:=hI;cases e;replace T:=T1 x T;have Y:Sy _ _ _ [_,_,_,_,_]:=Y;refine ae T (fun T=>?_) (fun T=>?_)
      ·obtain⟨q,q_2,T⟩:=T;obtain⟨b_2,o_2,hb,hr,d_2,hx⟩:=Y.atV 1 rfl q q_2;refine⟨b_2,o_2,hb,q,q_2,?_⟩;replace T:=T d_2 hx;refine⟨_,Y.cellV 1 rfl hb (t:=0) hx rfl,?_⟩;refine aj (T _ (Hp.nil _)) (fun _ _ ⟨_,p,_⟩=>p.fr) aF ?_;rintro v5 hv8 ⟨r5,PP,rfl,T⟩;have Y:Sy _ _ hv8 [_,_,_,_,_]:=Y.gr PP.fr;clear PP;refine⟨r5,rfl,?_⟩;refine ae T (fun T=>?_) (fun T=>?_)
       ·exact⟨_,Y.pick [] rfl,rfl,T⟩
       ·exact bi hm ⟨_,rfl,Y.pick [0,1,2,3,4] rfl,T.1,rfl⟩ T.2
      ·exact⟨_,Y.pick [] rfl,rfl,T⟩
def S33 (g:Int) (gA:Option Addr) (gL gC:Nat) (h:ab) (R:VP):Prop:=let e:ab:=h.push (.cells #[.int .i64 g,.slice gA gL gC] 24);let k:=fun(q:ab)=>(R (.bool false) q);cnd (decide (g<0)) (k e) (cnd (decide (g>1024)) (k e) (cnd (decide ((gL:Int)>(3072:Int))) (R (.bool false) e) (∃(i:LP) (l:List Value->ab->Nat),i [.int .i64 0] e/\∀a:Int,∀f,i [.int .i64 a] f->cnd (decide (a<(gL:Int))) (∃(j:LP) (m:List Value->ab->Nat),j [.int .i64 0] f/\∀c:Int,∀d,j [.int .i64 c] d->cnd (decide (c<2)) (∃b o,gA=some ⟨b,o,none⟩/\0<=a/\a<(gL:Nat)/\0<=c/\c<(2:Int)/\∃n:Int,ac d b ((o+(Int.toNat a)*2)+(Int.toNat c)*1)=some (.int .i64 n)/\cnd (decide (n<0)) (R (.bool false) d) (∃b2 o2,gA=some ⟨b2,o2,none⟩/\0<=a/\a<(gL:Nat)/\0<=c/\c<(2:Int)/\∃p:Int,ac d b2 ((o2+(Int.toNat a)*2)+(Int.toNat c)*1)=some (.int .i64 p)/\cnd (decide (p>=g)) (R (.bool false) d) (j [.int .i64 (i64.wrap (c+1))] d/\m [.int .i64 (i64.wrap (c+1))] d<m [.int .i64 c] d))) (i [.int .i64 (i64.wrap (a+1))] d/\l [.int .i64 (i64.wrap (a+1))] d<l [.int .i64 a] f)) (R (.bool true) f))))
theorem Bz {h:ab} {R:VP} (g:Int) (gA:Option Addr) (gL gC:Nat) (H:S33 g gA gL gC h R):af Tryz.prog 33 #[.agg #[.int .i64 g,.slice gA gL gC]] h R:=aI [1] 50 [(0,⟨[1],[3],[1],[]⟩),(2,⟨[1,3],[4],[1],[]⟩)] [] [] [(9,⟨20,false⟩)] Tryz.func33 (by kernel_rfl) (by kernel_rfl) H
def BA (g:Int) (edgesV:List (Int × Int)) (R:Bool->Prop):Prop:=
 ∀(h:ab) (gA:Option Addr) (gL gC:Nat),Hp h [Ck.vw eP gA gL gC edgesV]->af Tryz.prog 33 #[.agg #[.int .i64 g,.slice gA gL gC]] h fun v h'=>∃(rV:Bool),Sy h [] h' []/\v= .bool rV/\R rV
def T33 (g:Int) (edgesV:List (Int × Int)) (R:Bool->Prop):Prop:=∃e:Prop,(cnd (decide (g<0)) (e) (cnd (decide (g>1024)) (e) (cnd (decide ((edgesV.length:Int)>(3072:Int))) (R false) (∃(c:Int->Prop) (h:Int->Nat),c 0/\∀b:Int,c b->cnd (decide (b<(edgesV.length:Int))) (∃(d:Int->Prop) (i:Int->Nat),d 0/\∀a:Int,d a->cnd (decide (a<2)) (0<=b/\b<(edgesV.length:Int)/\0<=a/\a<(2:Int)/\∀f:(Int × Int),edgesV[(Int.toNat b)]? =some f->cnd (decide ((gD f a)<(0:Int))) (R false) (0<=a/\a<(2:Int)/\cnd (decide ((gD f a)>=g)) (R false) (d (i64.wrap (a+1))/\i (i64.wrap (a+1))<i a))) (c (i64.wrap (b+1))/\h (i64.wrap (b+1))<h b)) (R true)))))/\(e->R false)
theorem Jw {g edgesV} {R:Bool->Prop} (T:T33 g edgesV R):BA g edgesV R:=by
 intro h gA gL gC H;have Y:Sy h [] h _:=Sy.startM H rfl;obtain rfl:=Y.lenV 0 rfl;apply Bz;unfold S33;unfold T33 at T;intro hv;have Y:Sy _ _ hv [_,_]:=Y.junk _;clear_value hv;obtain⟨Jv,T0,T1⟩:=T;obtain⟨B,hB,_⟩:=Y.cut [] [0,1] rfl;intro K;have hK:∀(hv2:ab),(Sy h [] hv2 ([]++B)/\Jv)->K hv2:=by
  subst hB;clear T0 Y;rintro hv2 ⟨Y,T⟩;replace T:=T1 T;have Y:Sy _ _ _ [_,_]:=Y;unfold K;exact⟨_,Y.pick [] rfl,rfl,T⟩
 subst hB;replace T:=T0;clear T0 T1;refine ae T (fun T=>?_) (fun T=>?_)
 ·exact hK _ ⟨Y.pick [0,1] rfl,T⟩
 ·refine ae T (fun T=>?_) (fun T=>?_)
  ·exact hK _ ⟨Y.pick [0,1] rfl,T⟩
  ·refine ae T (fun T=>?_) (fun T=>?_)
   ·exact⟨_,Y.pick [] rfl,rfl,T⟩
   ·obtain⟨Iv,m,T0,T1⟩:=T;obtain⟨B_2,hB_2,YB⟩:=Y.cut [] [0,1] rfl;obtain⟨JJ,hJJ⟩:∃JJ:Nat->LP,JJ=(fun k_2 lz h'=>∃(i:Int),lz=[.int .i64 i]/\Sy h [] h' ([]++B_2)/\Iv i/\m i=k_2):=⟨_,rfl⟩;refine⟨fun lz h'=>∃k_2,JJ k_2 lz h',Lm JJ,?_,?_⟩
    ·subst hJJ hB_2;exact⟨_,_,rfl,YB,T0,rfl⟩
    ·clear YB T0 Y;intro i hv3 hI;obtain⟨k_2,hI,hm⟩:=bT hI;subst hJJ hB_2;obtain⟨i,e,Y,T,rfl⟩:=hI;cases e;replace T:=T1 i T;have Y:Sy _ _ _ [_,_]:=Y;refine ae T (fun T=>?_) (fun T=>?_)
     ·obtain⟨Iv2,m2,T0,T1⟩:=T;obtain⟨B_3,hB_3,YB⟩:=Y.cut [] [0,1] rfl;obtain⟨JJ_2,hJJ_2⟩:∃JJ_2:Nat->LP,JJ_2=(fun k_3 lz h'=>∃(k:Int),lz=[.int .i64 k]/\Sy h [] h' ([]++B_3)/\Iv2 k/\m2 k=k_3):=⟨_,rfl⟩;refine⟨fun lz h'=>∃k_3,JJ_2 k_3 lz h',Lm JJ_2,?_,?_⟩
      ·subst hJJ_2 hB_3;exact⟨_,_,rfl,YB,T0,rfl⟩
      ·clear YB T0 Y;intro k hv4 hI;obtain⟨k_3,hI,hm_2⟩:=bT hI;subst hJJ_2 hB_3;obtain⟨k,e,Y,T,rfl⟩:=hI;cases e;replace T:=T1 k T;have Y:Sy _ _ _ [_,_]:=Y;refine ae T (fun T=>?_) (fun T=>?_)
       ·have Y0:=Y;have F:Fr [] hv4 hv4:=Fr.refl _ _;obtain⟨q,q_2,T⟩:=T;obtain⟨b_2,o_2,hb,hr,g_2,hx⟩:=Y0.atV 0 rfl q q_2;refine⟨b_2,o_2,hb,q,q_2,?_⟩;obtain⟨q_5,q_6,T⟩:=T;refine⟨q_5,q_6,?_⟩;replace T:=T g_2 hx;refine⟨_,oD (Y0.cellV 0 rfl hb (t:=0) hx rfl) (Y0.cellV 0 rfl hb (t:=1) hx rfl) (by assumption) (by assumption),?_⟩;refine ae T (fun T=>?_) (fun T=>?_)
        ·exact⟨_,Y.pick [] rfl,rfl,T⟩
        ·refine⟨b_2,o_2,hb,q,q_2,?_⟩;obtain⟨q_3,q_4,T⟩:=T;refine⟨q_3,q_4,?_⟩;refine⟨_,oD (Y0.cellV 0 rfl hb (t:=0) hx rfl) (Y0.cellV 0 rfl hb (t:=1) hx rfl) (by assumption) (by assumption),?_⟩;refine ae T (fun T=>?_) (fun T=>?_)
         ·exact⟨_,Y.pick [] rfl,rfl,T⟩
         ·exact bi hm_2 ⟨_,rfl,Y.pick [0,1] rfl,T.1,rfl⟩ T.2
       ·exact bi hm ⟨_,rfl,Y.pick [0,1] rfl,T.1,rfl⟩ T.2
     ·exact⟨_,Y.pick [] rfl,rfl,T⟩
def S35 (a:Int) (aA:Option Addr) (aL aC:Nat) (b:Int) (bA:Option Addr) (bL bC:Nat) (h:ab) (R:VP):Prop:=let m:ab:=h.push (.cells #[.int .i64 a,.slice aA aL aC] 24);let f:ab:=m.push (.cells #[.int .i64 b,.slice bA bL bC] 24);cnd (a != b) (R (.bool false) f) (cnd ((aL:Int) != (bL:Int)) (R (.bool false) f) (∃(e:LP) (g:List Value->ab->Nat),e [.int .i64 0] f/\∀c:Int,∀d,e [.int .i64 c] d->cnd (decide (c<(aL:Int))) (∃b2 o,aA=some ⟨b2,o,none⟩/\0<=c/\c<(aL:Nat)/\∃i:Int,ac d b2 (o+(Int.toNat c)*2)=some (.int .i64 i)/\∃j:Int,ac d b2 ((o+(Int.toNat c)*2)+1)=some (.int .i64 j)/\∃b3 o2,bA=some ⟨b3,o2,none⟩/\0<=c/\c<(bL:Nat)/\∃k:Int,ac d b3 (o2+(Int.toNat c)*2)=some (.int .i64 k)/\∃l:Int,ac d b3 ((o2+(Int.toNat c)*2)+1)=some (.int .i64 l)/\cnd (!((i==k)&&(j==l))) (R (.bool false) d) (e [.int .i64 (i64.wrap (c+1))] d/\g [.int .i64 (i64.wrap (c+1))] d<g [.int .i64 c] d)) (R (.bool true) d)))
theorem BB {h:ab} {R:VP} (a:Int) (aA:Option Addr) (aL aC:Nat) (b:Int) (bA:Option Addr) (bL bC:Nat) (H:S35 a aA aL aC b bA bL bC h R):af Tryz.prog 35 #[.agg #[.int .i64 a,.slice aA aL aC],.agg #[.int .i64 b,.slice bA bL bC]] h R:=aI [2,3] 38 [(0,⟨[2,3],[5],[2,3],[]⟩)] [] [] [(6,⟨11,false⟩)] Tryz.func35 (by kernel_rfl) (by kernel_rfl) H
def Ef (a:Int) (edgesV:List (Int × Int)) (b:Int) (edgesV2:List (Int × Int)) (R:Bool->Prop):Prop:=
 ∀(h:ab) (aA:Option Addr) (aL aC:Nat) (bA:Option Addr) (bL bC:Nat),Hp h [Ck.vw eP aA aL aC edgesV,Ck.vw eP bA bL bC edgesV2]->af Tryz.prog 35 #[.agg #[.int .i64 a,.slice aA aL aC],.agg #[.int .i64 b,.slice bA bL bC]] h fun v h'=>∃(rV:Bool),Sy h [] h' []/\v= .bool rV/\R rV
def T35 (a:Int) (edgesV:List (Int × Int)) (b:Int) (edgesV2:List (Int × Int)) (R:Bool->Prop):Prop:=cnd (a != b) (R false) (cnd ((edgesV.length:Int) != (edgesV2.length:Int)) (R false) (∃(d:Int->Prop) (g:Int->Nat),d 0/\∀c:Int,d c->cnd (decide (c<(edgesV.length:Int))) (0<=c/\c<(edgesV.length:Int)/\∀e:(Int × Int),edgesV[(Int.toNat c)]? =some e->0<=c/\c<(edgesV2.length:Int)/\∀f:(Int × Int),edgesV2[(Int.toNat c)]? =some f->cnd (!((e.1==f.1)&&(e.2==f.2))) (R false) (d (i64.wrap (c+1))/\g (i64.wrap (c+1))<g c)) (R true)))
theorem Jx {a edgesV b edgesV2} {R:Bool->Prop} (T:T35 a edgesV b edgesV2 R):Ef a edgesV b edgesV2 R:=by
 intro h aA aL aC bA bL bC H;have Y:Sy h [] h _:=Sy.startM H rfl;obtain rfl:=Y.lenV 0 rfl;obtain rfl:=Y.lenV 1 rfl;apply BB;unfold S35;unfold T35 at T;intro hv;have Y:Sy _ _ hv [_,_,_]:=Y.junk _;clear_value hv;intro hv2;have Y:Sy _ _ hv2 [_,_,_,_]:=Y.junk _;clear_value hv2;refine ae T (fun T=>?_) (fun T=>?_)
 ·exact⟨_,Y.pick [] rfl,rfl,T⟩
 ·refine ae T (fun T=>?_) (fun T=>?_)
  ·exact⟨_,Y.pick [] rfl,rfl,T⟩
  ·obtain⟨Iv,m,T0,T1⟩:=T;obtain⟨B,hB,YB⟩:=Y.cut [] [0,1,2,3] rfl;obtain⟨JJ,hJJ⟩:∃JJ:Nat->LP,JJ=(fun k lz h'=>∃(i:Int),lz=[.int .i64 i]/\Sy h [] h' ([]++B)/\Iv i/\m i=k):=⟨_,rfl⟩;refine⟨fun lz h'=>∃k,JJ k lz h',Lm JJ,?_,?_⟩
   ·subst hJJ hB;exact⟨_,_,rfl,YB,T0,rfl⟩
   ·clear YB T0 Y;intro i hv3 hI;obtain⟨k,hI,hm⟩:=bT hI;subst hJJ hB;obtain⟨i,e,Y,T,rfl⟩:=hI;cases e;replace T:=T1 i T;have Y:Sy _ _ _ [_,_,_,_]:=Y;refine ae T (fun T=>?_) (fun T=>?_)
    ·have Y0:=Y;have F:Fr [] hv3 hv3:=Fr.refl _ _;obtain⟨q,q_2,T⟩:=T;obtain⟨b_2,o_2,hb,hr,a_2,hx⟩:=Y0.atV 0 rfl q q_2;refine⟨b_2,o_2,hb,q,q_2,?_⟩;replace T:=T a_2 hx;refine⟨_,Y0.cellV 0 rfl hb (t:=0) hx rfl,?_⟩;refine⟨_,Y0.cellV 0 rfl hb (t:=1) hx rfl,?_⟩;obtain⟨q_3,q_4,T⟩:=T;obtain⟨b_3,o_3,hb_2,hr_2,b_4,hx_2⟩:=Y0.atV 1 rfl q_3 q_4;refine⟨b_3,o_3,hb_2,q_3,q_4,?_⟩;replace T:=T b_4 hx_2;refine⟨_,Y0.cellV 1 rfl hb_2 (t:=0) hx_2 rfl,?_⟩;refine⟨_,Y0.cellV 1 rfl hb_2 (t:=1) hx_2 rfl,?_⟩;refine ae T (fun T=>?_) (fun T=>?_)
     ·exact⟨_,Y.pick [] rfl,rfl,T⟩
     ·exact bi hm ⟨_,rfl,Y.pick [0,1,2,3] rfl,T.1,rfl⟩ T.2
    ·exact⟨_,Y.pick [] rfl,rfl,T⟩
def Ic (s1A:Option Addr) (s1L s1C:Nat) (s2A:Option Addr) (s2L s2C:Nat) (h:ab) (R:VP):Prop:=cnd ((s1L:Int) != (s2L:Int)) (R (.bool false) h) (∃(d:LP) (e:List Value->ab->Nat),d [.int .i64 0] h/\∀a:Int,∀c,d [.int .i64 a] c->cnd (decide (a<(s1L:Int))) (∃b o,s1A=some ⟨b,o,none⟩/\0<=a/\a<(s1L:Nat)/\∃f:Int,ac c b (o+(Int.toNat a)*2)=some (.int .i64 f)/\∃g:Int,ac c b ((o+(Int.toNat a)*2)+1)=some (.int .i64 g)/\∃b2 o2,s2A=some ⟨b2,o2,none⟩/\0<=a/\a<(s2L:Nat)/\∃i:Int,ac c b2 (o2+(Int.toNat a)*2)=some (.int .i64 i)/\∃j:Int,ac c b2 ((o2+(Int.toNat a)*2)+1)=some (.int .i64 j)/\cnd (!((f==i)&&(g==j))) (R (.bool false) c) (d [.int .i64 (i64.wrap (a+1))] c/\e [.int .i64 (i64.wrap (a+1))] c<e [.int .i64 a] c)) (R (.bool true) c))
theorem zc {h:ab} {R:VP} (s1A:Option Addr) (s1L s1C:Nat) (s2A:Option Addr) (s2L s2C:Nat) (H:Ic s1A s1L s1C s2A s2L s2C h R):af Tryz.prog 113 #[.slice s1A s1L s1C,.slice s2A s2L s2C] h R:=aI [] 26 [(0,⟨[0,1,12],[13],[],[]⟩)] [] [] [(6,⟨9,false⟩)] Tryz.func113 (by kernel_rfl) (by kernel_rfl) H
def zd (s1V:List (Int × Int)) (s2V:List (Int × Int)) (R:Bool->Prop):Prop:=
 ∀(h:ab) (s1A:Option Addr) (s1L s1C:Nat) (s2A:Option Addr) (s2L s2C:Nat),Hp h [Ck.vw eP s1A s1L s1C s1V,Ck.vw eP s2A s2L s2C s2V]->af Tryz.prog 113 #[.slice s1A s1L s1C,.slice s2A s2L s2C] h fun v h'=>∃(rV:Bool),Sy h [] h' []/\v= .bool rV/\R rV
def Eg (s1V:List (Int × Int)) (s2V:List (Int × Int)) (R:Bool->Prop):Prop:=cnd ((s1V.length:Int) != (s2V.length:Int)) (R false) (∃(b:Int->Prop) (e:Int->Nat),b 0/\∀a:Int,b a->cnd (decide (a<(s1V.length:Int))) (0<=a/\a<(s1V.length:Int)/\∀c:(Int × Int),s1V[(Int.toNat a)]? =some c->0<=a/\a<(s2V.length:Int)/\∀d:(Int × Int),s2V[(Int.toNat a)]? =some d->cnd (!((c.1==d.1)&&(c.2==d.2))) (R false) (b (i64.wrap (a+1))/\e (i64.wrap (a+1))<e a)) (R true))
theorem Ie {s1V s2V} {R:Bool->Prop} (T:Eg s1V s2V R):zd s1V s2V R:=by
 intro h s1A s1L s1C s2A s2L s2C H;have Y:Sy h [] h _:=Sy.startM H rfl;obtain rfl:=Y.lenV 0 rfl;obtain rfl:=Y.lenV 1 rfl;apply zc;unfold Ic;unfold Eg at T;refine ae T (fun T=>?_) (fun T=>?_)
 ·exact⟨_,Y.pick [] rfl,rfl,T⟩
 ·obtain⟨Iv,m,T0,T1⟩:=T;obtain⟨B,hB,YB⟩:=Y.cut [] [0,1] rfl;obtain⟨JJ,hJJ⟩:∃JJ:Nat->LP,JJ=(fun k lz h'=>∃(x:Int),lz=[.int .i64 x]/\Sy h [] h' ([]++B)/\Iv x/\m x=k):=⟨_,rfl⟩;refine⟨fun lz h'=>∃k,JJ k lz h',Lm JJ,?_,?_⟩
  ·subst hJJ hB;exact⟨_,_,rfl,YB,T0,rfl⟩
  ·clear YB T0 Y;intro x hv hI;obtain⟨k,hI,hm⟩:=bT hI;subst hJJ hB;obtain⟨x,e,Y,T,rfl⟩:=hI;cases e;replace T:=T1 x T;have Y:Sy _ _ _ [_,_]:=Y;refine ae T (fun T=>?_) (fun T=>?_)
   ·have Y0:=Y;have F:Fr [] hv hv:=Fr.refl _ _;obtain⟨q,q_2,T⟩:=T;obtain⟨b_2,o_2,hb,hr,s,hx⟩:=Y0.atV 0 rfl q q_2;refine⟨b_2,o_2,hb,q,q_2,?_⟩;replace T:=T s hx;refine⟨_,Y0.cellV 0 rfl hb (t:=0) hx rfl,?_⟩;refine⟨_,Y0.cellV 0 rfl hb (t:=1) hx rfl,?_⟩;obtain⟨q_3,q_4,T⟩:=T;obtain⟨b_3,o_3,hb_2,hr_2,s_2,hx_2⟩:=Y0.atV 1 rfl q_3 q_4;refine⟨b_3,o_3,hb_2,q_3,q_4,?_⟩;replace T:=T s_2 hx_2;refine⟨_,Y0.cellV 1 rfl hb_2 (t:=0) hx_2 rfl,?_⟩;refine⟨_,Y0.cellV 1 rfl hb_2 (t:=1) hx_2 rfl,?_⟩;refine ae T (fun T=>?_) (fun T=>?_)
    ·exact⟨_,Y.pick [] rfl,rfl,T⟩
    ·exact bi hm ⟨_,rfl,Y.pick [0,1] rfl,T.1,rfl⟩ T.2
   ·exact⟨_,Y.pick [] rfl,rfl,T⟩
def S61 (x y:Nat) (h:ab) (R:VP):Prop:=let a:=fun(l:Bool) (f:ab)=>(R (.bool l) f);cnd ((FloatKind.f64).format.order x x != some .eq) (cnd ((FloatKind.f64).format.order y y != some .eq) (R (.bool true) h) (bw Tryz.prog 101 #[.float .f64 x] fun g=>∃b:Int,g= .int .u64 b/\bw Tryz.prog 101 #[.float .f64 y] fun i=>∃c:Int,i= .int .u64 c/\a (b==c) h)) (bw Tryz.prog 101 #[.float .f64 x] fun j=>∃d:Int,j= .int .u64 d/\bw Tryz.prog 101 #[.float .f64 y] fun k=>∃e:Int,k= .int .u64 e/\a (d==e) h)
theorem BC {h:ab} {R:VP} (x y:Nat) (H:S61 x y h R):af Tryz.prog 61 #[.float .f64 x,.float .f64 y] h R:=aI [] 20 [] [] [] [] Tryz.func61 (by kernel_rfl) (by kernel_rfl) H
def Ig (x y:Nat) (R:Bool->Prop):Prop:=
 ∀(h:ab),Hp h []->af Tryz.prog 61 #[.float .f64 x,.float .f64 y] h fun v h'=>∃(rV:Bool),Sy h [] h' []/\v= .bool rV/\R rV
def T61 (x y:Nat) (R:Bool->Prop):Prop:=∃a:Bool->Prop,(cnd ((FloatKind.f64).format.order x x != some .eq) (cnd ((FloatKind.f64).format.order y y != some .eq) (R true) (bw Tryz.prog 101 #[.float .f64 x] fun g=>∃b:Int,g= .int .u64 b/\bw Tryz.prog 101 #[.float .f64 y] fun h=>∃c:Int,h= .int .u64 c/\a (b==c))) (bw Tryz.prog 101 #[.float .f64 x] fun i=>∃d:Int,i= .int .u64 d/\bw Tryz.prog 101 #[.float .f64 y] fun j=>∃e:Int,j= .int .u64 e/\a (d==e)))/\∀f:Bool,a f->R f
theorem Jy {x y} {R:Bool->Prop} (T:T61 x y R):Ig x y R:=by
 intro h H;have Y:Sy h [] h _:=Sy.startM H rfl;apply BC;unfold S61;unfold T61 at T;obtain⟨Jv,T0,T1⟩:=T;obtain⟨B,hB,_⟩:=Y.cut [] [] rfl;intro K;have hK:∀(x2:Bool) (hv:ab),(Sy h [] hv ([]++B)/\Jv x2)->K x2 hv:=by
  subst hB;clear T0 Y;rintro x2 hv ⟨Y,T⟩;replace T:=T1 x2 T;have Y:Sy _ _ _ []:=Y;unfold K;exact⟨_,Y.pick [] rfl,rfl,T⟩
 subst hB;replace T:=T0;clear T0 T1;refine ae T (fun T=>?_) (fun T=>?_)
 ·refine ae T (fun T=>?_) (fun T=>?_)
  ·exact⟨_,Y.pick [] rfl,rfl,T⟩
  ·obtain⟨Rx_2,hx_2,T⟩:=T;refine⟨Rx_2,hx_2,fun v hv=>?_⟩;obtain⟨r,rfl,T⟩:=T v hv;refine⟨r,rfl,?_⟩;obtain⟨Rx,hx,T⟩:=T;refine⟨Rx,hx,fun v2 hv=>?_⟩;obtain⟨r2,rfl,T⟩:=T v2 hv;refine⟨r2,rfl,?_⟩;exact hK _ _ ⟨Y.pick [] rfl,T⟩
 ·obtain⟨Rx_4,hx_4,T⟩:=T;refine⟨Rx_4,hx_4,fun v3 hv=>?_⟩;obtain⟨r3,rfl,T⟩:=T v3 hv;refine⟨r3,rfl,?_⟩;obtain⟨Rx_3,hx_3,T⟩:=T;refine⟨Rx_3,hx_3,fun v4 hv=>?_⟩;obtain⟨r4,rfl,T⟩:=T v4 hv;refine⟨r4,rfl,?_⟩;exact hK _ _ ⟨Y.pick [] rfl,T⟩
def S62 (a:Int) (aA:Option Addr) (aL aC:Nat) (b:Int) (bA:Option Addr) (bL bC:Nat) (h:ab) (R:VP):Prop:=let c:ab:=h.push (.cells #[.int .i64 a,.slice aA aL aC] 24);let d:ab:=c.push (.cells #[.int .i64 b,.slice bA bL bC] 24);cnd (a==b) (ah Tryz.prog 113 #[.slice aA aL aC,.slice bA bL bC] d [c.size,h.size] fun g f=>∃e:Bool,g= .bool e/\R (.bool e) f) (R (.bool false) d)
theorem BD {h:ab} {R:VP} (a:Int) (aA:Option Addr) (aL aC:Nat) (b:Int) (bA:Option Addr) (bL bC:Nat) (H:S62 a aA aL aC b bA bL bC h R):af Tryz.prog 62 #[.agg #[.int .i64 a,.slice aA aL aC],.agg #[.int .i64 b,.slice bA bL bC]] h R:=aI [2,3] 17 [] [] [] [] Tryz.func62 (by kernel_rfl) (by kernel_rfl) H
def Ih (a:Int) (edgesV:List (Int × Int)) (b:Int) (edgesV2:List (Int × Int)) (R:Bool->Prop):Prop:=
 ∀(h:ab) (aA:Option Addr) (aL aC:Nat) (bA:Option Addr) (bL bC:Nat),Hp h [Ck.vw eP aA aL aC edgesV,Ck.vw eP bA bL bC edgesV2]->af Tryz.prog 62 #[.agg #[.int .i64 a,.slice aA aL aC],.agg #[.int .i64 b,.slice bA bL bC]] h fun v h'=>∃(rV:Bool),Sy h [] h' []/\v= .bool rV/\R rV
def T62 (a:Int) (edgesV:List (Int × Int)) (b:Int) (edgesV2:List (Int × Int)) (R:Bool->Prop):Prop:=cnd (a==b) (zd edgesV edgesV2 (fun c=>R c)) (R false)
theorem Jz {a edgesV b edgesV2} {R:Bool->Prop} (T:T62 a edgesV b edgesV2 R):Ih a edgesV b edgesV2 R:=by
 intro h aA aL aC bA bL bC H;have Y:Sy h [] h _:=Sy.startM H rfl;obtain rfl:=Y.lenV 0 rfl;obtain rfl:=Y.lenV 1 rfl;apply BD;unfold S62;unfold T62 at T;intro hv;have Y:Sy _ _ hv [_,_,_]:=Y.junk _;clear_value hv;intro hv2;have Y:Sy _ _ hv2 [_,_,_,_]:=Y.junk _;clear_value hv2;refine ae T (fun T=>?_) (fun T=>?_)
 ·refine aj (T _ _ _ _ _ _ _ (Y.pick [0,1] rfl).hp) (fun _ _ ⟨_,p,_⟩=>p.fr) (bq (fun h=>by cases h) (bq (fun h=>by cases h) aF)) ?_;rintro v hv3 ⟨r,PP,rfl,T⟩;have Y:Sy _ _ hv3 [_,_,_,_]:=Y.gr PP.fr;clear PP;refine⟨r,rfl,?_⟩;exact⟨_,Y.pick [] rfl,rfl,T⟩
 ·exact⟨_,Y.pick [] rfl,rfl,T⟩
def S63 (s1A:Option Addr) (s1L s1C:Nat) (s2A:Option Addr) (s2L s2C:Nat) (h:ab) (R:VP):Prop:=cnd ((s1L:Int) != (s2L:Int)) (R (.bool false) h) (∃(d:LP) (e:List Value->ab->Nat),d [.int .i64 0] h/\∀a:Int,∀c,d [.int .i64 a] c->cnd (decide (a<(s1L:Int))) (∃b o,s1A=some ⟨b,o,none⟩/\0<=a/\a<(s1L:Nat)/\∃f:ByteArray,ac c b (o+(Int.toNat a)*1)=some (.string f)/\∃b2 o2,s2A=some ⟨b2,o2,none⟩/\0<=a/\a<(s2L:Nat)/\∃g:ByteArray,ac c b2 (o2+(Int.toNat a)*1)=some (.string g)/\cnd (!(f.toList==g.toList)) (R (.bool false) c) (d [.int .i64 (i64.wrap (a+1))] c/\e [.int .i64 (i64.wrap (a+1))] c<e [.int .i64 a] c)) (R (.bool true) c))
theorem BF {h:ab} {R:VP} (s1A:Option Addr) (s1L s1C:Nat) (s2A:Option Addr) (s2L s2C:Nat) (H:S63 s1A s1L s1C s2A s2L s2C h R):af Tryz.prog 63 #[.slice s1A s1L s1C,.slice s2A s2L s2C] h R:=aI [] 26 [(0,⟨[0,1,12],[13],[],[]⟩)] [] [] [(6,⟨9,false⟩)] Tryz.func63 (by kernel_rfl) (by kernel_rfl) H
def Ii (s1V s2V:List ByteArray) (R:Bool->Prop):Prop:=
 ∀(h:ab) (s1A:Option Addr) (s1L s1C:Nat) (s2A:Option Addr) (s2L s2C:Nat),Hp h [Ck.vw eS s1A s1L s1C s1V,Ck.vw eS s2A s2L s2C s2V]->af Tryz.prog 63 #[.slice s1A s1L s1C,.slice s2A s2L s2C] h fun v h'=>∃(rV:Bool),Sy h [] h' []/\v= .bool rV/\R rV
def T63 (s1V s2V:List ByteArray) (R:Bool->Prop):Prop:=cnd ((s1V.length:Int) != (s2V.length:Int)) (R false) (∃(b:Int->Prop) (c:Int->Nat),b 0/\∀a:Int,b a->cnd (decide (a<(s1V.length:Int))) (0<=a/\a<(s1V.length:Int)/\∀d:ByteArray,s1V[(Int.toNat a)]? =some d->0<=a/\a<(s2V.length:Int)/\∀e:ByteArray,s2V[(Int.toNat a)]? =some e->cnd (!(d.toList==e.toList)) (R false) (b (i64.wrap (a+1))/\c (i64.wrap (a+1))<c a)) (R true))
theorem JA {s1V s2V} {R:Bool->Prop} (T:T63 s1V s2V R):Ii s1V s2V R:=by
 intro h s1A s1L s1C s2A s2L s2C H;have Y:Sy h [] h _:=Sy.startM H rfl;obtain rfl:=Y.lenV 0 rfl;obtain rfl:=Y.lenV 1 rfl;apply BF;unfold S63;unfold T63 at T;refine ae T (fun T=>?_) (fun T=>?_)
 ·exact⟨_,Y.pick [] rfl,rfl,T⟩
 ·obtain⟨Iv,m,T0,T1⟩:=T;obtain⟨B,hB,YB⟩:=Y.cut [] [0,1] rfl;obtain⟨JJ,hJJ⟩:∃JJ:Nat->LP,JJ=(fun k lz h'=>∃(x:Int),lz=[.int .i64 x]/\Sy h [] h' ([]++B)/\Iv x/\m x=k):=⟨_,rfl⟩;refine⟨fun lz h'=>∃k,JJ k lz h',Lm JJ,?_,?_⟩
  ·subst hJJ hB;exact⟨_,_,rfl,YB,T0,rfl⟩
  ·clear YB T0 Y;intro x hv hI;obtain⟨k,hI,hm⟩:=bT hI;subst hJJ hB;obtain⟨x,e,Y,T,rfl⟩:=hI;cases e;replace T:=T1 x T;have Y:Sy _ _ _ [_,_]:=Y;refine ae T (fun T=>?_) (fun T=>?_)
   ·have Y0:=Y;have F:Fr [] hv hv:=Fr.refl _ _;obtain⟨q,q_2,T⟩:=T;obtain⟨b_2,o_2,hb,hr,s,hx⟩:=Y0.atV 0 rfl q q_2;refine⟨b_2,o_2,hb,q,q_2,?_⟩;replace T:=T s hx;refine⟨_,Y0.cellV 0 rfl hb (t:=0) hx rfl,?_⟩;obtain⟨q_3,q_4,T⟩:=T;obtain⟨b_3,o_3,hb_2,hr_2,s_2,hx_2⟩:=Y0.atV 1 rfl q_3 q_4;refine⟨b_3,o_3,hb_2,q_3,q_4,?_⟩;replace T:=T s_2 hx_2;refine⟨_,Y0.cellV 1 rfl hb_2 (t:=0) hx_2 rfl,?_⟩;refine ae T (fun T=>?_) (fun T=>?_)
    ·exact⟨_,Y.pick [] rfl,rfl,T⟩
    ·exact bi hm ⟨_,rfl,Y.pick [0,1] rfl,T.1,rfl⟩ T.2
   ·exact⟨_,Y.pick [] rfl,rfl,T⟩
def S60 (x x2 y y2:Nat) (h:ab) (R:VP):Prop:=let a:ab:=h.push (.cells #[.float .f64 x,.float .f64 x2] 78);let e:ab:=a.push (.cells #[.float .f64 y,.float .f64 y2] 78);ah Tryz.prog 61 #[.float .f64 x,.float .f64 y] e [a.size,h.size] fun g b=>∃c:Bool,g= .bool c/\cnd c (ah Tryz.prog 61 #[.float .f64 x2,.float .f64 y2] b [a.size,h.size] fun i f=>∃d:Bool,i= .bool d/\R (.bool d) f) (R (.bool false) b)
theorem BG {h:ab} {R:VP} (x x2 y y2:Nat) (H:S60 x x2 y y2 h R):af Tryz.prog 60 #[.agg #[.float .f64 x,.float .f64 x2],.agg #[.float .f64 y,.float .f64 y2]] h R:=aI [2,3] 17 [] [] [] [] Tryz.func60 (by kernel_rfl) (by kernel_rfl) H
def S64 (s1A:Option Addr) (s1L s1C:Nat) (s2A:Option Addr) (s2L s2C:Nat) (eqF:Fn) (eqX eqY:Array Value) (h:ab) (R:VP):Prop:=cnd ((s1L:Int) != (s2L:Int)) (R (.bool false) h) (∃(e:LP) (l:List Value->ab->Nat),e [.int .i64 0] h/\∀a:Int,∀c,e [.int .i64 a] c->cnd (decide (a<(s1L:Int))) (∃b o,s1A=some ⟨b,o,none⟩/\0<=a/\a<(s1L:Nat)/\∃g:Nat,ac c b (o+(Int.toNat a)*2)=some (.float .f64 g)/\∃i:Nat,ac c b ((o+(Int.toNat a)*2)+1)=some (.float .f64 i)/\let n:ab:=c.push (.cells #[.float .f64 0,.float .f64 0] 78);let d:ab:=ak (ak n c.size 0 (.float .f64 g)) c.size (0+1) (.float .f64 i);∃b2 o2,s2A=some ⟨b2,o2,none⟩/\0<=a/\a<(s2L:Nat)/\∃j:Nat,ac d b2 (o2+(Int.toNat a)*2)=some (.float .f64 j)/\∃k:Nat,ac d b2 ((o2+(Int.toNat a)*2)+1)=some (.float .f64 k)/\let p:ab:=d.push (.cells #[.float .f64 0,.float .f64 0] 78);let q:ab:=ak (ak p d.size 0 (.float .f64 j)) d.size (0+1) (.float .f64 k);fJ Tryz.prog iI [] none eqF eqX eqY [.agg #[.float .f64 g,.float .f64 i],.agg #[.float .f64 j,.float .f64 k]] q [d.size,c.size] fun r f=>∃m:Bool,r= .bool m/\cnd (!m) (R (.bool false) f) (e [.int .i64 (i64.wrap (a+1))] f/\l [.int .i64 (i64.wrap (a+1))] f<l [.int .i64 a] c)) (R (.bool true) c))
theorem BH {h:ab} {R:VP} (s1A:Option Addr) (s1L s1C:Nat) (s2A:Option Addr) (s2L s2C:Nat) (eqF:Fn) (eqX eqY:Array Value) (H:S64 s1A s1L s1C s2A s2L s2C eqF eqX eqY h R):af Tryz.prog 64 #[.slice s1A s1L s1C,.slice s2A s2L s2C,.func eqF eqX eqY] h R:=aI [8,9] 32 [(0,⟨[1,2,15,16],[17],[],[]⟩)] [] [] [] Tryz.func64 (by kernel_rfl) (by kernel_rfl) H
def S65 (s1A:Option Addr) (s1L s1C:Nat) (s2A:Option Addr) (s2L s2C:Nat) (eqF:Fn) (eqX eqY:Array Value) (h:ab) (R:VP):Prop:=cnd ((s1L:Int) != (s2L:Int)) (R (.bool false) h) (∃(d:LP) (f:List Value->ab->Nat),d [.int .i64 0] h/\∀a:Int,∀c,d [.int .i64 a] c->cnd (decide (a<(s1L:Int))) (∃b o,s1A=some ⟨b,o,none⟩/\0<=a/\a<(s1L:Nat)/\∃i:Nat,ac c b (o+(Int.toNat a)*1)=some (.float .f64 i)/\∃b2 o2,s2A=some ⟨b2,o2,none⟩/\0<=a/\a<(s2L:Nat)/\∃j:Nat,ac c b2 (o2+(Int.toNat a)*1)=some (.float .f64 j)/\fJ Tryz.prog iI [] none eqF eqX eqY [.float .f64 i,.float .f64 j] c [] fun k e=>∃g:Bool,k= .bool g/\cnd (!g) (R (.bool false) e) (d [.int .i64 (i64.wrap (a+1))] e/\f [.int .i64 (i64.wrap (a+1))] e<f [.int .i64 a] c)) (R (.bool true) c))
theorem BI {h:ab} {R:VP} (s1A:Option Addr) (s1L s1C:Nat) (s2A:Option Addr) (s2L s2C:Nat) (eqF:Fn) (eqX eqY:Array Value) (H:S65 s1A s1L s1C s2A s2L s2C eqF eqX eqY h R):af Tryz.prog 65 #[.slice s1A s1L s1C,.slice s2A s2L s2C,.func eqF eqX eqY] h R:=aI [] 32 [(0,⟨[1,2,15,16],[17],[],[]⟩)] [] [] [] Tryz.func65 (by kernel_rfl) (by kernel_rfl) H
def S24 (a:Int) (aA:Option Addr) (aL aC:Nat) (a2:Bool) (aA2:Option Addr) (aL2 aC2:Nat) (aA3:Option Addr) (aL3 aC3:Nat) (aA4:Option Addr) (aL4 aC4:Nat) (b:Int) (bA:Option Addr) (bL bC:Nat) (b2:Bool) (bA2:Option Addr) (bL2 bC2:Nat) (bA3:Option Addr) (bL3 bC3:Nat) (bA4:Option Addr) (bL4 bC4:Nat) (h:ab) (R:VP):Prop:=let c:ab:=h.push (.cells #[.int .i64 a,.slice aA aL aC,.bool a2,.slice aA2 aL2 aC2,.slice aA3 aL3 aC3,.slice aA4 aL4 aC4] 29);let m:ab:=c.push (.cells #[.int .i64 b,.slice bA bL bC,.bool b2,.slice bA2 bL2 bC2,.slice bA3 bL3 bC3,.slice bA4 bL4 bC4] 29);let d:=fun(o:ab)=>(R (.bool false) o);ah Tryz.prog 62 #[.agg #[.int .i64 a,.slice aA aL aC],.agg #[.int .i64 b,.slice bA bL bC]] m [c.size,h.size] fun p e=>∃i:Bool,p= .bool i/\cnd i (cnd (a2==b2) (ah Tryz.prog 63 #[.slice aA2 aL2 aC2,.slice bA2 bL2 bC2] e [c.size,h.size] fun q f=>∃j:Bool,q= .bool j/\cnd j (ah Tryz.prog 64 #[.slice aA3 aL3 aC3,.slice bA3 bL3 bC3,.func (.func 60) #[] #[]] f [c.size,h.size] fun r g=>∃k:Bool,r= .bool k/\cnd k (ah Tryz.prog 65 #[.slice aA4 aL4 aC4,.slice bA4 bL4 bC4,.func (.func 61) #[] #[]] g [c.size,h.size] fun s n=>∃l:Bool,s= .bool l/\R (.bool l) n) (d g)) (d f)) (d e)) (d e)
theorem BJ {h:ab} {R:VP} (a:Int) (aA:Option Addr) (aL aC:Nat) (a2:Bool) (aA2:Option Addr) (aL2 aC2:Nat) (aA3:Option Addr) (aL3 aC3:Nat) (aA4:Option Addr) (aL4 aC4:Nat) (b:Int) (bA:Option Addr) (bL bC:Nat) (b2:Bool) (bA2:Option Addr) (bL2 bC2:Nat) (bA3:Option Addr) (bL3 bC3:Nat) (bA4:Option Addr) (bL4 bC4:Nat) (H:S24 a aA aL aC a2 aA2 aL2 aC2 aA3 aL3 aC3 aA4 aL4 aC4 b bA bL bC b2 bA2 bL2 bC2 bA3 bL3 bC3 bA4 bL4 bC4 h R):af Tryz.prog 24 #[.agg #[.int .i64 a,.slice aA aL aC,.bool a2,.slice aA2 aL2 aC2,.slice aA3 aL3 aC3,.slice aA4 aL4 aC4],.agg #[.int .i64 b,.slice bA bL bC,.bool b2,.slice bA2 bL2 bC2,.slice bA3 bL3 bC3,.slice bA4 bL4 bC4]] h R:=aI [2,3] 40 [] [] [] [] Tryz.func24 (by kernel_rfl) (by kernel_rfl) H
def S32 (s:ByteArray) (h:ab) (R:VP):Prop:=cnd (decide ((s.size:Int)>(256:Int))) (R (.bool false) h) (∃(c:LP) (d:List Value->ab->Nat),c [.int .i64 0] h/\∀a:Int,∀b,c [.int .i64 a] b->cnd (decide (a<(s.size:Int))) (0<=a/\a<(s.size:Int)/\∃e:UInt8,s[Int.toNat a]? =some e/\cnd (decide ((UInt8.toNat e:Int)<(32:Int))) (R (.bool false) b) (0<=a/\a<(s.size:Int)/\∃f:UInt8,s[Int.toNat a]? =some f/\cnd (decide ((UInt8.toNat f:Int)>(126:Int))) (R (.bool false) b) (c [.int .i64 (i64.wrap (a+1))] b/\d [.int .i64 (i64.wrap (a+1))] b<d [.int .i64 a] b))) (R (.bool true) b))
theorem Bw {h:ab} {R:VP} (s:ByteArray) (H:S32 s h R):af Tryz.prog 32 #[.string s] h R:=aI [] 23 [(0,⟨[0],[3],[],[]⟩)] [] [] [] Tryz.func32 (by kernel_rfl) (by kernel_rfl) H
def Ea (s:ByteArray) (R:Bool->Prop):Prop:=
 ∀(h:ab),Hp h []->af Tryz.prog 32 #[.string s] h fun v h'=>∃(rV:Bool),Sy h [] h' []/\v= .bool rV/\R rV
def T32 (s:ByteArray) (R:Bool->Prop):Prop:=cnd (decide ((s.size:Int)>(256:Int))) (R false) (∃(b:Int->Prop) (c:Int->Nat),b 0/\∀a:Int,b a->cnd (decide (a<(s.size:Int))) (0<=a/\a<(s.size:Int)/\∃d:UInt8,s[Int.toNat a]? =some d/\cnd (decide ((UInt8.toNat d:Int)<(32:Int))) (R false) (0<=a/\a<(s.size:Int)/\∃e:UInt8,s[Int.toNat a]? =some e/\cnd (decide ((UInt8.toNat e:Int)>(126:Int))) (R false) (b (i64.wrap (a+1))/\c (i64.wrap (a+1))<c a))) (R true))
theorem Ju {s} {R:Bool->Prop} (T:T32 s R):Ea s R:=by
 intro h H;have Y:Sy h [] h _:=Sy.startM H rfl;apply Bw;unfold S32;unfold T32 at T;refine ae T (fun T=>?_) (fun T=>?_)
 ·exact⟨_,Y.pick [] rfl,rfl,T⟩
 ·obtain⟨Iv,m,T0,T1⟩:=T;obtain⟨B,hB,YB⟩:=Y.cut [] [] rfl;obtain⟨JJ,hJJ⟩:∃JJ:Nat->LP,JJ=(fun k lz h'=>∃(i:Int),lz=[.int .i64 i]/\Sy h [] h' ([]++B)/\Iv i/\m i=k):=⟨_,rfl⟩;refine⟨fun lz h'=>∃k,JJ k lz h',Lm JJ,?_,?_⟩
  ·subst hJJ hB;exact⟨_,_,rfl,YB,T0,rfl⟩
  ·clear YB T0 Y;intro i hv hI;obtain⟨k,hI,hm⟩:=bT hI;subst hJJ hB;obtain⟨i,e,Y,T,rfl⟩:=hI;cases e;replace T:=T1 i T;have Y:Sy _ _ _ []:=Y;refine ae T (fun T=>?_) (fun T=>?_)
   ·obtain⟨q_3,q_4,T⟩:=T;refine⟨q_3,q_4,?_⟩;obtain⟨xc,hq,T⟩:=T;refine⟨xc,hq,?_⟩;refine ae T (fun T=>?_) (fun T=>?_)
    ·exact⟨_,Y.pick [] rfl,rfl,T⟩
    ·obtain⟨q,q_2,T⟩:=T;refine⟨q,q_2,?_⟩;obtain⟨xc2,hq,T⟩:=T;refine⟨xc2,hq,?_⟩;refine ae T (fun T=>?_) (fun T=>?_)
     ·exact⟨_,Y.pick [] rfl,rfl,T⟩
     ·exact bi hm ⟨_,rfl,Y.pick [] rfl,T.1,rfl⟩ T.2
   ·exact⟨_,Y.pick [] rfl,rfl,T⟩
end Go.Proofs.YtlflalecmhgmjaaGreatDoor.N
