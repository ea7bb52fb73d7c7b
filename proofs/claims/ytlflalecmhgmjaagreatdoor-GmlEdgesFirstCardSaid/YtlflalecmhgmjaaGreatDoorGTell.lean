/- Functions: what is left to be shown of each, over memory and without: printed by program, tied to the loaded functions by the kernel. Conditions: none. -/
import Derived.Test.YtlflalecmhgmjaaGreatDoorWEnv
import Derived.Test.YtlflalecmhgmjaaGreatDoorYGl
import Derived.Test.YtlflalecmhgmjaaGreatDoorHBr
set_option linter.unusedVariables false
set_option linter.unusedSimpArgs false
namespace Go.Proofs.YtlflalecmhgmjaaGreatDoor.N
open Go.Proofs.YtlflalecmhgmjaaGreatDoor
open Go.X
set_option maxRecDepth 100000
set_option maxHeartbeats 2000000
def S203 (c:Int) (h:Heap) (R:Value->Heap->Prop):Prop:=
 cnd (decide (c>=(97:Int)))
  (cnd (decide (c<=(122:Int)))
   (R (.bool true) h)
   (cnd (decide (c>=(65:Int)))
    (R (.bool (decide (c<=(90:Int)))) h)
    (R (.bool false) h)))
  (cnd (decide (c>=(65:Int)))
   (R (.bool (decide (c<=(90:Int)))) h)
   (R (.bool false) h))
theorem calls203 {h:Heap} {R:Value->Heap->Prop} (c:Int) (H:S203 c h R):CallsH Tryz.prog 203 #[.int .u8 c] h R:=by
 have e:S203 c h R=FX (envX [] 17) {loops:=[],joins:=[],blocks:=[],draws:=[]} Tryz.f203 (Tryz.f203.body.getD .skip) [.int .u8 c] h R:=by kernel_rfl
 exact calls_of_FX (envX_ok _ _) Tryz.func203 (by kernel_rfl) (by kernel_rfl) (by kernel_rfl) (e▸H)
def S206 (c:Int) (h:Heap) (R:Value->Heap->Prop):Prop:=
 cnd (decide (c>=(48:Int)))
  (R (.bool (decide (c<=(57:Int)))) h)
  (R (.bool false) h)
theorem calls206 {h:Heap} {R:Value->Heap->Prop} (c:Int) (H:S206 c h R):CallsH Tryz.prog 206 #[.int .u8 c] h R:=by
 have e:S206 c h R=FX (envX [] 9) {loops:=[],joins:=[],blocks:=[],draws:=[]} Tryz.f206 (Tryz.f206.body.getD .skip) [.int .u8 c] h R:=by kernel_rfl
 exact calls_of_FX (envX_ok _ _) Tryz.func206 (by kernel_rfl) (by kernel_rfl) (by kernel_rfl) (e▸H)
def S258 (c:Int) (h:Heap) (R:Value->Heap->Prop):Prop:=
 cnd (c==(32:Int))
  (R (.bool true) h)
  (cnd (c==(9:Int))
   (R (.bool true) h)
   (cnd (c==(10:Int))
    (R (.bool true) h)
    (R (.bool (c==(13:Int))) h)))
theorem calls258 {h:Heap} {R:Value->Heap->Prop} (c:Int) (H:S258 c h R):CallsH Tryz.prog 258 #[.int .u8 c] h R:=by
 have e:S258 c h R=FX (envX [] 17) {loops:=[],joins:=[],blocks:=[],draws:=[]} Tryz.f258 (Tryz.f258.body.getD .skip) [.int .u8 c] h R:=by kernel_rfl
 exact calls_of_FX (envX_ok _ _) Tryz.func258 (by kernel_rfl) (by kernel_rfl) (by kernel_rfl) (e▸H)
def S114 (c:Int) (h:Heap) (R:Value->Heap->Prop):Prop:=
 cnd (decide (c>=(32:Int)))
  (R (.bool (decide (c<=(126:Int)))) h)
  (R (.bool false) h)
theorem calls114 {h:Heap} {R:Value->Heap->Prop} (c:Int) (H:S114 c h R):CallsH Tryz.prog 114 #[.int .u8 c] h R:=by
 have e:S114 c h R=FX (envX [] 9) {loops:=[],joins:=[],blocks:=[],draws:=[]} Tryz.f114 (Tryz.f114.body.getD .skip) [.int .u8 c] h R:=by kernel_rfl
 exact calls_of_FX (envX_ok _ _) Tryz.func114 (by kernel_rfl) (by kernel_rfl) (by kernel_rfl) (e▸H)
def S205 (c:Int) (h:Heap) (R:Value->Heap->Prop):Prop:=
 let a:=fun(g:Heap)=>
  (R (.bool true) g)
 callX Tryz.prog 203 #[.int .u8 c] h [] fun i b=>
 ∃e:Bool,i= .bool e/\
 cnd e
  (a b)
  (callX Tryz.prog 206 #[.int .u8 c] b [] fun j d=>
  ∃f:Bool,j= .bool f/\
  cnd f
   (a d)
   (R (.bool (c==(95:Int))) d))
theorem calls205 {h:Heap} {R:Value->Heap->Prop} (c:Int) (H:S205 c h R):CallsH Tryz.prog 205 #[.int .u8 c] h R:=by
 have e:S205 c h R=FX (envX [] 13) {loops:=[],joins:=[],blocks:=[],draws:=[]} Tryz.f205 (Tryz.f205.body.getD .skip) [.int .u8 c] h R:=by kernel_rfl
 exact calls_of_FX (envX_ok _ _) Tryz.func205 (by kernel_rfl) (by kernel_rfl) (by kernel_rfl) (e▸H)
def S207 (c:Int) (h:Heap) (R:Value->Heap->Prop):Prop:=
 let a:=fun(g:Heap)=>
  (R (.bool true) g)
 callX Tryz.prog 203 #[.int .u8 c] h [] fun i d=>
 ∃e:Bool,i= .bool e/\
 cnd e
  (a d)
  (callX Tryz.prog 206 #[.int .u8 c] d [] fun j b=>
  ∃f:Bool,j= .bool f/\
  cnd f
   (a b)
   (cnd (c==(43:Int))
    (a b)
    (cnd (c==(45:Int))
     (a b)
     (R (.bool (c==(46:Int))) b))))
theorem calls207 {h:Heap} {R:Value->Heap->Prop} (c:Int) (H:S207 c h R):CallsH Tryz.prog 207 #[.int .u8 c] h R:=by
 have e:S207 c h R=FX (envX [] 21) {loops:=[],joins:=[],blocks:=[],draws:=[]} Tryz.f207 (Tryz.f207.body.getD .skip) [.int .u8 c] h R:=by kernel_rfl
 exact calls_of_FX (envX_ok _ _) Tryz.func207 (by kernel_rfl) (by kernel_rfl) (by kernel_rfl) (e▸H)
def S109 (atv:Int) (ev:Int) (h:Heap) (R Rp:Value->Heap->Prop):Prop:=
 Rp (.iface 88 (.agg #[.int .i64 atv,.int .i64 ev])) h
theorem calls109 {h:Heap} {R Rp:Value->Heap->Prop} (atv:Int) (ev:Int) (H:S109 atv ev h R Rp):CallsP Tryz.prog 109 #[.int .i64 atv,.int .i64 ev] h R Rp:=by
 have e:S109 atv ev h R Rp=FX (envP [] 8 Rp) {loops:=[],joins:=[],blocks:=[],draws:=[]} Tryz.f109 (Tryz.f109.body.getD .skip) [.int .i64 atv,.int .i64 ev] h R:=by kernel_rfl
 exact calls_of_FXp (envP_ok _ _ _) Tryz.func109 (by kernel_rfl) (by kernel_rfl) (by kernel_rfl) rfl (e▸H)
def S58 (ok:Bool) (atv:Int) (ev:Int) (h:Heap) (R Rp:Value->Heap->Prop):Prop:=
 ∃a:List Value->Heap->Prop,
 (cnd (!ok)
   (callP Tryz.prog 109 #[.int .i64 atv,.int .i64 ev] h [] (fun d c=>
   d= .tuple #[]/\
   a [] c) Rp)
   (a [] h))/\
 ∀b,a [] b->
 R (.tuple #[]) b
theorem calls58 {h:Heap} {R Rp:Value->Heap->Prop} (ok:Bool) (atv:Int) (ev:Int) (H:S58 ok atv ev h R Rp):CallsP Tryz.prog 58 #[.bool ok,.int .i64 atv,.int .i64 ev] h R Rp:=by
 have e:S58 ok atv ev h R Rp=FX (envP [] 11 Rp) {loops:=[],joins:=[(7,⟨[],[],[],[]⟩)],blocks:=[],draws:=[]} Tryz.f58 (Tryz.f58.body.getD .skip) [.bool ok,.int .i64 atv,.int .i64 ev] h R:=by kernel_rfl
 exact calls_of_FXp (envP_ok _ _ _) Tryz.func58 (by kernel_rfl) (by kernel_rfl) (by kernel_rfl) rfl (e▸H)
def S201 (lP:Option Addr) (h:Heap) (R:Value->Heap->Prop):Prop:=
 ∃(j:List Value->Heap->Prop) (s:List Value->Heap->Nat),j [] h/\
 ∀c,j [] c->
 ∃b o,lP=some ⟨b,o,none⟩/\∃v:Int,hcell c b (o+1)=some (.int .i64 v)/\∃b2 o2,lP=some ⟨b2,o2,none⟩/\∃x:ByteArray,hcell c b2 o2=some (.string x)/\cnd (decide (v<((x.size:Nat):Int)))
  (∃b3 o3,lP=some ⟨b3,o3,none⟩/\∃q:ByteArray,hcell c b3 o3=some (.string q)/\∃b4 o4,lP=some ⟨b4,o4,none⟩/\∃f:Int,hcell c b4 (o4+1)=some (.int .i64 f)/\0<=f/\f<((q.size:Nat):Int)/\∃r:UInt8,q[Int.toNat f]? =some r/\callX Tryz.prog 258 #[.int .u8 ((UInt8.toNat r:Nat):Int)] c [] fun D a=>
  ∃u:Bool,D= .bool u/\
  ∃k:List Value->Heap->Prop,
  (cnd u
    (∃b5 o5,lP=some ⟨b5,o5,none⟩/\∃y:Int,hcell a b5 (o5+1)=some (.int .i64 y)/\∃b6 o6,lP=some ⟨b6,o6,none⟩/\(∃p,hcell a b6 (o6+1)=some p)/\hfree a b6 (o6+1)=true/\let B:Heap:=hset a b6 (o6+1) (.int .i64 (IntKind.i64.wrap (y+(1:Int))))
    k [] B)
    (cnd (((UInt8.toNat r:Nat):Int)==(35:Int))
     (∃b7 o7,lP=some ⟨b7,o7,none⟩/\∃g:ByteArray,hcell a b7 o7=some (.string g)/\∃b8 o8,lP=some ⟨b8,o8,none⟩/\∃i:Int,hcell a b8 (o8+1)=some (.int .i64 i)/\0<=i/\i<=((g.size:Nat):Int)/\callX Tryz.prog 256 #[.string (g.extract (Int.toNat i) g.size),.int .u8 10] a [] fun E d=>
     ∃n:Int,E= .int .i64 n/\
     Fr [] a d/\
     ∃l:List Value->Heap->Prop,
     (cnd (decide (n<(0:Int)))
      (∃b9 o9,lP=some ⟨b9,o9,none⟩/\∃z:ByteArray,hcell d b9 o9=some (.string z)/\∃b10 o10,lP=some ⟨b10,o10,none⟩/\∃A:Int,hcell d b10 (o10+1)=some (.int .i64 A)/\l [.int .i64 (IntKind.i64.wrap (((z.size:Nat):Int)-A))] d)
      (l [.int .i64 n] d))/\
     ∀t:Int,∀e,l [.int .i64 t] e->
     ∃b11 o11,lP=some ⟨b11,o11,none⟩/\∃w:Int,hcell e b11 (o11+1)=some (.int .i64 w)/\∃b12 o12,lP=some ⟨b12,o12,none⟩/\(∃p,hcell e b12 (o12+1)=some p)/\hfree e b12 (o12+1)=true/\let C:Heap:=hset e b12 (o12+1) (.int .i64 (IntKind.i64.wrap (w+t)))
     k [] C)
     (R (.tuple #[]) a)))/\
  ∀m,k [] m->
  j [] m/\s [] m<s [] c)
  (R (.tuple #[]) c)
theorem calls201 {h:Heap} {R:Value->Heap->Prop} (lP:Option Addr) (H:S201 lP h R):CallsH Tryz.prog 201 #[.pointer lP] h R:=by
 have e:S201 lP h R=FX (envX [] 66) {loops:=[(0,⟨[0],[],[],[]⟩)],joins:=[(23,⟨[0],[],[],[]⟩),(47,⟨[0],[3],[],[]⟩)],blocks:=[],draws:=[(0,⟨10,false⟩),(1,⟨10,false⟩),(5,⟨11,false⟩),(7,⟨11,false⟩)]} Tryz.f201 (Tryz.f201.body.getD .skip) [.pointer lP] h R:=by kernel_rfl
 exact calls_of_FX (envX_ok _ _) Tryz.func201 (by kernel_rfl) (by kernel_rfl) (by kernel_rfl) (e▸H)
def S204 (lP:Option Addr) (suchF:Fn) (suchX suchY:Array Value) (h:Heap) (R:Value->Heap->Prop):Prop:=
 ∃b o,lP=some ⟨b,o,none⟩/\∃e:Int,hcell h b (o+1)=some (.int .i64 e)/\let l:=fun(i:Heap)=>
  (∃b8 o8,lP=some ⟨b8,o8,none⟩/\∃k:ByteArray,hcell i b8 o8=some (.string k)/\∃b9 o9,lP=some ⟨b9,o9,none⟩/\∃d:Int,hcell i b9 (o9+1)=some (.int .i64 d)/\0<=d/\d<=((k.size:Nat):Int)/\0<=e/\e<=(((Int.toNat d):Nat):Int)/\R (.string (k.extract (Int.toNat e) (Int.toNat d))) i)
 ∃(g:List Value->Heap->Prop) (n:List Value->Heap->Nat),g [] h/\
 ∀a,g [] a->
 ∃b2 o2,lP=some ⟨b2,o2,none⟩/\∃q:Int,hcell a b2 (o2+1)=some (.int .i64 q)/\∃b3 o3,lP=some ⟨b3,o3,none⟩/\∃r:ByteArray,hcell a b3 o3=some (.string r)/\cnd (decide (q<((r.size:Nat):Int)))
  (∃b4 o4,lP=some ⟨b4,o4,none⟩/\∃j:ByteArray,hcell a b4 o4=some (.string j)/\∃b5 o5,lP=some ⟨b5,o5,none⟩/\∃f:Int,hcell a b5 (o5+1)=some (.int .i64 f)/\0<=f/\f<((j.size:Nat):Int)/\∃t:UInt8,j[Int.toNat f]? =some t/\callV Tryz.prog fnsX [] none suchF suchX suchY [.int .u8 ((UInt8.toNat t:Nat):Int)] a [] fun v c=>
  ∃p:Bool,v= .bool p/\
  Fr [] a c/\
  cnd p
   (∃b6 o6,lP=some ⟨b6,o6,none⟩/\∃s:Int,hcell c b6 (o6+1)=some (.int .i64 s)/\∃b7 o7,lP=some ⟨b7,o7,none⟩/\(∃u,hcell c b7 (o7+1)=some u)/\hfree c b7 (o7+1)=true/\let m:Heap:=hset c b7 (o7+1) (.int .i64 (IntKind.i64.wrap (s+(1:Int))))
   g [] m/\n [] m<n [] a)
   (l c))
  (Fr [] a a/\
  l a)
theorem calls204 {h:Heap} {R:Value->Heap->Prop} (lP:Option Addr) (suchF:Fn) (suchX suchY:Array Value) (H:S204 lP suchF suchX suchY h R):CallsH Tryz.prog 204 #[.pointer lP,.func suchF suchX suchY] h R:=by
 have e:S204 lP suchF suchX suchY h R=FX (envX [] 50) {loops:=[(0,⟨[0,1,5],[],[],[]⟩)],joins:=[],blocks:=[],draws:=[(2,⟨23,false⟩),(4,⟨11,false⟩)]} Tryz.f204 (Tryz.f204.body.getD .skip) [.pointer lP,.func suchF suchX suchY] h R:=by kernel_rfl
 exact calls_of_FX (envX_ok _ _) Tryz.func204 (by kernel_rfl) (by kernel_rfl) (by kernel_rfl) (e▸H)
def S202 (lP:Option Addr) (h:Heap) (R Rp:Value->Heap->Prop):Prop:=
 ∃b o,lP=some ⟨b,o,none⟩/\∃N:Int,hcell h b (o+1)=some (.int .i64 N)/\∃b2 o2,lP=some ⟨b2,o2,none⟩/\∃S:Int,hcell h b2 (o2+1)=some (.int .i64 S)/\∃b3 o3,lP=some ⟨b3,o3,none⟩/\(∃f,hcell h b3 (o3+1)=some f)/\hfree h b3 (o3+1)=true/\let X:Heap:=hset h b3 (o3+1) (.int .i64 (IntKind.i64.wrap (S+(1:Int))))
 ∃(q:List Value->Heap->Prop) (I:List Value->Heap->Nat),q [.slice none 0 0] X/\
 ∀(d:Option Addr) (c e:Nat),∀a,q [.slice d c e] a->
 ∃b4 o4,lP=some ⟨b4,o4,none⟩/\∃T:Int,hcell a b4 (o4+1)=some (.int .i64 T)/\∃b5 o5,lP=some ⟨b5,o5,none⟩/\∃U:ByteArray,hcell a b5 o5=some (.string U)/\cnd (decide (T<((U.size:Nat):Int)))
  (∃b6 o6,lP=some ⟨b6,o6,none⟩/\∃C:ByteArray,hcell a b6 o6=some (.string C)/\∃b7 o7,lP=some ⟨b7,o7,none⟩/\∃m:Int,hcell a b7 (o7+1)=some (.int .i64 m)/\0<=m/\m<((C.size:Nat):Int)/\∃g:UInt8,C[Int.toNat m]? =some g/\cnd (((UInt8.toNat g:Nat):Int)==(34:Int))
   (∃b8 o8,lP=some ⟨b8,o8,none⟩/\∃V:Int,hcell a b8 (o8+1)=some (.int .i64 V)/\∃b9 o9,lP=some ⟨b9,o9,none⟩/\(∃f,hcell a b9 (o9+1)=some f)/\hfree a b9 (o9+1)=true/\let H:Heap:=hset a b9 (o9+1) (.int .i64 (IntKind.i64.wrap (V+(1:Int))))
   ∃W:List Int,Reads H 1 d c (List.map (Value.int IntKind.u8) W)/\R (.string (strOf W)) H)
   (∃r:List Value->Heap->Prop,
   (cnd (((UInt8.toNat g:Nat):Int)==(38:Int))
     (∃b10 o10,lP=some ⟨b10,o10,none⟩/\∃n:ByteArray,hcell a b10 o10=some (.string n)/\∃b11 o11,lP=some ⟨b11,o11,none⟩/\∃p:Int,hcell a b11 (o11+1)=some (.int .i64 p)/\0<=p/\p<=((n.size:Nat):Int)/\callX Tryz.prog 259 #[.string (n.extract (Int.toNat p) n.size)] a [] fun a1 u=>
     ∃z:Int,∃A:Int,a1= .tuple #[.int .u8 z,.int .i64 A]/\
     Fr [] a u/\
     ∃b12 o12,lP=some ⟨b12,o12,none⟩/\∃O:Int,hcell u b12 (o12+1)=some (.int .i64 O)/\callP Tryz.prog 58 #[.bool (decide (A>(0:Int))),.int .i64 O,.int .i64 15] u [] (fun a2 v=>
     a2= .tuple #[]/\
     let k:Heap:=v.push (.cells #[.int .u8 z] 5)
     ∃J,Ownd k 5 1 d c e J/\(∀b∈([v.size]:List Nat),b∉blkOf d)/\(c+1)*1<=140737488355328/\(c+1)<=maxLen/\
     ∀sA sC hv7,Ownd hv7 5 1 sA (c+1) sC (J++[.int .u8 z])->Fr (blkOf d) k hv7->((sA=d/\sC=e)\/∃i,sA=some ⟨i,0,none⟩/\k.size<=i)->(e<(c+1)->Fr [] k hv7)->
     ∃b13 o13,lP=some ⟨b13,o13,none⟩/\∃P:Int,hcell hv7 b13 (o13+1)=some (.int .i64 P)/\∃b14 o14,lP=some ⟨b14,o14,none⟩/\b14≠v.size/\(∃f,hcell hv7 b14 (o14+1)=some f)/\hfree hv7 b14 (o14+1)=true/\let a0:Heap:=hset hv7 b14 (o14+1) (.int .i64 (IntKind.i64.wrap (P+A)))
     r [.slice sA (c+1) sC] a0) Rp)
     (let D:=fun(s:Heap)=>
      (let j:Heap:=s.push (.cells #[.int .u8 ((UInt8.toNat g:Nat):Int)] 5)
      ∃K,Ownd j 5 1 d c e K/\(∀b∈([s.size]:List Nat),b∉blkOf d)/\(c+1)*1<=140737488355328/\(c+1)<=maxLen/\
      ∀sA2 sC2 hv15,Ownd hv15 5 1 sA2 (c+1) sC2 (K++[.int .u8 ((UInt8.toNat g:Nat):Int)])->Fr (blkOf d) j hv15->((sA2=d/\sC2=e)\/∃i,sA2=some ⟨i,0,none⟩/\j.size<=i)->(e<(c+1)->Fr [] j hv15)->
      ∃b16 o16,lP=some ⟨b16,o16,none⟩/\∃Q:Int,hcell hv15 b16 (o16+1)=some (.int .i64 Q)/\∃b17 o17,lP=some ⟨b17,o17,none⟩/\b17≠s.size/\(∃f,hcell hv15 b17 (o17+1)=some f)/\hfree hv15 b17 (o17+1)=true/\let Y:Heap:=hset hv15 b17 (o17+1) (.int .i64 (IntKind.i64.wrap (Q+(1:Int))))
      r [.slice sA2 (c+1) sC2] Y)
     ∃b15 o15,lP=some ⟨b15,o15,none⟩/\∃B:Int,hcell a b15 (o15+1)=some (.int .i64 B)/\callX Tryz.prog 114 #[.int .u8 ((UInt8.toNat g:Nat):Int)] a [] fun a3 l=>
     ∃L:Bool,a3= .bool L/\
     Fr [] a l/\
     cnd L
      (Fr [] a l/\
      callP Tryz.prog 58 #[.bool true,.int .i64 B,.int .i64 15] l [] (fun a4 E=>
      a4= .tuple #[]/\
      Fr [] a E/\
      D E) Rp)
      (callX Tryz.prog 258 #[.int .u8 ((UInt8.toNat g:Nat):Int)] l [] fun a5 F=>
      ∃M:Bool,a5= .bool M/\
      Fr [] a F/\
      callP Tryz.prog 58 #[.bool M,.int .i64 B,.int .i64 15] F [] (fun a6 G=>
      a6= .tuple #[]/\
      Fr [] a G/\
      D G) Rp)))/\
   ∀(w:Option Addr) (y x:Nat),∀t,r [.slice w y x] t->
   q [.slice w y x] t/\I [.slice w y x] t<I [.slice d c e] a))
  (callP Tryz.prog 109 #[.int .i64 N,.int .i64 15] a [] (fun a7 Z=>
  a7= .tuple #[]/\
  R (.string (⟨#[]⟩:ByteArray)) Z) Rp)
theorem calls202 {h:Heap} {R Rp:Value->Heap->Prop} (lP:Option Addr) (H:S202 lP h R Rp):CallsP Tryz.prog 202 #[.pointer lP] h R Rp:=by
 have e:S202 lP h R Rp=FX (envP [51,97] 109 Rp) {loops:=[(0,⟨[0,3],[4],[],[]⟩)],joins:=[(72,⟨[0,3],[4],[],[]⟩)],blocks:=[],draws:=[(4,⟨10,false⟩),(5,⟨10,false⟩),(13,⟨15,false⟩),(6,⟨11,false⟩)]} Tryz.f202 (Tryz.f202.body.getD .skip) [.pointer lP] h R:=by kernel_rfl
 exact calls_of_FXp (envP_ok _ _ _) Tryz.func202 (by kernel_rfl) (by kernel_rfl) (by kernel_rfl) rfl (e▸H)
def S259 (s:ByteArray) (h:Heap) (R:Value->Heap->Prop):Prop:=
 let G:Heap:=h.push (.cells #[.string (⟨#[38,97,109,112,59]⟩:ByteArray),.string (⟨#[38,113,117,111,116,59]⟩:ByteArray),.string (⟨#[38,108,116,59]⟩:ByteArray),.string (⟨#[38,103,116,59]⟩:ByteArray),.string (⟨#[38,97,112,111,115,59]⟩:ByteArray)] 9)
 ∃(k:List Value->Heap->Prop) (x:List Value->Heap->Nat),k [.int .i64 0] G/\
 ∀c:Int,∀f,k [.int .i64 c] f->
 cnd (decide (c<((5:Nat):Int)))
  (∃b o,(some (⟨h.size,0,none⟩:Addr))=some ⟨b,o,none⟩/\0<=c/\c<(5:Nat)/\∃q:ByteArray,hcell f b (o+(Int.toNat c)*1)=some (.string q)/\callX Tryz.prog 130 #[.string s,.string q] f [] fun J m=>
  ∃z:Bool,J= .bool z/\
  cnd z
   (0<=c/\c<(((⟨#[38,34,60,62,39]⟩:ByteArray).size:Nat):Int)/\∃D:UInt8,(⟨#[38,34,60,62,39]⟩:ByteArray)[Int.toNat c]? =some D/\R (.tuple #[.int .u8 ((UInt8.toNat D:Nat):Int),.int .i64 ((q.size:Nat):Int)]) m)
   (k [.int .i64 (IntKind.i64.wrap (c+(1:Int)))] m/\x [.int .i64 (IntKind.i64.wrap (c+(1:Int)))] m<x [.int .i64 c] f))
  (callX Tryz.prog 130 #[.string s,.string (⟨#[38,35]⟩:ByteArray)] f [] fun K v=>
  ∃A:Bool,K= .bool A/\
  cnd (!A)
   (R (.tuple #[.int .u8 0,.int .i64 0]) v)
   (let u:=fun(p:Int) (d:Int) (i:Heap)=>
    (let j:=fun(H:Heap)=>
     (R (.tuple #[.int .u8 0,.int .i64 0]) H)
    cnd (d==(2:Int))
     (j i)
     (cnd (d==((s.size:Nat):Int))
      (j i)
      (0<=d/\d<((s.size:Nat):Int)/\∃F:UInt8,s[Int.toNat d]? =some F/\cnd (((UInt8.toNat F:Nat):Int) != (59:Int))
       (j i)
       (cnd (decide (p>(126:Int)))
        (j i)
        (callX Tryz.prog 114 #[.int .u8 (IntKind.u8.wrap p)] i [] fun M w=>
        ∃C:Bool,M= .bool C/\
        cnd (!C)
         (R (.tuple #[.int .u8 0,.int .i64 0]) w)
         (R (.tuple #[.int .u8 (IntKind.u8.wrap p),.int .i64 (IntKind.i64.wrap (d+(1:Int)))]) w))))))
   ∃(l:List Value->Heap->Prop) (y:List Value->Heap->Nat),l [.int .i64 0,.int .i64 2] v/\
   ∀e:Int,∀a:Int,∀g,l [.int .i64 e,.int .i64 a] g->
   let t:=fun(I:Heap)=>
    (u e a I)
   cnd (decide (a<((s.size:Nat):Int)))
    (cnd (decide (a<(5:Int)))
     (0<=a/\a<((s.size:Nat):Int)/\∃E:UInt8,s[Int.toNat a]? =some E/\callX Tryz.prog 206 #[.int .u8 ((UInt8.toNat E:Nat):Int)] g [] fun L n=>
     ∃B:Bool,L= .bool B/\
     cnd B
      (0<=a/\a<((s.size:Nat):Int)/\∃r:UInt8,s[Int.toNat a]? =some r/\l [.int .i64 (IntKind.i64.wrap ((IntKind.i64.wrap ((10:Int)*e))+(IntKind.i64.wrap (IntKind.u8.wrap (((UInt8.toNat r:Nat):Int)-(48:Int)))))),.int .i64 (IntKind.i64.wrap (a+(1:Int)))] n/\y [.int .i64 (IntKind.i64.wrap ((IntKind.i64.wrap ((10:Int)*e))+(IntKind.i64.wrap (IntKind.u8.wrap (((UInt8.toNat r:Nat):Int)-(48:Int)))))),.int .i64 (IntKind.i64.wrap (a+(1:Int)))] n<y [.int .i64 e,.int .i64 a] g)
      (u e a n))
     (t g))
    (t g)))
theorem calls259 {h:Heap} {R:Value->Heap->Prop} (s:ByteArray) (H:S259 s h R):CallsH Tryz.prog 259 #[.string s] h R:=by
 have e:S259 s h R=FX (envX [] 78) {loops:=[(0,⟨[0,8,9],[10],[],[]⟩),(2,⟨[0],[6,7],[],[]⟩)],joins:=[],blocks:=[],draws:=[]} Tryz.f259 (Tryz.f259.body.getD .skip) [.string s] h R:=by kernel_rfl
 exact calls_of_FX (envX_ok _ _) Tryz.func259 (by kernel_rfl) (by kernel_rfl) (by kernel_rfl) (e▸H)
def S149 (lP:Option Addr) (h:Heap) (R Rp:Value->Heap->Prop):Prop:=
 let a8:Heap:=h.push (.cells #[.int .i64 0,.int .i64 0,.string ByteArray.empty,.float .f64 0] 156)
 callX Tryz.prog 201 #[.pointer lP] a8 [h.size] fun d2 a=>
 d2= .tuple #[]/\
 ∃b o,lP=some ⟨b,o,none⟩/\∃c:Int,hcell a b (o+1)=some (.int .i64 c)/\let c7:Heap:=a.push (.cells #[.int .i64 0,.int .i64 0,.string ByteArray.empty,.float .f64 0] 156)
 let e:Heap:=hset (hset (hset (hset c7 a.size 0 (.int .i64 0)) a.size (0+1) (.int .i64 c)) a.size ((0+1)+1) (.string ByteArray.empty)) a.size (((0+1)+1)+1) (.float .f64 0)
 ∃b2 o2,lP=some ⟨b2,o2,none⟩/\∃a3:Int,hcell e b2 (o2+1)=some (.int .i64 a3)/\∃b3 o3,lP=some ⟨b3,o3,none⟩/\∃a4:ByteArray,hcell e b3 o3=some (.string a4)/\cnd (a3==((a4.size:Nat):Int))
  (let c9:Heap:=hset (hset (hset (hset e h.size 0 (.int .i64 0)) h.size (0+1) (.int .i64 c)) h.size ((0+1)+1) (.string ByteArray.empty)) h.size (((0+1)+1)+1) (.float .f64 0)
  R (.agg #[.int .i64 0,.int .i64 c,.string ByteArray.empty,.float .f64 0]) c9)
  (∃b4 o4,lP=some ⟨b4,o4,none⟩/\∃D:ByteArray,hcell e b4 o4=some (.string D)/\∃b5 o5,lP=some ⟨b5,o5,none⟩/\∃q:Int,hcell e b5 (o5+1)=some (.int .i64 q)/\0<=q/\q<((D.size:Nat):Int)/\∃f:UInt8,D[Int.toNat q]? =some f/\∃r:List Value->Heap->Prop,
  (cnd (((UInt8.toNat f:Nat):Int)==(91:Int))
    (let n:Heap:=hset e a.size 0 (.int .i64 1)
    ∃b6 o6,lP=some ⟨b6,o6,none⟩/\∃a5:Int,hcell n b6 (o6+1)=some (.int .i64 a5)/\∃b7 o7,lP=some ⟨b7,o7,none⟩/\b7≠a.size/\b7≠h.size/\(∃C,hcell n b7 (o7+1)=some C)/\hfree n b7 (o7+1)=true/\let d0:Heap:=hset n b7 (o7+1) (.int .i64 (IntKind.i64.wrap (a5+(1:Int))))
    r [.int .i64 1,.int .i64 c,.string ByteArray.empty,.float .f64 0] d0)
    (∃s:List Value->Heap->Prop,
    (cnd (((UInt8.toNat f:Nat):Int)==(93:Int))
     (let p:Heap:=hset e a.size 0 (.int .i64 2)
     ∃b8 o8,lP=some ⟨b8,o8,none⟩/\∃a6:Int,hcell p b8 (o8+1)=some (.int .i64 a6)/\∃b9 o9,lP=some ⟨b9,o9,none⟩/\b9≠a.size/\b9≠h.size/\(∃C,hcell p b9 (o9+1)=some C)/\hfree p b9 (o9+1)=true/\let d1:Heap:=hset p b9 (o9+1) (.int .i64 (IntKind.i64.wrap (a6+(1:Int))))
     s [.int .i64 2,.int .i64 c,.string ByteArray.empty,.float .f64 0] d1)
     (∃t:List Value->Heap->Prop,
     (cnd (((UInt8.toNat f:Nat):Int)==(34:Int))
       (callP Tryz.prog 202 #[.pointer lP] e [a.size,h.size] (fun d3 a9=>
       ∃z:ByteArray,d3= .string z/\
       let b0:Heap:=hset a9 a.size 0 (.int .i64 5)
       let b1:Heap:=hset b0 a.size 2 (.string z)
       t [.int .i64 5,.int .i64 c,.string z,.float .f64 0] b1) Rp)
       (callX Tryz.prog 203 #[.int .u8 ((UInt8.toNat f:Nat):Int)] e [a.size,h.size] fun d4 V=>
       ∃a1:Bool,d4= .bool a1/\
       ∃g:List Value->Heap->Prop,
       (cnd a1
        (let c0:Heap:=hset V a.size 0 (.int .i64 3)
        callX Tryz.prog 204 #[.pointer lP,.func (.func 205) #[] #[]] c0 [a.size,h.size] fun d5 c1=>
        ∃A:ByteArray,d5= .string A/\
        let c2:Heap:=hset c1 a.size 2 (.string A)
        g [.int .i64 3,.int .i64 c,.string A,.float .f64 0] c2)
        (callX Tryz.prog 206 #[.int .u8 ((UInt8.toNat f:Nat):Int)] V [a.size,h.size] fun d6 i=>
        ∃a2:Bool,d6= .bool a2/\
        cnd a2
         (let j:Heap:=hset i a.size 0 (.int .i64 4)
         callX Tryz.prog 204 #[.pointer lP,.func (.func 207) #[] #[]] j [a.size,h.size] fun m k=>
         ∃d:ByteArray,m= .string d/\
         let l:Heap:=hset k a.size 2 (.string d)
         g [.int .i64 4,.int .i64 c,.string d,.float .f64 0] l)
         (cnd (((UInt8.toNat f:Nat):Int)==(43:Int))
          (let j:Heap:=hset i a.size 0 (.int .i64 4)
          callX Tryz.prog 204 #[.pointer lP,.func (.func 207) #[] #[]] j [a.size,h.size] fun m k=>
          ∃d:ByteArray,m= .string d/\
          let l:Heap:=hset k a.size 2 (.string d)
          g [.int .i64 4,.int .i64 c,.string d,.float .f64 0] l)
          (cnd (((UInt8.toNat f:Nat):Int)==(45:Int))
           (let j:Heap:=hset i a.size 0 (.int .i64 4)
           callX Tryz.prog 204 #[.pointer lP,.func (.func 207) #[] #[]] j [a.size,h.size] fun m k=>
           ∃d:ByteArray,m= .string d/\
           let l:Heap:=hset k a.size 2 (.string d)
           g [.int .i64 4,.int .i64 c,.string d,.float .f64 0] l)
           (∃u:List Value->Heap->Prop,
           (cnd (((UInt8.toNat f:Nat):Int)==(46:Int))
             (let c3:Heap:=hset i a.size 0 (.int .i64 4)
             callX Tryz.prog 204 #[.pointer lP,.func (.func 207) #[] #[]] c3 [a.size,h.size] fun d7 c4=>
             ∃B:ByteArray,d7= .string B/\
             let c5:Heap:=hset c4 a.size 2 (.string B)
             u [.int .i64 4,.int .i64 c,.string B,.float .f64 0] c5)
             (∃b10 o10,lP=some ⟨b10,o10,none⟩/\∃a7:Int,hcell i b10 (o10+1)=some (.int .i64 a7)/\callP Tryz.prog 109 #[.int .i64 a7,.int .i64 15] i [a.size,h.size] (fun d8 c6=>
             d8= .tuple #[]/\
             u [.int .i64 0,.int .i64 c,.string ByteArray.empty,.float .f64 0] c6) Rp))/\
           ∀E:Int,∀I:Int,∀M:ByteArray,∀Q:Nat,∀W,u [.int .i64 E,.int .i64 I,.string M,.float .f64 Q] W->
           g [.int .i64 E,.int .i64 I,.string M,.float .f64 Q] W)))))/\
       ∀F:Int,∀J:Int,∀N:ByteArray,∀S:Nat,∀X,g [.int .i64 F,.int .i64 J,.string N,.float .f64 S] X->
       t [.int .i64 F,.int .i64 J,.string N,.float .f64 S] X))/\
     ∀G:Int,∀K:Int,∀O:ByteArray,∀T:Nat,∀Y,t [.int .i64 G,.int .i64 K,.string O,.float .f64 T] Y->
     s [.int .i64 G,.int .i64 K,.string O,.float .f64 T] Y))/\
    ∀H:Int,∀L:Int,∀P:ByteArray,∀U:Nat,∀Z,s [.int .i64 H,.int .i64 L,.string P,.float .f64 U] Z->
    r [.int .i64 H,.int .i64 L,.string P,.float .f64 U] Z))/\
  ∀v:Int,∀w:Int,∀x:ByteArray,∀y:Nat,∀a0,r [.int .i64 v,.int .i64 w,.string x,.float .f64 y] a0->
  let c8:Heap:=hset (hset (hset (hset a0 h.size 0 (.int .i64 v)) h.size (0+1) (.int .i64 w)) h.size ((0+1)+1) (.string x)) h.size (((0+1)+1)+1) (.float .f64 y)
  R (.agg #[.int .i64 v,.int .i64 w,.string x,.float .f64 y]) c8)
theorem calls149 {h:Heap} {R Rp:Value->Heap->Prop} (lP:Option Addr) (H:S149 lP h R Rp):CallsP Tryz.prog 149 #[.pointer lP] h R Rp:=by
 have e:S149 lP h R Rp=FX (envP [2,3] 93 Rp) {loops:=[],joins:=[(37,⟨[2,3],[],[2],[3]⟩),(48,⟨[2,3],[],[2],[3]⟩),(59,⟨[2,3],[],[2],[3]⟩),(66,⟨[2,3],[],[2],[3]⟩),(73,⟨[2,3],[],[2],[3]⟩)],blocks:=[],draws:=[(3,⟨10,false⟩),(5,⟨10,false⟩)]} Tryz.f149 (Tryz.f149.body.getD .skip) [.pointer lP] h R:=by kernel_rfl
 exact calls_of_FXp (envP_ok _ _ _) Tryz.func149 (by kernel_rfl) (by kernel_rfl) (by kernel_rfl) rfl (e▸H)
def S208 (t:Int) (t2:Int) (t3:ByteArray) (t4:Nat) (h:Heap) (R Rp:Value->Heap->Prop):Prop:=
 let a:Heap:=h.push (.cells #[.int .i64 t,.int .i64 t2,.string t3,.float .f64 t4] 156)
 let v:Heap:=a.push (.cells #[.int .i64 0,.int .i64 0,.string ByteArray.empty,.float .f64 0] 156)
 let m:=fun(P:Bool) (b:Heap)=>
  (cnd P
   (callP Tryz.prog 109 #[.int .i64 t2,.int .i64 15] b [a.size,h.size] (fun J C=>
   J= .tuple #[]/\
   let A:Heap:=hset (hset (hset (hset C a.size 0 (.int .i64 t)) a.size (0+1) (.int .i64 t2)) a.size ((0+1)+1) (.string t3)) a.size (((0+1)+1)+1) (.float .f64 t4)
   R (.agg #[.int .i64 t,.int .i64 t2,.string t3,.float .f64 t4]) A) Rp)
   (∃c:List Value->Heap->Prop,
   (cnd (t==(3:Int))
     (let n:=fun(F:Heap)=>
      (let G:Heap:=hset F h.size 0 (.int .i64 4)
      callX Tryz.prog 260 #[.string t3] G [a.size,h.size] fun M H=>
      ∃j:Nat,∃I:Int,M= .tuple #[.float .f64 j,.int .i64 I]/\
      let w:Heap:=hset H h.size 3 (.float .f64 j)
      c [.int .i64 4,.int .i64 t2,.string t3,.float .f64 j] w)
     cnd (t3.toList==(⟨#[78,97,78]⟩:ByteArray).toList)
      (callP Tryz.prog 58 #[.bool true,.int .i64 t2,.int .i64 16] b [a.size,h.size] (fun K D=>
      K= .tuple #[]/\
      n D) Rp)
      (callP Tryz.prog 58 #[.bool (t3.toList==(⟨#[73,78,70]⟩:ByteArray).toList),.int .i64 t2,.int .i64 16] b [a.size,h.size] (fun L E=>
      L= .tuple #[]/\
      n E) Rp))
     (∃d:List Value->Heap->Prop,
     (cnd (t==(4:Int))
      (callX Tryz.prog 260 #[.string t3] b [a.size,h.size] fun N x=>
      ∃k:Nat,∃l:Int,N= .tuple #[.float .f64 k,.int .i64 l]/\
      callP Tryz.prog 58 #[.bool (l==(0:Int)),.int .i64 t2,.int .i64 l] x [a.size,h.size] (fun O y=>
      O= .tuple #[]/\
      let z:Heap:=hset y h.size 3 (.float .f64 k)
      d [.int .i64 t,.int .i64 t2,.string t3,.float .f64 k] z) Rp)
      (d [.int .i64 t,.int .i64 t2,.string t3,.float .f64 t4] b))/\
     ∀o:Int,∀p:Int,∀q:ByteArray,∀r:Nat,∀s,d [.int .i64 o,.int .i64 p,.string q,.float .f64 r] s->
     c [.int .i64 o,.int .i64 p,.string q,.float .f64 r] s))/\
   ∀e:Int,∀f:Int,∀g:ByteArray,∀i:Nat,∀u,c [.int .i64 e,.int .i64 f,.string g,.float .f64 i] u->
   let B:Heap:=hset (hset (hset (hset u a.size 0 (.int .i64 e)) a.size (0+1) (.int .i64 f)) a.size ((0+1)+1) (.string g)) a.size (((0+1)+1)+1) (.float .f64 i)
   R (.agg #[.int .i64 e,.int .i64 f,.string g,.float .f64 i]) B))
 cnd (t==(0:Int))
  (m (t==(0:Int)) v)
  (m (t==(2:Int)) v)
theorem calls208 {h:Heap} {R Rp:Value->Heap->Prop} (t:Int) (t2:Int) (t3:ByteArray) (t4:Nat) (H:S208 t t2 t3 t4 h R Rp):CallsP Tryz.prog 208 #[.agg #[.int .i64 t,.int .i64 t2,.string t3,.float .f64 t4]] h R Rp:=by
 have e:S208 t t2 t3 t4 h R Rp=FX (envP [1,2] 51 Rp) {loops:=[],joins:=[(13,⟨[1,2],[],[2],[1]⟩),(34,⟨[1,2],[],[2],[1]⟩)],blocks:=[],draws:=[]} Tryz.f208 (Tryz.f208.body.getD .skip) [.agg #[.int .i64 t,.int .i64 t2,.string t3,.float .f64 t4]] h R:=by kernel_rfl
 exact calls_of_FXp (envP_ok _ _ _) Tryz.func208 (by kernel_rfl) (by kernel_rfl) (by kernel_rfl) rfl (e▸H)
end Go.Proofs.YtlflalecmhgmjaaGreatDoor.N
namespace Go.Proofs.YtlflalecmhgmjaaGreatDoor.G
def ind (n:Nat):List UInt8:=List.replicate n 32
def kv (n:Nat) (k v:List UInt8):List UInt8:=ind n++(k++32::v)
def opn (n:Nat) (k:List UInt8):List UInt8:=kv n k [91]
def cls (n:Nat):List UInt8:=ind n++[93]
def quo (l:List UInt8):List UInt8:=34::(enc l++[34])
def spotL (tx:Nat->List UInt8) (p:Nat × Nat):List (List UInt8):=[opn 4 kGraphics,kv 6 kX (tx p.1),kv 6 kY (tx p.2),cls 4]
def nodeL (tx:Nat->List UInt8) (lab:Option ByteArray) (sp:Option (Nat × Nat)) (v:Nat):List (List UInt8):=
 opn 2 kNode::kv 4 kId (dec v)::((match lab with | some l=>[kv 4 kLabel (quo l.data.toList)] | none=>[])++((match sp with | some p=>spotL tx p | none=>[])++[cls 2]))
def edgeL (tx:Nat->List UInt8) (w:Option Nat) (e:Nat × Nat):List (List UInt8):=
 opn 2 kEdge::kv 4 kSource (dec e.1)::kv 4 kTarget (dec e.2)::((match w with | some x=>[kv 4 kWeight (tx x)] | none=>[])++[cls 2])
def nodesL (tx:Nat->List UInt8) (d:Dc):Nat->Nat->List (List UInt8)
 | 0,_=>[]
 | k+1,v=>nodeL tx d.labels[v]? d.spots[v]? v++nodesL tx d k (v+1)
def edgesL (tx:Nat->List UInt8):List (Nat × Nat)->List Nat->List (List UInt8)
 | [],_=>[]
 | e::es,ws=>edgeL tx ws.head? e++edgesL tx es ws.tail
def docL (tx:Nat->List UInt8) (d:Dc):List (List UInt8):=
 opn 0 kGraph::kv 2 kDirected (if d.dir=true then [49]else [48])::(nodesL tx d d.n 0++(edgesL tx d.edges d.weights++[cls 0]))
section
variable {s:ByteArray} {rd:ByteArray->Option (Nat × Nat)} {cl:Nat->Nat} {tx:Nat->List UInt8}
theorem sep32 (l:List UInt8):Sep (32::l):=⟨32,l,rfl,rfl⟩
def BigP (s:ByteArray) (rd:ByteArray->Option (Nat × Nat)) (cl:Nat->Nat) (l:Lv) (d:Nat) (r:Rd) (P:Nat->Lv->Rd->Prop):Prop:=∃e l' r',Big s rd cl l d r (e,l',r')/\P e l' r'
theorem wd_of {k:List UInt8} (h1:∃c r,k=c::r/\lettr c.toNat=true) (h2:∀c∈k,wordB c.toNat=true):∀l,Sep l->Wd k l:=fun l hl=>⟨h1,h2,hl.word⟩
theorem wdGraph :∀l,Sep l->Wd kGraph l:=wd_of ⟨103,_,rfl,rfl⟩ (by decide)
theorem wdNode :∀l,Sep l->Wd kNode l:=wd_of ⟨110,_,rfl,rfl⟩ (by decide)
theorem wdEdge :∀l,Sep l->Wd kEdge l:=wd_of ⟨101,_,rfl,rfl⟩ (by decide)
theorem wdId :∀l,Sep l->Wd kId l:=wd_of ⟨105,_,rfl,rfl⟩ (by decide)
theorem wdSource :∀l,Sep l->Wd kSource l:=wd_of ⟨115,_,rfl,rfl⟩ (by decide)
theorem wdTarget :∀l,Sep l->Wd kTarget l:=wd_of ⟨116,_,rfl,rfl⟩ (by decide)
theorem range_map {α:Type} (f:Nat->α) (v:Nat):(List.range (v+1)).map f=(List.range v).map f++[f v]:=by rw[List.range_succ,List.map_append];rfl
def one64 :Nat:=4607182418800017408
theorem set_two1 {α:Type} (l:List α) (a b c:α):(l++[a,b]).set l.length c=l++[c,b]:=by
 rw[List.set_append_right _ _ (Nat.le_refl _),Nat.sub_self];rfl
theorem set_two2 {α:Type} (l:List α) (a b c:α):(l++[a,b]).set (l.length+1) c=l++[a,c]:=by
 rw[List.set_append_right _ _ (by omega),show l.length+1-l.length=1 by omega];rfl
end
end Go.Proofs.YtlflalecmhgmjaaGreatDoor.G
namespace Go.Proofs.YtlflalecmhgmjaaGreatDoor.G
theorem run_le (p:Nat->Bool) (s:ByteArray):∀n i,s.size-i=n->i<=s.size->run p s i<=s.size:=by
 intro n
 induction n with
 | zero=>intro i h1 h2;rw[run,if_neg (by omega)];exact h2
 | succ n ih=>
  intro i h1 h2
  rw[run]
  split
  ·exact ih (i+1) (by omega) (by omega)
  ·exact h2
theorem run_lt {p:Nat->Bool} {s:ByteArray} {i:Nat} (h:i<s.size) (hp:p (bt s i)=true):i<run p s i:=by
 rw[run,if_pos ⟨h,hp⟩]
 exact run_ge p s (i+1)
theorem skp_le (s:ByteArray):∀n i,s.size-i<=n->i<=s.size->i<=skp s i/\skp s i<=s.size:=by
 intro n
 induction n with
 | zero=>intro i h1 h2;rw[skp,if_neg (by omega)];exact⟨Nat.le_refl _,h2⟩
 | succ n ih=>
  intro i h1 h2
  rw[skp]
  split
  ·rename_i hlt
   split
   ·have:=ih (i+1) (by omega) (by omega);omega
   ·split
    ·have h3:=run_ge (fun c=>decide (c≠10)) s (i+1)
     have h4:=run_le (fun c=>decide (c≠10)) s _ (i+1) rfl (by omega)
     have:=ih _ (by omega) h4;omega
    ·omega
  ·omega
theorem digs_ge (s:ByteArray):∀k n i,i<=(digs s k n i).2
 | 0,n,i=>Nat.le_refl _
 | k+1,n,i=>by
  rw[digs]
  split
  ·have:=digs_ge s k (10*n+(bt s i-48)) (i+1);omega
  ·exact Nat.le_refl _
theorem bt_lt {s:ByteArray} {i:Nat} (h:bt s i≠256):i<s.size:=by
 unfold bt at h
 split at h
 ·rename_i c hc
  by_cases hh:i<s.size
  ·exact hh
  ·rw [getElem?_neg s i hh]at hc;cases hc
 ·exact absurd rfl h
theorem preB_lt {s:ByteArray} {i:Nat} {l:List UInt8} (h:preB s i l=true):l.length<=s.size-i\/l=[]:=by
 unfold preB at h
 have h:=of_decide_eq_true h
 have h2:=congrArg List.length h
 rw[ByteArray.data_extract,Array.toList_extract,List.extract_eq_take_drop,List.length_take,List.length_drop,<-size_len]at h2
 left;omega
theorem part_le {s:ByteArray} {i c n:Nat} (hi:i<s.size) (h:part s i=some (c,n)):0<n/\i+n<=s.size:=by
 unfold part at h
 have pre:∀{l:List UInt8} {m:Nat},preB s i l=true->l.length=m->0<m->i+m<=s.size:=by
  intro l m q e hm
  rcases preB_lt q with q | q
  ·omega
  ·subst q;simp at e;omega
 split at h
 ·rename_i q;cases h;exact⟨by decide,pre q rfl (by decide)⟩
 split at h
 ·rename_i q;cases h;exact⟨by decide,pre q rfl (by decide)⟩
 split at h
 ·rename_i q;cases h;exact⟨by decide,pre q rfl (by decide)⟩
 split at h
 ·rename_i q;cases h;exact⟨by decide,pre q rfl (by decide)⟩
 split at h
 ·rename_i q;cases h;exact⟨by decide,pre q rfl (by decide)⟩
 split at h
 ·cases h
 ·have hg:=digs_ge s 3 0 (i+2)
  generalize digs s 3 0 (i+2)=y at h hg
  obtain⟨m,k⟩:=y
  simp only at h hg
  split at h
  ·cases h
  ·rename_i q
   simp only[not_or]at q
   simp only[Option.some.injEq,Prod.mk.injEq]at h
   have:=bt_lt (s:=s) (i:=k) (by have:=q.2.1;omega)
   omega
theorem str_le {s:ByteArray} {fr:Nat} (hfr:fr<=s.size):∀n i out,s.size-i<=n->i<=s.size->
  (∀l j,str s fr i out= .ok (l,j)->i<j/\j<=s.size)/\(∀f,str s fr i out= .no f->f.1<=s.size)/\str s fr i out≠ .un:=by
 intro n
 induction n with
 | zero=>
  intro i out h1 h2
  rw[str,if_neg (by omega)]
  exact⟨fun _ _ h=>(by cases h),fun f h=>(by cases h;exact hfr),by simp⟩
 | succ n ih=>
  intro i out h1 h2
  rw[str]
  split
  ·rename_i hlt
   split
   ·exact ⟨fun _ _ h=>(by cases h;omega),fun f h=>(by cases h),by simp⟩
   ·split
    ·split
     ·rename_i c m hp
      obtain⟨p1,p2⟩:=part_le hlt hp
      obtain⟨q1,q2,q3⟩:=ih (i+(m-1)+1) (out++[UInt8.ofNat c]) (by omega) (by omega)
      exact⟨fun l j h=>(by have:=q1 l j h;omega),q2,q3⟩
     ·exact ⟨fun _ _ h=>(by cases h),fun f h=>(by cases h;exact h2),by simp⟩
    ·split
     ·obtain ⟨q1,q2,q3⟩:=ih (i+1) (out++[UInt8.ofNat (bt s i)]) (by omega) (by omega)
      exact⟨fun l j h=>(by have:=q1 l j h;omega),q2,q3⟩
     ·exact ⟨fun _ _ h=>(by cases h),fun f h=>(by cases h;exact h2),by simp⟩
  ·exact ⟨fun _ _ h=>(by cases h),fun f h=>(by cases h;exact hfr),by simp⟩
theorem next_le {s:ByteArray} {i:Nat} (hi:i<=s.size):
  (∀t j,next s i= .ok (t,j)->i<=j/\j<=s.size/\t.at_<=s.size/\(t.kind≠0->i<j))/\(∀f,next s i= .no f->f.1<=s.size)/\next s i≠ .un:=by
 obtain⟨h1,h2⟩:=skp_le s _ i (Nat.le_refl _) hi
 unfold next
 generalize skp s i=p at h1 h2
 simp only[]
 split
 ·exact ⟨fun _ _ h=>(by cases h;exact⟨h1,h2,h2,fun q=>absurd rfl q⟩),fun f h=>(by cases h),by simp⟩
 ·rename_i hp
  split
  ·exact ⟨fun _ _ h=>(by cases h;exact⟨by omega,by omega,h2,fun q=>by omega⟩),fun f h=>(by cases h),by simp⟩
  split
  ·exact ⟨fun _ _ h=>(by cases h;exact⟨by omega,by omega,h2,fun q=>by omega⟩),fun f h=>(by cases h),by simp⟩
  split
  ·obtain ⟨q1,q2,q3⟩:=str_le h2 _ (p+1) [] (Nat.le_refl _) (by omega)
   generalize str s p (p+1) []=y at q1 q2 q3
   cases y with
   | ok a=>
    obtain⟨l,j⟩:=a
    have:=q1 l j rfl
    exact⟨fun _ _ h=>(by cases h;exact⟨by omega,by omega,h2,fun q=>by omega⟩),fun f h=>(by cases h),by simp[Er.bind]⟩
   | no f=>exact⟨fun _ _ h=>(by cases h),fun g h=>(by cases h;exact q2 f rfl),by simp[Er.bind]⟩
   | un=>exact absurd rfl q3
  split
  ·rename_i hc
   have r1:=run_lt (p:=wordB) (s:=s) (i:=p) (by omega) (by simp[wordB,hc])
   have r2:=run_le wordB s _ p rfl h2
   exact⟨fun _ _ h=>(by cases h;exact⟨by omega,by omega,h2,fun q=>by omega⟩),fun f h=>(by cases h),by simp⟩
  split
  ·rename_i hc
   have r1:=run_lt (p:=numbB) (s:=s) (i:=p) (by omega) (by rcases hc with hc | hc | hc | hc<;>simp[numbB,hc])
   have r2:=run_le numbB s _ p rfl h2
   exact⟨fun _ _ h=>(by cases h;exact⟨by omega,by omega,h2,fun q=>by omega⟩),fun f h=>(by cases h),by simp⟩
  ·exact ⟨fun _ _ h=>(by cases h),fun f h=>(by cases h;exact h2),by simp⟩
def Er.all {α:Type} (x:Er α) (P:α->Prop) (m:Nat):Prop:=(∀a,x= .ok a->P a)/\∀f,x= .no f->f.1<=m
theorem Er.all_ok {α:Type} {a:α} {P:α->Prop} {m:Nat} (h:P a):(Er.ok a).all P m:=⟨fun _ q=>(by cases q;exact h),fun _ q=>(by cases q)⟩
theorem Er.all_no {α:Type} {f:F} {P:α->Prop} {m:Nat} (h:f.1<=m):(Er.no f:Er α).all P m:=⟨fun _ q=>(by cases q),fun _ q=>(by cases q;exact h)⟩
theorem Er.all_un {α:Type} {P:α->Prop} {m:Nat}:(Er.un:Er α).all P m:=⟨fun _ q=>(by cases q),fun _ q=>(by cases q)⟩
theorem Er.all_bind {α β:Type} {x:Er α} {k:α->Er β} {P:α->Prop} {Q:β->Prop} {m:Nat} (h:x.all P m) (hk:∀a,P a->(k a).all Q m):(x.bind k).all Q m:=by
 cases x with
 | ok a=>exact hk a (h.1 a rfl)
 | no f=>exact Er.all_no (h.2 f rfl)
 | un=>exact Er.all_un
theorem Er.all_must {α:Type} {b:Bool} {f:F} {k:Er α} {P:α->Prop} {m:Nat} (hf:f.1<=m) (hk:b=true->k.all P m):(must b f k).all P m:=by
 cases b with
 | true=>exact hk rfl
 | false=>exact Er.all_no hf
structure RI (cl:Nat->Nat) (s:ByteArray) (σ:Rd):Prop where
 i:σ.i<=s.size
 n:σ.n<=1024
 ll:σ.labels.length=σ.n
 sl:σ.spots.length=σ.n
 el:σ.ends.length=2*σ.weights.length
 wl:σ.weights.length<=3072
 lp:∀l∈σ.labels,l.size<=256/\∀c∈l.data.toList,prnt c.toNat=true
 sc:∀p∈σ.spots,cl p.1=p.1/\cl p.2=p.2
 wc:∀x∈σ.weights,cl x=x
 ids:∀p∈σ.ids,p.2<σ.n
 ea:∀t∈σ.ends,t.at_<=s.size
def LvI (σ:Rd):Lv->Prop
 | .node v _ _ _=>v<σ.n
 | _=>True
def TkI (σ:Rd):Tk->Prop
 | .id v=>v<σ.n
 | .list l=>LvI σ l
 | _=>True
theorem RI.at {cl:Nat->Nat} {s:ByteArray} {σ:Rd} (h:RI cl s σ) {i:Nat} (hi:i<=s.size):RI cl s {σ with i:=i}:=⟨hi,h.n,h.ll,h.sl,h.el,h.wl,h.lp,h.sc,h.wc,h.ids,h.ea⟩
theorem TkI.at {σ:Rd} {x:Tk} (h:TkI σ x) (i:Nat):TkI {σ with i:=i} x:=by
 cases x with
 | list l=>cases l<;>exact h
 | _=>exact h
structure ClOK (cl:Nat->Nat):Prop where
 c:∀x,cl (cl x)=cl x
 z:cl 0=0
 o:cl one64=one64
section
variable {cl:Nat->Nat} {s:ByteArray} {rd:ByteArray->Option (Nat × Nat)}
theorem key_all (hc:ClOK cl) {l:Lv} {t:Tok} {σ:Rd} (h:RI cl s σ) (hl:LvI σ l) (ht:t.at_<=s.size):
  (key l t σ).all (fun x=>TkI x.2.2 x.1/\LvI x.2.2 x.2.1/\RI cl s x.2.2/\σ.n<=x.2.2.n/\x.2.2.i=σ.i) s.size:=by
 have ok0:∀{x:Tk} {l:Lv},TkI σ x->LvI σ l->(Er.ok (x,l,σ)).all (fun x=>TkI x.2.2 x.1/\LvI x.2.2 x.2.1/\RI cl s x.2.2/\σ.n<=x.2.2.n/\x.2.2.i=σ.i) s.size:=fun a b=>Er.all_ok ⟨a,b,h,Nat.le_refl _,rfl⟩
 cases l with
 | over=>exact ok0 trivial trivial
 | top=>
  simp only[key]
  split
  ·exact Er.all_must ht fun _=>Er.all_ok ⟨trivial,trivial,⟨h.i,h.n,h.ll,h.sl,h.el,h.wl,h.lp,h.sc,h.wc,h.ids,h.ea⟩,Nat.le_refl _,rfl⟩
  ·exact ok0 trivial trivial
 | graph d=>
  simp only[key]
  split
  ·exact Er.all_must ht fun _=>ok0 trivial trivial
  split
  ·refine Er.all_must ht fun hn=>Er.all_ok ⟨?_,trivial,?_,?_,rfl⟩
   ·show σ.n<σ.n+1
    omega
   ·have hn:=of_decide_eq_true hn
    refine⟨h.i,?_,?_,?_,h.el,h.wl,?_,?_,h.wc,?_,h.ea⟩
    ·show σ.n+1<=1024;omega
    ·show (σ.labels++[noB]).length=σ.n+1;simp[h.ll]
    ·show (σ.spots++[(0,0)]).length=σ.n+1;simp[h.sl]
    ·intro l hl
     have hl:l∈σ.labels++[noB]:=hl
     rw[List.mem_append]at hl
     rcases hl with hl | hl
     ·exact h.lp l hl
     ·simp at hl;subst hl;exact⟨by decide,fun c hc=>absurd hc (by decide+revert)⟩
    ·intro p hp
     have hp:p∈σ.spots++[(0,0)]:=hp
     rw[List.mem_append]at hp
     rcases hp with hp | hp
     ·exact h.sc p hp
     ·simp at hp;subst hp;exact⟨hc.z,hc.z⟩
    ·intro p hp
     have:=h.ids p hp
     show p.2<σ.n+1
     omega
   ·show σ.n<=σ.n+1;omega
  split
  ·refine Er.all_must ht fun hn=>Er.all_ok ⟨trivial,trivial,?_,Nat.le_refl _,rfl⟩
   have hn:=of_decide_eq_true hn
   have he:=h.el
   refine⟨h.i,h.n,h.ll,h.sl,?_,?_,h.lp,h.sc,?_,h.ids,?_⟩
   ·show (σ.ends++[_,_]).length=2*(σ.weights++[_]).length
    simp;omega
   ·show (σ.weights++[_]).length<=3072
    simp;omega
   ·intro x hx
    have hx:x∈σ.weights++[one64]:=hx
    rw[List.mem_append]at hx
    rcases hx with hx | hx
    ·exact h.wc x hx
    ·simp at hx;subst hx;exact hc.o
   ·intro t ht
    have ht:t∈σ.ends++[⟨0,0,noB,0⟩,⟨0,0,noB,0⟩]:=ht
    rw[List.mem_append]at ht
    rcases ht with ht | ht
    ·exact h.ea t ht
    ·simp at ht;subst ht;exact Nat.zero_le _
  ·exact ok0 trivial trivial
 | node v a b c=>
  simp only[key]
  split
  ·exact Er.all_must ht fun _=>ok0 hl hl
  split
  ·exact Er.all_must ht fun _=>ok0 trivial hl
  split
  ·exact Er.all_must ht fun _=>ok0 trivial hl
  ·exact ok0 trivial hl
 | spot v a b=>
  simp only[key]
  split
  ·exact Er.all_must ht fun _=>ok0 trivial trivial
  split
  ·exact Er.all_must ht fun _=>ok0 trivial trivial
  ·exact ok0 trivial trivial
 | edge k a b c=>
  simp only[key]
  split
  ·exact Er.all_must ht fun _=>ok0 trivial trivial
  split
  ·exact Er.all_must ht fun _=>ok0 trivial trivial
  split
  ·exact Er.all_must ht fun _=>ok0 trivial trivial
  ·exact ok0 trivial trivial
theorem valued_all {t:Tok} (h:t.at_<=s.size):(valued rd t).all (fun v=>v.at_<=s.size) s.size:=by
 unfold valued
 split
 ·exact Er.all_no h
 split
 ·split
  ·split
   ·exact Er.all_ok h
   ·exact Er.all_un
  ·exact Er.all_no h
 split
 ·split
  ·exact Er.all_ok h
  ·exact Er.all_no h
  ·exact Er.all_un
 ·exact Er.all_ok h
theorem take_all (hc:ClOK cl) {x:Tk} {v:Tok} {σ:Rd} (h:RI cl s σ) (hx:TkI σ x) (ht:v.at_<=s.size):(take cl x v σ).all (fun r=>RI cl s r/\σ.n<=r.n/\r.i=σ.i) s.size:=by
 cases x with
 | none=>exact Er.all_ok ⟨h,Nat.le_refl _,rfl⟩
 | list l=>exact Er.all_ok ⟨h,Nat.le_refl _,rfl⟩
 | dir=>exact Er.all_must ht fun _=>Er.all_ok ⟨⟨h.i,h.n,h.ll,h.sl,h.el,h.wl,h.lp,h.sc,h.wc,h.ids,h.ea⟩,Nat.le_refl _,rfl⟩
 | id k=>
  simp only[take]
  split
  ·refine Er.all_must ht fun _=>Er.all_ok ⟨⟨h.i,h.n,h.ll,h.sl,h.el,h.wl,h.lp,h.sc,h.wc,?_,h.ea⟩,Nat.le_refl _,rfl⟩
   intro p hp
   have hp:p∈σ.ids++[_]:=hp
   rw[List.mem_append]at hp
   rcases hp with hp | hp
   ·exact h.ids p hp
   ·simp at hp;subst hp;exact hx
  ·exact Er.all_no ht
 | label k=>
  simp only[take]
  refine Er.all_must ht fun h1=>Er.all_must ht fun h2=>Er.all_ok ⟨⟨h.i,h.n,?_,h.sl,h.el,h.wl,?_,h.sc,h.wc,h.ids,h.ea⟩,Nat.le_refl _,rfl⟩
  ·show (σ.labels.set k v.says).length=σ.n
   rw[List.length_set];exact h.ll
  ·intro l hl
   rcases List.mem_or_eq_of_mem_set hl with hl | rfl
   ·exact h.lp l hl
   ·exact ⟨of_decide_eq_true h1,List.all_eq_true.1 h2⟩
 | spot k y=>
  refine Er.all_ok ⟨⟨h.i,h.n,h.ll,?_,h.el,h.wl,h.lp,?_,h.wc,h.ids,h.ea⟩,Nat.le_refl _,rfl⟩
  ·show (σ.spots.modify k _).length=σ.n
   rw[List.length_modify];exact h.sl
  ·intro p hp
   obtain⟨j,hj,hp⟩:=List.getElem_of_mem hp
   have hp:(σ.spots.modify k fun p=>if y=true then(p.1,cl v.num)else(cl v.num,p.2))[j]? =some p:=by rw[<-hp];exact List.getElem?_eq_getElem hj
   rw[List.getElem?_modify]at hp
   cases q:σ.spots[j]? with
   | none=>rw[q]at hp;simp at hp
   | some p0=>
    have h0:=h.sc p0 (List.mem_of_getElem? q)
    rw[q]at hp
    obtain rfl:=Option.some.inj hp
    split
    ·split
     ·exact ⟨h0.1,hc.c _⟩
     ·exact ⟨hc.c _,h0.2⟩
    ·exact h0
 | fin k=>
  simp only[take]
  split
  ·refine Er.all_ok ⟨⟨h.i,h.n,h.ll,h.sl,?_,h.wl,h.lp,h.sc,h.wc,h.ids,?_⟩,Nat.le_refl _,rfl⟩
   ·show (σ.ends.set k v).length=_
    rw[List.length_set];exact h.el
   ·intro t ht2
    rcases List.mem_or_eq_of_mem_set ht2 with q | rfl
    ·exact h.ea t q
    ·exact ht
  ·exact Er.all_no ht
 | weight k=>
  refine Er.all_ok ⟨⟨h.i,h.n,h.ll,h.sl,?_,?_,h.lp,h.sc,?_,h.ids,h.ea⟩,Nat.le_refl _,rfl⟩
  ·show σ.ends.length=2*(σ.weights.set _ _).length
   rw[List.length_set];exact h.el
  ·show (σ.weights.set _ _).length<=3072
   rw[List.length_set];exact h.wl
  ·intro x hx
   rcases List.mem_or_eq_of_mem_set hx with hx | rfl
   ·exact h.wc x hx
   ·exact hc.c _
theorem behind_all {l:Lv} {e:Nat} {σ:Rd} (h:RI cl s σ) (he:e<=s.size):(behind l e σ).all (fun r=>r=σ) s.size:=by
 cases l<;>simp only[behind]<;>first | exact Er.all_ok rfl | exact Er.all_must he fun _=>Er.all_ok rfl
theorem LvI.mono {l:Lv} {σ σ':Rd} (h:LvI σ l) (hn:σ.n<=σ'.n):LvI σ' l:=by
 cases l<;>simp only[LvI]at h ⊢
 omega
theorem value_all (hc:ClOK cl) {L:Lv->Nat->Rd->Er (Nat × Lv × Rd)} (hL:∀l d σ,RI cl s σ->LvI σ l->(L l d σ).all (fun x=>x.1<=s.size/\LvI x.2.2 x.2.1/\RI cl s x.2.2/\σ.n<=x.2.2.n/\σ.i<=x.2.2.i) s.size)
  {x:Tk} {d:Nat} {σ:Rd} (h:RI cl s σ) (hx:TkI σ x):(value s rd cl L x d σ).all (fun r=>RI cl s r/\σ.n<=r.n/\σ.i<=r.i) s.size:=by
 unfold value
 obtain⟨n1,n2,n3⟩:=next_le h.i
 refine Er.all_bind (P:=fun y=>σ.i<=y.2/\y.2<=s.size/\y.1.at_<=s.size) ⟨fun a q=>?_,n2⟩ ?_
 ·obtain ⟨t,j⟩:=a
  have:=n1 t j q
  exact⟨this.1,this.2.1,this.2.2.1⟩
 rintro⟨v0,i⟩ ⟨q1,q2,q3⟩
 simp only at q1 q2 q3
 refine Er.all_bind (valued_all q3) fun v q4=>?_
 refine Er.all_must q4 fun _=>Er.all_must q4 fun _=>?_
 have h':=h.at q2
 split
 ·split
  ·rename_i l _
   refine Er.all_bind (hL l (d+1) {σ with i:=i} h' hx) ?_
   rintro⟨e,l',r2⟩ ⟨p1,p2,p3,p4,p5⟩
   refine⟨fun a q=>?_,(behind_all p3 p1).2⟩
   have:=(behind_all p3 p1).1 a q
   subst this
   simp only at p3 p4 p5
   exact⟨p3,p4,by omega⟩
  ·refine Er.all_bind (hL .over (d+1) {σ with i:=i} h' trivial) ?_
   rintro⟨e,l',r2⟩ ⟨p1,p2,p3,p4,p5⟩
   simp only at p3 p4 p5
   exact Er.all_ok ⟨p3,p4,by omega⟩
 ·have hx':=hx.at i
  obtain⟨a1,a2⟩:=take_all (v:=v) hc h' hx' q4
  exact⟨fun a q=>let ⟨b1,b2,b3⟩:=a1 a q;⟨b1,b2,by rw[b3];exact q1⟩,a2⟩
theorem list_all (hc:ClOK cl):∀(n:Nat) (l:Lv) (d:Nat) (σ:Rd),RI cl s σ->LvI σ l->(list s rd cl n l d σ).all (fun x=>x.1<=s.size/\LvI x.2.2 x.2.1/\RI cl s x.2.2/\σ.n<=x.2.2.n/\σ.i<=x.2.2.i) s.size:=by
 intro n
 induction n with
 | zero=>intro l d σ h hl;exact Er.all_un
 | succ n ih=>
  intro l d σ h hl
  rw[list]
  obtain⟨n1,n2,n3⟩:=next_le h.i
  refine Er.all_bind (P:=fun y=>σ.i<=y.2/\y.2<=s.size/\y.1.at_<=s.size) ⟨fun a q=>?_,n2⟩ ?_
  ·obtain ⟨t,j⟩:=a
   have:=n1 t j q
   exact⟨this.1,this.2.1,this.2.2.1⟩
  rintro⟨t,i⟩ ⟨q1,q2,q3⟩
  simp only at q1 q2 q3 ⊢
  have h':=h.at q2
  have hl':LvI {σ with i:=i} l:=by cases l<;>exact hl
  split
  ·exact Er.all_ok ⟨q3,hl',h',Nat.le_refl _,q1⟩
  ·refine Er.all_must q3 fun _=>Er.all_bind (key_all hc h' hl' q3) ?_
   rintro⟨x,l',r1⟩ ⟨p1,p2,p3,p4,p5⟩
   simp only at p1 p2 p3 p4 p5 ⊢
   refine Er.all_bind (value_all hc (fun l d σ=>ih l d σ) p3 p1) ?_
   rintro r2 ⟨b1,b2,b3⟩
   obtain⟨a1,a2⟩:=ih l' d r2 b1 (p2.mono b2)
   refine⟨fun a q=>?_,a2⟩
   obtain⟨c1,c2,c3,c4,c5⟩:=a1 a q
   exact⟨c1,c2,c3,by omega,by omega⟩
theorem start_ri :RI cl s start:=⟨Nat.zero_le _,by decide,rfl,rfl,rfl,by decide,by simp[start],by simp[start],by simp[start],by simp[start],by simp[start]⟩
end
end Go.Proofs.YtlflalecmhgmjaaGreatDoor.G
namespace Go.Proofs.YtlflalecmhgmjaaGreatDoor.G
section
variable {cl:Nat->Nat} {s:ByteArray} {rd:ByteArray->Option (Nat × Nat)}
end
end Go.Proofs.YtlflalecmhgmjaaGreatDoor.G
