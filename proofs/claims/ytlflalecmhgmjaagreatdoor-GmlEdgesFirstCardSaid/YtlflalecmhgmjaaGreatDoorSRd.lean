/- Functions: what is left to be shown of each, over memory and without: printed by program, tied to the loaded functions by the kernel. Conditions: none. -/
import Derived.Test.YtlflalecmhgmjaaGreatDoorWEnv
import Derived.Test.YtlflalecmhgmjaaGreatDoorYGl
import Derived.Test.YtlflalecmhgmjaaGreatDoorGTell
set_option linter.unusedVariables false
set_option linter.unusedSimpArgs false
namespace Go.Proofs.YtlflalecmhgmjaaGreatDoor.N
open Go.Proofs.YtlflalecmhgmjaaGreatDoor
open Go.X
set_option maxRecDepth 100000
set_option maxHeartbeats 2000000
def S112 (v:Int) (v2:Int) (v3:ByteArray) (v4:Nat) (h:Heap) (R Rp:Value->Heap->Prop):Prop:=
 let s:Heap:=h.push (.cells #[.int .i64 v,.int .i64 v2,.string v3,.float .f64 v4] 156)
 callX Tryz.prog 154 #[.string v3,.int .i64 10,.int .i64 64] s [h.size] fun r a=>
 ∃b:Int,((r= .tuple #[.int .i64 b,.nilIface]/\
  let c:=fun(u:Heap)=>
   (R (.int .i64 b) u)
  cnd true
   (callX Tryz.prog 155 #[.int .i64 b,.int .i64 10] a [h.size] fun E e=>
   ∃p:ByteArray,E= .string p/\
   Fr [] a e/\
   cnd (p.toList==v3.toList)
    (cnd (decide (b>=((-2147483648):Int)))
     (callP Tryz.prog 58 #[.bool (decide (b<=(2147483648:Int))),.int .i64 v2,.int .i64 17] e [h.size] (fun F l=>
     F= .tuple #[]/\
     Fr [] a l/\
     c l) Rp)
     (callP Tryz.prog 58 #[.bool false,.int .i64 v2,.int .i64 17] e [h.size] (fun G m=>
     G= .tuple #[]/\
     Fr [] a m/\
     c m) Rp))
    (callP Tryz.prog 58 #[.bool false,.int .i64 v2,.int .i64 17] e [h.size] (fun H n=>
    H= .tuple #[]/\
    Fr [] a n/\
    c n) Rp))
   (Fr [] a a/\
   callP Tryz.prog 58 #[.bool false,.int .i64 v2,.int .i64 17] a [h.size] (fun y o=>
   y= .tuple #[]/\
   Fr [] a o/\
   c o) Rp))
 \/∃(x:Nat) (w:Value),r= .tuple #[.int .i64 b,.iface x w]/\
  let d:=fun(t:Heap)=>
   (R (.int .i64 b) t)
  cnd false
   (callX Tryz.prog 155 #[.int .i64 b,.int .i64 10] a [h.size] fun z f=>
   ∃q:ByteArray,z= .string q/\
   Fr [] a f/\
   cnd (q.toList==v3.toList)
    (cnd (decide (b>=((-2147483648):Int)))
     (callP Tryz.prog 58 #[.bool (decide (b<=(2147483648:Int))),.int .i64 v2,.int .i64 17] f [h.size] (fun A g=>
     A= .tuple #[]/\
     Fr [] a g/\
     d g) Rp)
     (callP Tryz.prog 58 #[.bool false,.int .i64 v2,.int .i64 17] f [h.size] (fun B i=>
     B= .tuple #[]/\
     Fr [] a i/\
     d i) Rp))
    (callP Tryz.prog 58 #[.bool false,.int .i64 v2,.int .i64 17] f [h.size] (fun C j=>
    C= .tuple #[]/\
    Fr [] a j/\
    d j) Rp))
   (Fr [] a a/\
   callP Tryz.prog 58 #[.bool false,.int .i64 v2,.int .i64 17] a [h.size] (fun D k=>
   D= .tuple #[]/\
   Fr [] a k/\
   d k) Rp))
theorem calls112 {h:Heap} {R Rp:Value->Heap->Prop} (v:Int) (v2:Int) (v3:ByteArray) (v4:Nat) (H:S112 v v2 v3 v4 h R Rp):CallsP Tryz.prog 112 #[.agg #[.int .i64 v,.int .i64 v2,.string v3,.float .f64 v4]] h R Rp:=by
 have e:S112 v v2 v3 v4 h R Rp=FX (envP [1] 32 Rp) {loops:=[],joins:=[],blocks:=[],draws:=[(2,⟨20,false⟩)]} Tryz.f112 (Tryz.f112.body.getD .skip) [.agg #[.int .i64 v,.int .i64 v2,.string v3,.float .f64 v4]] h R:=by kernel_rfl
 exact calls_of_FXp (envP_ok _ _ _) Tryz.func112 (by kernel_rfl) (by kernel_rfl) (by kernel_rfl) rfl (e▸H)
def S209 (seenM:Option Nat) (key:Int) (key2:Int) (key3:ByteArray) (key4:Nat) (h:Heap) (R Rp:Value->Heap->Prop):Prop:=
 let b:Heap:=h.push (.cells #[.int .i64 key,.int .i64 key2,.string key3,.float .f64 key4] 156)
 let f:=fun(g:Heap)=>
  (∃o,seenM=some o/\∃es4 c4,hmap g o=some (es4,c4)/\keysB tiStr es4/\
  (∀ev4∈es4.toList,ev4.key= .string key3->
   ∃p:Int,ev4.val= .int .i64 p/\callP Tryz.prog 58 #[.bool (p==(1:Int)),.int .i64 key2,.int .i64 18] g [h.size] (fun w u=>
   w= .tuple #[]/\
   R (.tuple #[]) u) Rp)/\
  ((∀a∈es4.toList,a.key≠ .string key3)->
   callP Tryz.prog 58 #[.bool ((0:Int)==(1:Int)),.int .i64 key2,.int .i64 18] g [h.size] (fun x v=>
   x= .tuple #[]/\
   R (.tuple #[]) v) Rp))
 ∃n,seenM=some n/\∃es c,hmap b n=some (es,c)/\keysB tiStr es/\
 (∀ev∈es.toList,ev.key= .string key3->
  ∃i:Int,ev.val= .int .i64 i/\∃d,seenM=some d/\d≠h.size/\∃es2 c2,hmap b d=some (es2,c2)/\keysB tiStr es2/\
  (∀(l:Nat) (j:MapEntry),es2[l]? =some j->j.key= .string key3->
   let q:Heap:=hput b d (es2.modify l fun a=>{a with key:=.string key3,val:=.int .i64 (IntKind.i64.wrap (i+(1:Int)))}) c2
   f q)/\
  ((∀a∈es2.toList,a.key≠ .string key3)->
   let r:Heap:=hput b d (es2.push ⟨.string key3,.int .i64 (IntKind.i64.wrap (i+(1:Int))),c2⟩) (c2+1)
   f r))/\
 ((∀a∈es.toList,a.key≠ .string key3)->
  ∃e,seenM=some e/\e≠h.size/\∃es3 c3,hmap b e=some (es3,c3)/\keysB tiStr es3/\
  (∀(m:Nat) (k:MapEntry),es3[m]? =some k->k.key= .string key3->
   let s:Heap:=hput b e (es3.modify m fun a=>{a with key:=.string key3,val:=.int .i64 (IntKind.i64.wrap ((0:Int)+(1:Int)))}) c3
   f s)/\
  ((∀a∈es3.toList,a.key≠ .string key3)->
   let t:Heap:=hput b e (es3.push ⟨.string key3,.int .i64 (IntKind.i64.wrap ((0:Int)+(1:Int))),c3⟩) (c3+1)
   f t))
theorem calls209 {h:Heap} {R Rp:Value->Heap->Prop} (seenM:Option Nat) (key:Int) (key2:Int) (key3:ByteArray) (key4:Nat) (H:S209 seenM key key2 key3 key4 h R Rp):CallsP Tryz.prog 209 #[.map seenM,.agg #[.int .i64 key,.int .i64 key2,.string key3,.float .f64 key4]] h R Rp:=by
 have e:S209 seenM key key2 key3 key4 h R Rp=FX (envP [3] 17 Rp) {loops:=[],joins:=[],blocks:=[],draws:=[]} Tryz.f209 (Tryz.f209.body.getD .skip) [.map seenM,.agg #[.int .i64 key,.int .i64 key2,.string key3,.float .f64 key4]] h R:=by kernel_rfl
 exact calls_of_FXp (envP_ok _ _ _) Tryz.func209 (by kernel_rfl) (by kernel_rfl) (by kernel_rfl) rfl (e▸H)
def S153 (rP:Option Addr) (seenM:Option Nat) (key:Int) (key2:Int) (key3:ByteArray) (key4:Nat) (h:Heap) (R Rp:Value->Heap->Prop):Prop:=
 let c:Heap:=h.push (.cells #[.pointer rP] 89)
 let a:Heap:=c.push (.cells #[.int .i64 key,.int .i64 key2,.string key3,.float .f64 key4] 156)
 cnd (key3.toList==(⟨#[100,105,114,101,99,116,101,100]⟩:ByteArray).toList)
  (callP Tryz.prog 209 #[.map seenM,.agg #[.int .i64 key,.int .i64 key2,.string key3,.float .f64 key4]] a [c.size] (fun t f=>
  t= .tuple #[]/\
  let q:Heap:=f.push (.cells #[.int .i64 4,.func (.func 210) #[] #[.pointer (some (⟨h.size,0,none⟩:Addr))],.nilFunc,.nilFunc] 193)
  R (.pointer (some (⟨f.size,0,none⟩:Addr))) q) Rp)
  (cnd (key3.toList==(⟨#[110,111,100,101]⟩:ByteArray).toList)
   (∃l:Option Addr,hcell a h.size 0=some (.pointer l)/\∃b o,l=some ⟨b,o,none⟩/\∃j:Int,hcell a b (o+3)=some (.int .i64 j)/\callP Tryz.prog 58 #[.bool (decide (j<(1024:Int))),.int .i64 key2,.int .i64 3] a [c.size] (fun u d=>
   u= .tuple #[]/\
   Fr [] a d/\
   ∃m:Option Addr,hcell d h.size 0=some (.pointer m)/\callX Tryz.prog 211 #[.pointer m] d [c.size] fun v r=>
   ∃g:Option Addr,v= .pointer g/\
   R (.pointer g) r) Rp)
   (cnd (key3.toList==(⟨#[101,100,103,101]⟩:ByteArray).toList)
    (∃n:Option Addr,hcell a h.size 0=some (.pointer n)/\∃b2 o2,n=some ⟨b2,o2,none⟩/\∃(y:Option Addr) (k z:Nat),hcell a b2 (o2+17)=some (.slice y k z)/\(2:Int)≠0/\callP Tryz.prog 58 #[.bool (decide ((IntKind.i64.wrap (Int.tdiv ((k:Nat):Int) (2:Int)))<(3072:Int))),.int .i64 key2,.int .i64 3] a [c.size] (fun w e=>
    w= .tuple #[]/\
    Fr [] a e/\
    ∃p:Option Addr,hcell e h.size 0=some (.pointer p)/\callX Tryz.prog 212 #[.pointer p] e [c.size] fun x s=>
    ∃i:Option Addr,x= .pointer i/\
    R (.pointer i) s) Rp)
    (R (.pointer none) a)))
theorem calls153 {h:Heap} {R Rp:Value->Heap->Prop} (rP:Option Addr) (seenM:Option Nat) (key:Int) (key2:Int) (key3:ByteArray) (key4:Nat) (H:S153 rP seenM key key2 key3 key4 h R Rp):CallsP Tryz.prog 153 #[.pointer rP,.map seenM,.agg #[.int .i64 key,.int .i64 key2,.string key3,.float .f64 key4]] h R Rp:=by
 have e:S153 rP seenM key key2 key3 key4 h R Rp=FX (envP [5] 45 Rp) {loops:=[],joins:=[],blocks:=[],draws:=[(6,⟨10,false⟩),(9,⟨10,false⟩)]} Tryz.f153 (Tryz.f153.body.getD .skip) [.pointer rP,.map seenM,.agg #[.int .i64 key,.int .i64 key2,.string key3,.float .f64 key4]] h R:=by kernel_rfl
 exact calls_of_FXp (envP_ok _ _ _) Tryz.func153 (by kernel_rfl) (by kernel_rfl) (by kernel_rfl) rfl (e▸H)
def S152 (key:Int) (key2:Int) (key3:ByteArray) (key4:Nat) (fvP:Option Addr) (fvP2:Option Addr) (h:Heap) (R Rp:Value->Heap->Prop):Prop:=
 let a:Heap:=h.push (.cells #[.int .i64 key,.int .i64 key2,.string key3,.float .f64 key4] 156)
 ∃b o,fvP=some ⟨b,o,none⟩/\∃e:Option Addr,hcell a b o=some (.pointer e)/\∃b2 o2,fvP2=some ⟨b2,o2,none⟩/\∃d:Option Nat,hcell a b2 o2=some (.map d)/\callP Tryz.prog 153 #[.pointer e,.map d,.agg #[.int .i64 key,.int .i64 key2,.string key3,.float .f64 key4]] a [h.size] (fun g f=>
 ∃c:Option Addr,g= .pointer c/\
 R (.pointer c) f) Rp
theorem calls152 {h:Heap} {R Rp:Value->Heap->Prop} (key:Int) (key2:Int) (key3:ByteArray) (key4:Nat) (fvP:Option Addr) (fvP2:Option Addr) (H:S152 key key2 key3 key4 fvP fvP2 h R Rp):CallsP Tryz.prog 152 #[.agg #[.int .i64 key,.int .i64 key2,.string key3,.float .f64 key4],.pointer fvP,.pointer fvP2] h R Rp:=by
 have e:S152 key key2 key3 key4 fvP fvP2 h R Rp=FX (envP [3] 9 Rp) {loops:=[],joins:=[],blocks:=[],draws:=[]} Tryz.f152 (Tryz.f152.body.getD .skip) [.agg #[.int .i64 key,.int .i64 key2,.string key3,.float .f64 key4],.pointer fvP,.pointer fvP2] h R:=by kernel_rfl
 exact calls_of_FXp (envP_ok _ _ _) Tryz.func152 (by kernel_rfl) (by kernel_rfl) (by kernel_rfl) rfl (e▸H)
def S210 (v:Int) (v2:Int) (v3:ByteArray) (v4:Nat) (fvP:Option Addr) (h:Heap) (R Rp:Value->Heap->Prop):Prop:=
 let d:Heap:=h.push (.cells #[.int .i64 v,.int .i64 v2,.string v3,.float .f64 v4] 156)
 let c:=fun(n:Int) (f:ByteArray) (p:Nat) (a:Heap)=>
  (∃b o,fvP=some ⟨b,o,none⟩/\∃e:Option Addr,hcell a b o=some (.pointer e)/\∃b2 o2,e=some ⟨b2,o2,none⟩/\b2≠h.size/\(∃k,hcell a b2 ((o2+3)+2)=some k)/\hfree a b2 ((o2+3)+2)=true/\let j:Heap:=hset a b2 ((o2+3)+2) (.bool (f.toList==(⟨#[49]⟩:ByteArray).toList))
  R (.tuple #[]) j)
 cnd (v3.toList==(⟨#[48]⟩:ByteArray).toList)
  (callP Tryz.prog 58 #[.bool true,.int .i64 v2,.int .i64 17] d [h.size] (fun l g=>
  l= .tuple #[]/\
  c v2 v3 v4 g) Rp)
  (callP Tryz.prog 58 #[.bool (v3.toList==(⟨#[49]⟩:ByteArray).toList),.int .i64 v2,.int .i64 17] d [h.size] (fun m i=>
  m= .tuple #[]/\
  c v2 v3 v4 i) Rp)
theorem calls210 {h:Heap} {R Rp:Value->Heap->Prop} (v:Int) (v2:Int) (v3:ByteArray) (v4:Nat) (fvP:Option Addr) (H:S210 v v2 v3 v4 fvP h R Rp):CallsP Tryz.prog 210 #[.agg #[.int .i64 v,.int .i64 v2,.string v3,.float .f64 v4],.pointer fvP] h R Rp:=by
 have e:S210 v v2 v3 v4 fvP h R Rp=FX (envP [2] 21 Rp) {loops:=[],joins:=[],blocks:=[],draws:=[]} Tryz.f210 (Tryz.f210.body.getD .skip) [.agg #[.int .i64 v,.int .i64 v2,.string v3,.float .f64 v4],.pointer fvP] h R:=by kernel_rfl
 exact calls_of_FXp (envP_ok _ _ _) Tryz.func210 (by kernel_rfl) (by kernel_rfl) (by kernel_rfl) rfl (e▸H)
def S211 (rP:Option Addr) (h:Heap) (R:Value->Heap->Prop):Prop:=
 let m:Heap:=h.push (.cells #[.pointer rP] 89)
 ∃U:Option Addr,hcell m h.size 0=some (.pointer U)/\∃b o,U=some ⟨b,o,none⟩/\∃S:Int,hcell m b (o+3)=some (.int .i64 S)/\let A:Heap:=m.push (.cells #[.int .i64 0] 3)
 (∃c,hcell A m.size 0=some c)/\hfree A m.size 0=true/\let t:Heap:=hset A m.size 0 (.int .i64 S)
 ∃E:Option Addr,hcell t h.size 0=some (.pointer E)/\∃b2 o2,E=some ⟨b2,o2,none⟩/\∃T:Int,hcell t b2 (o2+3)=some (.int .i64 T)/\∃b3 o3,E=some ⟨b3,o3,none⟩/\(∃c,hcell t b3 (o3+3)=some c)/\hfree t b3 (o3+3)=true/\let a:Heap:=hset t b3 (o3+3) (.int .i64 (IntKind.i64.wrap (T+(1:Int))))
 let F:=fun(Z:Nat) (I:Heap)=>
  (let n:Heap:=I.push (.map #[] 0)
  let C:Heap:=n.push (.cells #[.map none] 69)
  n.size≠Z/\n.size≠a.size/\(∃c,hcell C n.size 0=some c)/\hfree C n.size 0=true/\let J:Heap:=hset C n.size 0 (.map (some I.size))
  let X:Heap:=J.push (.cells #[.int .i64 1,.nilFunc,.func (.func 261) #[] #[.pointer (some (⟨n.size,0,none⟩:Addr)),.pointer (some (⟨h.size,0,none⟩:Addr)),.pointer (some (⟨m.size,0,none⟩:Addr))],.func (.func 265) #[] #[.pointer (some (⟨n.size,0,none⟩:Addr))]] 193)
  R (.pointer (some (⟨J.size,0,none⟩:Addr))) X)
 ∃Mv Mv2:List Nat,(∀b∈Mv,b∈Mv2)/\(∀b∈([]:List Nat),b∉Mv2)/\
 h.size∉Mv/\∃y:Option Addr,hcell a h.size 0=some (.pointer y)/\h.size∉Mv2/\∃z:Option Addr,hcell a h.size 0=some (.pointer z)/\h.size∉Mv/\∃V:Option Addr,hcell a h.size 0=some (.pointer V)/\∃b4 o4,V=some ⟨b4,o4,none⟩/\b4∉Mv/\∃(g:Option Addr) (d k:Nat),hcell a b4 (o4+11)=some (.slice g d k)/\h.size∉Mv2/\∃W:Option Addr,hcell a h.size 0=some (.pointer W)/\∃b5 o5,W=some ⟨b5,o5,none⟩/\b5∉Mv/\∃(i:Option Addr) (e l:Nat),hcell a b5 (o5+12)=some (.slice i e l)/\(let j:Heap:=a.push (.cells #[.string (⟨#[]⟩:ByteArray)] 9)
 Fr Mv a j/\
 (∃L,Ownd j 9 1 g d k L/\(∀b∈([a.size]:List Nat),b∉blkOf g)/\(d+1)*16<=140737488355328/\(d+1)<=maxLen/\
 ∀sA sC hv6,Ownd hv6 9 1 sA (d+1) sC (L++[.string (⟨#[]⟩:ByteArray)])->Fr (blkOf g) j hv6->((sA=g/\sC=k)\/∃f,sA=some ⟨f,0,none⟩/\j.size<=f)->(k<(d+1)->Fr [] j hv6)->
 Fr Mv a hv6/\
 let u:Heap:=hv6.push (.cells #[.float .f64 0,.float .f64 0] 78)
 Fr Mv a u/\
 ∃M,Ownd u 78 2 i e l M/\(∀b∈([hv6.size,a.size]:List Nat),b∉blkOf i)/\(e+1)*16<=140737488355328/\(e+1)<=maxLen/\
 ∀sA2 sC2 hv8,Ownd hv8 78 2 sA2 (e+1) sC2 (M++[.float .f64 0,.float .f64 0])->Fr (blkOf i) u hv8->((sA2=i/\sC2=l)\/∃f,sA2=some ⟨f,0,none⟩/\u.size<=f)->(l<(e+1)->Fr [] u hv8)->
 Fr Mv a hv8/\
 ∃b6 o6,y=some ⟨b6,o6,none⟩/\b6≠hv6.size/\b6≠a.size/\(∃c,hcell hv8 b6 (o6+11)=some c)/\hfree hv8 b6 (o6+11)=true/\let x:Heap:=hset hv8 b6 (o6+11) (.slice sA (d+1) sC)
 Fr Mv2 a x/\
 ∃b7 o7,z=some ⟨b7,o7,none⟩/\b7≠hv6.size/\b7≠a.size/\(∃c,hcell x b7 (o7+12)=some c)/\hfree x b7 (o7+12)=true/\let G:Heap:=hset x b7 (o7+12) (.slice sA2 (e+1) sC2)
 Fr Mv2 a G/\
 F hv6.size G)
 /\(let r:Heap:=j.push (.cells #[.float .f64 0,.float .f64 0] 78)
  Fr Mv a r/\
  ∃N,Ownd r 9 1 g d k N/\(∀b∈([j.size,a.size]:List Nat),b∉blkOf g)/\(d+1)*16<=140737488355328/\(d+1)<=maxLen/\
  ∀sA3 sC3 hv12,Ownd hv12 9 1 sA3 (d+1) sC3 (N++[.string (⟨#[]⟩:ByteArray)])->Fr (blkOf g) r hv12->((sA3=g/\sC3=k)\/∃f,sA3=some ⟨f,0,none⟩/\r.size<=f)->(k<(d+1)->Fr [] r hv12)->
  Fr Mv a hv12/\
  ∃O,Ownd hv12 78 2 i e l O/\(∀b∈([j.size,a.size]:List Nat),b∉blkOf i)/\(e+1)*16<=140737488355328/\(e+1)<=maxLen/\
  ∀sA4 sC4 hv13,Ownd hv13 78 2 sA4 (e+1) sC4 (O++[.float .f64 0,.float .f64 0])->Fr (blkOf i) hv12 hv13->((sA4=i/\sC4=l)\/∃f,sA4=some ⟨f,0,none⟩/\hv12.size<=f)->(l<(e+1)->Fr [] hv12 hv13)->
  Fr Mv a hv13/\
  ∃b8 o8,y=some ⟨b8,o8,none⟩/\b8≠j.size/\b8≠a.size/\(∃c,hcell hv13 b8 (o8+11)=some c)/\hfree hv13 b8 (o8+11)=true/\let v:Heap:=hset hv13 b8 (o8+11) (.slice sA3 (d+1) sC3)
  Fr Mv2 a v/\
  ∃b9 o9,z=some ⟨b9,o9,none⟩/\b9≠j.size/\b9≠a.size/\(∃c,hcell v b9 (o9+12)=some c)/\hfree v b9 (o9+12)=true/\let H:Heap:=hset v b9 (o9+12) (.slice sA4 (e+1) sC4)
  Fr Mv2 a H/\
  F j.size H))
 /\(let q:Heap:=a.push (.cells #[.float .f64 0,.float .f64 0] 78)
  Fr Mv a q/\
  let s:Heap:=q.push (.cells #[.string (⟨#[]⟩:ByteArray)] 9)
  Fr Mv a s/\
  ∃P,Ownd s 9 1 g d k P/\(∀b∈([q.size,a.size]:List Nat),b∉blkOf g)/\(d+1)*16<=140737488355328/\(d+1)<=maxLen/\
  ∀sA5 sC5 hv18,Ownd hv18 9 1 sA5 (d+1) sC5 (P++[.string (⟨#[]⟩:ByteArray)])->Fr (blkOf g) s hv18->((sA5=g/\sC5=k)\/∃f,sA5=some ⟨f,0,none⟩/\s.size<=f)->(k<(d+1)->Fr [] s hv18)->
  Fr Mv a hv18/\
  ∃Q,Ownd hv18 78 2 i e l Q/\(∀b∈([q.size,a.size]:List Nat),b∉blkOf i)/\(e+1)*16<=140737488355328/\(e+1)<=maxLen/\
  ∀sA6 sC6 hv19,Ownd hv19 78 2 sA6 (e+1) sC6 (Q++[.float .f64 0,.float .f64 0])->Fr (blkOf i) hv18 hv19->((sA6=i/\sC6=l)\/∃f,sA6=some ⟨f,0,none⟩/\hv18.size<=f)->(l<(e+1)->Fr [] hv18 hv19)->
  Fr Mv a hv19/\
  ∃b10 o10,y=some ⟨b10,o10,none⟩/\b10≠q.size/\b10≠a.size/\(∃c,hcell hv19 b10 (o10+11)=some c)/\hfree hv19 b10 (o10+11)=true/\let w:Heap:=hset hv19 b10 (o10+11) (.slice sA5 (d+1) sC5)
  Fr Mv2 a w/\
  ∃b11 o11,z=some ⟨b11,o11,none⟩/\b11≠q.size/\b11≠a.size/\(∃c,hcell w b11 (o11+12)=some c)/\hfree w b11 (o11+12)=true/\let B:Heap:=hset w b11 (o11+12) (.slice sA6 (e+1) sC6)
  Fr Mv2 a B/\
  let p:Heap:=B.push (.map #[] 0)
  let D:Heap:=p.push (.cells #[.map none] 69)
  p.size≠q.size/\p.size≠a.size/\(∃c,hcell D p.size 0=some c)/\hfree D p.size 0=true/\let K:Heap:=hset D p.size 0 (.map (some B.size))
  let Y:Heap:=K.push (.cells #[.int .i64 1,.nilFunc,.func (.func 261) #[] #[.pointer (some (⟨p.size,0,none⟩:Addr)),.pointer (some (⟨h.size,0,none⟩:Addr)),.pointer (some (⟨m.size,0,none⟩:Addr))],.func (.func 265) #[] #[.pointer (some (⟨p.size,0,none⟩:Addr))]] 193)
  R (.pointer (some (⟨K.size,0,none⟩:Addr))) Y)
theorem calls211 {h:Heap} {R:Value->Heap->Prop} (rP:Option Addr) (H:S211 rP h R):CallsH Tryz.prog 211 #[.pointer rP] h R:=by
 have e:S211 rP h R=FX (envX [29,36] 48) {loops:=[],joins:=[],blocks:=[],draws:=[(3,⟨1000021,true⟩)]} Tryz.f211 (Tryz.f211.body.getD .skip) [.pointer rP] h R:=by kernel_rfl
 exact calls_of_FX (envX_ok _ _) Tryz.func211 (by kernel_rfl) (by kernel_rfl) (by kernel_rfl) (e▸H)
def S261 (key:Int) (key2:Int) (key3:ByteArray) (key4:Nat) (fvP:Option Addr) (fvP2:Option Addr) (fvP3:Option Addr) (h:Heap) (R Rp:Value->Heap->Prop):Prop:=
 let a:Heap:=h.push (.cells #[.int .i64 key,.int .i64 key2,.string key3,.float .f64 key4] 156)
 cnd (key3.toList==(⟨#[105,100]⟩:ByteArray).toList)
  (∃b o,fvP=some ⟨b,o,none⟩/\∃i:Option Nat,hcell a b o=some (.map i)/\callP Tryz.prog 209 #[.map i,.agg #[.int .i64 key,.int .i64 key2,.string key3,.float .f64 key4]] a [h.size] (fun q d=>
  q= .tuple #[]/\
  let m:Heap:=d.push (.cells #[.int .i64 4,.func (.func 262) #[] #[.pointer fvP2,.pointer fvP3],.nilFunc,.nilFunc] 193)
  R (.pointer (some (⟨d.size,0,none⟩:Addr))) m) Rp)
  (cnd (key3.toList==(⟨#[108,97,98,101,108]⟩:ByteArray).toList)
   (∃b2 o2,fvP=some ⟨b2,o2,none⟩/\∃j:Option Nat,hcell a b2 o2=some (.map j)/\callP Tryz.prog 209 #[.map j,.agg #[.int .i64 key,.int .i64 key2,.string key3,.float .f64 key4]] a [h.size] (fun r e=>
   r= .tuple #[]/\
   let n:Heap:=e.push (.cells #[.int .i64 5,.func (.func 263) #[] #[.pointer fvP2,.pointer fvP3],.nilFunc,.nilFunc] 193)
   R (.pointer (some (⟨e.size,0,none⟩:Addr))) n) Rp)
   (cnd (key3.toList==(⟨#[103,114,97,112,104,105,99,115]⟩:ByteArray).toList)
    (∃b3 o3,fvP=some ⟨b3,o3,none⟩/\∃k:Option Nat,hcell a b3 o3=some (.map k)/\callP Tryz.prog 209 #[.map k,.agg #[.int .i64 key,.int .i64 key2,.string key3,.float .f64 key4]] a [h.size] (fun s c=>
    s= .tuple #[]/\
    ∃b4 o4,fvP2=some ⟨b4,o4,none⟩/\∃l:Option Addr,hcell c b4 o4=some (.pointer l)/\∃b5 o5,fvP3=some ⟨b5,o5,none⟩/\∃g:Int,hcell c b5 o5=some (.int .i64 g)/\callX Tryz.prog 264 #[.pointer l,.int .i64 g] c [h.size] fun t p=>
    ∃f:Option Addr,t= .pointer f/\
    R (.pointer f) p) Rp)
    (R (.pointer none) a)))
theorem calls261 {h:Heap} {R Rp:Value->Heap->Prop} (key:Int) (key2:Int) (key3:ByteArray) (key4:Nat) (fvP:Option Addr) (fvP2:Option Addr) (fvP3:Option Addr) (H:S261 key key2 key3 key4 fvP fvP2 fvP3 h R Rp):CallsP Tryz.prog 261 #[.agg #[.int .i64 key,.int .i64 key2,.string key3,.float .f64 key4],.pointer fvP,.pointer fvP2,.pointer fvP3] h R Rp:=by
 have e:S261 key key2 key3 key4 fvP fvP2 fvP3 h R Rp=FX (envP [4] 32 Rp) {loops:=[],joins:=[],blocks:=[],draws:=[]} Tryz.f261 (Tryz.f261.body.getD .skip) [.agg #[.int .i64 key,.int .i64 key2,.string key3,.float .f64 key4],.pointer fvP,.pointer fvP2,.pointer fvP3] h R:=by kernel_rfl
 exact calls_of_FXp (envP_ok _ _ _) Tryz.func261 (by kernel_rfl) (by kernel_rfl) (by kernel_rfl) rfl (e▸H)
def S262 (x:Int) (x2:Int) (x3:ByteArray) (x4:Nat) (fvP:Option Addr) (fvP2:Option Addr) (h:Heap) (R Rp:Value->Heap->Prop):Prop:=
 let s:Heap:=h.push (.cells #[.int .i64 x,.int .i64 x2,.string x3,.float .f64 x4] 156)
 callP Tryz.prog 112 #[.agg #[.int .i64 x,.int .i64 x2,.string x3,.float .f64 x4]] s [h.size] (fun z f=>
 ∃a:Int,z= .int .i64 a/\
 let j:=fun(y:Bool) (t:Heap)=>
  (callP Tryz.prog 58 #[.bool (!y),.int .i64 x2,.int .i64 18] t [h.size] (fun A d=>
  A= .tuple #[]/\
  ∃b3 o3,fvP=some ⟨b3,o3,none⟩/\∃r:Option Addr,hcell d b3 o3=some (.pointer r)/\∃b4 o4,r=some ⟨b4,o4,none⟩/\∃p:Option Nat,hcell d b4 (o4+10)=some (.map p)/\∃b5 o5,fvP2=some ⟨b5,o5,none⟩/\∃i:Int,hcell d b5 o5=some (.int .i64 i)/\∃g,p=some g/\g≠h.size/\∃es2 c2,hmap d g=some (es2,c2)/\keysB tiInt es2/\
  (∀(l:Nat) (k:MapEntry),es2[l]? =some k->k.key= .int .i64 a->
   let u:Heap:=hput d g (es2.modify l fun e=>{e with key:=.int .i64 a,val:=.int .i64 i}) c2
   R (.tuple #[]) u)/\
  ((∀e∈es2.toList,e.key≠ .int .i64 a)->
   let v:Heap:=hput d g (es2.push ⟨.int .i64 a,.int .i64 i,c2⟩) (c2+1)
   R (.tuple #[]) v)) Rp)
 ∃b o,fvP=some ⟨b,o,none⟩/\∃q:Option Addr,hcell f b o=some (.pointer q)/\∃b2 o2,q=some ⟨b2,o2,none⟩/\∃n:Option Nat,hcell f b2 (o2+10)=some (.map n)/\∃m,n=some m/\∃es c,hmap f m=some (es,c)/\keysB tiInt es/\
 (∀ev∈es.toList,ev.key= .int .i64 a->
  ∃w:Int,ev.val= .int .i64 w/\j true f)/\
 ((∀e∈es.toList,e.key≠ .int .i64 a)->
  j false f)) Rp
theorem calls262 {h:Heap} {R Rp:Value->Heap->Prop} (x:Int) (x2:Int) (x3:ByteArray) (x4:Nat) (fvP:Option Addr) (fvP2:Option Addr) (H:S262 x x2 x3 x4 fvP fvP2 h R Rp):CallsP Tryz.prog 262 #[.agg #[.int .i64 x,.int .i64 x2,.string x3,.float .f64 x4],.pointer fvP,.pointer fvP2] h R Rp:=by
 have e:S262 x x2 x3 x4 fvP fvP2 h R Rp=FX (envP [3] 29 Rp) {loops:=[],joins:=[],blocks:=[],draws:=[(4,⟨6,false⟩)]} Tryz.f262 (Tryz.f262.body.getD .skip) [.agg #[.int .i64 x,.int .i64 x2,.string x3,.float .f64 x4],.pointer fvP,.pointer fvP2] h R:=by kernel_rfl
 exact calls_of_FXp (envP_ok _ _ _) Tryz.func262 (by kernel_rfl) (by kernel_rfl) (by kernel_rfl) rfl (e▸H)
def S263 (x:Int) (x2:Int) (x3:ByteArray) (x4:Nat) (fvP:Option Addr) (fvP2:Option Addr) (h:Heap) (R Rp:Value->Heap->Prop):Prop:=
 let q:Heap:=h.push (.cells #[.int .i64 x,.int .i64 x2,.string x3,.float .f64 x4] 156)
 callP Tryz.prog 58 #[.bool (decide (((x3.size:Nat):Int)<=(256:Int))),.int .i64 x2,.int .i64 23] q [h.size] (fun r f=>
 r= .tuple #[]/\
 callX Tryz.prog 68 #[.string x3] f [h.size] fun s i=>
 ∃k:Bool,s= .bool k/\
 Fr [] f i/\
 callP Tryz.prog 58 #[.bool k,.int .i64 x2,.int .i64 25] i [h.size] (fun t a=>
 t= .tuple #[]/\
 Fr [] f a/\
 ∃d:List Nat,(∀b∈([h.size]:List Nat),b∉d)/\
 ∃b o,fvP=some ⟨b,o,none⟩/\∃n:Option Addr,hcell a b o=some (.pointer n)/\∃b2 o2,n=some ⟨b2,o2,none⟩/\∃(l:Option Addr) (m u:Nat),hcell a b2 (o2+11)=some (.slice l m u)/\∃b3 o3,fvP2=some ⟨b3,o3,none⟩/\∃c:Int,hcell a b3 o3=some (.int .i64 c)/\∃b4 o4,fvP=some ⟨b4,o4,none⟩/\b4∉d/\∃p:Option Addr,hcell a b4 o4=some (.pointer p)/\∃b5 o5,l=some ⟨b5,o5,none⟩/\0<=c/\c<(m:Nat)/\∃b6 o6,p=some ⟨b6,o6,none⟩/\b5≠h.size/\(∃g,hcell a b5 (o5+(Int.toNat c)*1)=some g)/\hfree a b5 (o5+(Int.toNat c)*1)=true/\let e:Heap:=hset a b5 (o5+(Int.toNat c)*1) (.string x3)
 Fr d a e/\
 b6≠h.size/\(∃g,hcell e b6 ((o6+14)+0)=some g)/\hfree e b6 ((o6+14)+0)=true/\let j:Heap:=hset e b6 ((o6+14)+0) (.bool true)
 Fr d a j/\
 R (.tuple #[]) j) Rp) Rp
theorem calls263 {h:Heap} {R Rp:Value->Heap->Prop} (x:Int) (x2:Int) (x3:ByteArray) (x4:Nat) (fvP:Option Addr) (fvP2:Option Addr) (H:S263 x x2 x3 x4 fvP fvP2 h R Rp):CallsP Tryz.prog 263 #[.agg #[.int .i64 x,.int .i64 x2,.string x3,.float .f64 x4],.pointer fvP,.pointer fvP2] h R Rp:=by
 have e:S263 x x2 x3 x4 fvP fvP2 h R Rp=FX (envP [3] 29 Rp) {loops:=[],joins:=[],blocks:=[],draws:=[(2,⟨6,false⟩),(3,⟨14,true⟩)]} Tryz.f263 (Tryz.f263.body.getD .skip) [.agg #[.int .i64 x,.int .i64 x2,.string x3,.float .f64 x4],.pointer fvP,.pointer fvP2] h R:=by kernel_rfl
 exact calls_of_FXp (envP_ok _ _ _) Tryz.func263 (by kernel_rfl) (by kernel_rfl) (by kernel_rfl) rfl (e▸H)
def S264 (rP:Option Addr) (v:Int) (h:Heap) (R:Value->Heap->Prop):Prop:=
 let c:Heap:=h.push (.cells #[.pointer rP] 89)
 let d:Heap:=c.push (.cells #[.int .i64 v] 3)
 let a:Heap:=d.push (.map #[] 0)
 let b:Heap:=a.push (.cells #[.map none] 69)
 (∃g,hcell b a.size 0=some g)/\hfree b a.size 0=true/\let e:Heap:=hset b a.size 0 (.map (some d.size))
 let f:Heap:=e.push (.cells #[.int .i64 1,.nilFunc,.func (.func 317) #[] #[.pointer (some (⟨a.size,0,none⟩:Addr)),.pointer (some (⟨h.size,0,none⟩:Addr)),.pointer (some (⟨c.size,0,none⟩:Addr))],.func (.func 151) #[] #[]] 193)
 R (.pointer (some (⟨e.size,0,none⟩:Addr))) f
theorem calls264 {h:Heap} {R:Value->Heap->Prop} (rP:Option Addr) (v:Int) (H:S264 rP v h R):CallsH Tryz.prog 264 #[.pointer rP,.int .i64 v] h R:=by
 have e:S264 rP v h R=FX (envX [] 12) {loops:=[],joins:=[],blocks:=[],draws:=[]} Tryz.f264 (Tryz.f264.body.getD .skip) [.pointer rP,.int .i64 v] h R:=by kernel_rfl
 exact calls_of_FX (envX_ok _ _) Tryz.func264 (by kernel_rfl) (by kernel_rfl) (by kernel_rfl) (e▸H)
def S265 (atv:Int) (fvP:Option Addr) (h:Heap) (R Rp:Value->Heap->Prop):Prop:=
 ∃b o,fvP=some ⟨b,o,none⟩/\∃f:Option Nat,hcell h b o=some (.map f)/\∃a,f=some a/\∃es c,hmap h a=some (es,c)/\keysB tiStr es/\
 (∀ev∈es.toList,ev.key= .string (⟨#[105,100]⟩:ByteArray)->
  ∃d:Int,ev.val= .int .i64 d/\callP Tryz.prog 58 #[.bool (d==(1:Int)),.int .i64 atv,.int .i64 14] h [] (fun j g=>
  j= .tuple #[]/\
  R (.tuple #[]) g) Rp)/\
 ((∀e∈es.toList,e.key≠ .string (⟨#[105,100]⟩:ByteArray))->
  callP Tryz.prog 58 #[.bool ((0:Int)==(1:Int)),.int .i64 atv,.int .i64 14] h [] (fun k i=>
  k= .tuple #[]/\
  R (.tuple #[]) i) Rp)
theorem calls265 {h:Heap} {R Rp:Value->Heap->Prop} (atv:Int) (fvP:Option Addr) (H:S265 atv fvP h R Rp):CallsP Tryz.prog 265 #[.int .i64 atv,.pointer fvP] h R Rp:=by
 have e:S265 atv fvP h R Rp=FX (envP [] 8 Rp) {loops:=[],joins:=[],blocks:=[],draws:=[]} Tryz.f265 (Tryz.f265.body.getD .skip) [.int .i64 atv,.pointer fvP] h R:=by kernel_rfl
 exact calls_of_FXp (envP_ok _ _ _) Tryz.func265 (by kernel_rfl) (by kernel_rfl) (by kernel_rfl) rfl (e▸H)
def S212 (rP:Option Addr) (h:Heap) (R:Value->Heap->Prop):Prop:=
 let e:Heap:=h.push (.cells #[.pointer rP] 89)
 ∃A:Option Addr,hcell e h.size 0=some (.pointer A)/\∃b o,A=some ⟨b,o,none⟩/\∃(G:Option Addr) (z H:Nat),hcell e b (o+17)=some (.slice G z H)/\let u:Heap:=e.push (.cells #[.int .i64 0] 3)
 (∃f,hcell u e.size 0=some f)/\hfree u e.size 0=true/\let a:Heap:=hset u e.size 0 (.int .i64 ((z:Nat):Int))
 ∃j:List Nat,(∀b∈([]:List Nat),b∉j)/\
 h.size∉j/\∃B:Option Addr,hcell a h.size 0=some (.pointer B)/\h.size∉j/\∃C:Option Addr,hcell a h.size 0=some (.pointer C)/\∃b2 o2,C=some ⟨b2,o2,none⟩/\b2∉j/\∃(p:Option Addr) (g r:Nat),hcell a b2 (o2+17)=some (.slice p g r)/\let m:Heap:=a.push (.cells #[.int .i64 0,.int .i64 0,.string ByteArray.empty,.float .f64 0,.int .i64 0,.int .i64 0,.string ByteArray.empty,.float .f64 0] 156)
 Fr j a m/\
 ∃x,Ownd m 156 4 p g r x/\(∀b∈([a.size]:List Nat),b∉blkOf p)/\(g+2)*40<=140737488355328/\(g+2)<=maxLen/\
 ∀sA sC hv5,Ownd hv5 156 4 sA (g+2) sC (x++[.int .i64 0,.int .i64 0,.string ByteArray.empty,.float .f64 0,.int .i64 0,.int .i64 0,.string ByteArray.empty,.float .f64 0])->Fr (blkOf p) m hv5->((sA=p/\sC=r)\/∃l,sA=some ⟨l,0,none⟩/\m.size<=l)->(r<(g+2)->Fr [] m hv5)->
 Fr j a hv5/\
 ∃b3 o3,B=some ⟨b3,o3,none⟩/\b3≠a.size/\(∃f,hcell hv5 b3 (o3+17)=some f)/\hfree hv5 b3 (o3+17)=true/\let c:Heap:=hset hv5 b3 (o3+17) (.slice sA (g+2) sC)
 ∃k:List Nat,(∀b∈([a.size]:List Nat),b∉k)/\
 h.size∉k/\∃D:Option Addr,hcell c h.size 0=some (.pointer D)/\h.size∉k/\∃E:Option Addr,hcell c h.size 0=some (.pointer E)/\∃b4 o4,E=some ⟨b4,o4,none⟩/\b4∉k/\∃(q:Option Addr) (i s:Nat),hcell c b4 (o4+13)=some (.slice q i s)/\let n:Heap:=c.push (.cells #[.float .f64 4607182418800017408] 76)
 Fr k c n/\
 ∃y,Ownd n 76 1 q i s y/\(∀b∈([c.size,a.size]:List Nat),b∉blkOf q)/\(i+1)*8<=140737488355328/\(i+1)<=maxLen/\
 ∀sA2 sC2 hv8,Ownd hv8 76 1 sA2 (i+1) sC2 (y++[.float .f64 4607182418800017408])->Fr (blkOf q) n hv8->((sA2=q/\sC2=s)\/∃l,sA2=some ⟨l,0,none⟩/\n.size<=l)->(s<(i+1)->Fr [] n hv8)->
 Fr k c hv8/\
 ∃b5 o5,D=some ⟨b5,o5,none⟩/\b5≠c.size/\b5≠a.size/\(∃f,hcell hv8 b5 (o5+13)=some f)/\hfree hv8 b5 (o5+13)=true/\let w:Heap:=hset hv8 b5 (o5+13) (.slice sA2 (i+1) sC2)
 let d:Heap:=w.push (.map #[] 0)
 let t:Heap:=d.push (.cells #[.map none] 69)
 d.size≠c.size/\d.size≠a.size/\(∃f,hcell t d.size 0=some f)/\hfree t d.size 0=true/\let v:Heap:=hset t d.size 0 (.map (some w.size))
 let F:Heap:=v.push (.cells #[.int .i64 1,.nilFunc,.func (.func 266) #[] #[.pointer (some (⟨d.size,0,none⟩:Addr)),.pointer (some (⟨e.size,0,none⟩:Addr)),.pointer (some (⟨h.size,0,none⟩:Addr))],.func (.func 270) #[] #[.pointer (some (⟨d.size,0,none⟩:Addr))]] 193)
 R (.pointer (some (⟨v.size,0,none⟩:Addr))) F
theorem calls212 {h:Heap} {R:Value->Heap->Prop} (rP:Option Addr) (H:S212 rP h R):CallsH Tryz.prog 212 #[.pointer rP] h R:=by
 have e:S212 rP h R=FX (envX [18,27] 37) {loops:=[],joins:=[],blocks:=[],draws:=[(2,⟨9,true⟩),(3,⟨7,true⟩)]} Tryz.f212 (Tryz.f212.body.getD .skip) [.pointer rP] h R:=by kernel_rfl
 exact calls_of_FX (envX_ok _ _) Tryz.func212 (by kernel_rfl) (by kernel_rfl) (by kernel_rfl) (e▸H)
def S266 (key:Int) (key2:Int) (key3:ByteArray) (key4:Nat) (fvP:Option Addr) (fvP2:Option Addr) (fvP3:Option Addr) (h:Heap) (R Rp:Value->Heap->Prop):Prop:=
 let k:Heap:=h.push (.cells #[.int .i64 key,.int .i64 key2,.string key3,.float .f64 key4] 156)
 let j:=fun(w:Bool) (c:Heap)=>
  (cnd w
   (∃b o,fvP=some ⟨b,o,none⟩/\∃p:Option Nat,hcell c b o=some (.map p)/\callP Tryz.prog 209 #[.map p,.agg #[.int .i64 key,.int .i64 key2,.string key3,.float .f64 key4]] c [h.size] (fun u a=>
   u= .tuple #[]/\
   ∃b2 o2,fvP2=some ⟨b2,o2,none⟩/\∃m:Int,hcell a b2 o2=some (.int .i64 m)/\let f:Heap:=a.push (.cells #[.int .i64 0] 3)
   a.size≠h.size/\(∃i,hcell f a.size 0=some i)/\hfree f a.size 0=true/\let d:Heap:=hset f a.size 0 (.int .i64 m)
   ∃e:List Value->Heap->Prop,
   (cnd (key3.toList==(⟨#[116,97,114,103,101,116]⟩:ByteArray).toList)
     (∃b3 o3,fvP2=some ⟨b3,o3,none⟩/\∃n:Int,hcell d b3 o3=some (.int .i64 n)/\a.size≠h.size/\(∃i,hcell d a.size 0=some i)/\hfree d a.size 0=true/\let s:Heap:=hset d a.size 0 (.int .i64 (IntKind.i64.wrap (n+(1:Int))))
     e [] s)
     (e [] d))/\
   ∀g,e [] g->
   let t:Heap:=g.push (.cells #[.int .i64 4,.func (.func 267) #[] #[.pointer fvP3,.pointer (some (⟨a.size,0,none⟩:Addr))],.nilFunc,.nilFunc] 193)
   R (.pointer (some (⟨g.size,0,none⟩:Addr))) t) Rp)
   (cnd (key3.toList==(⟨#[119,101,105,103,104,116]⟩:ByteArray).toList)
    (∃b4 o4,fvP=some ⟨b4,o4,none⟩/\∃q:Option Nat,hcell c b4 o4=some (.map q)/\callP Tryz.prog 209 #[.map q,.agg #[.int .i64 key,.int .i64 key2,.string key3,.float .f64 key4]] c [h.size] (fun v l=>
    v= .tuple #[]/\
    let r:Heap:=l.push (.cells #[.int .i64 4,.func (.func 268) #[] #[.pointer fvP3,.pointer fvP2],.nilFunc,.nilFunc] 193)
    R (.pointer (some (⟨l.size,0,none⟩:Addr))) r) Rp)
    (R (.pointer none) c)))
 cnd (key3.toList==(⟨#[115,111,117,114,99,101]⟩:ByteArray).toList)
  (j (key3.toList==(⟨#[115,111,117,114,99,101]⟩:ByteArray).toList) k)
  (j (key3.toList==(⟨#[116,97,114,103,101,116]⟩:ByteArray).toList) k)
theorem calls266 {h:Heap} {R Rp:Value->Heap->Prop} (key:Int) (key2:Int) (key3:ByteArray) (key4:Nat) (fvP:Option Addr) (fvP2:Option Addr) (fvP3:Option Addr) (H:S266 key key2 key3 key4 fvP fvP2 fvP3 h R Rp):CallsP Tryz.prog 266 #[.agg #[.int .i64 key,.int .i64 key2,.string key3,.float .f64 key4],.pointer fvP,.pointer fvP2,.pointer fvP3] h R Rp:=by
 have e:S266 key key2 key3 key4 fvP fvP2 fvP3 h R Rp=FX (envP [4] 32 Rp) {loops:=[],joins:=[(18,⟨[3,6],[],[],[]⟩)],blocks:=[],draws:=[]} Tryz.f266 (Tryz.f266.body.getD .skip) [.agg #[.int .i64 key,.int .i64 key2,.string key3,.float .f64 key4],.pointer fvP,.pointer fvP2,.pointer fvP3] h R:=by kernel_rfl
 exact calls_of_FXp (envP_ok _ _ _) Tryz.func266 (by kernel_rfl) (by kernel_rfl) (by kernel_rfl) rfl (e▸H)
def S267 (x:Int) (x2:Int) (x3:ByteArray) (x4:Nat) (fvP:Option Addr) (fvP2:Option Addr) (h:Heap) (R Rp:Value->Heap->Prop):Prop:=
 let i:Heap:=h.push (.cells #[.int .i64 x,.int .i64 x2,.string x3,.float .f64 x4] 156)
 callP Tryz.prog 112 #[.agg #[.int .i64 x,.int .i64 x2,.string x3,.float .f64 x4]] i [h.size] (fun l c=>
 ∃k:Int,l= .int .i64 k/\
 ∃b o,fvP=some ⟨b,o,none⟩/\∃g:Option Addr,hcell c b o=some (.pointer g)/\∃b2 o2,g=some ⟨b2,o2,none⟩/\∃(e:Option Addr) (f m:Nat),hcell c b2 (o2+17)=some (.slice e f m)/\∃b3 o3,fvP2=some ⟨b3,o3,none⟩/\∃a:Int,hcell c b3 o3=some (.int .i64 a)/\∃b4 o4,e=some ⟨b4,o4,none⟩/\0<=a/\a<(f:Nat)/\b4≠h.size/\(∃d,hcell c b4 (o4+(Int.toNat a)*4)=some d)/\hfree c b4 (o4+(Int.toNat a)*4)=true/\(∃d,hcell c b4 ((o4+(Int.toNat a)*4)+1)=some d)/\hfree c b4 ((o4+(Int.toNat a)*4)+1)=true/\(∃d,hcell c b4 (((o4+(Int.toNat a)*4)+1)+1)=some d)/\hfree c b4 (((o4+(Int.toNat a)*4)+1)+1)=true/\(∃d,hcell c b4 ((((o4+(Int.toNat a)*4)+1)+1)+1)=some d)/\hfree c b4 ((((o4+(Int.toNat a)*4)+1)+1)+1)=true/\let j:Heap:=hset (hset (hset (hset c b4 (o4+(Int.toNat a)*4) (.int .i64 x)) b4 ((o4+(Int.toNat a)*4)+1) (.int .i64 x2)) b4 (((o4+(Int.toNat a)*4)+1)+1) (.string x3)) b4 ((((o4+(Int.toNat a)*4)+1)+1)+1) (.float .f64 x4)
 R (.tuple #[]) j) Rp
theorem calls267 {h:Heap} {R Rp:Value->Heap->Prop} (x:Int) (x2:Int) (x3:ByteArray) (x4:Nat) (fvP:Option Addr) (fvP2:Option Addr) (H:S267 x x2 x3 x4 fvP fvP2 h R Rp):CallsP Tryz.prog 267 #[.agg #[.int .i64 x,.int .i64 x2,.string x3,.float .f64 x4],.pointer fvP,.pointer fvP2] h R Rp:=by
 have e:S267 x x2 x3 x4 fvP fvP2 h R Rp=FX (envP [3] 13 Rp) {loops:=[],joins:=[],blocks:=[],draws:=[(2,⟨7,false⟩)]} Tryz.f267 (Tryz.f267.body.getD .skip) [.agg #[.int .i64 x,.int .i64 x2,.string x3,.float .f64 x4],.pointer fvP,.pointer fvP2] h R:=by kernel_rfl
 exact calls_of_FXp (envP_ok _ _ _) Tryz.func267 (by kernel_rfl) (by kernel_rfl) (by kernel_rfl) rfl (e▸H)
def S268 (x:Int) (x2:Int) (x3:ByteArray) (x4:Nat) (fvP:Option Addr) (fvP2:Option Addr) (h:Heap) (R:Value->Heap->Prop):Prop:=
 let a:Heap:=h.push (.cells #[.int .i64 x,.int .i64 x2,.string x3,.float .f64 x4] 156)
 ∃Mv Mv2:List Nat,(∀b∈Mv,b∈Mv2)/\(∀b∈([h.size]:List Nat),b∉Mv2)/\
 ∃b o,fvP=some ⟨b,o,none⟩/\b∉Mv/\∃l:Option Addr,hcell a b o=some (.pointer l)/\∃b2 o2,l=some ⟨b2,o2,none⟩/\b2∉Mv/\∃(j:Option Addr) (k p:Nat),hcell a b2 (o2+13)=some (.slice j k p)/\∃b3 o3,fvP2=some ⟨b3,o3,none⟩/\b3∉Mv/\∃c:Int,hcell a b3 o3=some (.int .i64 c)/\(2:Int)≠0/\∃b4 o4,fvP=some ⟨b4,o4,none⟩/\b4∉Mv2/\∃m:Option Addr,hcell a b4 o4=some (.pointer m)/\∃b5 o5,m=some ⟨b5,o5,none⟩/\callX Tryz.prog 269 #[.float .f64 x4] a [h.size] fun n d=>
 ∃i:Nat,n= .float .f64 i/\
 Fr Mv a d/\
 ∃b6 o6,j=some ⟨b6,o6,none⟩/\0<=(IntKind.i64.wrap (Int.tdiv c (2:Int)))/\(IntKind.i64.wrap (Int.tdiv c (2:Int)))<(k:Nat)/\b6≠h.size/\(∃f,hcell d b6 (o6+(Int.toNat (IntKind.i64.wrap (Int.tdiv c (2:Int))))*1)=some f)/\hfree d b6 (o6+(Int.toNat (IntKind.i64.wrap (Int.tdiv c (2:Int))))*1)=true/\let e:Heap:=hset d b6 (o6+(Int.toNat (IntKind.i64.wrap (Int.tdiv c (2:Int))))*1) (.float .f64 i)
 Fr Mv2 a e/\
 b5≠h.size/\(∃f,hcell e b5 ((o5+14)+2)=some f)/\hfree e b5 ((o5+14)+2)=true/\let g:Heap:=hset e b5 ((o5+14)+2) (.bool true)
 Fr Mv2 a g/\
 R (.tuple #[]) g
theorem calls268 {h:Heap} {R:Value->Heap->Prop} (x:Int) (x2:Int) (x3:ByteArray) (x4:Nat) (fvP:Option Addr) (fvP2:Option Addr) (H:S268 x x2 x3 x4 fvP fvP2 h R):CallsH Tryz.prog 268 #[.agg #[.int .i64 x,.int .i64 x2,.string x3,.float .f64 x4],.pointer fvP,.pointer fvP2] h R:=by
 have e:S268 x x2 x3 x4 fvP fvP2 h R=FX (envX [3] 18) {loops:=[],joins:=[],blocks:=[],draws:=[(1,⟨1000016,true⟩)]} Tryz.f268 (Tryz.f268.body.getD .skip) [.agg #[.int .i64 x,.int .i64 x2,.string x3,.float .f64 x4],.pointer fvP,.pointer fvP2] h R:=by kernel_rfl
 exact calls_of_FX (envX_ok _ _) Tryz.func268 (by kernel_rfl) (by kernel_rfl) (by kernel_rfl) (e▸H)
def S270 (atv:Int) (fvP:Option Addr) (h:Heap) (R Rp:Value->Heap->Prop):Prop:=
 let a:=fun(v:Heap)=>
  (R (.tuple #[]) v)
 let d:Prop:=
  (callP Tryz.prog 58 #[.bool ((0:Int)==(1:Int)),.int .i64 atv,.int .i64 14] h [] (fun x s=>
  x= .tuple #[]/\
  a s) Rp)
 let f:Prop:=
  (callP Tryz.prog 58 #[.bool false,.int .i64 atv,.int .i64 14] h [] (fun y t=>
  y= .tuple #[]/\
  a t) Rp)
 ∃b o,fvP=some ⟨b,o,none⟩/\∃n:Option Nat,hcell h b o=some (.map n)/\∃g,n=some g/\∃es c,hmap h g=some (es,c)/\keysB tiStr es/\
 (∀ev∈es.toList,ev.key= .string (⟨#[115,111,117,114,99,101]⟩:ByteArray)->
  ∃k:Int,ev.val= .int .i64 k/\cnd (k==(1:Int))
   (∃b2 o2,fvP=some ⟨b2,o2,none⟩/\∃p:Option Nat,hcell h b2 o2=some (.map p)/\∃i,p=some i/\∃es2 c2,hmap h i=some (es2,c2)/\keysB tiStr es2/\
   (∀ev2∈es2.toList,ev2.key= .string (⟨#[116,97,114,103,101,116]⟩:ByteArray)->
    ∃l:Int,ev2.val= .int .i64 l/\callP Tryz.prog 58 #[.bool (l==(1:Int)),.int .i64 atv,.int .i64 14] h [] (fun w r=>
    w= .tuple #[]/\
    a r) Rp)/\
   ((∀e∈es2.toList,e.key≠ .string (⟨#[116,97,114,103,101,116]⟩:ByteArray))->
    d))
   (f))/\
 ((∀e∈es.toList,e.key≠ .string (⟨#[115,111,117,114,99,101]⟩:ByteArray))->
  cnd ((0:Int)==(1:Int))
   (∃b3 o3,fvP=some ⟨b3,o3,none⟩/\∃q:Option Nat,hcell h b3 o3=some (.map q)/\∃j,q=some j/\∃es3 c3,hmap h j=some (es3,c3)/\keysB tiStr es3/\
   (∀ev3∈es3.toList,ev3.key= .string (⟨#[116,97,114,103,101,116]⟩:ByteArray)->
    ∃m:Int,ev3.val= .int .i64 m/\callP Tryz.prog 58 #[.bool (m==(1:Int)),.int .i64 atv,.int .i64 14] h [] (fun z u=>
    z= .tuple #[]/\
    a u) Rp)/\
   ((∀e∈es3.toList,e.key≠ .string (⟨#[116,97,114,103,101,116]⟩:ByteArray))->
    d))
   (f))
theorem calls270 {h:Heap} {R Rp:Value->Heap->Prop} (atv:Int) (fvP:Option Addr) (H:S270 atv fvP h R Rp):CallsP Tryz.prog 270 #[.int .i64 atv,.pointer fvP] h R Rp:=by
 have e:S270 atv fvP h R Rp=FX (envP [] 13 Rp) {loops:=[],joins:=[],blocks:=[],draws:=[]} Tryz.f270 (Tryz.f270.body.getD .skip) [.int .i64 atv,.pointer fvP] h R:=by kernel_rfl
 exact calls_of_FXp (envP_ok _ _ _) Tryz.func270 (by kernel_rfl) (by kernel_rfl) (by kernel_rfl) rfl (e▸H)
def S317 (key:Int) (key2:Int) (key3:ByteArray) (key4:Nat) (fvP:Option Addr) (fvP2:Option Addr) (fvP3:Option Addr) (h:Heap) (R Rp:Value->Heap->Prop):Prop:=
 let i:Heap:=h.push (.cells #[.int .i64 key,.int .i64 key2,.string key3,.float .f64 key4] 156)
 let l:=fun(m:Heap)=>
  (∃b o,fvP=some ⟨b,o,none⟩/\∃s:Option Nat,hcell m b o=some (.map s)/\callP Tryz.prog 209 #[.map s,.agg #[.int .i64 key,.int .i64 key2,.string key3,.float .f64 key4]] m [h.size] (fun x a=>
  x= .tuple #[]/\
  ∃b2 o2,fvP2=some ⟨b2,o2,none⟩/\∃t:Option Addr,hcell a b2 o2=some (.pointer t)/\∃b3 o3,t=some ⟨b3,o3,none⟩/\∃(n:Option Addr) (q y:Nat),hcell a b3 (o3+12)=some (.slice n q y)/\∃b4 o4,fvP3=some ⟨b4,o4,none⟩/\∃e:Int,hcell a b4 o4=some (.int .i64 e)/\∃b5 o5,n=some ⟨b5,o5,none⟩/\0<=e/\e<(q:Nat)/\let d:Heap:=a.push (.cells #[.pointer none] 340)
  Fr [] a d/\
  a.size≠h.size/\(∃k,hcell d a.size 0=some k)/\hfree d a.size 0=true/\let c:Heap:=hset d a.size 0 (.pointer (some (⟨b5,(o5+(Int.toNat e)*2),none⟩:Addr)))
  ∃g:List Value->Heap->Prop,
  (cnd (key3.toList==(⟨#[121]⟩:ByteArray).toList)
    (∃b6 o6,fvP2=some ⟨b6,o6,none⟩/\∃u:Option Addr,hcell c b6 o6=some (.pointer u)/\∃b7 o7,u=some ⟨b7,o7,none⟩/\∃(p:Option Addr) (r z:Nat),hcell c b7 (o7+12)=some (.slice p r z)/\∃b8 o8,fvP3=some ⟨b8,o8,none⟩/\∃f:Int,hcell c b8 o8=some (.int .i64 f)/\∃b9 o9,p=some ⟨b9,o9,none⟩/\0<=f/\f<(r:Nat)/\a.size≠h.size/\(∃k,hcell c a.size 0=some k)/\hfree c a.size 0=true/\let v:Heap:=hset c a.size 0 (.pointer (some (⟨b9,((o9+(Int.toNat f)*2)+1),none⟩:Addr)))
    g [] v)
    (g [] c))/\
  ∀j,g [] j->
  let w:Heap:=j.push (.cells #[.int .i64 4,.func (.func 318) #[] #[.pointer (some (⟨a.size,0,none⟩:Addr)),.pointer fvP2],.nilFunc,.nilFunc] 193)
  R (.pointer (some (⟨j.size,0,none⟩:Addr))) w) Rp)
 cnd (!(key3.toList==(⟨#[120]⟩:ByteArray).toList))
  (cnd (!(key3.toList==(⟨#[121]⟩:ByteArray).toList))
   (R (.pointer none) i)
   (l i))
  (l i)
theorem calls317 {h:Heap} {R Rp:Value->Heap->Prop} (key:Int) (key2:Int) (key3:ByteArray) (key4:Nat) (fvP:Option Addr) (fvP2:Option Addr) (fvP3:Option Addr) (H:S317 key key2 key3 key4 fvP fvP2 fvP3 h R Rp):CallsP Tryz.prog 317 #[.agg #[.int .i64 key,.int .i64 key2,.string key3,.float .f64 key4],.pointer fvP,.pointer fvP2,.pointer fvP3] h R Rp:=by
 have e:S317 key key2 key3 key4 fvP fvP2 fvP3 h R Rp=FX (envP [4] 38 Rp) {loops:=[],joins:=[(27,⟨[2,6],[],[],[]⟩)],blocks:=[],draws:=[(4,⟨8,false⟩),(6,⟨7,false⟩)]} Tryz.f317 (Tryz.f317.body.getD .skip) [.agg #[.int .i64 key,.int .i64 key2,.string key3,.float .f64 key4],.pointer fvP,.pointer fvP2,.pointer fvP3] h R:=by kernel_rfl
 exact calls_of_FXp (envP_ok _ _ _) Tryz.func317 (by kernel_rfl) (by kernel_rfl) (by kernel_rfl) rfl (e▸H)
def S318 (x:Int) (x2:Int) (x3:ByteArray) (x4:Nat) (fvP:Option Addr) (fvP2:Option Addr) (h:Heap) (R:Value->Heap->Prop):Prop:=
 let c:Heap:=h.push (.cells #[.int .i64 x,.int .i64 x2,.string x3,.float .f64 x4] 156)
 ∃a:List Nat,(∀b∈([h.size]:List Nat),b∉a)/\
 ∃b o,fvP=some ⟨b,o,none⟩/\b∉a/\∃j:Option Addr,hcell c b o=some (.pointer j)/\∃b2 o2,fvP2=some ⟨b2,o2,none⟩/\b2∉a/\∃k:Option Addr,hcell c b2 o2=some (.pointer k)/\∃b3 o3,k=some ⟨b3,o3,none⟩/\callX Tryz.prog 269 #[.float .f64 x4] c [h.size] fun l d=>
 ∃i:Nat,l= .float .f64 i/\
 Fr a c d/\
 ∃b4 o4,j=some ⟨b4,o4,none⟩/\b4≠h.size/\(∃f,hcell d b4 o4=some f)/\hfree d b4 o4=true/\let e:Heap:=hset d b4 o4 (.float .f64 i)
 Fr a c e/\
 b3≠h.size/\(∃f,hcell e b3 ((o3+14)+1)=some f)/\hfree e b3 ((o3+14)+1)=true/\let g:Heap:=hset e b3 ((o3+14)+1) (.bool true)
 Fr a c g/\
 R (.tuple #[]) g
theorem calls318 {h:Heap} {R:Value->Heap->Prop} (x:Int) (x2:Int) (x3:ByteArray) (x4:Nat) (fvP:Option Addr) (fvP2:Option Addr) (H:S318 x x2 x3 x4 fvP fvP2 h R):CallsH Tryz.prog 318 #[.agg #[.int .i64 x,.int .i64 x2,.string x3,.float .f64 x4],.pointer fvP,.pointer fvP2] h R:=by
 have e:S318 x x2 x3 x4 fvP fvP2 h R=FX (envX [3] 13) {loops:=[],joins:=[],blocks:=[],draws:=[(1,⟨11,true⟩)]} Tryz.f318 (Tryz.f318.body.getD .skip) [.agg #[.int .i64 x,.int .i64 x2,.string x3,.float .f64 x4],.pointer fvP,.pointer fvP2] h R:=by kernel_rfl
 exact calls_of_FX (envX_ok _ _) Tryz.func318 (by kernel_rfl) (by kernel_rfl) (by kernel_rfl) (e▸H)
def S111 (rP:Option Addr) (key:Int) (key2:Int) (key3:ByteArray) (key4:Nat) (h:Heap) (R Rp:Value->Heap->Prop):Prop:=
 let e:Heap:=h.push (.cells #[.pointer rP] 89)
 let c:Heap:=e.push (.cells #[.int .i64 key,.int .i64 key2,.string key3,.float .f64 key4] 156)
 cnd (!(key3.toList==(⟨#[103,114,97,112,104]⟩:ByteArray).toList))
  (R (.pointer none) c)
  (∃l:Option Addr,hcell c h.size 0=some (.pointer l)/\∃b o,l=some ⟨b,o,none⟩/\∃k:Bool,hcell c b (o+9)=some (.bool k)/\callP Tryz.prog 58 #[.bool (!k),.int .i64 key2,.int .i64 18] c [e.size] (fun p d=>
  p= .tuple #[]/\
  Fr [] c d/\
  ∃m:Option Addr,hcell d h.size 0=some (.pointer m)/\∃b2 o2,m=some ⟨b2,o2,none⟩/\b2≠e.size/\(∃g,hcell d b2 (o2+9)=some g)/\hfree d b2 (o2+9)=true/\let i:Heap:=hset d b2 (o2+9) (.bool true)
  let a:Heap:=i.push (.map #[] 0)
  let f:Heap:=a.push (.cells #[.map none] 69)
  a.size≠e.size/\(∃g,hcell f a.size 0=some g)/\hfree f a.size 0=true/\let j:Heap:=hset f a.size 0 (.map (some i.size))
  let n:Heap:=j.push (.cells #[.int .i64 1,.nilFunc,.func (.func 152) #[] #[.pointer (some (⟨h.size,0,none⟩:Addr)),.pointer (some (⟨a.size,0,none⟩:Addr))],.func (.func 151) #[] #[]] 193)
  R (.pointer (some (⟨j.size,0,none⟩:Addr))) n) Rp)
theorem calls111 {h:Heap} {R Rp:Value->Heap->Prop} (rP:Option Addr) (key:Int) (key2:Int) (key3:ByteArray) (key4:Nat) (H:S111 rP key key2 key3 key4 h R Rp):CallsP Tryz.prog 111 #[.pointer rP,.agg #[.int .i64 key,.int .i64 key2,.string key3,.float .f64 key4]] h R Rp:=by
 have e:S111 rP key key2 key3 key4 h R Rp=FX (envP [3] 24 Rp) {loops:=[],joins:=[],blocks:=[],draws:=[(3,⟨8,false⟩)]} Tryz.f111 (Tryz.f111.body.getD .skip) [.pointer rP,.agg #[.int .i64 key,.int .i64 key2,.string key3,.float .f64 key4]] h R:=by kernel_rfl
 exact calls_of_FXp (envP_ok _ _ _) Tryz.func111 (by kernel_rfl) (by kernel_rfl) (by kernel_rfl) rfl (e▸H)
def S151 (x:Int) (h:Heap) (R:Value->Heap->Prop):Prop:=
 R (.tuple #[]) h
theorem calls151 {h:Heap} {R:Value->Heap->Prop} (x:Int) (H:S151 x h R):CallsH Tryz.prog 151 #[.int .i64 x] h R:=by
 have e:S151 x h R=FX (envX [] 2) {loops:=[],joins:=[],blocks:=[],draws:=[]} Tryz.f151 (Tryz.f151.body.getD .skip) [.int .i64 x] h R:=by kernel_rfl
 exact calls_of_FX (envX_ok _ _) Tryz.func151 (by kernel_rfl) (by kernel_rfl) (by kernel_rfl) (e▸H)
def S110 (rP:Option Addr) (top:Bool) (keyF:Fn) (keyX keyY:Array Value) (h:Heap) (R Rp:Value->Heap->Prop):Prop:=
 ∃(g:List Value->Heap->Prop) (q:List Value->Heap->Nat),g [] h/\
 ∀j,g [] j->
 ∃b o,rP=some ⟨b,o,none⟩/\callP Tryz.prog 149 #[.pointer (some (⟨b,o,none⟩:Addr))] j [] (fun w a=>
 ∃d:Int,∃e:Int,∃k:ByteArray,∃l:Nat,w= .agg #[.int .i64 d,.int .i64 e,.string k,.float .f64 l]/\
 let t:Heap:=a.push (.cells #[.int .i64 0,.int .i64 0,.string ByteArray.empty,.float .f64 0] 156)
 let c:Heap:=hset (hset (hset (hset t a.size 0 (.int .i64 d)) a.size (0+1) (.int .i64 e)) a.size ((0+1)+1) (.string k)) a.size (((0+1)+1)+1) (.float .f64 l)
 let f:=fun(u:Heap)=>
  (callP Tryz.prog 58 #[.bool (d==(3:Int)),.int .i64 e,.int .i64 15] u [a.size] (fun x m=>
  x= .tuple #[]/\
  ∃i:List Value->Heap->Prop,
  (cnd (!false)
    (callV Tryz.prog fnsX fnsP (some Rp) keyF keyX keyY [.agg #[.int .i64 d,.int .i64 e,.string k,.float .f64 l]] m [a.size] fun y v=>
    ∃r:Option Addr,y= .pointer r/\
    i [.pointer r] v)
    (i [.pointer none] m))/\
  ∀s:Option Addr,∀n,i [.pointer s] n->
  callP Tryz.prog 150 #[.pointer rP,.pointer s] n [] (fun z p=>
  z= .tuple #[]/\
  g [] p/\q [] p<q [] j) Rp) Rp)
 cnd top
  (cnd (d==(0:Int))
   (R (.int .i64 e) c)
   (cnd (!top)
    (cnd (d==(2:Int))
     (R (.int .i64 e) c)
     (f c))
    (f c)))
  (cnd (!top)
   (cnd (d==(2:Int))
    (R (.int .i64 e) c)
    (f c))
   (f c))) Rp
theorem calls110 {h:Heap} {R Rp:Value->Heap->Prop} (rP:Option Addr) (top:Bool) (keyF:Fn) (keyX keyY:Array Value) (H:S110 rP top keyF keyX keyY h R Rp):CallsP Tryz.prog 110 #[.pointer rP,.bool top,.func keyF keyX keyY] h R Rp:=by
 have e:S110 rP top keyF keyX keyY h R Rp=FX (envP [7] 44 Rp) {loops:=[(0,⟨[0,1,2],[],[],[]⟩)],joins:=[(37,⟨[0,1,2],[8],[],[]⟩)],blocks:=[],draws:=[]} Tryz.f110 (Tryz.f110.body.getD .skip) [.pointer rP,.bool top,.func keyF keyX keyY] h R:=by kernel_rfl
 exact calls_of_FXp (envP_ok _ _ _) Tryz.func110 (by kernel_rfl) (by kernel_rfl) (by kernel_rfl) rfl (e▸H)
def S110n (rP:Option Addr) (top:Bool) (h:Heap) (R Rp:Value->Heap->Prop):Prop:=
 ∃(g:List Value->Heap->Prop) (m:List Value->Heap->Nat),g [] h/\
 ∀i,g [] i->
 ∃b o,rP=some ⟨b,o,none⟩/\callP Tryz.prog 149 #[.pointer (some (⟨b,o,none⟩:Addr))] i [] (fun u c=>
 ∃d:Int,∃e:Int,∃n:ByteArray,∃p:Nat,u= .agg #[.int .i64 d,.int .i64 e,.string n,.float .f64 p]/\
 let r:Heap:=c.push (.cells #[.int .i64 0,.int .i64 0,.string ByteArray.empty,.float .f64 0] 156)
 let a:Heap:=hset (hset (hset (hset r c.size 0 (.int .i64 d)) c.size (0+1) (.int .i64 e)) c.size ((0+1)+1) (.string n)) c.size (((0+1)+1)+1) (.float .f64 p)
 let f:=fun(s:Heap)=>
  (callP Tryz.prog 58 #[.bool (d==(3:Int)),.int .i64 e,.int .i64 15] s [c.size] (fun v t=>
  v= .tuple #[]/\
  ∃j:List Value->Heap->Prop,
  (cnd (!true)
    (False)
    (j [.pointer none] t))/\
  ∀q:Option Addr,∀k,j [.pointer q] k->
  callP Tryz.prog 150 #[.pointer rP,.pointer q] k [] (fun w l=>
  w= .tuple #[]/\
  g [] l/\m [] l<m [] i) Rp) Rp)
 cnd top
  (cnd (d==(0:Int))
   (R (.int .i64 e) a)
   (cnd (!top)
    (cnd (d==(2:Int))
     (R (.int .i64 e) a)
     (f a))
    (f a)))
  (cnd (!top)
   (cnd (d==(2:Int))
    (R (.int .i64 e) a)
    (f a))
   (f a))) Rp
theorem calls110n {h:Heap} {R Rp:Value->Heap->Prop} (rP:Option Addr) (top:Bool) (H:S110n rP top h R Rp):CallsP Tryz.prog 110 #[.pointer rP,.bool top,.nilFunc] h R Rp:=by
 have e:S110n rP top h R Rp=FX (envP [7] 44 Rp) {loops:=[(0,⟨[0,1,2],[],[],[]⟩)],joins:=[(37,⟨[0,1,2],[8],[],[]⟩)],blocks:=[],draws:=[]} Tryz.f110 (Tryz.f110.body.getD .skip) [.pointer rP,.bool top,.nilFunc] h R:=by kernel_rfl
 exact calls_of_FXp (envP_ok _ _ _) Tryz.func110 (by kernel_rfl) (by kernel_rfl) (by kernel_rfl) rfl (e▸H)
def S150 (rP:Option Addr) (xP:Option Addr) (h:Heap) (R Rp:Value->Heap->Prop):Prop:=
 ∃b o,rP=some ⟨b,o,none⟩/\callP Tryz.prog 149 #[.pointer (some (⟨b,o,none⟩:Addr))] h [] (fun c1 a3=>
 ∃H:Int,∃I:Int,∃J:ByteArray,∃K:Nat,c1= .agg #[.int .i64 H,.int .i64 I,.string J,.float .f64 K]/\
 callP Tryz.prog 208 #[.agg #[.int .i64 H,.int .i64 I,.string J,.float .f64 K]] a3 [] (fun c4 a=>
 ∃d:Int,∃e:Int,∃j:ByteArray,∃k:Nat,c4= .agg #[.int .i64 d,.int .i64 e,.string j,.float .f64 k]/\
 let b0:Heap:=a.push (.cells #[.int .i64 0,.int .i64 0,.string ByteArray.empty,.float .f64 0] 156)
 let i:Heap:=hset (hset (hset (hset b0 a.size 0 (.int .i64 d)) a.size (0+1) (.int .i64 e)) a.size ((0+1)+1) (.string j)) a.size (((0+1)+1)+1) (.float .f64 k)
 ∃l:List Value->Heap->Prop,
 (cnd (d==(1:Int))
   (∃b2 o2,rP=some ⟨b2,o2,none⟩/\∃M:Int,hcell i b2 (o2+2)=some (.int .i64 M)/\∃b3 o3,rP=some ⟨b3,o3,none⟩/\b3≠a.size/\(∃u,hcell i b3 (o3+2)=some u)/\hfree i b3 (o3+2)=true/\let t:Heap:=hset i b3 (o3+2) (.int .i64 (IntKind.i64.wrap (M+(1:Int))))
   ∃b4 o4,rP=some ⟨b4,o4,none⟩/\∃N:Int,hcell t b4 (o4+2)=some (.int .i64 N)/\callP Tryz.prog 58 #[.bool (decide (N<=(16:Int))),.int .i64 e,.int .i64 3] t [a.size] (fun c5 E=>
   c5= .tuple #[]/\
   Fr [] t E/\
   l [] E) Rp)
   (l [] i))/\
 ∀f,l [] f->
 let v:=fun(c:Heap)=>
  (let w:=fun(g:Heap)=>
   (∃s:List Value->Heap->Prop,
   (cnd (d==(1:Int))
     (∃b10 o10,rP=some ⟨b10,o10,none⟩/\∃P:Int,hcell g b10 (o10+2)=some (.int .i64 P)/\∃b11 o11,rP=some ⟨b11,o11,none⟩/\b11≠a.size/\(∃u,hcell g b11 (o11+2)=some u)/\hfree g b11 (o11+2)=true/\let a9:Heap:=hset g b11 (o11+2) (.int .i64 (IntKind.i64.wrap (P-(1:Int))))
     s [] a9)
     (s [] g))/\
   ∀D,s [] D->
   R (.tuple #[]) D)
  cnd (d==(1:Int))
   (∃m:List Value->Heap->Prop,
   (cnd (!(Option.isNone xP))
     (∃b6 o6,xP=some ⟨b6,o6,none⟩/\∃(Q:Fn) (V Z:Array Value),hcell c b6 (o6+2)=some (.func Q V Z)/\callP Tryz.prog 110 #[.pointer rP,.bool false,.func Q V Z] c [a.size] (fun c8 x=>
     ∃L:Int,c8= .int .i64 L/\
     ∃b7 o7,xP=some ⟨b7,o7,none⟩/\∃(S:Fn) (W a0:Array Value),hcell x b7 (o7+3)=some (.func S W a0)/\callV Tryz.prog fnsX fnsP (some Rp) S W a0 [.int .i64 L] x [a.size] fun c9 a4=>
     c9= .tuple #[]/\
     m [] a4) Rp)
     (∃n:List Value->Heap->Prop,
     (cnd (d==(1:Int))
      (callP Tryz.prog 110 #[.pointer rP,.bool false,.nilFunc] c [a.size] (fun d0 a5=>
      ∃b1:Int,d0= .int .i64 b1/\
      n [] a5) Rp)
      (∃p:List Value->Heap->Prop,
      (cnd (!(Option.isNone xP))
        (∃b8 o8,xP=some ⟨b8,o8,none⟩/\∃(T:Fn) (X a1:Array Value),hcell c b8 (o8+1)=some (.func T X a1)/\callV Tryz.prog fnsX fnsP (some Rp) T X a1 [.agg #[.int .i64 d,.int .i64 e,.string j,.float .f64 k]] c [a.size] fun d1 a6=>
        d1= .tuple #[]/\
        p [] a6)
        (p [] c))/\
      ∀y,p [] y->
      n [] y))/\
     ∀z,n [] z->
     m [] z))/\
   ∀A,m [] A->
   w A)
   (∃q:List Value->Heap->Prop,
   (cnd (d==(1:Int))
     (callP Tryz.prog 110 #[.pointer rP,.bool false,.nilFunc] c [a.size] (fun c2 a7=>
     ∃c0:Int,c2= .int .i64 c0/\
     q [] a7) Rp)
     (∃r:List Value->Heap->Prop,
     (cnd (!(Option.isNone xP))
      (∃b9 o9,xP=some ⟨b9,o9,none⟩/\∃(U:Fn) (Y a2:Array Value),hcell c b9 (o9+1)=some (.func U Y a2)/\callV Tryz.prog fnsX fnsP (some Rp) U Y a2 [.agg #[.int .i64 d,.int .i64 e,.string j,.float .f64 k]] c [a.size] fun c3 a8=>
      c3= .tuple #[]/\
      r [] a8)
      (r [] c))/\
     ∀B,r [] B->
     q [] B))/\
   ∀C,q [] C->
   w C))
 cnd (Option.isNone xP)
  (callP Tryz.prog 58 #[.bool true,.int .i64 e,.int .i64 22] f [a.size] (fun c6 F=>
  c6= .tuple #[]/\
  Fr [] f F/\
  v F) Rp)
  (∃b5 o5,xP=some ⟨b5,o5,none⟩/\∃O:Int,hcell f b5 o5=some (.int .i64 O)/\callP Tryz.prog 58 #[.bool (O==d),.int .i64 e,.int .i64 22] f [a.size] (fun c7 G=>
  c7= .tuple #[]/\
  Fr [] f G/\
  v G) Rp)) Rp) Rp
theorem calls150 {h:Heap} {R Rp:Value->Heap->Prop} (rP:Option Addr) (xP:Option Addr) (H:S150 rP xP h R Rp):CallsP Tryz.prog 150 #[.pointer rP,.pointer xP] h R Rp:=by
 have e:S150 rP xP h R Rp=FX (envP [4] 88 Rp) {loops:=[],joins:=[(13,⟨[0,1,4],[],[4],[]⟩),(43,⟨[0,4],[],[4],[]⟩),(63,⟨[0,4],[],[4],[]⟩),(69,⟨[0,4],[],[4],[]⟩),(80,⟨[],[],[],[]⟩)],blocks:=[],draws:=[(3,⟨8,false⟩),(4,⟨14,false⟩),(11,⟨5,false⟩)]} Tryz.f150 (Tryz.f150.body.getD .skip) [.pointer rP,.pointer xP] h R:=by kernel_rfl
 exact calls_of_FXp (envP_ok _ _ _) Tryz.func150 (by kernel_rfl) (by kernel_rfl) (by kernel_rfl) rfl (e▸H)
def S59 (rP:Option Addr) (h:Heap) (R Rp:Value->Heap->Prop):Prop:=
 let d4:Heap:=h.push (.cells #[.int .i64 0,.slice none 0 0,.bool false,.slice none 0 0,.slice none 0 0,.slice none 0 0] 29)
 callP Tryz.prog 110 #[.pointer rP,.bool true,.func (.func 111) #[.pointer rP] #[]] d4 [h.size] (fun e3 a2=>
 ∃a8:Int,e3= .int .i64 a8/\
 ∃b o,rP=some ⟨b,o,none⟩/\∃b0:Bool,hcell a2 b (o+9)=some (.bool b0)/\callP Tryz.prog 58 #[.bool b0,.int .i64 a8,.int .i64 14] a2 [h.size] (fun e4 e0=>
 e4= .tuple #[]/\
 ∃(v:List Value->Heap->Prop) (a4:List Value->Heap->Nat),v [.int .i64 0] e0/\
 ∀f:Int,∀d,v [.int .i64 f] d->
 ∃b2 o2,rP=some ⟨b2,o2,none⟩/\∃(e8:Option Addr) (c8 e9:Nat),hcell d b2 (o2+17)=some (.slice e8 c8 e9)/\cnd (decide (f<((c8:Nat):Int)))
  (let a3:Heap:=d.push (.cells #[.int .i64 0,.int .i64 0] 48)
  ∃b3 o3,rP=some ⟨b3,o3,none⟩/\∃(K:Option Addr) (f0 P:Nat),hcell a3 b3 (o3+17)=some (.slice K f0 P)/\0<=(IntKind.i64.wrap (f+(2:Int)))/\(IntKind.i64.wrap (f+(2:Int)))<=(P:Nat)/\0<=f/\f<=((Int.toNat (IntKind.i64.wrap (f+(2:Int)))):Nat)/\∃(w:List Value->Heap->Prop) (a5:List Value->Heap->Nat),w [.int .i64 0] a3/\
  ∀g:Int,∀a,w [.int .i64 g] a->
  cnd (decide (g<((((Int.toNat (IntKind.i64.wrap (f+(2:Int))))-(Int.toNat f)):Nat):Int)))
   (∃b4 o4,(if P=(Int.toNat f)then K else Option.map (fun d3=>Addr.add d3 ((Int.toNat f)*4)) K)=some ⟨b4,o4,none⟩/\0<=g/\g<(((Int.toNat (IntKind.i64.wrap (f+(2:Int))))-(Int.toNat f)):Nat)/\∃E:Int,hcell a b4 (o4+(Int.toNat g)*4)=some (.int .i64 E)/\∃t:Int,hcell a b4 ((o4+(Int.toNat g)*4)+1)=some (.int .i64 t)/\∃F:ByteArray,hcell a b4 (((o4+(Int.toNat g)*4)+1)+1)=some (.string F)/\∃G:Nat,hcell a b4 ((((o4+(Int.toNat g)*4)+1)+1)+1)=some (.float .f64 G)/\let e1:Heap:=a.push (.cells #[.int .i64 0,.int .i64 0,.string ByteArray.empty,.float .f64 0] 156)
   let r:Heap:=hset (hset (hset (hset e1 a.size 0 (.int .i64 E)) a.size (0+1) (.int .i64 t)) a.size ((0+1)+1) (.string F)) a.size (((0+1)+1)+1) (.float .f64 G)
   let Y:=fun(e6:Int) (e2:Bool) (d5:Heap)=>
    (callP Tryz.prog 58 #[.bool e2,.int .i64 t,.int .i64 14] d5 [a.size,h.size] (fun e7 A=>
    e7= .tuple #[]/\
    0<=g/\g<((2:Nat):Int)/\d.size≠a.size/\d.size≠h.size/\(∃i,hcell A d.size (0+(Int.toNat g)*1)=some i)/\hfree A d.size (0+(Int.toNat g)*1)=true/\let a0:Heap:=hset A d.size (0+(Int.toNat g)*1) (.int .i64 e6)
    w [.int .i64 (IntKind.i64.wrap (g+(1:Int)))] a0/\a5 [.int .i64 (IntKind.i64.wrap (g+(1:Int)))] a0<a5 [.int .i64 g] a) Rp)
   ∃b5 o5,rP=some ⟨b5,o5,none⟩/\∃d2:Option Nat,hcell r b5 (o5+10)=some (.map d2)/\callP Tryz.prog 112 #[.agg #[.int .i64 E,.int .i64 t,.string F,.float .f64 G]] r [a.size,h.size] (fun e5 n=>
   ∃B:Int,e5= .int .i64 B/\
   Fr [] r n/\
   ∃a6,d2=some a6/\∃es c,hmap n a6=some (es,c)/\keysB tiInt es/\
   (∀ev∈es.toList,ev.key= .int .i64 B->
    ∃a9:Int,ev.val= .int .i64 a9/\Fr [] r n/\
    Y a9 true n)/\
   ((∀e∈es.toList,e.key≠ .int .i64 B)->
    Fr [] r n/\
    Y 0 false n)) Rp)
   (∃p:List Nat,(∀b∈([h.size]:List Nat),b∉p)/\
   ∃b6 o6,rP=some ⟨b6,o6,none⟩/\b6∉p/\∃(s:Option Addr) (m u:Nat),hcell a b6 ((o6+3)+1)=some (.slice s m u)/\d.size∉p/\∃H:Int,hcell a d.size 0=some (.int .i64 H)/\∃I:Int,hcell a d.size (0+1)=some (.int .i64 I)/\let q:Heap:=a.push (.cells #[.int .i64 H,.int .i64 I] 48)
   Fr p a q/\
   ∃a7,Ownd q 48 2 s m u a7/\(∀b∈([a.size,h.size]:List Nat),b∉blkOf s)/\(m+1)*16<=140737488355328/\(m+1)<=maxLen/\
   ∀sA sC hv14,Ownd hv14 48 2 sA (m+1) sC (a7++[.int .i64 H,.int .i64 I])->Fr (blkOf s) q hv14->((sA=s/\sC=u)\/∃Z,sA=some ⟨Z,0,none⟩/\q.size<=Z)->(u<(m+1)->Fr [] q hv14)->
   Fr p a hv14/\
   ∃b7 o7,rP=some ⟨b7,o7,none⟩/\b7≠a.size/\b7≠h.size/\(∃i,hcell hv14 b7 ((o7+3)+1)=some i)/\hfree hv14 b7 ((o7+3)+1)=true/\let a1:Heap:=hset hv14 b7 ((o7+3)+1) (.slice sA (m+1) sC)
   v [.int .i64 (IntKind.i64.wrap (f+(2:Int)))] a1/\a4 [.int .i64 (IntKind.i64.wrap (f+(2:Int)))] a1<a4 [.int .i64 f] d))
  (∃b8 o8,rP=some ⟨b8,o8,none⟩/\∃c1:Bool,hcell d b8 ((o8+14)+0)=some (.bool c1)/\∃x:List Value->Heap->Prop,
  (cnd c1
    (∃b9 o9,rP=some ⟨b9,o9,none⟩/\∃(c2:Option Addr) (c9 c5:Nat),hcell d b9 (o9+11)=some (.slice c2 c9 c5)/\∃b10 o10,rP=some ⟨b10,o10,none⟩/\b10≠h.size/\(∃i,hcell d b10 ((o10+3)+3)=some i)/\hfree d b10 ((o10+3)+3)=true/\let d6:Heap:=hset d b10 ((o10+3)+3) (.slice c2 c9 c5)
    x [] d6)
    (x [] d))/\
  ∀k,x [] k->
  ∃b11 o11,rP=some ⟨b11,o11,none⟩/\∃b1:Bool,hcell k b11 ((o11+14)+1)=some (.bool b1)/\∃y:List Value->Heap->Prop,
  (cnd b1
    (∃b12 o12,rP=some ⟨b12,o12,none⟩/\∃(c3:Option Addr) (d0 c6:Nat),hcell k b12 (o12+12)=some (.slice c3 d0 c6)/\∃b13 o13,rP=some ⟨b13,o13,none⟩/\b13≠h.size/\(∃i,hcell k b13 ((o13+3)+4)=some i)/\hfree k b13 ((o13+3)+4)=true/\let d7:Heap:=hset k b13 ((o13+3)+4) (.slice c3 d0 c6)
    y [] d7)
    (y [] k))/\
  ∀l,y [] l->
  ∃b14 o14,rP=some ⟨b14,o14,none⟩/\∃c0:Bool,hcell l b14 ((o14+14)+2)=some (.bool c0)/\∃z:List Value->Heap->Prop,
  (cnd c0
    (∃b15 o15,rP=some ⟨b15,o15,none⟩/\∃(c4:Option Addr) (d1 c7:Nat),hcell l b15 (o15+13)=some (.slice c4 d1 c7)/\∃b16 o16,rP=some ⟨b16,o16,none⟩/\b16≠h.size/\(∃i,hcell l b16 ((o16+3)+5)=some i)/\hfree l b16 ((o16+3)+5)=true/\let d8:Heap:=hset l b16 ((o16+3)+5) (.slice c4 d1 c7)
    z [] d8)
    (z [] l))/\
  ∀j,z [] j->
  ∃b17 o17,rP=some ⟨b17,o17,none⟩/\∃C:Int,hcell j b17 (o17+3)=some (.int .i64 C)/\∃(L:Option Addr) (V Q:Nat),hcell j b17 ((o17+3)+1)=some (.slice L V Q)/\∃D:Bool,hcell j b17 (((o17+3)+1)+1)=some (.bool D)/\∃(M:Option Addr) (W S:Nat),hcell j b17 ((((o17+3)+1)+1)+1)=some (.slice M W S)/\∃(N:Option Addr) (X T:Nat),hcell j b17 (((((o17+3)+1)+1)+1)+1)=some (.slice N X T)/\∃(J:Option Addr) (U O:Nat),hcell j b17 ((((((o17+3)+1)+1)+1)+1)+1)=some (.slice J U O)/\let d9:Heap:=hset (hset (hset (hset (hset (hset j h.size 0 (.int .i64 C)) h.size (0+1) (.slice L V Q)) h.size ((0+1)+1) (.bool D)) h.size (((0+1)+1)+1) (.slice M W S)) h.size ((((0+1)+1)+1)+1) (.slice N X T)) h.size (((((0+1)+1)+1)+1)+1) (.slice J U O)
  R (.agg #[.int .i64 C,.slice L V Q,.bool D,.slice M W S,.slice N X T,.slice J U O]) d9)) Rp) Rp
theorem calls59 {h:Heap} {R Rp:Value->Heap->Prop} (rP:Option Addr) (H:S59 rP h R Rp):CallsP Tryz.prog 59 #[.pointer rP] h R Rp:=by
 have e:S59 rP h R Rp=FX (envP [2,7,69] 118 Rp) {loops:=[(0,⟨[0,2],[4],[2],[]⟩),(2,⟨[0,2,4,5,36,37],[38],[2],[]⟩)],joins:=[(79,⟨[0,2],[],[2],[]⟩),(92,⟨[0,2],[],[2],[]⟩),(105,⟨[0,2],[],[2],[]⟩)],blocks:=[],draws:=[(10,⟨12,false⟩),(14,⟨10,true⟩)]} Tryz.f59 (Tryz.f59.body.getD .skip) [.pointer rP] h R:=by kernel_rfl
 exact calls_of_FXp (envP_ok _ _ _) Tryz.func59 (by kernel_rfl) (by kernel_rfl) (by kernel_rfl) rfl (e▸H)
def S68 (s:ByteArray) (h:Heap) (R:Value->Heap->Prop):Prop:=
 ∃(c:List Value->Heap->Prop) (e:List Value->Heap->Nat),c [.int .i64 0] h/\
 ∀a:Int,∀b,c [.int .i64 a] b->
 cnd (decide (a<((s.size:Nat):Int)))
  (0<=a/\a<((s.size:Nat):Int)/\∃g:UInt8,s[Int.toNat a]? =some g/\callX Tryz.prog 114 #[.int .u8 ((UInt8.toNat g:Nat):Int)] b [] fun i d=>
  ∃f:Bool,i= .bool f/\
  cnd (!f)
   (R (.bool false) d)
   (c [.int .i64 (IntKind.i64.wrap (a+(1:Int)))] d/\e [.int .i64 (IntKind.i64.wrap (a+(1:Int)))] d<e [.int .i64 a] b))
  (R (.bool (decide (((s.size:Nat):Int)<=(256:Int)))) b)
theorem calls68 {h:Heap} {R:Value->Heap->Prop} (s:ByteArray) (H:S68 s h R):CallsH Tryz.prog 68 #[.string s] h R:=by
 have e:S68 s h R=FX (envX [] 18) {loops:=[(0,⟨[0,5],[6],[],[]⟩)],joins:=[],blocks:=[],draws:=[]} Tryz.f68 (Tryz.f68.body.getD .skip) [.string s] h R:=by kernel_rfl
 exact calls_of_FX (envX_ok _ _) Tryz.func68 (by kernel_rfl) (by kernel_rfl) (by kernel_rfl) (e▸H)
end Go.Proofs.YtlflalecmhgmjaaGreatDoor.N
