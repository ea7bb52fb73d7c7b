/- Functions: what is left to be shown of each, over memory and without: printed by program, tied to the loaded functions by the kernel. Conditions: none. -/
import Derived.Test.YtemphinmoihdaaaGreatDoorWEnv
import Derived.Test.YtemphinmoihdaaaGreatDoorGTell
import Derived.Test.YtemphinmoihdaaaGreatDoorSXw
import Derived.Test.YtemphinmoihdaaaGreatDoorMLex
set_option linter.unusedVariables false
set_option linter.unusedSimpArgs false
open Go.IntKind (i64 u64 u8 i32)
namespace Go.Proofs.YtemphinmoihdaaaGreatDoor.N
open Go.Proofs.YtemphinmoihdaaaGreatDoor
open Go.X
set_option maxRecDepth 100000
set_option maxHeartbeats 2000000
def S18 (ok:Bool) (atv ev:Int) (h:ab) (R Rp:VP):Prop:=∃a:LP,(cnd (!ok) (Rp (.iface 53 (.agg #[QM atv,QM ev])) h) (a [] h))/\∀b,a [] b->R (.tuple #[]) b
theorem Ak {h:ab} {R Rp:VP} (ok:Bool) (atv ev:Int) (H:S18 ok atv ev h R Rp):QJ 18 #[.bool ok,QM atv,QM ev] h R Rp:=fS [] 12 [] [(7,⟨[],[],[],[]⟩)] [] [] Tryz.func18 QC QC H
def S81 (c:Int) (h:ab) (R:VP):Prop:=cnd (c==32) (R (.bool true) h) (cnd (c==9) (R (.bool true) h) (cnd (c==10) (R (.bool true) h) (R (.bool (c==13)) h)))
theorem GA {h:ab} {R:VP} (c:Int) (H:S81 c h R):QH 81 #[QP c] h R:=aN [] 17 [] [] [] [] Tryz.func81 QC QC H
def S82 (c:Int) (h:ab) (R:VP):Prop:=cnd (decide (c>=97)) (cnd (decide (c<=122)) (R (.bool true) h) (cnd (decide (c>=65)) (cnd (decide (c<=90)) (R (.bool true) h) (R (.bool (c==95)) h)) (R (.bool (c==95)) h))) (cnd (decide (c>=65)) (cnd (decide (c<=90)) (R (.bool true) h) (R (.bool (c==95)) h)) (R (.bool (c==95)) h))
theorem GB {h:ab} {R:VP} (c:Int) (H:S82 c h R):QH 82 #[QP c] h R:=aN [] 21 [] [] [] [] Tryz.func82 QC QC H
def S83 (c:Int) (h:ab) (R:VP):Prop:=QG 82 #[QP c] h [] fun d a=>∃b:Bool,d= .bool b/\cnd b (R (.bool true) a) (cnd (decide (c>=48)) (cnd (decide (c<=57)) (R (.bool true) a) (cnd (c==46) (R (.bool true) a) (cnd (c==58) (R (.bool true) a) (R (.bool (c==45)) a)))) (cnd (c==46) (R (.bool true) a) (cnd (c==58) (R (.bool true) a) (R (.bool (c==45)) a))))
theorem GC {h:ab} {R:VP} (c:Int) (H:S83 c h R):QH 83 #[QP c] h R:=aN [] 25 [] [] [] [] Tryz.func83 QC QC H
def Nc (c:Int) (h:ab) (R:VP):Prop:=cnd (decide (c>=32)) (R (.bool (decide (c<=126))) h) (R (.bool false) h)
theorem C4 {h:ab} {R:VP} (c:Int) (H:Nc c h R):QH 111 #[QP c] h R:=aN [] 9 [] [] [] [] Tryz.func111 QC QC H
def Nd (c:Int) (h:ab) (R:VP):Prop:=QG 111 #[QP c] h [] fun d a=>∃b:Bool,d= .bool b/\cnd b (R (.bool (c != 60)) a) (R (.bool false) a)
theorem C5 {h:ab} {R:VP} (c:Int) (H:Nd c h R):QH 110 #[QP c] h R:=aN [] 9 [] [] [] [] Tryz.func110 QC QC H
def Nf (c:Int) (h:ab) (R:VP):Prop:=QG 111 #[QP c] h [] fun f a=>∃b:Bool,f= .bool b/\cnd b (R (.bool true) a) (QG 81 #[QP c] a [] fun g e=>∃d:Bool,g= .bool d/\R (.bool d) e)
theorem C6 {h:ab} {R:VP} (c:Int) (H:Nf c h R):QH 179 #[QP c] h R:=aN [] 9 [] [] [] [] Tryz.func179 QC QC H
def S62 (xP:QR) (c:Int) (h:ab) (R:VP):Prop:=∃b o,xP=some ⟨b,o,none⟩/\∃e:Int,ac h b (o+1)=some (QM e)/\∃b2 o2,xP=some ⟨b2,o2,none⟩/\∃f:ByteArray,ac h b2 o2=some (.string f)/\cnd (decide (e<(f.size:Int))) (∃b3 o3,xP=some ⟨b3,o3,none⟩/\∃d:ByteArray,ac h b3 o3=some (.string d)/\∃b4 o4,xP=some ⟨b4,o4,none⟩/\∃a:Int,ac h b4 (o4+1)=some (QM a)/\0<=a/\a<(d.size:Int)/\∃g:UInt8,d[Int.toNat a]? =some g/\R (.bool ((UInt8.toNat g:Int)==c)) h) (R (.bool false) h)
theorem GD {h:ab} {R:VP} (xP:QR) (c:Int) (H:S62 xP c h R):QH 62 #[.pointer xP,QP c] h R:=aN [] 28 [] [] [] [(1,⟨24,false⟩)] Tryz.func62 QC QC H
def S61 (xP:QR) (c:Int) (h:ab) (R Rp:VP):Prop:=∃b o,xP=some ⟨b,o,none⟩/\∃f:Int,ac h b (o+1)=some (QM f)/\QG 62 #[.pointer xP,QP c] h [] fun k d=>∃e:Bool,k= .bool e/\Fr [] h d/\QI 18 #[.bool e,QM f,QM 15] d [] (fun l a=>l= .tuple #[]/\Fr [] h a/\∃b2 o2,xP=some ⟨b2,o2,none⟩/\∃g:Int,ac a b2 (o2+1)=some (QM g)/\∃b3 o3,xP=some ⟨b3,o3,none⟩/\(∃j,ac a b3 (o3+1)=some j)/\au a b3 (o3+1)=true/\let i:ab:=am a b3 (o3+1) (QM (i64.wrap (g+1)));R (.tuple #[]) i) Rp
theorem GE {h:ab} {R Rp:VP} (xP:QR) (c:Int) (H:S61 xP c h R Rp):QJ 61 #[.pointer xP,QP c] h R Rp:=fS [] 19 [] [] [] [(0,⟨8,false⟩)] Tryz.func61 QC QC H
def S60 (xP:QR) (h:ab) (R:VP):Prop:=∃b o,xP=some ⟨b,o,none⟩/\∃m:Int,ac h b (o+1)=some (QM m)/\let g:=fun(j:ab)=>(∃b8 o8,xP=some ⟨b8,o8,none⟩/\∃r:Int,ac j b8 (o8+1)=some (QM r)/\R (.bool (decide (r>m))) j);∃(e:LP) (k:List Value->ab->Nat),e [] h/\∀a,e [] a->∃b2 o2,xP=some ⟨b2,o2,none⟩/\∃n:Int,ac a b2 (o2+1)=some (QM n)/\∃b3 o3,xP=some ⟨b3,o3,none⟩/\∃p:ByteArray,ac a b3 o3=some (.string p)/\cnd (decide (n<(p.size:Int))) (∃b4 o4,xP=some ⟨b4,o4,none⟩/\∃f:ByteArray,ac a b4 o4=some (.string f)/\∃b5 o5,xP=some ⟨b5,o5,none⟩/\∃d:Int,ac a b5 (o5+1)=some (QM d)/\0<=d/\d<(f.size:Int)/\∃s:UInt8,f[Int.toNat d]? =some s/\QG 81 #[QP (UInt8.toNat s:Int)] a [] fun u c=>∃l:Bool,u= .bool l/\Fr [] a c/\cnd l (∃b6 o6,xP=some ⟨b6,o6,none⟩/\∃q:Int,ac c b6 (o6+1)=some (QM q)/\∃b7 o7,xP=some ⟨b7,o7,none⟩/\(∃t,ac c b7 (o7+1)=some t)/\au c b7 (o7+1)=true/\let i:ab:=am c b7 (o7+1) (QM (i64.wrap (q+1)));e [] i/\k [] i<k [] a) (g c)) (Fr [] a a/\g a)
theorem GF {h:ab} {R:VP} (xP:QR) (H:S60 xP h R):QH 60 #[.pointer xP] h R:=aN [] 43 [(0,⟨[0,3],[],[],[]⟩)] [] [] [(2,⟨22,false⟩)] Tryz.func60 QC QC H
def S63 (xP:QR) (h:ab) (R Rp:VP):Prop:=let n:=fun(t:ab)=>(∃b7 o7,xP=some ⟨b7,o7,none⟩/\∃g:Int,ac t b7 (o7+1)=some (QM g)/\let p:=fun(j:ab)=>(∃b14 o14,xP=some ⟨b14,o14,none⟩/\∃l:ByteArray,ac j b14 o14=some (.string l)/\∃b15 o15,xP=some ⟨b15,o15,none⟩/\∃d:Int,ac j b15 (o15+1)=some (QM d)/\0<=d/\d<=(l.size:Int)/\0<=g/\g<=((Int.toNat d):Int)/\R (.string (l.extract (Int.toNat g) (Int.toNat d))) j);∃(i:LP) (v:List Value->ab->Nat),i [] t/\∀a,i [] a->∃b8 o8,xP=some ⟨b8,o8,none⟩/\∃D:Int,ac a b8 (o8+1)=some (QM D)/\∃b9 o9,xP=some ⟨b9,o9,none⟩/\∃E:ByteArray,ac a b9 o9=some (.string E)/\cnd (decide (D<(E.size:Int))) (∃b10 o10,xP=some ⟨b10,o10,none⟩/\∃k:ByteArray,ac a b10 o10=some (.string k)/\∃b11 o11,xP=some ⟨b11,o11,none⟩/\∃e:Int,ac a b11 (o11+1)=some (QM e)/\0<=e/\e<(k.size:Int)/\∃G:UInt8,k[Int.toNat e]? =some G/\QG 83 #[QP (UInt8.toNat G:Int)] a [] fun L c=>∃x:Bool,L= .bool x/\Fr [] a c/\cnd x (∃b12 o12,xP=some ⟨b12,o12,none⟩/\∃z:Int,ac c b12 (o12+1)=some (QM z)/\∃b13 o13,xP=some ⟨b13,o13,none⟩/\(∃H,ac c b13 (o13+1)=some H)/\au c b13 (o13+1)=true/\let u:ab:=am c b13 (o13+1) (QM (i64.wrap (z+1)));i [] u/\v [] u<v [] a) (p c)) (Fr [] a a/\p a));∃b o,xP=some ⟨b,o,none⟩/\∃y:Int,ac h b (o+1)=some (QM y)/\∃b2 o2,xP=some ⟨b2,o2,none⟩/\∃A:ByteArray,ac h b2 o2=some (.string A)/\cnd (decide (y<(A.size:Int))) (∃b3 o3,xP=some ⟨b3,o3,none⟩/\∃m:ByteArray,ac h b3 o3=some (.string m)/\∃b4 o4,xP=some ⟨b4,o4,none⟩/\∃f:Int,ac h b4 (o4+1)=some (QM f)/\0<=f/\f<(m.size:Int)/\∃F:UInt8,m[Int.toNat f]? =some F/\∃b5 o5,xP=some ⟨b5,o5,none⟩/\∃B:Int,ac h b5 (o5+1)=some (QM B)/\QG 82 #[QP (UInt8.toNat F:Int)] h [] fun I q=>∃w:Bool,I= .bool w/\Fr [] h q/\QI 18 #[.bool w,QM B,QM 15] q [] (fun J r=>J= .tuple #[]/\Fr [] h r/\n r) Rp) (∃b6 o6,xP=some ⟨b6,o6,none⟩/\∃C:Int,ac h b6 (o6+1)=some (QM C)/\Fr [] h h/\QI 18 #[.bool false,QM C,QM 15] h [] (fun K s=>K= .tuple #[]/\Fr [] h s/\n s) Rp)
theorem GG {h:ab} {R Rp:VP} (xP:QR) (H:S63 xP h R Rp):QJ 63 #[.pointer xP] h R Rp:=fS [] 74 [(0,⟨[0,3],[],[],[]⟩)] [] [] [(1,⟨27,false⟩),(3,⟨22,false⟩),(5,⟨11,false⟩)] Tryz.func63 QC QC H
def Ng (s:ByteArray) (h:ab) (R:VP):Prop:=let F:ab:=h.push (.cells #[.string ⟨#[38,97,109,112,59]⟩,.string ⟨#[38,113,117,111,116,59]⟩,.string ⟨#[38,108,116,59]⟩,.string ⟨#[38,103,116,59]⟩,.string ⟨#[38,97,112,111,115,59]⟩] 9);∃(k:LP) (w:List Value->ab->Nat),k [QM 0] F/\∀c:Int,∀g,k [QM c] g->cnd (decide (c<(5:Int))) (∃b o,(some (⟨h.size,0,none⟩:Addr))=some ⟨b,o,none⟩/\0<=c/\c<(5:Nat)/\∃q:ByteArray,ac g b (o+(Int.toNat c)*1)=some (.string q)/\QG 51 #[.string s,.string q] g [] fun I n=>∃y:Bool,I= .bool y/\cnd y (0<=c/\c<((⟨#[38,34,60,62,39]⟩:ByteArray).size:Int)/\∃B:UInt8,(⟨#[38,34,60,62,39]⟩:ByteArray)[Int.toNat c]? =some B/\R (.tuple #[QP (UInt8.toNat B:Int),QM (q.size:Int)]) n) (k [QM (i64.wrap (c+1))] n/\w [QM (i64.wrap (c+1))] n<w [QM c] g)) (QG 51 #[.string s,.string ⟨#[38,35]⟩] g [] fun J u=>∃z:Bool,J= .bool z/\cnd (!z) (R (.tuple #[QP 0,QM 0]) u) (let t:=fun(p:Int) (e:Int) (i:ab)=>(let j:=fun(H:ab)=>(R (.tuple #[QP 0,QM 0]) H);cnd (e==2) (j i) (cnd (e==(s.size:Int)) (j i) (0<=e/\e<(s.size:Int)/\∃E:UInt8,s[Int.toNat e]? =some E/\cnd ((UInt8.toNat E:Int) != (59:Int)) (j i) (cnd (decide (p>126)) (j i) (QG 111 #[QP (u8.wrap p)] i [] fun K v=>∃A:Bool,K= .bool A/\cnd (!A) (R (.tuple #[QP 0,QM 0]) v) (R (.tuple #[QP (u8.wrap p),QM (i64.wrap (e+1))]) v))))));∃(l:LP) (x:List Value->ab->Nat),l [QM 0,QM 2] u/\∀f:Int,∀a:Int,∀d,l [QM f,QM a] d->let m:=fun(G:ab)=>(t f a G);cnd (decide (a<(s.size:Int))) (cnd (decide (a<5)) (0<=a/\a<(s.size:Int)/\∃C:UInt8,s[Int.toNat a]? =some C/\cnd (decide ((UInt8.toNat C:Int)>=(48:Int))) (0<=a/\a<(s.size:Int)/\∃D:UInt8,s[Int.toNat a]? =some D/\cnd (decide ((UInt8.toNat D:Int)<=(57:Int))) (0<=a/\a<(s.size:Int)/\∃r:UInt8,s[Int.toNat a]? =some r/\l [QM (i64.wrap ((i64.wrap ((10:Int)*f))+(i64.wrap (u8.wrap ((UInt8.toNat r:Int)-(48:Int)))))),QM (i64.wrap (a+1))] d/\x [QM (i64.wrap ((i64.wrap ((10:Int)*f))+(i64.wrap (u8.wrap ((UInt8.toNat r:Int)-(48:Int)))))),QM (i64.wrap (a+1))] d<x [QM f,QM a] d) (t f a d)) (m d)) (m d)) (m d)))
theorem C7 {h:ab} {R:VP} (s:ByteArray) (H:Ng s h R):QH 145 #[.string s] h R:=aN [] 84 [(0,⟨[0,8,9],[10],[],[]⟩),(2,⟨[0],[6,7],[],[]⟩)] [] [] [] Tryz.func145 QC QC H
def Nh (xP:QR) (ends:ByteArray) (mayF:Fn) (mayX mayY:Array Value) (h:ab) (R Rp:VP):Prop:=∃(q:LP) (D:List Value->ab->Nat),q [.slice none 0 0] h/\∀(c:QR) (a f:Nat),∀e,q [.slice c a f] e->∃b o,xP=some ⟨b,o,none⟩/\∃I:Int,ac e b (o+1)=some (QM I)/\∃b2 o2,xP=some ⟨b2,o2,none⟩/\∃K:ByteArray,ac e b2 o2=some (.string K)/\cnd (decide (I<(K.size:Int))) (∃b3 o3,xP=some ⟨b3,o3,none⟩/\∃B:ByteArray,ac e b3 o3=some (.string B)/\∃b4 o4,xP=some ⟨b4,o4,none⟩/\∃m:Int,ac e b4 (o4+1)=some (QM m)/\0<=m/\m<(B.size:Int)/\∃g:UInt8,B[Int.toNat m]? =some g/\QG 138 #[.string ends,QP (UInt8.toNat g:Int)] e [] fun S d=>∃G:Int,S= QM G/\cnd (decide (G>=0)) (∃O:List Int,Reads d 1 c a (List.map (Value.int IntKind.u8) O)/\R (.tuple #[.string (strOf O),.bool true]) d) (∃r:LP,(cnd ((UInt8.toNat g:Int)==(38:Int)) (∃b5 o5,xP=some ⟨b5,o5,none⟩/\∃n:ByteArray,ac d b5 o5=some (.string n)/\∃b6 o6,xP=some ⟨b6,o6,none⟩/\∃p:Int,ac d b6 (o6+1)=some (QM p)/\0<=p/\p<=(n.size:Int)/\QG 145 #[.string (n.extract (Int.toNat p) n.size)] d [] fun T t=>∃y:Int,∃z:Int,T= .tuple #[QP y,QM z]/\Fr [] d t/\∃b7 o7,xP=some ⟨b7,o7,none⟩/\∃L:Int,ac t b7 (o7+1)=some (QM L)/\QI 18 #[.bool (decide (z>0)),QM L,QM 15] t [] (fun U u=>U= .tuple #[]/\let k:ab:=u.push (.cells #[QP y] 5);∃E,ar k 5 1 c a f E/\(∀b'∈([u.size]:List Nat),b'∉ai c)/\(a+1)*1<=140737488355328/\(a+1)<=maxLen/\∀sA sC hv6,ar hv6 5 1 sA (a+1) sC (E++[QP y])->Fr (ai c) k hv6->((sA=c/\sC=f)\/∃i,sA=some ⟨i,0,none⟩/\k.size<=i)->(f<(a+1)->Fr [] k hv6)->∃b8 o8,xP=some ⟨b8,o8,none⟩/\∃M:Int,ac hv6 b8 (o8+1)=some (QM M)/\∃b9 o9,xP=some ⟨b9,o9,none⟩/\b9≠u.size/\(∃A,ac hv6 b9 (o9+1)=some A)/\au hv6 b9 (o9+1)=true/\let Q:ab:=am hv6 b9 (o9+1) (QM (i64.wrap (M+z)));r [.slice sA (a+1) sC] Q) Rp) (∃b10 o10,xP=some ⟨b10,o10,none⟩/\∃N:Int,ac d b10 (o10+1)=some (QM N)/\lB Tryz.prog qR qS (some Rp) mayF mayX mayY [QP (UInt8.toNat g:Int)] d [] fun V C=>∃H:Bool,V= .bool H/\Fr [] d C/\QI 18 #[.bool H,QM N,QM 15] C [] (fun W l=>W= .tuple #[]/\Fr [] d l/\let j:ab:=l.push (.cells #[QP (UInt8.toNat g:Int)] 5);∃F,ar j 5 1 c a f F/\(∀b'∈([l.size]:List Nat),b'∉ai c)/\(a+1)*1<=140737488355328/\(a+1)<=maxLen/\∀sA2 sC2 hv11,ar hv11 5 1 sA2 (a+1) sC2 (F++[QP (UInt8.toNat g:Int)])->Fr (ai c) j hv11->((sA2=c/\sC2=f)\/∃i,sA2=some ⟨i,0,none⟩/\j.size<=i)->(f<(a+1)->Fr [] j hv11)->∃b11 o11,xP=some ⟨b11,o11,none⟩/\∃J:Int,ac hv11 b11 (o11+1)=some (QM J)/\∃b12 o12,xP=some ⟨b12,o12,none⟩/\b12≠l.size/\(∃A,ac hv11 b12 (o12+1)=some A)/\au hv11 b12 (o12+1)=true/\let P:ab:=am hv11 b12 (o12+1) (QM (i64.wrap (J+1)));r [.slice sA2 (a+1) sC2] P) Rp))/\∀(v:QR) (x w:Nat),∀s,r [.slice v x w] s->q [.slice v x w] s/\D [.slice v x w] s<D [.slice c a f] e)) (R (.tuple #[.string ⟨#[]⟩,.bool false]) e)
theorem C8 {h:ab} {R Rp:VP} (xP:QR) (ends:ByteArray) (mayF:Fn) (mayX mayY:Array Value) (H:Nh xP ends mayF mayX mayY h R Rp):QJ 109 #[.pointer xP,.string ends,.func mayF mayX mayY] h R Rp:=fS [41,82] 92 [(0,⟨[0,1,2],[8],[],[]⟩)] [(57,⟨[0,1,2],[8],[],[]⟩)] [] [(2,⟨10,false⟩),(3,⟨10,false⟩),(10,⟨15,false⟩),(4,⟨8,false⟩)] Tryz.func109 QC QC H
def S84 (xP aheadA:QR) (aheadL aheadC:Nat) (h:ab) (R Rp:VP):Prop:=let u:ab:=h.push (.cells #[.string ByteArray.empty,.string ByteArray.empty,QM 0] 142);∃b o,xP=some ⟨b,o,none⟩/\∃E:Int,ac u b (o+1)=some (QM E)/\QI 63 #[.pointer xP] u [h.size] (fun V a=>∃g:ByteArray,V= .string g/\let Q:ab:=a.push (.cells #[.string ByteArray.empty,.string ByteArray.empty,QM 0] 142);let S:ab:=am (am (am Q a.size 0 (.string g)) a.size (0+1) (.string ByteArray.empty)) a.size ((0+1)+1) (QM 0);∃(n:LP) (A:List Value->ab->Nat),n [QM 0] S/\∀d:Int,∀c,n [QM d] c->cnd (decide (d<(aheadL:Int))) (∃b2 o2,aheadA=some ⟨b2,o2,none⟩/\0<=d/\d<(aheadL:Nat)/\∃q:ByteArray,ac c b2 (o2+(Int.toNat d)*3)=some (.string q)/\∃H:ByteArray,ac c b2 ((o2+(Int.toNat d)*3)+1)=some (.string H)/\∃I:Int,ac c b2 (((o2+(Int.toNat d)*3)+1)+1)=some (QM I)/\let T:ab:=c.push (.cells #[.string ByteArray.empty,.string ByteArray.empty,QM 0] 142);let U:ab:=am (am (am T c.size 0 (.string q)) c.size (0+1) (.string H)) c.size ((0+1)+1) (QM I);QI 18 #[.bool (!(q.toList==g.toList)),QM E,QM 18] U [c.size,h.size,a.size] (fun W z=>W= .tuple #[]/\n [QM (i64.wrap (d+1))] z/\A [QM (i64.wrap (d+1))] z<A [QM d] c) Rp) (QI 61 #[.pointer xP,QP 61] c [h.size,a.size] (fun X f=>X= .tuple #[]/\let t:=fun(e:ab)=>(∃b4 o4,xP=some ⟨b4,o4,none⟩/\∃J:Int,ac e b4 (o4+1)=some (QM J)/\∃b5 o5,xP=some ⟨b5,o5,none⟩/\∃s:ByteArray,ac e b5 o5=some (.string s)/\∃b6 o6,xP=some ⟨b6,o6,none⟩/\∃m:Int,ac e b6 (o6+1)=some (QM m)/\0<=m/\m<(s.size:Int)/\∃K:UInt8,s[Int.toNat m]? =some K/\∃b7 o7,xP=some ⟨b7,o7,none⟩/\∃F:Int,ac e b7 (o7+1)=some (QM F)/\∃b8 o8,xP=some ⟨b8,o8,none⟩/\b8≠h.size/\b8≠a.size/\(∃p,ac e b8 (o8+1)=some p)/\au e b8 (o8+1)=true/\let y:ab:=am e b8 (o8+1) (QM (i64.wrap (F+1)));∃b9 o9,xP=some ⟨b9,o9,none⟩/\∃l:Int,ac y b9 (o9+1)=some (QM l)/\let L:ab:=am y a.size 2 (QM l);QI 109 #[.pointer xP,.string (Utf8.encode (UInt8.toNat K:Int)),.func (.func 110) #[] #[]] L [h.size,a.size] (fun a2 M=>∃k:ByteArray,∃D:Bool,a2= .tuple #[.string k,.bool D]/\QI 18 #[.bool D,QM J,QM 15] M [h.size,a.size] (fun a3 j=>a3= .tuple #[]/\∃b10 o10,xP=some ⟨b10,o10,none⟩/\∃G:Int,ac j b10 (o10+1)=some (QM G)/\∃b11 o11,xP=some ⟨b11,o11,none⟩/\b11≠h.size/\b11≠a.size/\(∃p,ac j b11 (o11+1)=some p)/\au j b11 (o11+1)=true/\let N:ab:=am j b11 (o11+1) (QM (i64.wrap (G+1)));let O:ab:=am N a.size 1 (.string k);let P:ab:=am (am (am O h.size 0 (.string g)) h.size (0+1) (.string k)) h.size ((0+1)+1) (QM l);R (.agg #[.string g,.string k,QM l]) P) Rp) Rp);∃b3 o3,xP=some ⟨b3,o3,none⟩/\∃r:Int,ac f b3 (o3+1)=some (QM r)/\QG 62 #[.pointer xP,QP 34] f [h.size,a.size] fun Y i=>∃B:Bool,Y= .bool B/\Fr [] f i/\cnd B (Fr [] f i/\QI 18 #[.bool true,QM r,QM 15] i [h.size,a.size] (fun Z v=>Z= .tuple #[]/\Fr [] f v/\t v) Rp) (QG 62 #[.pointer xP,QP 39] i [h.size,a.size] fun a0 w=>∃C:Bool,a0= .bool C/\Fr [] f w/\QI 18 #[.bool C,QM r,QM 15] w [h.size,a.size] (fun a1 x=>a1= .tuple #[]/\Fr [] f x/\t x) Rp)) Rp)) Rp
theorem GH {h:ab} {R Rp:VP} (xP aheadA:QR) (aheadL aheadC:Nat) (H:S84 xP aheadA aheadL aheadC h R Rp):QJ 84 #[.pointer xP,.slice aheadA aheadL aheadC] h R Rp:=fS [4,6,8] 92 [(0,⟨[0,4,5,6,20,21],[22],[4,6],[]⟩)] [] [] [(9,⟨11,false⟩),(10,⟨15,false⟩)] Tryz.func84 QC QC H
def S86 (tP:QR) (name:ByteArray) (h:ab) (R:VP):Prop:=∃b o,tP=some ⟨b,o,none⟩/\∃(m:QR) (j n:Nat),ac h b (o+3)=some (.slice m j n)/\∃(d:LP) (e:List Value->ab->Nat),d [QM 0] h/\∀a:Int,∀c,d [QM a] c->cnd (decide (a<(j:Int))) (∃b2 o2,tP=some ⟨b2,o2,none⟩/\∃(g:QR) (k p:Nat),ac c b2 (o2+3)=some (.slice g k p)/\∃b3 o3,g=some ⟨b3,o3,none⟩/\0<=a/\a<(k:Nat)/\∃f:ByteArray,ac c b3 (o3+(Int.toNat a)*3)=some (.string f)/\cnd (f.toList==name.toList) (∃b4 o4,tP=some ⟨b4,o4,none⟩/\∃(i:QR) (l q:Nat),ac c b4 (o4+3)=some (.slice i l q)/\∃b5 o5,i=some ⟨b5,o5,none⟩/\0<=a/\a<(l:Nat)/\R (.pointer (some (⟨b5,(o5+(Int.toNat a)*3),none⟩:Addr))) c) (d [QM (i64.wrap (a+1))] c/\e [QM (i64.wrap (a+1))] c<e [QM a] c)) (R (.pointer none) c)
theorem GI {h:ab} {R:VP} (tP:QR) (name:ByteArray) (H:S86 tP name h R):QH 86 #[.pointer tP,.string name] h R:=aN [] 31 [(0,⟨[0,1,10],[11],[],[]⟩)] [] [] [] Tryz.func86 QC QC H
def S85 (tP namesA:QR) (namesL namesC:Nat) (h:ab) (R Rp:VP):Prop:=∃(d:LP) (g:List Value->ab->Nat),d [QM 0] h/\∀c:Int,∀a,d [QM c] a->cnd (decide (c<(namesL:Int))) (∃b o,namesA=some ⟨b,o,none⟩/\0<=c/\c<(namesL:Nat)/\∃j:ByteArray,ac a b (o+(Int.toNat c)*1)=some (.string j)/\∃b2 o2,tP=some ⟨b2,o2,none⟩/\∃k:Int,ac a b2 (o2+1)=some (QM k)/\QG 86 #[.pointer tP,.string j] a [] fun l f=>∃i:QR,l= .pointer i/\Fr [] a f/\QI 18 #[.bool (!(Option.isNone i)),QM k,QM 14] f [] (fun m e=>m= .tuple #[]/\Fr [] a e/\d [QM (i64.wrap (c+1))] e/\g [QM (i64.wrap (c+1))] e<g [QM c] a) Rp) (R (.tuple #[]) a)
theorem GJ {h:ab} {R Rp:VP} (tP namesA:QR) (namesL namesC:Nat) (H:S85 tP namesA namesL namesC h R Rp):QJ 85 #[.pointer tP,.slice namesA namesL namesC] h R Rp:=fS [] 22 [(0,⟨[0,6,7],[8],[],[]⟩)] [] [] [(3,⟨9,false⟩)] Tryz.func85 QC QC H
def S64 (xP tP:QR) (h:ab) (R Rp:VP):Prop:=∃(m:LP) (v:List Value->ab->Nat),m [] h/\∀n,m [] n->QG 60 #[.pointer xP] n [] fun K G=>∃x:Bool,K= .bool x/\QG 62 #[.pointer xP,QP 62] G [] fun L i=>∃y:Bool,L= .bool y/\cnd y (∃b o,xP=some ⟨b,o,none⟩/\∃A:Int,ac i b (o+1)=some (QM A)/\∃b2 o2,xP=some ⟨b2,o2,none⟩/\(∃a,ac i b2 (o2+1)=some a)/\au i b2 (o2+1)=true/\let H:ab:=am i b2 (o2+1) (QM (i64.wrap (A+1)));R (.tuple #[]) H) (QG 62 #[.pointer xP,QP 47] i [] fun M e=>∃z:Bool,M= .bool z/\cnd z (∃b3 o3,xP=some ⟨b3,o3,none⟩/\∃B:Int,ac e b3 (o3+1)=some (QM B)/\∃b4 o4,xP=some ⟨b4,o4,none⟩/\(∃a,ac e b4 (o4+1)=some a)/\au e b4 (o4+1)=true/\let I:ab:=am e b4 (o4+1) (QM (i64.wrap (B+1)));QI 61 #[.pointer xP,QP 62] I [] (fun N p=>N= .tuple #[]/\∃b5 o5,tP=some ⟨b5,o5,none⟩/\(∃a,ac p b5 (o5+4)=some a)/\au p b5 (o5+4)=true/\let J:ab:=am p b5 (o5+4) (.bool true);R (.tuple #[]) J) Rp) (∃b6 o6,xP=some ⟨b6,o6,none⟩/\∃C:Int,ac e b6 (o6+1)=some (QM C)/\QI 18 #[.bool x,QM C,QM 15] e [] (fun O f=>O= .tuple #[]/\∃d:List Nat,(∀b∈([]:List Nat),b∉d)/\∃b7 o7,tP=some ⟨b7,o7,none⟩/\b7∉d/\∃(j:QR) (c l:Nat),ac f b7 (o7+3)=some (.slice j c l)/\∃b8 o8,tP=some ⟨b8,o8,none⟩/\b8∉d/\∃(D:QR) (F E:Nat),ac f b8 (o8+3)=some (.slice D F E)/\QI 84 #[.pointer xP,.slice D F E] f [] (fun P k=>∃q:ByteArray,∃r:ByteArray,∃s:Int,P= .agg #[.string q,.string r,QM s]/\Fr d f k/\let g:ab:=k.push (.cells #[.string q,.string r,QM s] 142);Fr d f g/\∃w,ar g 142 3 j c l w/\(∀b'∈([k.size]:List Nat),b'∉ai j)/\(c+1)*40<=140737488355328/\(c+1)<=maxLen/\∀sA sC hv12,ar hv12 142 3 sA (c+1) sC (w++[.string q,.string r,QM s])->Fr (ai j) g hv12->((sA=j/\sC=l)\/∃t,sA=some ⟨t,0,none⟩/\g.size<=t)->(l<(c+1)->Fr [] g hv12)->Fr d f hv12/\∃b9 o9,tP=some ⟨b9,o9,none⟩/\b9≠k.size/\(∃a,ac hv12 b9 (o9+3)=some a)/\au hv12 b9 (o9+3)=true/\let u:ab:=am hv12 b9 (o9+3) (.slice sA (c+1) sC);m [] u/\v [] u<v [] n) Rp) Rp))
theorem GK {h:ab} {R Rp:VP} (xP tP:QR) (H:S64 xP tP h R Rp):QJ 64 #[.pointer xP,.pointer tP] h R Rp:=fS [49] 53 [(0,⟨[0,1],[],[],[]⟩)] [] [] [(8,⟨13,true⟩)] Tryz.func64 QC QC H
def S65 (xP:QR) (name:ByteArray) (h:ab) (R Rp:VP):Prop:=QI 61 #[.pointer xP,QP 47] h [] (fun k a=>k= .tuple #[]/\∃b o,xP=some ⟨b,o,none⟩/\∃d:Int,ac a b (o+1)=some (QM d)/\QI 63 #[.pointer xP] a [] (fun l e=>∃c:ByteArray,l= .string c/\QI 18 #[.bool (c.toList==name.toList),QM d,QM 15] e [] (fun m f=>m= .tuple #[]/\QG 60 #[.pointer xP] f [] fun n g=>∃j:Bool,n= .bool j/\QI 61 #[.pointer xP,QP 62] g [] (fun p i=>p= .tuple #[]/\R (.tuple #[]) i) Rp) Rp) Rp) Rp
theorem GM {h:ab} {R Rp:VP} (xP:QR) (name:ByteArray) (H:S65 xP name h R Rp):QJ 65 #[.pointer xP,.string name] h R Rp:=fS [] 21 [] [] [] [] Tryz.func65 QC QC H
def S36 (xP:QR) (h:ab) (R Rp:VP):Prop:=∃(i:LP) (p:List Value->ab->Nat),i [] h/\∀j,i [] j->QG 60 #[.pointer xP] j [] fun A a=>∃z:Bool,A= .bool z/\∃b o,xP=some ⟨b,o,none⟩/\∃r:Int,ac a b (o+1)=some (QM r)/\∃b2 o2,xP=some ⟨b2,o2,none⟩/\∃s:ByteArray,ac a b2 o2=some (.string s)/\cnd (r==(s.size:Int)) (R (.bool false) a) (∃b3 o3,xP=some ⟨b3,o3,none⟩/\∃t:Int,ac a b3 (o3+1)=some (QM t)/\QI 61 #[.pointer xP,QP 60] a [] (fun B w=>B= .tuple #[]/\QG 62 #[.pointer xP,QP 33] w [] fun C c=>∃q:Bool,C= .bool q/\cnd (!q) (R (.bool true) c) (∃b4 o4,xP=some ⟨b4,o4,none⟩/\∃u:Int,ac c b4 (o4+1)=some (QM u)/\∃b5 o5,xP=some ⟨b5,o5,none⟩/\(∃l,ac c b5 (o5+1)=some l)/\au c b5 (o5+1)=true/\let x:ab:=am c b5 (o5+1) (QM (i64.wrap (u+1)));QI 61 #[.pointer xP,QP 45] x [] (fun D y=>D= .tuple #[]/\QI 61 #[.pointer xP,QP 45] y [] (fun E d=>E= .tuple #[]/\∃b6 o6,xP=some ⟨b6,o6,none⟩/\∃f:ByteArray,ac d b6 o6=some (.string f)/\∃b7 o7,xP=some ⟨b7,o7,none⟩/\∃g:Int,ac d b7 (o7+1)=some (QM g)/\0<=g/\g<=(f.size:Int)/\QG 59 #[.string (f.extract (Int.toNat g) f.size),.string ⟨#[45,45,62]⟩] d [] fun F n=>∃k:Int,F= QM k/\Fr [] d n/\QI 18 #[.bool (decide (k>=0)),QM t,QM 15] n [] (fun G e=>G= .tuple #[]/\∃b8 o8,xP=some ⟨b8,o8,none⟩/\∃v:Int,ac e b8 (o8+1)=some (QM v)/\∃b9 o9,xP=some ⟨b9,o9,none⟩/\(∃l,ac e b9 (o9+1)=some l)/\au e b9 (o9+1)=true/\let m:ab:=am e b9 (o9+1) (QM (i64.wrap (v+(i64.wrap (k+3)))));i [] m/\p [] m<p [] j) Rp) Rp) Rp)) Rp)
theorem GN {h:ab} {R Rp:VP} (xP:QR) (H:S36 xP h R Rp):QJ 36 #[.pointer xP] h R Rp:=fS [] 60 [(0,⟨[0],[],[],[]⟩)] [] [] [(2,⟨10,false⟩),(11,⟨11,false⟩)] Tryz.func36 QC QC H
def flx (f:G.F):Value:=.iface 53 (.agg #[QM (f.1:Int),QM (f.2:Int)])
theorem aq {b:Bool} {a e:Nat} {h:ab} {H:List Nat} {K E:Value->ab->Prop} (k:b=true->K (.tuple #[]) h) (k2:b=false->E (flx (a,e)) h):QI 18 #[.bool b,QM (a:Int),QM (e:Int)] h H K E:=by
 refine az (R:=fun v h'=>b=true/\v= .tuple #[]/\h'=h) (Rp:=fun v h'=>b=false/\v=flx (a,e)/\h'=h) [] ?_ QB (fun _ _ r=>Fr.of_eq r.2.2) (fun _ _ r=>Fr.of_eq r.2.2) (fun v h' r=>by obtain⟨q,rfl,rfl⟩:=r;exact k q) fun v h' r=>by obtain⟨q,rfl,rfl⟩:=r;exact k2 q
 apply Ak
 unfold S18
 exact⟨fun _ h'=>b=true/\h'=h,bo (fun q=>⟨q,rfl,rfl⟩) fun q=>⟨q,rfl⟩,fun h' q=>⟨q.1,rfl,q.2⟩⟩
section
variable {n:Nat} {h:ab}
theorem Ac :QH 111 #[QP (n:Int)] h fun v h'=>v= .bool (G.bO n)/\h'=h:=by
 apply C4
 unfold Nc
 have fin:∀b:Bool,(b=true ↔ 32<=n/\n<=126)->Value.bool b= .bool (G.bO n)/\h=h:=fun b e=>⟨by rw[dB e];rfl,rfl⟩
 refine af (fun h1=>fin _ ?_) fun h1=>fin _ ?_
 all_goals (simp;try omega)
theorem MH :QH 81 #[QP (n:Int)] h fun v h'=>v= .bool (G.cj n)/\h'=h:=by
 apply GA
 unfold S81
 have fin:∀b:Bool,(b=true ↔ n=32\/n=9\/n=10\/n=13)->Value.bool b= .bool (G.cj n)/\h=h:=fun b e=>⟨by rw[dB e];rfl,rfl⟩
 refine aH (fun h1=>fin _ ?_) fun h1=>aH (fun h2=>fin _ ?_) fun h2=>aH (fun h3=>fin _ ?_) fun h3=>fin _ ?_
 all_goals (simp;try omega)
theorem CP :G.kz n=decide (97<=n/\n<=122\/65<=n/\n<=90\/n=95):=by
 rw[Bool.eq_iff_iff]
 simp only[G.kz,G.qp,Bool.or_eq_true,decide_eq_true_eq]
 omega
theorem MI :QH 82 #[QP (n:Int)] h fun v h'=>v= .bool (G.kz n)/\h'=h:=by
 apply GB
 unfold S82
 have fin:∀b:Bool,(b=true ↔ 97<=n/\n<=122\/65<=n/\n<=90\/n=95)->Value.bool b= .bool (G.kz n)/\h=h:=fun b e=>⟨by rw[dB e,CP],rfl⟩
 refine af (fun h1=>af (fun h2=>fin _ ?_) fun h2=>af (fun h3=>af (fun h4=>fin _ ?_) fun h4=>fin _ ?_) fun h3=>fin _ ?_) fun h1=>af (fun h3=>af (fun h4=>fin _ ?_) fun h4=>fin _ ?_) fun h3=>fin _ ?_
 all_goals (simp;try omega)
theorem qJ :G.jb n=(G.kz n||decide (48<=n/\n<=57\/n=46\/n=58\/n=45)):=by
 rw[Bool.eq_iff_iff]
 simp only[G.jb,G.me,Bool.or_eq_true,decide_eq_true_eq]
 generalize G.kz n=b
 cases b<;>simp<;>omega
theorem PM :QH 83 #[QP (n:Int)] h fun v h'=>v= .bool (G.jb n)/\h'=h:=by
 apply GC
 unfold S83
 refine fQ MI ⟨_,rfl,cd (fun q=>⟨by simp[qJ,q],rfl⟩) fun q=>?_⟩
 have fin:∀b:Bool,(b=true ↔ 48<=n/\n<=57\/n=46\/n=58\/n=45)->Value.bool b= .bool (G.jb n)/\h=h:=fun b e=>⟨by rw[dB e,qJ,q,Bool.false_or],rfl⟩
 refine af (fun h1=>af (fun h2=>fin _ ?_) fun h2=>aH (fun h3=>fin _ ?_) fun h3=>aH (fun h4=>fin _ ?_) fun h4=>fin _ ?_) fun h1=>aH (fun h3=>fin _ ?_) fun h3=>aH (fun h4=>fin _ ?_) fun h4=>fin _ ?_
 all_goals (simp;try omega)
theorem MJ :QH 110 #[QP (n:Int)] h fun v h'=>v= .bool (G.bO n&&decide (n≠60))/\h'=h:=by
 apply C5
 unfold Nd
 refine fQ Ac ⟨_,rfl,cd (fun q=>⟨?_,rfl⟩) fun q=>⟨by simp[q],rfl⟩⟩
 rw[q,Bool.true_and]
 congr 1
 exact dB QF
theorem MK :QH 179 #[QP (n:Int)] h fun v h'=>v= .bool (G.bO n||G.cj n)/\h'=h:=by
 apply C6
 unfold Nf
 refine fQ Ac ⟨_,rfl,cd (fun q=>⟨by simp[q],rfl⟩) fun q=>fQ MH ⟨_,rfl,by simp[q],rfl⟩⟩
end
section
variable {h:ab} {b i:Nat} {s:ByteArray}
theorem yV {c:Nat} (L:Lx h b s i) (hc:c<256):QH 62 #[.pointer (some ⟨b,0,none⟩),QP (c:Int)] h fun v h'=>v= .bool (decide (G.bt s i=c))/\h'=h:=by
 apply GD
 unfold S62
 refine⟨b,0,rfl,_,L.c1,b,0,rfl,_,L.c0,af (fun q=>?_) fun q=>?_⟩
 ·obtain⟨x,hx,hb⟩:=get_at (s:=s) (j:=i) Qz
  refine⟨b,0,rfl,_,L.c0,b,0,rfl,_,L.c1,Qz,Qz,x,by rw[Int.toNat_natCast];exact hx,?_,rfl⟩
  rw[hb]
  congr 1
  exact dB QF
 ·refine⟨?_,rfl⟩
  rw[show decide (G.bt s i=c)=false from ?_]
  rw[decide_eq_false_iff_not]
  intro e
  have:G.bt s i≠256:=by omega
  have:=G.mZ this
  omega
theorem yW {c:Nat} (L:Lx h b s i) (hc:c<256) (hs:s.size<=262144):QJ 61 #[.pointer (some ⟨b,0,none⟩),QP (c:Int)] h (fun v h'=>G.want s c i= .ok (i+1)/\i<s.size/\v= .tuple #[]/\Mv b h h' (i+1)) (fun v h'=>G.want s c i= .no (i,15)/\v=flx (i,15)/\h'=h):=by
 apply GE
 unfold S61
 refine⟨b,0,rfl,_,L.c1,bV (yV L hc) ⟨_,rfl,Fr.refl _ _,aq (fun q=>?_) fun q=>?_⟩⟩
 ·have e:=of_decide_eq_true q
  have hi:i<s.size:=G.mZ Qz
  refine⟨rfl,Fr.refl _ _,b,0,rfl,_,L.c1,b,0,rfl,L.cell,L.fr,?_⟩
  rw[wrN Qz]
  exact⟨by unfold G.want;rw[q];rfl,hi,rfl,Mv.to L (i+1)⟩
 ·exact⟨by unfold G.want;rw[q];rfl,rfl,rfl⟩
theorem nF {p:Nat->Bool} {j:Nat} (h:¬(j<s.size/\p (G.bt s j)=true)):G.run p s j=j:=by rw[G.run,if_neg h]
theorem Ad {p:Nat->Bool} {j:Nat} (h1:j<s.size) (h2:p (G.bt s j)=true):G.run p s j=G.run p s (j+1):=by
 conv=>lhs;rw[G.run,if_pos ⟨h1,h2⟩]
theorem JP (L:Lx h b s i) (hi:i<=s.size) (hs:s.size<=262144):QH 60 #[.pointer (some ⟨b,0,none⟩)] h fun v h'=>v= .bool (decide (i<G.run G.cj s i))/\Mv b h h' (G.run G.cj s i):=by
 apply GF
 unfold S60
 refine⟨b,0,rfl,_,L.c1,?_⟩
 intro K
 refine⟨fun _ h'=>∃j,i<=j/\j<=s.size/\G.run G.cj s j=G.run G.cj s i/\Mv b h h' j,vW s b,⟨i,Nat.le_refl _,hi,rfl,Mv.refl L⟩,?_⟩
 rintro hv ⟨j,hij,hj,hsk,M⟩
 have Lj:=L.mv M
 have fin:G.run G.cj s j=j->K hv:=by
  intro e
  have ej:G.run G.cj s i=j:=by rw[<-hsk,e]
  refine⟨b,0,rfl,_,Lj.c1,?_,by rw[ej];exact M⟩
  rw[ej]
  congr 1
  exact dB QB
 refine⟨b,0,rfl,_,Lj.c1,b,0,rfl,_,Lj.c0,af (fun hlt=>?_) fun hlt=>⟨Fr.refl _ _,fin (nF Qz)⟩⟩
 have hlt:j<s.size:=by omega
 obtain⟨c,hc,hb⟩:=get_at hlt
 refine⟨b,0,rfl,_,Lj.c0,b,0,rfl,_,Lj.c1,Qz,Qz,c,by rw[Int.toNat_natCast];exact hc,?_⟩
 refine fQ MH ⟨_,rfl,Fr.refl _ _,cd (fun q=>?_) fun q=>fin (nF (by rw[hb,q];simp))⟩
 refine⟨b,0,rfl,_,Lj.c1,b,0,rfl,Lj.cell,Lj.fr,?_⟩
 rw[wrN Qz]
 have M':=M.trans (Mv.to Lj (j+1))
 refine⟨⟨j+1,Qz,Qz,?_,M'⟩,?_⟩
 ·rw[<-hsk];exact(Ad hlt (by rw[hb];exact q)).symm
 ·rw[eZ (L.mv M'),eZ Lj];omega
theorem JQ (L:Lx h b s i) (hi:i<=s.size) (hs:s.size<=262144):QJ 63 #[.pointer (some ⟨b,0,none⟩)] h (fun v h'=>∃x j,G.mi s i= .ok (x,j)/\i<j/\j<=s.size/\v= .string x/\Mv b h h' j) (fun v h'=>G.mi s i= .no (i,15)/\v=flx (i,15)/\h'=h):=by
 apply GG
 unfold S63
 intro K
 have go:i<s.size->G.kz (G.bt s i)=true->K h:=by
  intro hi1 hb0
  refine⟨b,0,rfl,_,L.c1,?_⟩
  intro K2
  refine⟨fun _ h'=>∃j,i<=j/\j<=s.size/\G.run G.jb s j=G.run G.jb s i/\Mv b h h' j,vW s b,⟨i,Nat.le_refl _,hi,rfl,Mv.refl L⟩,?_⟩
  rintro hv ⟨j,hij,hj,hsk,M⟩
  have Lj:=L.mv M
  have fin:G.run G.jb s j=j->K2 hv:=by
   intro e
   have ej:G.run G.jb s i=j:=by rw[<-hsk,e]
   refine⟨b,0,rfl,_,Lj.c0,b,0,rfl,_,Lj.c1,Qz,Qz,Qz,Qz,?_⟩
   rw[Int.toNat_natCast,Int.toNat_natCast]
   refine⟨s.extract i j,j,?_,?_,hj,rfl,M⟩
   ·unfold G.mi;rw[hb0,ej];rfl
   ·rw[<-ej];exact G.Jm hi1 (by rw[qJ,hb0,Bool.true_or])
  refine⟨b,0,rfl,_,Lj.c1,b,0,rfl,_,Lj.c0,af (fun hlt=>?_) fun hlt=>⟨Fr.refl _ _,fin (nF Qz)⟩⟩
  have hlt:j<s.size:=by omega
  obtain⟨c,hc,hb⟩:=get_at hlt
  refine⟨b,0,rfl,_,Lj.c0,b,0,rfl,_,Lj.c1,Qz,Qz,c,by rw[Int.toNat_natCast];exact hc,?_⟩
  refine fQ PM ⟨_,rfl,Fr.refl _ _,cd (fun q=>?_) fun q=>fin (nF (by rw[hb,q];simp))⟩
  refine⟨b,0,rfl,_,Lj.c1,b,0,rfl,Lj.cell,Lj.fr,?_⟩
  rw[wrN Qz]
  have M':=M.trans (Mv.to Lj (j+1))
  refine⟨⟨j+1,Qz,Qz,?_,M'⟩,?_⟩
  ·rw[<-hsk];exact(Ad hlt (by rw[hb];exact q)).symm
  ·rw[eZ (L.mv M'),eZ Lj];omega
 have bad:G.kz (G.bt s i)=false->G.mi s i= .no (i,15):=by
  intro q;unfold G.mi;rw[q];rfl
 refine⟨b,0,rfl,_,L.c1,b,0,rfl,_,L.c0,af (fun hlt=>?_) fun hlt=>?_⟩
 ·have hlt:i<s.size:=by omega
  obtain⟨c,hc,hb⟩:=get_at hlt
  refine⟨b,0,rfl,_,L.c0,b,0,rfl,_,L.c1,Qz,Qz,c,by rw[Int.toNat_natCast];exact hc,b,0,rfl,_,L.c1,?_⟩
  refine fQ MI ⟨_,rfl,Fr.refl _ _,aq (fun q=>⟨rfl,Fr.refl _ _,go hlt (by rw[hb];exact q)⟩) fun q=>⟨bad (by rw[hb];exact q),rfl,rfl⟩⟩
 ·refine⟨b,0,rfl,_,L.c1,Fr.refl _ _,aq (fun q=>absurd q QA) fun q=>⟨bad ?_,rfl,rfl⟩⟩
  have:G.bt s i=256:=by unfold G.bt;rw[getElem?_neg s i Qz]
  rw[this];decide
end
theorem wM {n:Nat}:G.me n=decide (48<=n/\n<=57):=rfl
theorem ML {t:ByteArray} (ht:t.size<=262144) {h:ab}:QH 145 #[.string t] h fun v h'=>v=IJ (G.part t 0)/\Fr [] h h':=by
 apply C7
 unfold Ng
 intro hv
 have hfr:Fr [] h hv:=Fr.push h _
 have hblk:hv[h.size]? =some (.cells #[.string ⟨#[38,97,109,112,59]⟩,.string ⟨#[38,113,117,111,116,59]⟩,.string ⟨#[38,108,116,59]⟩,.string ⟨#[38,103,116,59]⟩,.string ⟨#[38,97,112,111,115,59]⟩] 9):=bK
 clear_value hv
 refine⟨fun l h'=>∃n:Nat,l=[QM (n:Int)]/\n<=5/\h'=hv/\∀k x,k<n->nm5[k]? =some x->G.preB t 0 x=false,mI 5,⟨0,rfl,QA,rfl,fun k x hk=>by omega⟩,?_⟩
 rintro _ hv2 ⟨n,e,hn,rfl,hno⟩
 cases e
 refine af (fun hlt=>?_) fun hlt=>?_
 ·have hn5:n<5:=by omega
  obtain⟨x,hx,c,hc,ac,hbyte,hpart⟩:∃x:QS,nm5[n]? =some x/\∃c:UInt8,nb5[n]? =some c/\ac hv2 h.size (0+(Int.toNat (n:Int))*1)=some (.string ⟨x.toArray⟩)/\(⟨#[38,34,60,62,39]⟩:ByteArray)[Int.toNat (n:Int)]? =some c/\(G.preB t 0 x=true->G.part t 0=some (c.toNat,x.length)):=by
   have q:∀k v,(#[.string ⟨#[38,97,109,112,59]⟩,.string ⟨#[38,113,117,111,116,59]⟩,.string ⟨#[38,108,116,59]⟩,.string ⟨#[38,103,116,59]⟩,.string ⟨#[38,97,112,111,115,59]⟩]:Array Value)[k]? =some v->ac hv2 h.size k=some v:=fun k v q=>by rw[aQ hblk];exact q
   have no:∀k x,k<n->nm5[k]? =some x->¬G.preB t 0 x=true:=fun k x a b=>by rw[hno k x a b];simp
   match n,hn5,no with
   | 0,_,no=>exact⟨G.amp,rfl,38,rfl,q 0 _ rfl,rfl,fun p=>by unfold G.part;rw[if_pos p];rfl⟩
   | 1,_,no=>exact⟨G.yB,rfl,34,rfl,q 1 _ rfl,rfl,fun p=>by unfold G.part;rw[if_neg (no 0 _ QA rfl),if_pos p];rfl⟩
   | 2,_,no=>exact⟨G.ltB,rfl,60,rfl,q 2 _ rfl,rfl,fun p=>by unfold G.part;rw[if_neg (no 0 _ QA rfl),if_neg (no 1 _ QA rfl),if_pos p];rfl⟩
   | 3,_,no=>exact⟨G.gtB,rfl,62,rfl,q 3 _ rfl,rfl,fun p=>by unfold G.part;rw[if_neg (no 0 _ QA rfl),if_neg (no 1 _ QA rfl),if_neg (no 2 _ QA rfl),if_pos p];rfl⟩
   | 4,_,no=>exact⟨G.Jn,rfl,39,rfl,q 4 _ rfl,rfl,fun p=>by unfold G.part;rw[if_neg (no 0 _ QA rfl),if_neg (no 1 _ QA rfl),if_neg (no 2 _ QA rfl),if_neg (no 3 _ QA rfl),if_pos p];rfl⟩
  refine⟨h.size,0,rfl,Qz,Qz,_,ac,?_⟩
  refine bV Mc ?_
  rw[<-tm]
  refine⟨_,rfl,cd (fun p=>?_) fun p=>?_⟩
  ·refine⟨Qz,by show(n:Int)<((5:Nat):Int);omega,c,hbyte,?_,hfr⟩
   rw[hpart p]
   rfl
  ·rw[wr (x:=(n:Int)+1) Qz Qz]
   refine⟨⟨n+1,QB,Qz,rfl,fun k y hk hy=>?_⟩,by simp only[mI];omega⟩
   by_cases q:k=n
   ·subst q;rw[hx]at hy;cases hy;exact p
   ·exact hno k y Qz hy
 ·obtain rfl:n=5:=by omega
  have np:∀k x,k<5->nm5[k]? =some x->¬G.preB t 0 x=true:=fun k x a b=>by rw[hno k x a b];simp
  have hp:G.part t 0=(if G.preB t 0 [38,35]=false then none else match G.jv t 3 0 (0+2)with
    | (n,k)=>if k=0+2\/G.bt t k≠59\/G.bO n=false then none else some (n,k+1-0)):=by
   unfold G.part
   rw[if_neg (np 0 _ QA rfl),if_neg (np 1 _ QA rfl),if_neg (np 2 _ QA rfl),if_neg (np 3 _ QA rfl),if_neg (np 4 _ QA rfl)]
  refine bV Mc ?_
  rw[<-tm]
  refine⟨_,rfl,bo (fun p=>?_) fun p=>?_⟩
  ·rw[hp,if_pos p]
   exact⟨rfl,hfr⟩
  ·rw[if_neg (by rw[p];simp)]at hp
   intro K2
   have fin:∀m k:Nat,G.jv t 3 0 2=(m,k)->2<=k->k<=5->k<=t.size->m<1000->K2 (m:Int) (k:Int) hv2:=by
    intro m k e k2 k5 ks m3
    rw[show(0+2)=2 from rfl,e]at hp
    simp only[Nat.sub_zero]at hp
    have no:(k=2\/G.bt t k≠59\/G.bO m=false)->Value.tuple #[Value.int IntKind.u8 0,Value.int IntKind.i64 0]=IJ (G.part t 0)/\Fr [] h hv2:=fun q=>by rw[if_pos q]at hp;exact⟨by rw[hp];rfl,hfr⟩
    refine aH (fun q=>no (.inl Qz)) fun q=>aH (fun q2=>?_) fun q2=>?_
    ·refine no (.inr (.inl ?_))
     have:¬k<t.size:=by omega
     unfold G.bt
     rw[getElem?_neg t k this]
     decide
    ·have hk:k<t.size:=by omega
     obtain⟨c,hc,hb⟩:=get_at hk
     refine⟨Qz,Qz,c,by rw[Int.toNat_natCast];exact hc,fZ (fun q3=>no (.inr (.inl (by rw[hb];omega)))) fun q3=>af (fun q4=>?_) fun q4=>?_⟩
     ·refine no (.inr (.inr ?_))
      simp[G.bO];omega
     ·rw[u8w (x:=(m:Int)) Qz Qz]
      refine fQ Ac ⟨_,rfl,bo (fun q5=>?_) fun q5=>?_⟩
      ·have:=no (.inr (.inr q5))
       exact this
      ·rw[wrN Qz]
       rw[if_neg (by rw[hb,q5];simp;omega)]at hp
       exact⟨by rw[hp];rfl,hfr⟩
   refine⟨fun l h'=>∃r m k:Nat,l=[QM (m:Int),QM (k:Int)]/\k+r=5/\2<=k/\k<=t.size/\G.jv t 3 0 2=G.jv t r m k/\m<10^(k-2)/\h'=hv2,fun l _=>(match l with | [_,.int _ x]=>((5:Int)-x).toNat | _=>0),⟨3,0,2,rfl,rfl,QA,?_,rfl,QA,rfl⟩,?_⟩
   ·rcases G.pV p with q | q
    ·simpa using q
    ·cases q
   rintro _ _ hv5 ⟨r,m,k,e,hr,k2,ks,hd,hm,rfl⟩
   cases e
   have m3:m<1000:=by
    have:10^(k-2)<=10^3:=Nat.pow_le_pow_right QA Qz
    omega
   intro K
   have stop:G.jv t r m k=(m,k)->K2 (m:Int) (k:Int) hv5:=fun q=>fin m k (hd.trans q) k2 Qz ks m3
   refine af (fun q1=>af (fun q2=>?_) fun q2=>?_) fun q1=>?_
   ·obtain⟨c,hc,hb⟩:=get_at (show k<t.size by omega)
    obtain⟨r',rfl⟩:∃r',r=r'+1:=⟨r-1,Qz⟩
    have st0:¬(48<=c.toNat/\c.toNat<=57)->K2 (m:Int) (k:Int) hv5:=fun q3=>stop (by rw[G.jv,if_neg (by rw[hb,wM,decide_eq_true_eq];exact q3)])
    refine⟨Qz,Qz,c,by rw[Int.toNat_natCast];exact hc,af (fun q3=>?_) fun q3=>st0 Qz⟩
    refine⟨Qz,Qz,c,by rw[Int.toNat_natCast];exact hc,af (fun q4=>?_) fun q4=>st0 Qz⟩
    have hdg:48<=c.toNat/\c.toNat<=57:=by omega
    refine⟨Qz,Qz,c,by rw[Int.toNat_natCast];exact hc,?_⟩
    have e1:u8.wrap (((UInt8.toNat c:Nat):Int)-(48:Int))=((c.toNat-48:Nat):Int):=by rw[u8w Qz Qz];omega
    rw[e1,wr (x:=((c.toNat-48:Nat):Int)) Qz Qz,wr (x:=(10:Int)*(m:Int)) Qz Qz,wr (x:=(10:Int)*(m:Int)+((c.toNat-48:Nat):Int)) Qz Qz,wrN Qz]
    refine⟨⟨r',10*m+(c.toNat-48),k+1,QB,Qz,Qz,Qz,?_,?_,rfl⟩,by simp only[];omega⟩
    ·rw[hd,G.jv,if_pos (by rw[hb,wM,decide_eq_true_eq];exact hdg),hb]
    ·rw[show k+1-2=(k-2)+1 by omega,Nat.pow_succ];omega
   ·obtain rfl:r=0:=by omega
    exact stop rfl
   ·refine stop ?_
    cases r with
    | zero=>rfl
    | succ r=>
     rw[G.jv,if_neg]
     intro q
     have:=Jo q
     omega
def P1 (o:Option QS):Value:=
 match o with
 | some l=>.tuple #[.string (G.mkB l),.bool true]
 | none=>.tuple #[.string ⟨#[]⟩,.bool false]
theorem CX {e c:UInt8}:(Lib.indexByte (G.mkB [e]).data.toList c>=0) ↔ c=e:=by
 by_cases q:c=e
 ·subst q;simp[G.mkB,Lib.indexByte]
 ·have:¬e=c:=fun z=>q z.symm
  simp[G.mkB,Lib.indexByte,q,this]
abbrev enB (e:UInt8):Nat->Bool:=fun c=>decide (c=e.toNat)
theorem IZ {e:UInt8} {may:Nat->Bool} {g:Nat} (hg:∀(n:Nat) (h:ab),QH g #[QP (n:Int)] h fun v h'=>v= .bool (may n)/\h'=h) (hm:mem qR g=true) (hp:mem qS g=false) {h:ab} {b i:Nat} {s:ByteArray} (L:Lx h b s i) (hi:i<=s.size) (hs:s.size<=262144):
  QJ 109 #[.pointer (some ⟨b,0,none⟩),.string (G.mkB [e]),.func (.func g) #[] #[]] h
   (fun v h'=>∃o j,G.jc s (enB e) may i []= .ok (o,j)/\v=P1 o/\i<=j/\j<=s.size/\(∀l,o=some l->j<s.size/\l.length+i<=j)/\(o=none->j=s.size)/\Mv b h h' j)
   (fun v h'=>∃f,G.jc s (enB e) may i []= .no f/\v=flx f/\Fr [b] h h'):=by
 apply C8
 unfold Nh
 refine⟨fun l h'=>∃(A:QR) (C j:Nat) (out:QS),l=[.slice A out.length C]/\out.length+i<=j/\j<=s.size/\G.jc s (enB e) may j out=G.jc s (enB e) may i []/\Mv b h h' j/\ar h' 5 1 A out.length C (bv out)/\∀g∈ai A,h.size<=g,vW s b,
  ⟨none,0,i,[],rfl,QB,hi,rfl,Mv.refl L,ar.nil _ _ _,by simp[ai]⟩,?_⟩
 rintro A _ C hv2 ⟨_,_,j,out,e0,hol,hj,hst,M,ow,hA⟩
 cases e0
 have Lj:=L.mv M
 have ne:∀g∈ai A,g≠b:=fun g q e=>by have:=hA g q;have:=L.lt;omega
 refine⟨b,0,rfl,_,Lj.c1,b,0,rfl,_,Lj.c0,af (fun hlt=>?_) fun hlt=>?_⟩
 ·have hlt:j<s.size:=by omega
  obtain⟨c,hc,hb⟩:=get_at hlt
  rw[G.jc,if_pos hlt,hb]at hst
  refine⟨b,0,rfl,_,Lj.c0,b,0,rfl,_,Lj.c1,Qz,Qz,c,by rw[Int.toNat_natCast];exact hc,?_⟩
  refine bV (Mb (c:=c.toNat) (UInt8.toNat_lt c)) ?_
  rw[UInt8.ofNat_toNat]
  refine⟨_,rfl,af (fun q=>?_) fun q=>?_⟩
  ·have q:=CX.1 q
   subst q
   rw[if_pos QB]at hst
   refine⟨out.map fun c=>((c.toNat:Nat):Int),?_,some out,j,hst.symm,by rw[vY];rfl,Qz,hj,fun l z=>by cases z;exact⟨hlt,hol⟩,fun z=>(by cases z),M⟩
   have:=ow.reads
   rw[List.map_map]
   exact this
  ·have q:¬c=e:=fun z=>q (CX.2 z)
   rw[if_neg (by simp only[decide_eq_true_eq];exact fun z=>q (UInt8.toNat_inj.1 z))]at hst
   have put:∀(hv6:ab) (ra:Int) (c1:UInt8) (k:Nat),Fr [] hv2 hv6->ra=((c1.toNat:Nat):Int)->j<k->k<=s.size->G.jc s (enB e) may k (out++[c1])=G.jc s (enB e) may i []->
     (let hv7:ab:=hv6.push (.cells #[QP ra] 5)
      ∃old,ar hv7 5 1 A out.length C old/\(∀b∈([hv6.size]:List Nat),b∉ai A)/\(out.length+1)*1<=140737488355328/\(out.length+1)<=maxLen/\
      ∀sA sC hv8,ar hv8 5 1 sA (out.length+1) sC (old++[QP ra])->Fr (ai A) hv7 hv8->((sA=A/\sC=C)\/∃g,sA=some ⟨g,0,none⟩/\hv7.size<=g)->(C<(out.length+1)->Fr [] hv7 hv8)->
      (Lx hv8 b s j/\b≠hv6.size/\∃(A':QR) (C' k':Nat) (out':QS),[Value.slice sA (out.length+1) sC]=[.slice A' out'.length C']/\out'.length+i<=k'/\j<k'/\k'<=s.size/\G.jc s (enB e) may k' out'=G.jc s (enB e) may i []/\k'=k/\
       (Mv b h (am hv8 b 1 (QM (k':Int))) k'/\ar (am hv8 b 1 (QM (k':Int))) 5 1 A' out'.length C' (bv out')/\∀g∈ai A',h.size<=g))):=by
    intro hv6 ra c1 k f6 hra hk hks hst2 hv7
    have f7:Fr [] hv2 hv7:=f6.trans (Fr.push hv6 _)
    have hsz:hv2.size<=hv6.size:=f6.size
    have hM:=M.fr.size
    have e7:hv7.size=hv6.size+1:=by simp[hv7]
    clear_value hv7
    refine⟨bv out,ow.fr f7 QB,fun x hx=>?_,Qz,by simp only[maxLen];omega,?_⟩
    ·simp only[List.mem_singleton]at hx
     subst hx
     intro q
     have:=ow.lt _ q
     omega
    intro sA sC hv8 ow8 f8 gA _
    have M8:Mv b h hv8 j:=(M.ext f7 QB).ext f8 hA
    have L8:=L.mv M8
    have hA8:∀g∈ai sA,h.size<=g:=by
     rcases gA with⟨rfl,_⟩ | ⟨g,rfl,hg⟩
     ·exact hA
     ·intro x hx;simp[ai]at hx;omega
    have ne8:∀g∈ai sA,g≠b:=fun g q e=>by have:=hA8 g q;have:=L.lt;omega
    refine⟨L8,by have:=L.lt;omega,sA,sC,k,out++[c1],by rw[List.length_append];rfl,by rw[List.length_append,List.length_singleton];omega,hk,hks,hst2,rfl,M8.trans (Mv.to L8 k),?_,hA8⟩
    have e2:bv out++[QP ra]=bv (out++[c1]):=by simp[bv,hra]
    rw[e2]at ow8
    rw[List.length_append,List.length_singleton]
    exact ow8.fr (Fr.hset _ _ _ _) (fun g q=>by simpa using ne8 g q)
   let J:List Value->ab->Prop:=fun l h'=>∃(A:QR) (C k:Nat) (out:QS),l=[.slice A out.length C]/\out.length+i<=k/\j<k/\k<=s.size/\G.jc s (enB e) may k out=G.jc s (enB e) may i []/\Mv b h h' k/\ar h' 5 1 A out.length C (bv out)/\∀g∈ai A,h.size<=g
   refine⟨J,?_,?_⟩
   ·refine aH (fun q2=>?_) fun q2=>?_
    ·rw[if_pos Qz]at hst
     refine⟨b,0,rfl,_,Lj.c0,b,0,rfl,_,Lj.c1,Qz,Qz,?_⟩
     rw[Int.toNat_natCast]
     refine ao [] (ML (t:=s.extract j s.size) (by rw[ByteArray.size_extract];omega)) QB (fun _ _ r=>r.2) fun v hv4 r=>?_
     obtain⟨rfl,f4⟩:=r
     rw[G.Ch]
     have L4:=Lj.mv ((Mv.refl Lj).ext f4 QB)
     cases hp:G.part s j with
     | none=>
      rw[hp]at hst
      refine⟨0,0,rfl,f4,b,0,rfl,_,L4.c1,?_⟩
      refine aq (fun q=>?_) fun q=>?_
      ·exact absurd q QA
      ·exact⟨_,hst.symm,rfl,M.fr.trans f4.nil⟩
     | some p=>
      obtain⟨c1,n1⟩:=p
      rw[hp]at hst
      simp only at hst
      obtain⟨p1,p2⟩:=G.FB hlt hp
      have p3:=G.uN hp
      refine⟨_,_,rfl,f4,b,0,rfl,_,L4.c1,?_⟩
      refine aq (fun q=>⟨rfl,?_⟩) fun q=>?_
      ·obtain⟨old,o1,o2,o3,o4,o5⟩:=put hv4 (c1:Int) (UInt8.ofNat c1) (j+(n1-1)+1) f4 (by rw[UInt8.toNat_ofNat'];omega) Qz Qz hst
       refine⟨old,o1,o2,o3,o4,fun sA sC hv7 q1 q2 q3 q4=>?_⟩
       obtain⟨L8,hne,A',C',k',out',e1,e2,e3,e4,e5,e6,e7,e8,e9⟩:=o5 sA sC hv7 q1 q2 q3 q4
       refine⟨b,0,rfl,_,L8.c1,b,0,rfl,hne,L8.cell,L8.fr,?_⟩
       have ek:(j:Int)+(n1:Int)=(k':Int):=by omega
       rw[wr Qz Qz,ek]
       exact⟨A',C',k',out',e1,e2,e3,e4,e5,e7,e8,e9⟩
      ·exact absurd q QF
    ·rw[if_neg Qz]at hst
     refine⟨b,0,rfl,_,Lj.c1,?_⟩
     have hcall:∀{K:Value->ab->Prop} {E:Option (Value->ab->Prop)},K (.bool (may c.toNat)) hv2->lB Tryz.prog qR qS E (.func g) #[] #[] [QP ((UInt8.toNat c:Nat):Int)] hv2 [] K:=by
      intro K E k
      unfold lB
      simp only[hm,hp]
      exact fQ (hg c.toNat hv2) k
     refine hcall ⟨_,rfl,Fr.refl _ _,aq (fun q3=>⟨rfl,Fr.refl _ _,?_⟩) fun q3=>?_⟩
     ·rw[if_pos q3,UInt8.ofNat_toNat]at hst
      obtain⟨old,o1,o2,o3,o4,o5⟩:=put hv2 ((c.toNat:Nat):Int) c (j+1) (Fr.refl _ _) rfl Qz Qz hst
      refine⟨old,o1,o2,o3,o4,fun sA sC hv7 q1 q2 q3 q4=>?_⟩
      obtain⟨L8,hne,A',C',k',out',e1,e2,e3,e4,e5,e6,e7,e8,e9⟩:=o5 sA sC hv7 q1 q2 q3 q4
      refine⟨b,0,rfl,_,L8.c1,b,0,rfl,hne,L8.cell,L8.fr,?_⟩
      have ek:(j:Int)+(1:Int)=(k':Int):=by omega
      rw[wr Qz Qz,ek]
      exact⟨A',C',k',out',e1,e2,e3,e4,e5,e7,e8,e9⟩
     ·rw[if_neg (by rw[q3];simp)]at hst
      exact⟨_,hst.symm,rfl,M.fr⟩
   ·rintro A2 L2 C2 hv17 ⟨A3,C3,k,out3,e1,h1,h2,h3,h4,h5,h6,h7⟩
    refine⟨⟨A3,C3,k,out3,e1,h1,h3,h4,h5,h6,h7⟩,?_⟩
    rw[eZ (L.mv h5),eZ Lj]
    omega
 ·have ej:j=s.size:=by omega
  rw[G.jc,if_neg Qz]at hst
  exact⟨none,s.size,hst.symm,rfl,hi,Nat.le_refl _,fun l z=>(by cases z),fun _=>rfl,by rw[<-ej];exact M⟩
end Go.Proofs.YtemphinmoihdaaaGreatDoor.N
