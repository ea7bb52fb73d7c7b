/- Functions: what is left to be shown of each, over memory and without: printed by program, tied to the loaded functions by the kernel. Conditions: none. -/
import Derived.Test.YtemphinmoihdaaaGreatDoorWEnv
import Derived.Test.YtemphinmoihdaaaGreatDoorGTell
import Derived.Test.YtemphinmoihdaaaGreatDoorSXw
import Derived.Test.YtemphinmoihdaaaGreatDoorQEscL
import Derived.Test.YtemphinmoihdaaaGreatDoorQWrite
import Derived.Tactics
import Derived.Tactics2
import Derived.Defers
import Derived.Laws.Pointers
import Derived.Laws.LoneSync
import Derived.RegionTactic
import Derived.RegionCalls
import Derived.ChangeAlike
set_option linter.unusedVariables false
set_option linter.unusedSimpArgs false
open Go.IntKind (i64 u64 u8 i32)
namespace Go.Proofs.YtemphinmoihdaaaGreatDoor.N
open Go.Proofs.YtemphinmoihdaaaGreatDoor
open Go.X
set_option maxRecDepth 100000
set_option maxHeartbeats 2000000
def Na (rP:QR) (s:ByteArray) (h:ab) (R:VP):Prop:=∃b o,rP=some ⟨b,o,none⟩/\∃(a9:QR) (a2 c0:Nat),ac h b (o+256)=some (.slice a9 a2 c0)/\∃z:LP,(cnd (decide ((i64.wrap ((a2:Int)*(8:Int)))<=(s.size:Int))) (∃b2 o2,rP=some ⟨b2,o2,none⟩/\∃(Y:QR) (P c1:Nat),ac h b2 (o2+256)=some (.slice Y P c1)/\∃(w:LP) (V:List Value->ab->Nat),w [QM (s.size:Int),.bool false,QM 0] h/\∀n:Int,∀q:Bool,∀g:Int,∀m,w [QM n,.bool q,QM g] m->cnd (decide (g<(P:Int))) (∃b3 o3,Y=some ⟨b3,o3,none⟩/\0<=g/\g<(P:Nat)/\∃t:ByteArray,ac m b3 (o3+(Int.toNat g)*1)=some (.string t)/\QG 272 #[.string s,.string t] m [] fun O G=>∃M:Int,O= QM M/\∃A:LP,(cnd (M != 0) (0<=(0:Int)/\(0:Int)<(t.size:Int)/\∃u:UInt8,t[Int.toNat (0:Int)]? =some u/\∃b4 o4,rP=some ⟨b4,o4,none⟩/\0<=(UInt8.toNat u:Int)/\(UInt8.toNat u:Int)<(256:Int)/\∃(b0:QR) (a3 c2:Nat),ac G b4 (o4+(Int.toNat (UInt8.toNat u:Int))*1)=some (.slice b0 a3 c2)/\A [QM (i64.wrap (n+(i64.wrap (M*(i64.wrap ((a3:Int)-(1:Int))))))),.bool true] G) (A [QM n,.bool q] G))/\∀K:Int,∀D:Bool,∀H,A [QM K,.bool D] H->w [QM K,.bool D,QM (i64.wrap (g+1))] H/\V [QM K,.bool D,QM (i64.wrap (g+1))] H<V [QM n,.bool q,QM g] m) (z [QM n,.bool q] m)) (∃(x:LP) (W:List Value->ab->Nat),x [QM (s.size:Int),.bool false,QM 0] h/\∀p:Int,∀r:Bool,∀e:Int,∀j,x [QM p,.bool r,QM e] j->cnd (decide (e<(s.size:Int))) (0<=e/\e<(s.size:Int)/\∃l:UInt8,s[Int.toNat e]? =some l/\∃b5 o5,rP=some ⟨b5,o5,none⟩/\0<=(UInt8.toNat l:Int)/\(UInt8.toNat l:Int)<(256:Int)/\∃(Z:QR) (c7 c3:Nat),ac j b5 (o5+(Int.toNat (UInt8.toNat l:Int))*1)=some (.slice Z c7 c3)/\∃B:LP,(cnd (!(Option.isNone Z)) (∃b6 o6,rP=some ⟨b6,o6,none⟩/\0<=(UInt8.toNat l:Int)/\(UInt8.toNat l:Int)<(256:Int)/\∃(b1:QR) (a4 c4:Nat),ac j b6 (o6+(Int.toNat (UInt8.toNat l:Int))*1)=some (.slice b1 a4 c4)/\B [QM (i64.wrap (p+(i64.wrap ((a4:Int)-(1:Int))))),.bool true] j) (B [QM p,.bool r] j))/\∀L:Int,∀E:Bool,∀I,B [QM L,.bool E] I->x [QM L,.bool E,QM (i64.wrap (e+1))] I/\W [QM L,.bool E,QM (i64.wrap (e+1))] I<W [QM p,.bool r,QM e] j) (z [QM p,.bool r] j)))/\∀d:Int,∀T:Bool,∀k,z [QM d,.bool T] k->cnd (!T) (R (.string s) k) (0<=d/\d<=d/\(1:Int)*d<=281474976710656/\d<=9223372036854775807/\let a8:ab:=k.push (.cells (madeCells (List.toArray [QP 0]) (Int.toNat d*1)) 5);∃(y:LP) (X:List Value->ab->Nat),y [QM 0,QM 0] a8/\∀a:Int,∀f:Int,∀c,y [QM a,QM f] c->cnd (decide (f<(s.size:Int))) (0<=f/\f<(s.size:Int)/\∃i:UInt8,s[Int.toNat f]? =some i/\∃b7 o7,rP=some ⟨b7,o7,none⟩/\0<=(UInt8.toNat i:Int)/\(UInt8.toNat i:Int)<(256:Int)/\∃(a0:QR) (c8 c5:Nat),ac c b7 (o7+(Int.toNat (UInt8.toNat i:Int))*1)=some (.slice a0 c8 c5)/\∃C:LP,(cnd (!(Option.isNone a0)) (∃S:List Nat,(∀b∈([]:List Nat),b∉S)/\0<=a/\a<=((Int.toNat d):Nat)/\∃b8 o8,rP=some ⟨b8,o8,none⟩/\0<=(UInt8.toNat i:Int)/\(UInt8.toNat i:Int)<(256:Int)/\∃(a1:QR) (Q c6:Nat),ac c b8 (o8+(Int.toNat (UInt8.toNat i:Int))*1)=some (.slice a1 Q c6)/\∃b9 o9,(if(Int.toNat d)=(Int.toNat a)then(some (⟨k.size,0,none⟩:Addr))else Option.map (fun a6=>Addr.add a6 ((Int.toNat a)*1)) (some (⟨k.size,0,none⟩:Addr)))=some ⟨b9,o9,none⟩/\∃v:List Value,Reads c 1 a1 (Nat.min Q ((Int.toNat d)-(Int.toNat a))) v/\(∀O∈v,O.oneCell'=true)/\(∀a,a<v.length->(∃N,ac c b9 (o9+a)=some N)/\au c b9 (o9+a)=true)/\let U:ab:=jM c b9 o9 v;Fr S c U/\C [QM (i64.wrap (a+(((Nat.min Q ((Int.toNat d)-(Int.toNat a))):Nat):Int)))] U) (∃b10 o10,(some (⟨k.size,0,none⟩:Addr))=some ⟨b10,o10,none⟩/\0<=a/\a<((Int.toNat d):Nat)/\(∃N,ac c b10 (o10+(Int.toNat a)*1)=some N)/\au c b10 (o10+(Int.toNat a)*1)=true/\let a7:ab:=am c b10 (o10+(Int.toNat a)*1) (QP (UInt8.toNat i:Int));C [QM (i64.wrap (a+1))] a7))/\∀J:Int,∀F,C [QM J] F->y [QM J,QM (i64.wrap (f+1))] F/\X [QM J,QM (i64.wrap (f+1))] F<X [QM a,QM f] c) (∃a5:List Int,Reads c 1 (some (⟨k.size,0,none⟩:Addr)) (Int.toNat d) (List.map (Value.int IntKind.u8) a5)/\R (.string (strOf a5)) c))
theorem CZ {h:ab} {R:VP} (rP:QR) (s:ByteArray) (H:Na rP s h R):QH 270 #[.pointer rP,.string s] h R:=aN [] 122 [(0,⟨[0,1,30,31],[5,6,32],[],[]⟩),(2,⟨[0,1],[5,6,10],[],[]⟩),(4,⟨[0,1,12],[13,14],[],[]⟩)] [(26,⟨[0,1],[5,6],[],[]⟩),(40,⟨[0,1,30,31,32],[5,6],[],[]⟩),(70,⟨[0,1,10],[5,6],[],[]⟩),(101,⟨[0,1,12,14],[13],[],[]⟩)] [] [(9,⟨14,false⟩),(28,⟨13,true⟩)] Tryz.func270 QC QC H
def S94 (bP:QR) (h:ab) (R:VP):Prop:=∃b o,bP=some ⟨b,o,none⟩/\∃(j:QR) (a V:Nat),ac h b (o+4)=some (.slice j a V)/\let D:=fun(X:ab)=>(∃(u:LP) (I:List Value->ab->Nat),u [.bool true,QM 0] X/\∀p:Bool,∀d:Int,∀f,u [.bool p,QM d] f->cnd (decide (d<(a:Int))) (∃b5 o5,j=some ⟨b5,o5,none⟩/\0<=d/\d<(a:Nat)/\∃S:ByteArray,ac f b5 (o5+(Int.toNat d)*1)=some (.string S)/\cnd ((S.size:Int) != (1:Int)) (QG 123 #[.slice j a V] f [] fun a1 Y=>∃N:QR,a1= .pointer N/\R (.iface 181 (.pointer N)) Y) (∃b6 o6,j=some ⟨b6,o6,none⟩/\0<=(i64.wrap (d+1))/\(i64.wrap (d+1))<(a:Nat)/\∃T:ByteArray,ac f b6 (o6+(Int.toNat (i64.wrap (d+1)))*1)=some (.string T)/\∃w:LP,(cnd ((T.size:Int) != (1:Int)) (w [.bool false] f) (w [.bool p] f))/\∀y:Bool,∀z,w [.bool y] z->u [.bool y,QM (i64.wrap (d+2))] z/\I [.bool y,QM (i64.wrap (d+2))] z<I [.bool p,QM d] f)) (cnd p (False) ((2:Int)≠0/\0<=(0:Int)/\(0:Int)<=(i64.wrap (Int.tdiv (a:Int) (2:Int)))/\(16:Int)*(i64.wrap (Int.tdiv (a:Int) (2:Int)))<=281474976710656/\(i64.wrap (Int.tdiv (a:Int) (2:Int)))<=9223372036854775807/\let c:ab:=f.push (.cells (madeCells (List.toArray [.string ByteArray.empty]) (Int.toNat (i64.wrap (Int.tdiv (a:Int) (2:Int)))*1)) 9);let H:ab:=c.push (.cells (List.toArray (List.replicate 257 (.slice none 0 0))) 188);stW H c.size 0 (List.replicate 256 (.slice none 0 0)++[.slice (some (⟨f.size,0,none⟩:Addr)) (Int.toNat (0:Int)) (Int.toNat (i64.wrap (Int.tdiv (a:Int) (2:Int))))]) (let Z:ab:=jM H c.size 0 (List.replicate 256 (.slice none 0 0)++[.slice (some (⟨f.size,0,none⟩:Addr)) (Int.toNat (0:Int)) (Int.toNat (i64.wrap (Int.tdiv (a:Int) (2:Int))))]);∃(v:LP) (J:List Value->ab->Nat),v [QM (i64.wrap ((a:Int)-(2:Int)))] Z/\∀e:Int,∀g,v [QM e] g->cnd (decide (e>=0)) (∃b7 o7,j=some ⟨b7,o7,none⟩/\0<=e/\e<(a:Nat)/\∃B:ByteArray,ac g b7 (o7+(Int.toNat e)*1)=some (.string B)/\0<=(0:Int)/\(0:Int)<(B.size:Int)/\∃i:UInt8,B[Int.toNat (0:Int)]? =some i/\∃b8 o8,j=some ⟨b8,o8,none⟩/\0<=(i64.wrap (e+1))/\(i64.wrap (e+1))<(a:Nat)/\∃m:ByteArray,ac g b8 (o8+(Int.toNat (i64.wrap (e+1)))*1)=some (.string m)/\0<=(UInt8.toNat i:Int)/\(UInt8.toNat i:Int)<(256:Int)/\∃(U:QR) (a3 a2:Nat),ac g c.size (0+(Int.toNat (UInt8.toNat i:Int))*1)=some (.slice U a3 a2)/\∃x:LP,(cnd (Option.isNone U) (∃(n:QR) (k t:Nat),ac g c.size (0+256)=some (.slice n k t)/\let q:ab:=g.push (.cells #[QP (UInt8.toNat i:Int)] 5);∃C:List Int,Reads q 1 (some (⟨g.size,0,none⟩:Addr)) 1 (List.map (Value.int IntKind.u8) C)/\let r:ab:=q.push (.cells #[.string (strOf C)] 9);∃K,ar r 9 1 n k t K/\(∀b'∈([q.size]:List Nat),b'∉ai n)/\(k+1)*16<=140737488355328/\(k+1)<=maxLen/\∀sA sC hv12,ar hv12 9 1 sA (k+1) sC (K++[.string (strOf C)])->Fr (ai n) r hv12->((sA=n/\sC=t)\/∃E,sA=some ⟨E,0,none⟩/\r.size<=E)->(t<(k+1)->Fr [] r hv12)->c.size≠q.size/\(∃A,ac hv12 c.size (0+256)=some A)/\au hv12 c.size (0+256)=true/\let W:ab:=am hv12 c.size (0+256) (.slice sA (k+1) sC);x [] W) (x [] g))/\∀s,x [] s->m.size<=maxLen/\∀(L:Nat) (l:ab),ar l 5 1 (some ⟨s.size,0,none⟩) m.size L (Lib.strCells m)->Fr [] s l->0<=(UInt8.toNat i:Int)/\(UInt8.toNat i:Int)<(256:Int)/\(∃A,ac l c.size (0+(Int.toNat (UInt8.toNat i:Int))*1)=some A)/\au l c.size (0+(Int.toNat (UInt8.toNat i:Int))*1)=true/\let G:ab:=am l c.size (0+(Int.toNat (UInt8.toNat i:Int))*1) (.slice (some ⟨s.size,0,none⟩) m.size L);v [QM (i64.wrap (e-2))] G/\J [QM (i64.wrap (e-2))] G<J [QM e] g) (R (.iface 189 (.pointer (some (⟨c.size,0,none⟩:Addr)))) g)))));cnd ((a:Int)==(2:Int)) (∃b2 o2,j=some ⟨b2,o2,none⟩/\0<=(0:Int)/\(0:Int)<(a:Nat)/\∃O:ByteArray,ac h b2 (o2+(Int.toNat (0:Int))*1)=some (.string O)/\cnd (decide ((O.size:Int)>(1:Int))) (∃b3 o3,j=some ⟨b3,o3,none⟩/\0<=(0:Int)/\(0:Int)<(a:Nat)/\∃P:ByteArray,ac h b3 (o3+(Int.toNat (0:Int))*1)=some (.string P)/\∃b4 o4,j=some ⟨b4,o4,none⟩/\0<=(1:Int)/\(1:Int)<(a:Nat)/\∃Q:ByteArray,ac h b4 (o4+(Int.toNat (1:Int))*1)=some (.string Q)/\QG 122 #[.string P,.string Q] h [] fun a0 F=>∃M:QR,a0= .pointer M/\Fr [] h F/\R (.iface 179 (.pointer M)) F) (D h)) (D h)
theorem Gq {h:ab} {R:VP} (bP:QR) (H:S94 bP h R):QH 94 #[.pointer bP] h R:=by
 have e:S94 bP h R=FX (sU [123] 132) {loops:=[(0,⟨[3],[4,5],[],[]⟩),(6,⟨[3,11],[12],[],[]⟩)],joins:=[(58,⟨[3,5],[4],[],[]⟩),(117,⟨[3,11,12,13,14],[],[],[]⟩)],blocks:=[],draws:=[(3,⟨9,false⟩)],cut:=[13]} Tryz.f94 (Tryz.f94.body.getD .skip) [.pointer bP] h R:=by kernel_rfl
 exact jo (lV _ _) Tryz.func94 QC QC QC (e▸H)
def S75 (rP:QR) (h:ab) (R:VP):Prop:=let e:=fun(d:ab)=>(∃b3 o3,rP=some ⟨b3,o3,none⟩/\(∃c,ac d b3 (o3+4)=some c)/\au d b3 (o3+4)=true/\let l:ab:=am d b3 (o3+4) (.slice none 0 0);R (.tuple #[]) l);QG 94 #[.pointer rP] h [] fun i a=>((i= .nilIface/\∃b o,rP=some ⟨b,o,none⟩/\(∃c,ac a b (o+3)=some c)/\au a b (o+3)=true/\let j:ab:=am a b (o+3) (.nilIface);e j)\/∃(g:Nat) (f:Value),i= .iface g f/\∃b2 o2,rP=some ⟨b2,o2,none⟩/\(∃c,ac a b2 (o2+3)=some c)/\au a b2 (o2+3)=true/\let k:ab:=am a b2 (o2+3) (.iface g f);e k)
theorem Gr {h:ab} {R:VP} (rP:QR) (H:S75 rP h R):QH 75 #[.pointer rP] h R:=aN [] 10 [] [] [] [] Tryz.func75 QC QC H
def S53 (oldnewA:QR) (oldnewL oldnewC:Nat) (h:ab) (R:VP):Prop:=(2:Int)≠0/\∃c:LP,(cnd ((Int.tmod (oldnewL:Int) (2:Int))==(1:Int)) (False) (c [] h))/\∀a,c [] a->∃b:List Value,Reads a 1 oldnewA oldnewL b/\(oldnewA=none->oldnewC=0)/\(∀v∈b,v.oneCell'=true)/\∃e,ar a 9 1 none 0 0 e/\(∀b'∈([]:List Nat),b'∉ai none)/\(0+oldnewL)*16<=140737488355328/\(0+oldnewL)<=maxLen/\∀sA sC hv2,ar hv2 9 1 sA (0+oldnewL) sC (e++b)->Fr (ai none) a hv2->((sA=none/\sC=0)\/∃d,sA=some ⟨d,0,none⟩/\a.size<=d)->(0<(0+oldnewL)->Fr [] a hv2)->let f:ab:=hv2.push (.cells #[.int .u32 0,.int .i32 0,.int .u32 0,.nilIface,.slice sA (0+oldnewL) sC] 138);R (.pointer (some (⟨hv2.size,0,none⟩:Addr))) f
theorem Gs {h:ab} {R:VP} (oldnewA:QR) (oldnewL oldnewC:Nat) (H:S53 oldnewA oldnewL oldnewC h R):QH 53 #[.slice oldnewA oldnewL oldnewC] h R:=aN [] 12 [] [(6,⟨[0],[],[],[]⟩)] [] [] Tryz.func53 QC QC H
def S31 (s:ByteArray) (h:ab) (R:VP):Prop:=let c:ab:=h.push (.cells #[.string ⟨#[38]⟩,.string ⟨#[38,97,109,112,59]⟩,.string ⟨#[60]⟩,.string ⟨#[38,108,116,59]⟩,.string ⟨#[62]⟩,.string ⟨#[38,103,116,59]⟩] 9);QG 53 #[.slice (some (⟨h.size,0,none⟩:Addr)) 6 6] c [] fun f d=>∃b:QR,f= .pointer b/\QG 54 #[.pointer b,.string s] d [] fun g e=>∃a:ByteArray,g= .string a/\R (.string a) e
theorem Gt {h:ab} {R:VP} (s:ByteArray) (H:S31 s h R):QH 31 #[.string s] h R:=aN [] 7 [] [] [] [] Tryz.func31 QC QC H
def S74 (oP:QR) (fF:Fn) (fX fY:Array Value) (h:ab) (R:VP):Prop:=∃b o,oP=some ⟨b,o,none⟩/\QG 92 #[.pointer (some (⟨b,o,none⟩:Addr))] h [] fun g c=>∃e:Bool,g= .bool e/\∃a:LP,(cnd (!e) (QG 93 #[.pointer oP,.func fF fX fY] c [] fun i f=>i= .tuple #[]/\a [] f) (a [] c))/\∀d,a [] d->R (.tuple #[]) d
theorem Gu {h:ab} {R:VP} (oP:QR) (fF:Fn) (fX fY:Array Value) (H:S74 oP fF fX fY h R):QH 74 #[.pointer oP,.func fF fX fY] h R:=aN [] 12 [] [(8,⟨[],[],[],[]⟩)] [] [] Tryz.func74 QC QC H
open Go.Proofs
abbrev RpE :=UInt8 × QR × Nat
def RpE.ck (p:RpE):Ck:=Ck.sl (eK .u8) 5 p.2.1 (bc p.1).length p.2.2 (bI (bc p.1))
def nG (k:Nat):List ByteArray:=(jC.take k).map fun c=>(⟨#[c]⟩:ByteArray)
def Bq (P:List RpE) (n:Nat):Value:=
 match P.find? fun p=>p.1.toNat==n with
 | some p=>.slice p.2.1 (bc p.1).length p.2.2
 | none=>.slice none 0 0
structure RpOK (k:Nat) (cs:List Value) (P:List RpE) (aT:QR) (cT:Nat):Prop where
 sg:P.map (·.1)=jC.take k
 cl:∀n,n<256->cs[n]? =some (Bq P n)
 tr:cs[256]? =some (.slice aT k cT)
def jG (q k:Nat) (cs:List Value) (P:List RpE) (aT:QR) (cT:Nat):List Ck:=Ck.ob q 188 cs::Ck.sl eS 9 aT k cT (nG k)::P.map RpE.ck
section
variable {q k:Nat} {cs:List Value} {P:List RpE} {aT:QR} {cT:Nat} {h h0:ab} {M:List Nat}
theorem JT {c:UInt8}:c∈jC ↔ (bc c).length≠1:=by
 unfold jC bc
 by_cases h1:c=38
 ·subst h1;decide
 by_cases h2:c=60
 ·subst h2;decide
 by_cases h3:c=62
 ·subst h3;decide
 simp[h1,h2,h3]
theorem vd (Y:Sy h0 M h (jG q 3 cs P aT cT)) (H:RpOK 3 cs P aT cT) (x:UInt8):∃A L C,ac h q (0+Int.toNat ((x.toNat:Nat):Int)*1)=some (.slice A L C)/\
  ((Option.isNone A=true/\bc x=[x])\/(Option.isNone A=false/\L=(bc x).length/\2<=L/\Reads h 1 A L (List.map (Value.int .u8) (bI (bc x))))):=by
 have hc:=Y.cellO 0 rfl _ (H.cl x.toNat x.toNat_lt)
 rw[Int.toNat_natCast,Nat.mul_one,Nat.zero_add]
 unfold Bq at hc
 cases hf:P.find? fun p=>p.1.toNat==x.toNat with
 | none=>
  rw[hf]at hc
  refine⟨_,_,_,hc,.inl ⟨rfl,wJ ?_⟩⟩
  refine Decidable.byContradiction fun hn=>?_
  have hm:=JT.2 hn
  rw[show jC=jC.take 3 from rfl,<-H.sg]at hm
  obtain⟨p,hp,rfl⟩:=List.mem_map.1 hm
  have:=List.find?_eq_none.1 hf p hp
  simp at this
 | some p=>
  rw[hf]at hc
  have hp:=List.mem_of_find?_eq_some hf
  have he:p.1=x:=UInt8.toNat_inj.1 (by simpa using List.find?_some hf)
  have hx:x∈jC:=by
   rw[show jC=jC.take 3 from rfl,<-H.sg]
   exact List.mem_map.2 ⟨p,hp,he⟩
  have h2:=JT.1 hx
  have h3:=(iA x).1
  obtain⟨i,hi⟩:=List.mem_iff_getElem?.1 hp
  have hk:(jG q 3 cs P aT cT)[i+2]? =some (Ck.sl (eK .u8) 5 p.2.1 (bc p.1).length p.2.2 (bI (bc p.1))):=by
   show(P.map RpE.ck)[i]? =_
   rw[List.getElem?_map,hi];rfl
  have hr:=vR (Y.readsS _ hk)
  have hc:ac h q x.toNat=some (.slice p.2.1 (bc p.1).length p.2.2):=hc
  rw[he]at hc hr
  refine⟨_,_,_,hc,.inr ⟨?_,rfl,Qz,hr⟩⟩
  rcases hr.2 with⟨_,h4⟩ | ⟨b,o,h4,_⟩
  ·omega
  ·rw[h4];rfl
theorem MU {s:ByteArray} {c:UInt8} {h:ab}:QH 272 #[.string s,.string ⟨#[c]⟩] h fun v h'=>v= QM (Lib.countByte s.data.toList c)/\h'=h:=gJ (fun w=>Go.Proofs.Tryz.strings_Count_one s c w) ⟨rfl,rfl⟩
theorem JU (l:QS) (c:UInt8):Lib.countByte l c<=l.length:=List.count_le_length
set_option maxHeartbeats 4000000 in
theorem MV {s:ByteArray} (Hm:Hp h (jG q 3 cs P aT cT)) (H:RpOK 3 cs P aT cT) (hs:s.size<=1000000):
  QH 270 #[.pointer (some ⟨q,0,none⟩),.string s] h fun v h'=>v= .string (G.mkB (bp s.data.toList))/\Fr [] h h':=by
 apply CZ
 unfold Na
 have Y0:=Sy.start Hm
 have hT:=Y0.cellO 0 rfl 256 H.tr
 obtain⟨L,hL⟩:∃L,L=s.data.toList:=⟨_,rfl⟩
 have hLl:L.length=s.size:=by rw[hL];rfl
 have ge:=qf L
 rw[<-hL]
 refine⟨q,0,rfl,aT,3,cT,by rw[Nat.zero_add];exact hT,fun l h'=>l=[QM ((bp L).length:Nat),.bool (decide ((bp L).length≠L.length))]/\h'=h,af (fun q1=>?_) fun q1=>?_,?_⟩
 ·refine⟨q,0,rfl,aT,3,cT,by rw[Nat.zero_add];exact hT,fun l h'=>∃k:Nat,l=[QM (nsE L k:Nat),.bool (decide (nsE L k≠L.length)),QM (k:Int)]/\k<=3/\h'=h,
   fun l _=>match l with | [_,_,.int _ i]=>(3-i).toNat | _=>0,⟨0,by rw[qF,hLl];simp,Qz,rfl⟩,?_⟩
  rintro ns an x hv ⟨k,e,hk,rfl⟩
  cases e
  have nb:∀j,j<=3->nsE L j<=20000000:=by
   intro j hj
   have h1:=JU L 62
   have h2:=JU L 60
   have h3:=JU L 38
   have e1:nsE L 3=nsE L 2+_:=iB L (k:=2) (c:=38) rfl
   have e2:nsE L 2=nsE L 1+_:=iB L (k:=1) (c:=60) rfl
   have e3:nsE L 1=nsE L 0+_:=iB L (k:=0) (c:=62) rfl
   have e0:=qF L
   rw[show(bc 38).length=5 from rfl]at e1
   rw[show(bc 60).length=4 from rfl]at e2
   rw[show(bc 62).length=4 from rfl]at e3
   have:j=0\/j=1\/j=2\/j=3:=by omega
   rcases this with rfl | rfl | rfl | rfl<;>omega
  refine af (fun q2=>?_) fun q2=>?_
  ·have hk3:k<3:=by omega
   have hx:jC[k]? =some (jC[k]'hk3):=List.getElem?_eq_getElem hk3
   generalize jC[k]'hk3=c at hx
   obtain⟨b,ha,-⟩:=Y0.atS 1 rfl (i:=(k:Int)) Qz Qz
   have hxs:(nG 3)[k]? =some (⟨#[c]⟩:ByteArray):=by
    unfold nG
    rw[List.getElem?_map,show jC.take 3=jC from rfl,hx];rfl
   refine⟨b,0,ha,Qz,Qz,_,Y0.cellS 1 rfl ha (i:=k) (t:=0) hxs rfl,?_⟩
   refine ao (R:=fun v h'=>v= QM (Lib.countByte s.data.toList c)/\h'=hv) [] MU QB (fun _ _ r=>r.2▸Fr.refl _ _) ?_
   rintro v h2 ⟨rfl,rfl⟩
   rw[<-hL]
   have e1:=iB L hx
   have n1:=nb (k+1) Qz
   have n0:=nb k hk
   have g0:=JH L k
   obtain⟨A,B,C,hcl,hA⟩:=vd Y0 H c
   have hm:(bc c).length≠1:=JT.1 (List.mem_of_getElem? hx)
   have hp:=iA c
   refine⟨_,rfl,fun l h'=>l=[QM (nsE L (k+1):Nat),.bool (decide (nsE L (k+1)≠L.length))]/\h'=h2,?_,?_⟩
   ·generalize hcnt:Lib.countByte L c=n at e1
    refine⟨fun hn=>?_,fun hn=>?_⟩
    ·have hn0:n≠0:=by
      intro z
      rw[z]at hn
      simp at hn
     rcases hA with⟨-,hA⟩ | ⟨-,hB,hB2,-⟩
     ·rw[hA]at hm;simp at hm
     subst hB
     refine⟨Qz,(show(0:Int)<1 by decide),c,rfl,q,0,rfl,Qz,by have:=c.toNat_lt;omega,A,_,C,hcl,?_,rfl⟩
     have hmul:n<=n*((bc c).length-1):=Nat.le_mul_of_pos_right _ Qz
     have hz:(n:Int)*(((bc c).length:Nat)-(1:Int))=((n*((bc c).length-1):Nat):Int):=by
      rw[Int.natCast_mul];congr 1;omega
     have hd:decide (nsE L (k+1)≠L.length)=true:=decide_eq_true Qz
     rw[hd,wr (x:=((bc c).length:Nat)-(1:Int)) Qz Qz,hz,wr (x:=((n*((bc c).length-1):Nat):Int)) Qz Qz,wr Qz Qz,e1]
     rfl
    ·have hn0:n=0:=by
      have:(n:Int)=0:=by simpa using hn
      omega
     rw[hn0,Nat.zero_mul]at e1
     have e1:nsE L (k+1)=nsE L k:=e1
     exact⟨by rw[e1],rfl⟩
   ·rintro ns2 an2 h3 ⟨e,rfl⟩
    cases e
    rw[show i64.wrap ((k:Int)+1)=((k+1:Nat):Int) by rw[wr Qz Qz];omega]
    exact⟨⟨k+1,rfl,Qz,rfl⟩,by dsimp only;omega⟩
  ·obtain rfl:k=3:=by omega
   exact⟨by rw[Gc],rfl⟩
 ·refine⟨fun l h'=>∃k:Nat,l=[QM ((s.size+(bp (L.take k)).length-k:Nat):Int),.bool (decide ((bp (L.take k)).length≠k)),QM (k:Int)]/\k<=s.size/\h'=h,
   fun l _=>match l with | [_,_,.int _ i]=>(s.size-i).toNat | _=>0,⟨0,rfl,Qz,rfl⟩,?_⟩
  rintro ns an x hv ⟨k,e,hk,rfl⟩
  cases e
  have gk:=qf (L.take k)
  rw[List.length_take,Nat.min_eq_left Qz]at gk
  refine af (fun q2=>?_) fun q2=>?_
  ·have hlt:k<s.size:=by omega
   obtain⟨y,hy,-⟩:=get_at hlt
   have hyl:L[k]? =some y:=by rw[hL,Array.getElem?_toList];exact hy
   have ek:bp (L.take (k+1))=bp (L.take k)++bc y:=by rw[gP hyl,qE];simp[bp]
   have el:(bp (L.take (k+1))).length=(bp (L.take k)).length+(bc y).length:=by rw[ek,List.length_append]
   obtain⟨A,B,C,hcl,hA⟩:=vd Y0 H y
   have hp:=iA y
   refine⟨Qz,q2,y,by rw[Int.toNat_natCast];exact hy,q,0,rfl,Qz,by have:=y.toNat_lt;omega,A,B,C,hcl,fun l h'=>l=[QM ((s.size+(bp (L.take (k+1))).length-(k+1):Nat):Int),.bool (decide ((bp (L.take (k+1))).length≠k+1))]/\h'=hv,bo (fun qA=>?_) fun qA=>?_,?_⟩
   ·rcases hA with⟨hB,hA⟩ | ⟨hA,hB,hB2,-⟩
    ·rw[hB]at qA;cases qA
    subst hB
    refine⟨q,0,rfl,Qz,by have:=y.toNat_lt;omega,A,_,C,hcl,?_,rfl⟩
    have hd:decide ((bp (L.take (k+1))).length≠k+1)=true:=decide_eq_true Qz
    rw[hd,wr (x:=((bc y).length:Nat)-(1:Int)) Qz Qz,wr Qz Qz,el]
    congr 2
    omega
   ·rcases hA with⟨hB,hA⟩ | ⟨hA,hB,hB2,-⟩
    ·have h1:(bc y).length=1:=by rw[hA];rfl
     refine⟨?_,rfl⟩
     rw[el,h1,show s.size+((bp (L.take k)).length+1)-(k+1)=s.size+(bp (L.take k)).length-k by omega]
     congr 3
     simp
    ·rw[hA]at qA;cases qA
   ·rintro ns2 an2 h3 ⟨e,rfl⟩
    cases e
    rw[show i64.wrap ((k:Int)+1)=((k+1:Nat):Int) by rw[wr Qz Qz];omega]
    exact⟨⟨k+1,rfl,Qz,rfl⟩,by dsimp only;omega⟩
  ·have hke:k=L.length:=by omega
   subst hke
   rw[List.take_length,<-hLl]
   exact⟨by rw[show L.length+(bp L).length-L.length=(bp L).length by omega],rfl⟩
 ·rintro N an h6 ⟨e,rfl⟩
  simp only[List.cons.injEq,Value.int.injEq,Value.bool.injEq,true_and,and_true]at e
  obtain⟨rfl,rfl⟩:=e
  refine⟨fun qa=>?_,fun qa=>?_⟩
  ·have:(bp L).length=L.length:=by simpa using qa
   exact⟨by rw[Bm L this,hL,zR],Fr.refl _ _⟩
  ·generalize hN:(bp L).length=N
   refine⟨Qz,Qz,Qz,Qz,?_⟩
   intro h7
   have Y7:Sy h6 [] h7 [Ck.sl (eK .u8) 5 (some ⟨h6.size,0,none⟩) N N (mz N [])]:=by
    have:=Sy.mkS (E:=eK .u8) (ty:=5) (Sy.start (Hp.nil h6)) (0:Int) N N (Nat.le_refl _) (by unfold maxLen;omega)
    exact this
   clear_value h7
   refine⟨fun l h'=>∃k:Nat,l=[QM ((bp (L.take k)).length:Nat),QM (k:Int)]/\k<=s.size/\Sy h6 [] h' [Ck.sl (eK .u8) 5 (some ⟨h6.size,0,none⟩) N N (mz N (bp (L.take k)))],
    fun l _=>match l with | [_,.int _ i]=>(s.size-i).toNat | _=>0,⟨0,rfl,Qz,Y7⟩,?_⟩
   rintro j i hv ⟨k,e,hk,Y⟩
   cases e
   have et:=tJ L k
   refine af (fun q2=>?_) fun q2=>?_
   ·have hlt:k<s.size:=by omega
    obtain⟨y,hy,-⟩:=get_at hlt
    have hyl:L[k]? =some y:=by rw[hL,Array.getElem?_toList];exact hy
    have ek:bp (L.take (k+1))=bp (L.take k)++bc y:=by rw[gP hyl,qE];simp[bp]
    have el:(bp (L.take (k+1))).length=(bp (L.take k)).length+(bc y).length:=by rw[ek,List.length_append]
    have eN:(bp (L.take (k+1))).length<=N:=by rw[<-hN,tJ L (k+1),List.length_append];omega
    obtain⟨A,B,C,hcl,hA⟩:=vd (Y0.gr Y.fr) H y
    have hp:=iA y
    refine⟨Qz,q2,y,by rw[Int.toNat_natCast];exact hy,q,0,rfl,Qz,by have:=y.toNat_lt;omega,A,B,C,hcl,fun l h'=>l=[QM ((bp (L.take (k+1))).length:Nat)]/\Sy h6 [] h' [Ck.sl (eK .u8) 5 (some ⟨h6.size,0,none⟩) N N (mz N (bp (L.take (k+1))))],bo (fun qA=>?_) fun qA=>?_,?_⟩
    ·rcases hA with⟨hB,hA⟩ | ⟨hA,hB,hB2,hR⟩
     ·rw[hB]at qA;cases qA
     subst hB
     have hmin:Nat.min (bc y).length (Int.toNat ((N:Nat):Int)-Int.toNat (((bp (L.take k)).length:Nat):Int))=(bc y).length:=by
      rw[Int.toNat_natCast,Int.toNat_natCast];exact Nat.min_eq_left Qz
     refine⟨[h6.size],QB,Qz,by rw[Int.toNat_natCast];omega,q,0,rfl,Qz,by have:=y.toNat_lt;omega,A,_,C,hcl,h6.size,(bp (L.take k)).length,?_,_,by rw[hmin];exact hR,?_,?_,iP _ _ _ _,?_,?_⟩
     ·rw[if_neg (by rw[Int.toNat_natCast,Int.toNat_natCast];omega)]
      show some (Addr.add ⟨h6.size,0,none⟩ _)=_
      rw[dh,Int.toNat_natCast];simp
     ·intro v hv;obtain⟨n,-,rfl⟩:=List.mem_map.1 hv;rfl
     ·intro m hm
      rw[List.length_map,kL]at hm
      have hx:(mz N (bp (L.take k)))[(bp (L.take k)).length+m]? =some ((mz N (bp (L.take k)))[(bp (L.take k)).length+m]'(by unfold mz;rw[List.length_append,kL,List.length_replicate];omega)):=List.getElem?_eq_getElem _
      have:=Y.cellS 0 rfl rfl (t:=0) hx rfl
      rw[show 0+((bp (L.take k)).length+m)*(eK .u8).sz+0=(bp (L.take k)).length+m by show 0+_*1+0=_;omega]at this
      exact⟨⟨_,this⟩,Y.freeS 0 rfl rfl _⟩
     ·rw[hmin,wr Qz Qz,el];rfl
     ·rw[ek]
      exact JI (bc y) _ _ Y Qz
    ·rcases hA with⟨hB,hA⟩ | ⟨hA,hB,hB2,-⟩
     ·have h1:(bc y).length=1:=by rw[hA];rfl
      have hx:(mz N (bp (L.take k)))[(bp (L.take k)).length]? =some ((mz N (bp (L.take k)))[(bp (L.take k)).length]'(by unfold mz;rw[List.length_append,kL,List.length_replicate];omega)):=List.getElem?_eq_getElem _
      have hcl2:=Y.cellS 0 rfl rfl (t:=0) hx rfl
      have hc3:∃u,ac hv h6.size (0+Int.toNat (((bp (L.take k)).length:Nat):Int)*1)=some u:=⟨_,hcl2⟩
      refine⟨h6.size,0,rfl,Qz,by rw[Int.toNat_natCast];omega,hc3,Y.freeS 0 rfl rfl _,?_,?_⟩
      ·rw[wr Qz Qz,el,h1];rfl
      ·have Y1:=JI [y] _ _ Y QF
       rw[ek,hA]
       rw[Int.toNat_natCast,Nat.mul_one,Nat.zero_add]
       exact Y1
     ·rw[hA]at qA;cases qA
    ·rintro j2 h11 ⟨e,Y11⟩
     cases e
     rw[show i64.wrap ((k:Int)+1)=((k+1:Nat):Int) by rw[wr Qz Qz];omega]
     exact⟨⟨k+1,rfl,Qz,Y11⟩,by dsimp only;omega⟩
   ·have hke:k=L.length:=by omega
    subst hke
    rw[List.take_length]at Y
    refine⟨bI (bp L),?_,by rw[qu],Y.fr⟩
    have:=vR (Y.readsS 0 rfl)
    unfold mz at this
    rw[<-hN,Nat.sub_self,List.replicate_zero,List.append_nil]at this
    rw[Int.toNat_natCast,<-hN]
    exact this
end
theorem tI {h:ab} {b:Nat}:∀{vs:List Value} {o:Nat} {K:Prop},(∀v∈vs,v.oneCell'=true)->(∀j,j<vs.length->(∃u,ac h b (o+j)=some u)/\au h b (o+j)=true)->K->stW h b o vs K
 | [],_,_,_,_,hk=>hk
 | v::r,o,K,h1,h2,hk=>by
  have e1:=h1 v QB
  unfold stW E2
  rw[e1]
  have:=h2 0 QB
  refine⟨this.1,this.2,tI (fun x hx=>h1 x (by simp[hx])) (fun j hj=>?_) hk⟩
  have:=h2 (j+1) (by simpa using hj)
  rwa[show o+1+j=o+(j+1) by omega]
theorem wH :∀(vs a c:List Value),vs.length<=c.length->ju (a++c) a.length vs=a++vs++c.drop vs.length
 | [],a,c,_=>by simp[ju]
 | v::r,a,[],h=>by simp at h
 | v::r,a,x::c,h=>by
  have:=wH r (a++[v]) c (by simpa using h)
  rw[ju,List.set_append_right _ _ (Nat.le_refl _),Nat.sub_self,List.set_cons_zero]
  simp only[List.append_assoc,List.length_append,List.length_cons,List.length_nil,List.cons_append,List.nil_append,List.drop_succ_cons]at this ⊢
  simpa using this
theorem CH {h0:ab} {M:List Nat} {b ty:Nat}:∀(vs:List Value) (o:Nat) (cs:List Ck) (k:Nat) (cells:List Value) (h:ab),Sy h0 M h cs->cs[k]? =some (Ck.ob b ty cells)->Sy h0 M (jM h b o vs) (cs.set k (Ck.ob b ty (ju cells o vs)))
 | [],o,cs,k,cells,h,Y,hk=>by
  rw[ju,jM]
  rwa[show cs.set k (Ck.ob b ty cells)=cs from by
   apply List.ext_getElem?
   intro i
   by_cases hi:k=i
   ·subst hi
    have:=(List.getElem?_eq_some_iff.1 hk).1
    rw[List.getElem?_set_self this,hk]
   ·rw[List.getElem?_set_ne hi]]
 | v::r,o,cs,k,cells,h,Y,hk=>by
  have Y1:=Y.stO k hk o v
  have hk1:(cs.set k (Ck.ob b ty (cells.set o v)))[k]? =some (Ck.ob b ty (cells.set o v)):=List.getElem?_set_self (List.getElem?_eq_some_iff.1 hk).1
  have Y2:=CH r (o+1) _ k _ _ Y1 hk1
  rw[List.set_set]at Y2
  exact Y2
def gO :List ByteArray:=[⟨#[38]⟩,⟨#[38,97,109,112,59]⟩,⟨#[60]⟩,⟨#[38,108,116,59]⟩,⟨#[62]⟩,⟨#[38,103,116,59]⟩]
section
variable {b p:Nat} {oc:List Value} {xA:QR} {xC:Nat} {h:ab}
theorem s6o {k:Nat} {c:UInt8} (h:jC[k]? =some c):gO[4-2*k]? =some ⟨#[c]⟩/\gO[4-2*k+1]? =some (G.mkB (bc c)):=by
 have hk:=(List.getElem?_eq_some_iff.1 h).1
 match k,hk,h with
 | 0,_,h=>cases h;exact⟨rfl,rfl⟩
 | 1,_,h=>cases h;exact⟨rfl,rfl⟩
 | 2,_,h=>cases h;exact⟨rfl,rfl⟩
theorem JF (c:UInt8):strOf [((c.toNat:Nat):Int)]=⟨#[c]⟩:=by
 have:=qu [c]
 exact this
set_option maxHeartbeats 4000000 in
theorem PK (Hm:Hp h [Ck.ob b 138 oc,Ck.sl eS 9 xA 6 xC gO]) (ho:oc[4]? =some (.slice xA 6 xC)):
  QH 94 #[.pointer (some ⟨b,0,none⟩)] h fun v h'=>∃q cs P aT cT,v= .iface 189 (.pointer (some ⟨q,0,none⟩))/\RpOK 3 cs P aT cT/\Sy h [] h' (jG q 3 cs P aT cT):=by
 apply Gq
 unfold S94
 have Y0:=Sy.start Hm
 refine⟨b,0,rfl,xA,6,xC,by rw[Nat.zero_add];exact Y0.cellO 0 rfl 4 ho,?_⟩
 intro K
 have rd:∀{h':ab} {i:Int} {x:ByteArray},Fr [] h h'->0<=i->i<6->gO[i.toNat]? =some x->∃b o,xA=some ⟨b,o,none⟩/\0<=i/\i<((6:Nat):Int)/\∃x':ByteArray,ac h' b (o+Int.toNat i*1)=some (.string x')/\x'=x:=by
  intro h' i x f i0 i6 hx
  obtain⟨b',ha,-⟩:=Y0.atS 1 rfl (i:=i) i0 Qz
  exact⟨b',0,ha,i0,Qz,x,(Y0.gr f).cellS 1 rfl ha (i:=i.toNat) (t:=0) hx rfl,rfl⟩
 refine aV QE ?_
 show K h
 dsimp-zeta only[K]
 refine⟨fun l h'=>∃k:Nat,l=[.bool (decide (k=0)),QM ((2*k:Nat):Int)]/\k<=3/\h'=h,fun l _=>match l with | [_,.int _ i]=>(6-i).toNat | _=>0,⟨0,rfl,Qz,rfl⟩,?_⟩
 rintro nb i h3 ⟨k,e,hk,rfl⟩
 simp only[List.cons.injEq,Value.int.injEq,Value.bool.injEq,true_and,and_true]at e
 obtain⟨rfl,rfl⟩:=e
 refine af (fun q1=>?_) fun q1=>?_
 ·have hk3:k<3:=by omega
  have h2:∃x y,gO[2*k]? =some x/\gO[2*k+1]? =some y/\x.size=1/\4<=y.size/\y.size<=5:=by
   match k,hk3 with
   | 0,_=>exact⟨_,_,rfl,rfl,rfl,QA,QA⟩
   | 1,_=>exact⟨_,_,rfl,rfl,rfl,QA,QA⟩
   | 2,_=>exact⟨_,_,rfl,rfl,rfl,QA,QA⟩
  obtain⟨x,y,hx,hy,sx,sy,sy5⟩:=h2
  obtain⟨b5,o5,a1,a2,a3,x4,a4,rfl⟩:=rd (h':=h3) (i:=((2*k:Nat):Int)) (x:=x) (Fr.refl _ _) Qz Qz (by rw[Int.toNat_natCast];exact hx)
  refine⟨b5,o5,a1,a2,a3,_,a4,aV (by rw[sx];rfl) ?_⟩
  have w1:i64.wrap (((2*k:Nat):Int)+1)=((2*k+1:Nat):Int):=by rw[wr Qz Qz];omega
  have w2:i64.wrap (((2*k:Nat):Int)+2)=((2*(k+1):Nat):Int):=by rw[wr Qz Qz];omega
  rw[w1,w2]
  obtain⟨b6,o6,c1,c2,c3,x5,c4,rfl⟩:=rd (h':=h3) (i:=((2*k+1:Nat):Int)) (x:=y) (Fr.refl _ _) Qz Qz (by rw[Int.toNat_natCast];exact hy)
  refine⟨b6,o6,c1,c2,c3,_,c4,fun l h'=>l=[.bool false]/\h'=h3,br ?_ ⟨rfl,rfl⟩,?_⟩
  ·simp only[bne_iff_ne,ne_eq];omega
  ·rintro nb2 h5 ⟨e,rfl⟩
   cases e
   exact⟨⟨k+1,by rw[decide_eq_false Qz],Qz,rfl⟩,by dsimp only;omega⟩
 ·obtain rfl:k=3:=by omega
  refine aV QA ⟨QA,QA,QA,QA,QA,?_⟩
  intro h6 h7
  have Y6:Sy h3 [] h6 [Ck.sl eS 9 (some ⟨h3.size,0,none⟩) 0 3 []]:=by
   have:=Sy.mkS (E:=eS) (ty:=9) (Sy.start (Hp.nil h3)) ByteArray.empty 3 0 QA QA
   exact this
  have e6:h6.size=h3.size+1:=by simp[h6]
  have Y7:Sy h3 [] h7 [Ck.sl eS 9 (some ⟨h3.size,0,none⟩) 0 3 [],Ck.ob h6.size 188 (List.replicate 257 (.slice none 0 0))]:=Y6.newO _
  clear_value h7
  have lv:((List.replicate 256 (.slice none 0 0)++[.slice (some ⟨h3.size,0,none⟩) (Int.toNat (0:Int)) (Int.toNat (i64.wrap (Int.tdiv ((6:Nat):Int) (2:Int))))]:List Value)).length=257:=by simp
  refine tI ?_ (fun j hj=>?_) ?_
  ·intro v hv
   rcases List.mem_append.1 hv with hv | hv
   ·rw[(List.mem_replicate.1 hv).2];rfl
   ·rw[List.mem_singleton.1 hv];rfl
  ·rw[lv]at hj
   refine⟨⟨_,Y7.cellO 1 rfl (0+j) (v:=.slice none 0 0) ?_⟩,Y7.freeO 1 rfl _⟩
   rw[List.getElem?_replicate,if_pos Qz]
  intro h8
  have Y8:Sy h3 [] h8 (Ck.ob h6.size 188 (List.replicate 256 (.slice none 0 0)++[.slice (some ⟨h3.size,0,none⟩) 0 3])::Ck.sl eS 9 (some ⟨h3.size,0,none⟩) 0 3 (nG 0)::([]:List RpE).map RpE.ck):=by
   have:=CH (List.replicate 256 (.slice none 0 0)++[.slice (some ⟨h3.size,0,none⟩) 0 3]) 0 _ 1 _ _ Y7 rfl
   have e:=wH (List.replicate 256 (.slice none 0 0)++[.slice (some ⟨h3.size,0,none⟩) 0 3]) [] (List.replicate 257 (.slice none 0 0)) QB
   simp only[List.nil_append,List.length_nil]at e
   rw[e,List.drop_of_length_le QB,List.append_nil]at this
   exact this.pick [1,0] rfl
  clear_value h8
  generalize hq:h6.size=q at*
  have rep0:RpOK 0 (List.replicate 256 (.slice none 0 0)++[.slice (some ⟨h3.size,0,none⟩) 0 3]) [] (some ⟨h3.size,0,none⟩) 3:=by
   refine⟨rfl,fun n hn=>?_,?_⟩
   ·rw[List.getElem?_append_left (by simpa using hn),List.getElem?_replicate,if_pos hn];rfl
   ·rw[List.getElem?_append_right QB];simp
  refine⟨fun l h'=>∃(k:Nat) (cs:List Value) (P:List RpE) (aT:QR) (cT:Nat),l=[QM (4-2*(k:Int))]/\k<=3/\RpOK k cs P aT cT/\Sy h3 [] h' (jG q k cs P aT cT),
   fun l _=>match l with | [.int _ i]=>(i+2).toNat | _=>0,⟨0,_,[],_,_,rfl,Qz,rep0,Y8⟩,?_⟩
  rintro i h9 ⟨k,cs,P,aT,cT,e,hk,H,Y⟩
  simp only[List.cons.injEq,Value.int.injEq,true_and,and_true]at e
  subst e
  refine af (fun q2=>?_) fun q2=>?_
  ·have hk3:k<3:=by omega
   have hx:jC[k]? =some (jC[k]'hk3):=List.getElem?_eq_getElem hk3
   generalize jC[k]'hk3=c at hx
   obtain⟨s1,s2⟩:=s6o hx
   have hp:=iA c
   have ec:=c.toNat_lt
   obtain⟨b7,o7,a1,a2,a3,x6,a4,rfl⟩:=rd (h':=h9) (i:=4-2*(k:Int)) (x:=⟨#[c]⟩) Y.fr Qz Qz (by rw[show(4-2*(k:Int)).toNat=4-2*k by omega];exact s1)
   refine⟨b7,o7,a1,a2,a3,_,a4,QA,by show(0:Int)<1;decide,c,rfl,?_⟩
   have w1:i64.wrap (4-2*(k:Int)+1)=((4-2*k+1:Nat):Int):=by rw[wr Qz Qz];omega
   have w2:i64.wrap (4-2*(k:Int)-2)=4-2*((k+1:Nat):Int):=by rw[wr Qz Qz];omega
   rw[w1,w2]
   obtain⟨b8,o8,c1,c2,c3,x7,c4,rfl⟩:=rd (h':=h9) (i:=((4-2*k+1:Nat):Int)) (x:=G.mkB (bc c)) Y.fr Qz Qz (by rw[Int.toNat_natCast];exact s2)
   have nm:c∉P.map (·.1):=by
    rw[H.sg]
    match k,hk3,hx with
    | 0,_,hx=>cases hx;decide
    | 1,_,hx=>cases hx;decide
    | 2,_,hx=>cases hx;decide
   have nf:P.find? (fun p=>p.1.toNat==c.toNat)=none:=by
    rw[List.find?_eq_none]
    intro p hp he
    exact nm (List.mem_map.2 ⟨p,hp,UInt8.toNat_inj.1 (by simpa using he)⟩)
   have hc:=Y.cellO 0 rfl _ (H.cl c.toNat ec)
   unfold Bq at hc
   rw[nf]at hc
   refine⟨b8,o8,c1,c2,c3,_,c4,Qz,Qz,none,0,0,?_,fun l h'=>∃(cs':List Value) (aT':QR) (cT':Nat),l=[]/\cs'=cs.set 256 (.slice aT' (k+1) cT')/\Sy h3 [] h' (Ck.ob q 188 cs'::Ck.sl eS 9 aT' (k+1) cT' (nG (k+1))::P.map RpE.ck),br rfl ?_,?_⟩
   ·rw[Int.toNat_natCast,Nat.mul_one,Nat.zero_add];exact hc
   ·refine⟨aT,k,cT,by rw[Nat.zero_add];exact Y.cellO 0 rfl 256 H.tr,?_⟩
    intro h10
    have Y10:Sy h3 [] h10 (jG q k cs P aT cT):=Y.gr (Fr.push h9 _)
    have r10:Reads h10 1 (some ⟨h9.size,0,none⟩) 1 (List.map (Value.int IntKind.u8) [((c.toNat:Nat):Int)]):=by
     refine⟨rfl,.inr ⟨_,_,rfl,fun j v hj=>?_⟩⟩
     have hb:h10[h9.size]? =some (.cells #[QP ((c.toNat:Nat):Int)] 5 (0,0)):=bK
     rw[aQ hb]
     match j,hj with
     | 0,hj=>exact hj
    have e10:h10.size=h9.size+1:=by simp[h10]
    clear_value h10
    refine⟨[((c.toNat:Nat):Int)],r10,?_⟩
    rw[JF]
    intro h11
    have Y11:Sy h3 [] h11 (jG q k cs P aT cT):=Y10.gr (Fr.push h10 _)
    clear_value h11
    refine⟨_,Y11.ownS 1 rfl,?_,Qz,by unfold maxLen;omega,?_⟩
    ·intro x hx hq
     rw[List.mem_singleton.1 hx]at hq
     have:=qI Y10 1 rfl _ hq
     omega
    intro sA sC h12 ow f g _
    have Y12:=Y11.appS 1 rfl [(⟨#[c]⟩:ByteArray)] ow f g rfl rfl
    have hne:q≠h10.size:=by
     have:q<h10.size:=qI Y10 0 rfl q (by simp[Ck.ob])
     omega
    have tk:nG (k+1)=nG k++[(⟨#[c]⟩:ByteArray)]:=by unfold nG;rw[gP hx];simp
    refine⟨hne,⟨_,by rw[Nat.zero_add];exact Y12.cellO 0 rfl 256 H.tr⟩,Y12.freeO 0 rfl _,?_⟩
    intro h13
    have Y13:Sy h3 [] h13 _:=Y12.stO 0 rfl 256 (.slice sA (k+1) sC)
    exact⟨_,sA,sC,rfl,rfl,by rw[tk];exact Y13⟩
   ·rintro h14 ⟨cs',aT',cT',-,hcs,Y14⟩
    have l256:=(List.getElem?_eq_some_iff.1 H.tr).1
    have sz:(G.mkB (bc c)).size=(bc c).length:=bu _
    refine⟨by rw[sz];unfold maxLen;omega,fun rC h15 ow f15=>?_⟩
    have Y15:Sy h3 [] h15 (Ck.ob q 188 cs'::Ck.sl eS 9 aT' (k+1) cT' (nG (k+1))::(P++[((c,some ⟨h14.size,0,none⟩,rC):RpE)]).map RpE.ck):=by
     have e1:Lib.strCells (G.mkB (bc c))=(eK .u8).l (bI (bc c)):=by
      have:=(jP (G.mkB (bc c))).symm
      rw[this];unfold iZ bI;rw[sK]
     rw[e1,sz]at ow
     have:=Y14.add f15 (Ck.sl (eK .u8) 5 (some ⟨h14.size,0,none⟩) (bc c).length rC (bI (bc c))) ⟨ow,kL _⟩ (by simp[Ck.sl,ai]) (by simp[Ck.sl])
     rw[List.map_append]
     exact this
    have c256:cs'[256]? =some (.slice aT' (k+1) cT'):=by rw[hcs,List.getElem?_set_self l256]
    have cel:∀n,n<256->cs'[n]? =cs[n]? :=fun n hn=>by rw[hcs,List.getElem?_set_ne Qz]
    have hc2:=Y15.cellO 0 rfl c.toNat (v:=.slice none 0 0) (by rw[cel _ ec,H.cl _ ec];unfold Bq;rw[nf])
    refine⟨Qz,Qz,⟨_,by rw[Int.toNat_natCast,Nat.mul_one,Nat.zero_add];exact hc2⟩,Y15.freeO 0 rfl _,?_⟩
    rw[Int.toNat_natCast,Nat.mul_one,Nat.zero_add,sz]
    intro h16
    have Y16:Sy h3 [] h16 _:=Y15.stO 0 rfl c.toNat (.slice (some ⟨h14.size,0,none⟩) (bc c).length rC)
    refine⟨⟨k+1,cs'.set c.toNat (.slice (some ⟨h14.size,0,none⟩) (bc c).length rC),P++[((c,some (⟨h14.size,0,none⟩:Addr),rC):RpE)],aT',cT',rfl,Qz,⟨?_,fun n hn=>?_,?_⟩,Y16⟩,by dsimp only;omega⟩
    ·rw[List.map_append,H.sg,gP hx];rfl
    ·unfold Bq
     rw[List.find?_append]
     by_cases hnc:c.toNat=n
     ·subst hnc
      rw[List.getElem?_set_self (by rw[hcs,List.length_set];omega),nf]
      simp
     ·rw[List.getElem?_set_ne hnc,cel n hn,H.cl n hn]
      unfold Bq
      have:([((c,some ⟨h14.size,0,none⟩,rC):RpE)].find? fun p=>p.1.toNat==n)=none:=by simp[hnc]
      rw[this,Option.or_none]
    ·rw[List.getElem?_set_ne Qz,c256]
  ·obtain rfl:k=3:=by omega
   exact⟨q,cs,P,aT,cT,rfl,H,Y⟩
theorem PL {d st sm r:Value} (Hm:Hp h [Ck.ob b 138 [d,st,sm,r,.slice xA 6 xC],Ck.sl eS 9 xA 6 xC gO]):
  QH 75 #[.pointer (some ⟨b,0,none⟩)] h fun v h'=>v= .tuple #[]/\∃q cs P aT cT,RpOK 3 cs P aT cT/\
   Sy h [b] h' (Ck.ob b 138 [d,st,sm,.iface 189 (.pointer (some ⟨q,0,none⟩)),.slice none 0 0]::jG q 3 cs P aT cT):=by
 apply Gr
 unfold S75
 intro K
 have Y0:Sy h [b] h [Ck.ob b 138 [d,st,sm,r,.slice xA 6 xC]]:=Sy.start (Hm.pick [0] rfl)
 refine ao [] (PK Hm rfl) QB (fun _ _ r=>r.choose_spec.choose_spec.choose_spec.choose_spec.choose_spec.2.2.fr) ?_
 rintro v h1 ⟨q,cs,P,aT,cT,rfl,H,Z⟩
 have Y1:Sy h [b] h1 ([Ck.ob b 138 [d,st,sm,r,.slice xA 6 xC]]++jG q 3 cs P aT cT):=by
  refine Y0.callV Z ?_
  have:∀P:List RpE,Nv (P.map RpE.ck):=fun P=>by induction P with
   | nil=>trivial
   | cons p P ih=>exact⟨rfl,ih⟩
  exact⟨rfl,rfl,this P⟩
 refine .inr ⟨189,_,rfl,b,0,rfl,⟨_,Y1.cellO 0 rfl 3 rfl⟩,Y1.freeO 0 rfl _,?_⟩
 intro h3
 have Y3:Sy h [b] h3 _:=Y1.stO 0 rfl 3 (.iface 189 (.pointer (some ⟨q,0,none⟩)))
 clear_value h3
 show K h3
 refine⟨b,0,rfl,⟨_,Y3.cellO 0 rfl 4 rfl⟩,Y3.freeO 0 rfl _,?_⟩
 intro h5
 have Y5:Sy h [b] h5 _:=Y3.stO 0 rfl 4 (.slice none 0 0)
 exact⟨rfl,q,cs,P,aT,cT,H,Y5⟩
end
theorem IU (w:World):(callFunc 189 #[]).run Tryz.prog w= .ok (.value (.tuple #[])) w:=run_call_mark0 Tryz.func189 QC QC QC .disable QC w
theorem IV (w:World):(callFunc 191 #[]).run Tryz.prog w= .ok (.value (.tuple #[])) w:=run_call_mark0 Tryz.func191 QC QC QC .enable QC w
theorem MP (a:Addr) (w:World):(callFunc 192 #[.pointer (some a)]).run Tryz.prog w= .ok (.value (.tuple #[])) w:=run_call_marked Tryz.func192 QC QC QC .acquire QC a w
theorem MQ (a:Addr) (w:World):(callFunc 194 #[.pointer (some a)]).run Tryz.prog w= .ok (.value (.tuple #[])) w:=run_call_marked Tryz.func194 QC QC QC .releaseMerge QC a w
theorem CQ (a:Addr) (x:Value) (u:FrameMode) (w:World) (hc:w.cell? a=some x) (hz:w.frozen? a=false):
  CallsD Tryz.prog 121 #[.pointer (some a),.bool true] u w fun e u' w'=>u'=u/\(e= .returned (.tuple #[])/\w'=w.drew.setCell a (.int .u32 1)):=by
 have hc':w.drew.cell? a=some x:=by go_simp
 have hz':w.drew.frozen? a=false:=by go_simp
 have hst:=run_call_store (P:=Tryz.prog) Tryz.func154 QC QC QC QC (k:=.u32) (y:=1) hc' hz'
 go_enter_d Tryz.func121,Tryz.ntmps121
 go_wp2
 go_region_calls
 all_goals (go_end0;exact⟨rfl,rfl⟩)
theorem Bp (a:Addr) (u:FrameMode) (w:World) (hc:w.cell? a=some (.int .i32 1)) (hz:w.frozen? a=false):
  CallsD Tryz.prog 120 #[.pointer (some a)] u w fun e u' w'=>u'=u/\(e= .returned (.tuple #[])/\w'=w.setCell a (.int .i32 0)):=by
 have hd:=IU
 have he:=IV
 have hr:=MQ
 have hadd:=run_call_add (P:=Tryz.prog) Tryz.func195 QC QC QC .i32 QC (y:= -1) (s:=0) hc hz (by simp[go_sem];rfl)
 have hcv:=run_convert_to_unsafe (P:=Tryz.prog) (src:=254) (dst:=117) Tryz.underlying254 Tryz.underlying117 QC hc
 go_enter_d Tryz.func120,Tryz.ntmps120
 go_wp2
 go_end0
 go_wp2
 go_end0
 exact⟨rfl,rfl⟩
theorem Gk (a:Addr) (w:World) (hc:w.cell? a=some (.int .i32 0)) (hz:w.frozen? a=false):
  Calls Tryz.prog 119 #[.pointer (some a)] w fun e w'=>e= .returned (.tuple #[])/\w'=w.setCell a (.int .i32 1):=by
 have hd:=IU
 have he:=IV
 have ha:=MP
 have hcas:=run_call_cas_hit (P:=Tryz.prog) Tryz.func190 QC QC QC .i32 QC (y:=1) hc hz
 have hc':(w.setCell a (.int .i32 1)).cell? a=some (.int .i32 1):=World.cell?_setCell_same w a _ hc
 have hcv:=run_convert_to_unsafe (P:=Tryz.prog) (src:=254) (dst:=117) Tryz.underlying254 Tryz.underlying117 QC hc'
 go_enter Tryz.func119,Tryz.ntmps119
 go_wp2
 first | go_end0 | (simp only[Exit.inBlock,Exit.then];refine bodyPost_ret (results_none rfl _ _ _) rfl ?_) | refine bodyPost_ret (results_none rfl _ _ _) rfl ?_
 go_wp2
 go_end0
 exact⟨rfl,rfl⟩
theorem CR (a:Addr) (w:World) (h0:w.cell? a=some (.int .u32 0)):Calls Tryz.prog 92 #[.pointer (some a)] w fun e w'=>e= .returned (.bool false)/\w'=w:=by
 have hl:=run_call_load (P:=Tryz.prog) Tryz.func118 QC QC QC .u32 QC h0
 go_enter Tryz.func92,Tryz.ntmps92
 go_wp2
 go_ret
 exact⟨rfl,rfl⟩
def rcO (d st:Int) (r x:Value):List Value:=[.int .u32 d,.int .i32 st,.int .u32 0,r,x]
section
variable {b:Nat} {xA:QR} {xC:Nat}
set_option maxHeartbeats 2000000 in
theorem JR (w:World) (H:Hp w.heap [Ck.ob b 138 (rcO 0 0 .nilIface (.slice xA 6 xC)),Ck.sl eS 9 xA 6 xC gO]):
  Calls Tryz.prog 93 #[.pointer (some ⟨b,0,none⟩),.func (.func 75) #[.pointer (some ⟨b,0,none⟩)] #[]] w fun e w'=>e= .returned (.tuple #[])/\Go.X.Rest w w'/\∃q cs P aT cT,RpOK 3 cs P aT cT/\
   Sy w.heap [b] w'.heap (Ck.ob b 138 (rcO 1 0 (.iface 189 (.pointer (some ⟨q,0,none⟩))) (.slice none 0 0))::jG q 3 cs P aT cT):=by
 have hb:w.heap[b]? =some (.cells (rcO 0 0 .nilIface (.slice xA 6 xC)).toArray 138 (0,0)):=H.ok 0 _ rfl
 have c0:w.cell? ⟨b,0,none⟩=some (.int .u32 0):=by simp[World.cell?,hb,rcO]
 have c1:w.cell? ⟨b,1,none⟩=some (.int .i32 0):=by simp[World.cell?,hb,rcO]
 have z1:w.frozen? ⟨b,1,none⟩=false:=by simp[World.frozen?,hb]
 have d0:(w.setCell ⟨b,1,none⟩ (.int .i32 1)).cell? ⟨b,0,none⟩=some (.int .u32 0):=(World.cell?_setCell_other _ ⟨b,1,none⟩ ⟨b,0,none⟩ _ QB).trans c0
 have hnot:∀(x:Bool) (w:World),(Op.unary .not (.bool x)).run Tryz.prog w= .ok (.bool (!x)) w:=fun _ _=>rfl
 have Y0:Sy w.heap [b] w.heap [Ck.ob b 138 (rcO 0 0 .nilIface (.slice xA 6 xC))]:=Sy.start (H.pick [0] rfl)
 go_enter_defers Tryz.func93,Tryz.ntmps93
 go_wp2_with (fail)
 refine(Gk ⟨b,1,none⟩ _ c1 z1).mono ?_
 rintro e w1 ⟨rfl,rfl⟩
 go_wp2_with (fail)
 refine(CR ⟨b,0,none⟩ _ d0).mono ?_
 rintro e w2 ⟨rfl,rfl⟩
 go_wp2_with (fail)
 have Y1:Sy w.heap [b] (w.setCell ⟨b,1,none⟩ (.int .i32 1)).heap ([Ck.ob b 138 (rcO 0 1 .nilIface (.slice xA 6 xC))]++[]):=by
  rw[heap_setCell];exact Y0.stO 0 rfl 1 (.int .i32 1)
 have H1:Hp (w.setCell ⟨b,1,none⟩ (.int .i32 1)).heap [Ck.ob b 138 [.int .u32 0,.int .i32 1,.int .u32 0,.nilIface,.slice xA 6 xC],Ck.sl eS 9 xA 6 xC gO]:=by
  rw[heap_setCell];exact((Sy.start H).stO 0 rfl 1 (.int .i32 1)).hp
 refine(PL H1 _ rfl).mono ?_
 rintro e w3 ⟨v,rfl,r3,rfl,q,cs,P,aT,cT,R3,Y3⟩
 have hb3:w3.heap[b]? =some (.cells (rcO 0 1 (.iface 189 (.pointer (some ⟨q,0,none⟩))) (.slice none 0 0)).toArray 138 (0,0)):=Y3.hp.ok 0 _ rfl
 have k0:w3.cell? ⟨b,0,none⟩=some (.int .u32 0):=by simp[World.cell?,hb3,rcO]
 have k1:w3.cell? ⟨b,1,none⟩=some (.int .i32 1):=by simp[World.cell?,hb3,rcO]
 have zz:∀o,w3.frozen? ⟨b,o,none⟩=false:=fun o=>by simp[World.frozen?,hb3]
 go_wp2_with (fail)
 refine leaves_cons (f:=121) (args:=#[.pointer (some ⟨b,0,none⟩),.bool true]) QB (by simp[go_sem]) ?_
 refine(CQ ⟨b,0,none⟩ (.int .u32 0) .returning _ k0 (zz 0)).mono ?_
 rintro e u' w4 ⟨rfl,rfl,rfl⟩
 refine leaves_cons (f:=120) (args:=#[.pointer (some ⟨b,1,none⟩)]) (by simp[settle]) (by simp[go_sem]) ?_
 refine(Bp ⟨b,1,none⟩ _ _ ?_ (by simp[zz])).mono ?_
 ·refine(World.cell?_setCell_other _ ⟨b,0,none⟩ ⟨b,1,none⟩ _ QB).trans ?_
  rw[World.cell?_drew];exact k1
 rintro e u' w5 ⟨rfl,rfl,rfl⟩
 have Nv1:Nv (Ck.ob b 138 [.int .u32 0,.int .i32 1,.int .u32 0,.iface 189 (.pointer (some ⟨q,0,none⟩)),.slice none 0 0]::jG q 3 cs P aT cT):=by
  have:∀P:List RpE,Nv (P.map RpE.ck):=fun P=>by induction P with
   | nil=>trivial
   | cons p P ih=>exact⟨rfl,ih⟩
  exact⟨rfl,rfl,rfl,this P⟩
 have Y4:=Sy.call Y1 Y3 Nv1
 rw[List.append_nil]at Y4
 have Y5:=(Y4.stO 0 rfl 0 (.int .u32 1)).stO 0 rfl 1 (.int .i32 0)
 have h5:((w3.drew.setCell ⟨b,0,none⟩ (.int .u32 1)).setCell ⟨b,1,none⟩ (.int .i32 0)).heap=am (am w3.heap b 0 (.int .u32 1)) b 1 (.int .i32 0):=by
  rw[heap_setCell,heap_setCell];rfl
 have r5:Go.X.Rest w ((w3.drew.setCell ⟨b,0,none⟩ (.int .u32 1)).setCell ⟨b,1,none⟩ (.int .i32 0)):=((((Go.X.Rest.setCell w _ _).trans r3).trans (Go.X.Rest.drew w3)).trans (Go.X.Rest.setCell _ _ _)).trans (Go.X.Rest.setCell _ _ _)
 rw[<-h5]at Y5
 exact⟨_,results_none rfl _ _ _,rfl,r5,q,cs,P,aT,cT,R3,Y5⟩
theorem PO {h:ab} (hc:ac h b 0=some (.int .u32 0)):QH 92 #[.pointer (some ⟨b,0,none⟩)] h fun v h'=>v= .bool false/\h'=h:=
 fun w hw=>(CR ⟨b,0,none⟩ w (by subst hw;rw[bq];exact hc)).mono fun e w' ⟨h1,h2⟩=>⟨_,h1,by rw[h2];exact Go.X.Rest.refl w,rfl,by rw[h2,hw]⟩
def JS (b:Nat) (h:ab) (v:Value) (h':ab):Prop:=v= .tuple #[]/\∃q cs P aT cT,RpOK 3 cs P aT cT/\
 Sy h [b] h' (Ck.ob b 138 (rcO 1 0 (.iface 189 (.pointer (some ⟨q,0,none⟩))) (.slice none 0 0))::jG q 3 cs P aT cT)
theorem PR {h:ab} (H:Hp h [Ck.ob b 138 (rcO 0 0 .nilIface (.slice xA 6 xC)),Ck.sl eS 9 xA 6 xC gO]):QH 93 #[.pointer (some ⟨b,0,none⟩),.func (.func 75) #[.pointer (some ⟨b,0,none⟩)] #[]] h (JS b h):=
 fun w hw=>by subst hw;exact(JR w H).mono fun e w' ⟨h1,h2,h3⟩=>⟨_,h1,h2,rfl,h3⟩
theorem PS {h:ab} (H:Hp h [Ck.ob b 138 (rcO 0 0 .nilIface (.slice xA 6 xC)),Ck.sl eS 9 xA 6 xC gO]):QH 74 #[.pointer (some ⟨b,0,none⟩),.func (.func 75) #[.pointer (some ⟨b,0,none⟩)] #[]] h (JS b h):=by
 apply Gu
 unfold S74
 refine⟨b,0,rfl,ao [] (PO ((Sy.start H).cellO 0 rfl 0 rfl)) QB (fun _ _ r=>r.2▸Fr.refl _ _) ?_⟩
 rintro v h1 ⟨rfl,rfl⟩
 refine⟨_,rfl,fun l h'=>l=[]/\JS b h1 (.tuple #[]) h',br rfl ?_,fun h3 r=>r.2⟩
 refine ao [b] (PR H) QB (fun _ _ r=>r.2.choose_spec.choose_spec.choose_spec.choose_spec.choose_spec.2.fr) ?_
 rintro v h2 r
 exact⟨r.1,rfl,rfl,r.2⟩
set_option maxHeartbeats 2000000 in
theorem PT {h:ab} {s:ByteArray} (H:Hp h [Ck.ob b 138 (rcO 0 0 .nilIface (.slice xA 6 xC)),Ck.sl eS 9 xA 6 xC gO]) (hs:s.size<=1000000):
  QH 54 #[.pointer (some ⟨b,0,none⟩),.string s] h fun v h'=>v= .string (G.mkB (bp s.data.toList))/\Fr [b] h h':=by
 intro w hw
 subst hw
 have hmf:∀(fn:Fn) (first cap:Array Value) (w:World),(Instr.makeFunc fn first cap).run Tryz.prog w= .ok (.func fn first cap) w:=fun _ _ _ _=>rfl
 have hm:∀(p:Addr) (w:World),(method 354 189 (.pointer (some p)) "Replace").run Tryz.prog w= .ok (270,.pointer (some p)) w:=fun _ _=>by kernel_rfl
 go_enter Tryz.func54,Tryz.ntmps54
 go_wp2_with (fail)
 refine(PS H _ rfl).mono ?_
 rintro e w1 ⟨v,rfl,r1,rfl,q,cs,P,aT,cT,R1,Y1⟩
 have hb1:w1.heap[b]? =some (.cells (rcO 1 0 (.iface 189 (.pointer (some ⟨q,0,none⟩))) (.slice none 0 0)).toArray 138 (0,0)):=Y1.hp.ok 0 _ rfl
 have k3:w1.cell? ⟨b,3,none⟩=some (.iface 189 (.pointer (some ⟨q,0,none⟩))):=by simp[World.cell?,hb1,rcO]
 go_wp2_with (fail)
 have H2:Hp w1.heap (jG q 3 cs P aT cT):=⟨fun k c hk=>Y1.hp.ok (k+1) c hk,fun i j c d hij hi hj=>Y1.hp.ap (i+1) (j+1) c d Qz hi hj⟩
 refine(MV H2 R1 hs _ rfl).mono ?_
 rintro e w2 ⟨v,rfl,r2,rfl,f2⟩
 go_wp2_with (fail)
 go_ret
 exact⟨_,rfl,r1.trans r2,rfl,Y1.fr.trans (f2.nil (M:=[b]))⟩
theorem PU {h:ab} {p:Nat} (Hm:Hp h [Ck.sl eS 9 (some ⟨p,0,none⟩) 6 6 gO]):QH 53 #[.slice (some ⟨p,0,none⟩) 6 6] h fun v h'=>∃b xA xC,v= .pointer (some ⟨b,0,none⟩)/\h.size<=b/\
  Sy h [] h' [Ck.ob b 138 (rcO 0 0 .nilIface (.slice xA 6 xC)),Ck.sl eS 9 xA 6 xC gO]:=by
 apply Gs
 unfold S53
 have Y0:Sy h [] h [Ck.sl eS 9 none 0 0 []]:=Sy.nilS (Sy.start (Hp.nil h)) eS 9
 refine⟨QA,fun l h'=>h'=h,aV QA rfl,?_⟩
 rintro _ rfl
 refine⟨_,(Sy.start Hm).readsS 0 rfl,(by intro z;cases z),fun v hv=>En.l_one _ v hv,_,Y0.ownS 0 rfl,QB,QA,QA,fun sA sC h2 ow f g _=>?_⟩
 have Y2:=Y0.appS 0 rfl gO ow f g rfl rfl
 have le:=Y2.fr.size
 intro h3
 exact⟨_,sA,sC,rfl,le,(Y2.newO (ty:=138) (rcO 0 0 .nilIface (.slice sA 6 sC))).pick [1,0] rfl⟩
theorem PV {h:ab} {s:ByteArray} (hs:s.size<=1000000):QH 31 #[.string s] h fun v h'=>v= .string (G.mkB (bp s.data.toList))/\Fr [] h h':=by
 apply Gt
 unfold S31
 intro h1
 have Y1:Sy h [] h1 [Ck.sl eS 9 (some ⟨h.size,0,none⟩) 6 6 gO]:=(Sy.start (Hp.nil h)).litS gO rfl QA
 clear_value h1
 refine ao [] (PU Y1.hp) QB (fun _ _ r=>r.choose_spec.choose_spec.choose_spec.2.2.fr) ?_
 rintro v h2 ⟨b,xA,xC,rfl,lb,Y2⟩
 refine⟨_,rfl,ao [b] (PT Y2.hp hs) QB (fun _ _ r=>r.2) ?_⟩
 rintro v h3 ⟨rfl,f3⟩
 exact⟨_,rfl,rfl,Y1.fr.trans (((Y2.fr.nil (M:=[b])).trans f3).late fun x hx=>.inr (by rw[List.mem_singleton.1 hx];exact lb))⟩
theorem MR {gl:GL} {x:ByteArray} (hx:x.size<=256):CN gl (fun x=>bp x.data.toList) x:=
 by
 have h1:=(qf x.data.toList).2
 have h2:x.data.toList.length=x.size:=rfl
 exact⟨fun h _=>PV Qz,by show(bp x.data.toList).length<=_;omega⟩
theorem CS {n:Int} {es:Es} {ls:List ByteArray} {ss:List (Nat × Nat)} {ws:List Nat} (q:gv n es ls ss ws=true) {x:ByteArray} (hx:x∈ls):x.size<=256:=by
 unfold gv at q
 simp only[Bool.and_eq_true]at q
 have:=List.all_eq_true.1 q.2.2.2.2 x hx
 unfold Bd at this
 grind
end
end Go.Proofs.YtemphinmoihdaaaGreatDoor.N
