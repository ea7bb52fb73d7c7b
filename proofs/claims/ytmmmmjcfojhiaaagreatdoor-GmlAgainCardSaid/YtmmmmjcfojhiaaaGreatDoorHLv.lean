/- Functions: what is left to be shown of each, over memory and without: printed by program, tied to the loaded functions by the kernel. Conditions: none. -/
import Derived.Test.YtmmmmjcfojhiaaaGreatDoorHSt
import Derived.Tactics
import Derived.Tactics2
import Derived.Laws.Pointers
import Derived.Lib.Replace
set_option linter.unusedVariables false
set_option linter.unusedSimpArgs false
set_option maxRecDepth 100000
set_option maxHeartbeats 2000000
open Go.IntKind (i64 u64 u8 i32)
namespace Go.Proofs.YtmmmmjcfojhiaaaGreatDoor.N
open Go.Proofs.YtmmmmjcfojhiaaaGreatDoor
open Go.X
def S25 (bP:PY) (h:ab) (R:VP):Prop:=∃b o,bP=some ⟨b,o,none⟩/\∃(c:PY) (a d:Nat),ac h b (o+1)=some (PT c a d)/\R (PN (a:Int)) h
theorem Gf {h:ab} {R:VP} (bP:PY) (H:S25 bP h R):PJ 25 #[PW bP] h R:=ba [] 8 [] [] [] [] Tryz.func25 PD PD H
def S38 (bP:PY) (s:P0) (h:ab) (R:VP):Prop:=PI 57 #[PW bP] h [] fun k c=>k= .tuple #[]/\∃b o,bP=some ⟨b,o,none⟩/\∃(d:PY) (a e:Nat),ac c b (o+1)=some (PT d a e)/\∃g,aw c 5 1 d a e g/\(∀b'∈([]:List Nat),b'∉ai d)/\(a+s.size)*1<=140737488355328/\(a+s.size)<=maxLen/\∀sA sC hv2,aw hv2 5 1 sA (a+s.size) sC (g++(Lib.strCells s))->Fr (ai d) c hv2->((sA=d/\sC=e)\/∃f,sA=some ⟨f,0,none⟩/\c.size<=f)->(e<(a+s.size)->Fr [] c hv2)->∃b2 o2,bP=some ⟨b2,o2,none⟩/\(∃j,ac hv2 b2 (o2+1)=some j)/\aq hv2 b2 (o2+1)=true/\let i:ab:=aj hv2 b2 (o2+1) (PT sA (a+s.size) sC);R (.tuple #[PN (s.size:Int),.nilIface]) i
theorem Gg {h:ab} {R:VP} (bP:PY) (s:P0) (H:S38 bP s h R):PJ 38 #[PW bP,PU s] h R:=ba [] 19 [] [] [] [] Tryz.func38 PD PD H
def S41 (bP:PY) (c:Int) (h:ab) (R:VP):Prop:=PI 57 #[PW bP] h [] fun m e=>m= .tuple #[]/\∃b o,bP=some ⟨b,o,none⟩/\∃(d:PY) (a g:Nat),ac e b (o+1)=some (PT d a g)/\let f:ab:=e.push (.cells #[PR c] 5);∃j,aw f 5 1 d a g j/\(∀b'∈([e.size]:List Nat),b'∉ai d)/\(a+1)*1<=140737488355328/\(a+1)<=maxLen/\∀sA sC hv3,aw hv3 5 1 sA (a+1) sC (j++[PR c])->Fr (ai d) f hv3->((sA=d/\sC=g)\/∃i,sA=some ⟨i,0,none⟩/\f.size<=i)->(g<(a+1)->Fr [] f hv3)->∃b2 o2,bP=some ⟨b2,o2,none⟩/\b2≠e.size/\(∃l,ac hv3 b2 (o2+1)=some l)/\aq hv3 b2 (o2+1)=true/\let k:ab:=aj hv3 b2 (o2+1) (PT sA (a+1) sC);R (.nilIface) k
theorem Gh {h:ab} {R:VP} (bP:PY) (c:Int) (H:S41 bP c h R):PJ 41 #[PW bP,PR c] h R:=ba [13] 17 [] [] [] [] Tryz.func41 PD PD H
def S42 (s:P0) (h:ab) (R:VP):Prop:=PI 61 #[PU s,PU ⟨#[38]⟩,PU ⟨#[38,97,109,112,59]⟩] h [] fun e c=>∃b:P0,e= PU b/\PI 61 #[PU b,PU ⟨#[34]⟩,PU ⟨#[38,113,117,111,116,59]⟩] c [] fun f d=>∃a:P0,f= PU a/\((((⟨#[34]⟩:P0).size+a.size:Nat)):Int)<=9223372036854775807/\(((((⟨#[34]⟩:P0)++a).size+(⟨#[34]⟩:P0).size:Nat)):Int)<=9223372036854775807/\R (PU (((⟨#[34]⟩:P0)++a)++(⟨#[34]⟩:P0))) d
theorem Gi {h:ab} {R:VP} (s:P0) (H:S42 s h R):PJ 42 #[PU s] h R:=ba [] 8 [] [] [] [] Tryz.func42 PD PD H
def S20 (wP wordsA:PY) (wordsL wordsC:Nat) (h:ab) (R:VP):Prop:=let a:=fun(f:ab)=>(let c:=fun(t:ab)=>(∃b4 o4,wP=some ⟨b4,o4,none⟩/\PI 41 #[PW (some (⟨b4,o4,none⟩:Addr)),PR 10] t [] fun r j=>((r= .nilIface/\R (.tuple #[]) j)\/∃(v:Nat) (u:Value),r= .iface v u/\R (.tuple #[]) j));∃b3 o3,wP=some ⟨b3,o3,none⟩/\PI 40 #[PT wordsA wordsL wordsC,PU ⟨#[32]⟩] f [] fun B g=>∃l:P0,B= PU l/\Fr [] f g/\PI 38 #[PW (some (⟨b3,o3,none⟩:Addr)),PU l] g [] fun q i=>∃n:Int,((q= .tuple #[PN n,.nilIface]/\c i)\/∃(z:Nat) (x:Value),q= .tuple #[PN n,.iface z x]/\c i));∃b o,wP=some ⟨b,o,none⟩/\∃b2 o2,wP=some ⟨b2,o2,none⟩/\∃s:Int,ac h b2 (o2+2)=some (PN s)/\PI 39 #[PU ⟨#[32,32]⟩,PN s] h [] fun A d=>∃k:P0,A= PU k/\Fr [] h d/\PI 38 #[PW (some (⟨b,o,none⟩:Addr)),PU k] d [] fun p e=>∃m:Int,((p= .tuple #[PN m,.nilIface]/\a e)\/∃(y:Nat) (w:Value),p= .tuple #[PN m,.iface y w]/\a e)
theorem Gj {h:ab} {R:VP} (wP wordsA:PY) (wordsL wordsC:Nat) (H:S20 wP wordsA wordsL wordsC h R):PJ 20 #[PW wP,PT wordsA wordsL wordsC] h R:=ba [] 23 [] [] [] [(0,⟨8,false⟩),(1,⟨5,false⟩)] Tryz.func20 PD PD H
def S19 (wP:PY) (key:P0) (h:ab) (R:VP):Prop:=let d:ab:=h.push (.cells #[PU key,PU ⟨#[91]⟩] 9);PI 20 #[PW wP,PT (some (⟨h.size,0,none⟩:Addr)) 2 2] d [] fun g a=>g= .tuple #[]/\∃b o,wP=some ⟨b,o,none⟩/\∃c:Int,ac a b (o+2)=some (PN c)/\∃b2 o2,wP=some ⟨b2,o2,none⟩/\(∃f,ac a b2 (o2+2)=some f)/\aq a b2 (o2+2)=true/\let e:ab:=aj a b2 (o2+2) (PN (i64.wrap (c+1)));R (.tuple #[]) e
theorem Gk {h:ab} {R:VP} (wP:PY) (key:P0) (H:S19 wP key h R):PJ 19 #[PW wP,PU key] h R:=ba [] 15 [] [] [] [] Tryz.func19 PD PD H
def S24 (wP:PY) (h:ab) (R:VP):Prop:=∃b o,wP=some ⟨b,o,none⟩/\∃c:Int,ac h b (o+2)=some (PN c)/\∃b2 o2,wP=some ⟨b2,o2,none⟩/\(∃f,ac h b2 (o2+2)=some f)/\aq h b2 (o2+2)=true/\let a:ab:=aj h b2 (o2+2) (PN (i64.wrap (c-1)));let d:ab:=a.push (.cells #[PU ⟨#[93]⟩] 9);PI 20 #[PW wP,PT (some (⟨a.size,0,none⟩:Addr)) 1 1] d [] fun g e=>g= .tuple #[]/\R (.tuple #[]) e
theorem Gm {h:ab} {R:VP} (wP:PY) (H:S24 wP h R):PJ 24 #[PW wP] h R:=ba [] 12 [] [] [] [] Tryz.func24 PD PD H
def S21 (wP:PY) (d:Int) (dA:PY) (dL dC:Nat) (d2:Bool) (dA2:PY) (dL2 dC2:Nat) (dA3:PY) (dL3 dC3:Nat) (dA4:PY) (dL4 dC4:Nat) (v:Int) (h:ab) (R:VP):Prop:=let x:ab:=h.push (.cells #[PN d,PT dA dL dC,PV d2,PT dA2 dL2 dC2,PT dA3 dL3 dC3,PT dA4 dL4 dC4] 30);PI 19 #[PW wP,PU ⟨#[110,111,100,101]⟩] x [h.size] fun L D=>L= .tuple #[]/\PI 22 #[PN v] D [h.size] fun M m=>∃p:P0,M= PU p/\let E:ab:=m.push (.cells #[PU ⟨#[105,100]⟩,PU p] 9);PI 20 #[PW wP,PT (some (⟨m.size,0,none⟩:Addr)) 2 2] E [h.size] fun N e=>N= .tuple #[]/\∃a:LP,(cnd (decide ((dL2:Int)>(0:Int))) (∃b o,dA2=some ⟨b,o,none⟩/\0<=v/\v<(dL2:Nat)/\∃t:P0,ac e b (o+(Int.toNat v)*1)=some (PU t)/\PI 42 #[PU t] e [h.size] fun O n=>∃q:P0,O= PU q/\let F:ab:=n.push (.cells #[PU ⟨#[108,97,98,101,108]⟩,PU q] 9);PI 20 #[PW wP,PT (some (⟨n.size,0,none⟩:Addr)) 2 2] F [h.size] fun P G=>P= .tuple #[]/\a [] G) (a [] e))/\∀f,a [] f->∃c:LP,(cnd (decide ((dL3:Int)>(0:Int))) (PI 19 #[PW wP,PU ⟨#[103,114,97,112,104,105,99,115]⟩] f [h.size] fun Q g=>Q= .tuple #[]/\∃b2 o2,dA3=some ⟨b2,o2,none⟩/\0<=v/\v<(dL3:Nat)/\∃u:Nat,ac g b2 (o2+(Int.toNat v)*2)=some (PS u)/\PI 23 #[PS u] g [h.size] fun S i=>∃r:P0,S= PU r/\let y:ab:=i.push (.cells #[PU ⟨#[120]⟩,PU r] 9);PI 20 #[PW wP,PT (some (⟨i.size,0,none⟩:Addr)) 2 2] y [h.size] fun T j=>T= .tuple #[]/\∃b3 o3,dA3=some ⟨b3,o3,none⟩/\0<=v/\v<(dL3:Nat)/\∃w:Nat,ac j b3 ((o3+(Int.toNat v)*2)+1)=some (PS w)/\PI 23 #[PS w] j [h.size] fun H k=>∃s:P0,H= PU s/\let z:ab:=k.push (.cells #[PU ⟨#[121]⟩,PU s] 9);PI 20 #[PW wP,PT (some (⟨k.size,0,none⟩:Addr)) 2 2] z [h.size] fun I A=>I= .tuple #[]/\PI 24 #[PW wP] A [h.size] fun J B=>J= .tuple #[]/\c [] B) (c [] f))/\∀l,c [] l->PI 24 #[PW wP] l [] fun K C=>K= .tuple #[]/\R (.tuple #[]) C
theorem Gn {h:ab} {R:VP} (wP:PY) (d:Int) (dA:PY) (dL dC:Nat) (d2:Bool) (dA2:PY) (dL2 dC2:Nat) (dA3:PY) (dL3 dC3:Nat) (dA4:PY) (dL4 dC4:Nat) (v:Int) (H:S21 wP d dA dL dC d2 dA2 dL2 dC2 dA3 dL3 dC3 dA4 dL4 dC4 v h R):PJ 21 #[PW wP,.agg #[PN d,PT dA dL dC,PV d2,PT dA2 dL2 dC2,PT dA3 dL3 dC3,PT dA4 dL4 dC4],PN v] h R:=ba [4] 56 [] [(16,⟨[0,2,4],[],[4],[]⟩),(29,⟨[0],[],[],[]⟩)] [] [] Tryz.func21 PD PD H
def S7 (d:Int) (dA:PY) (dL dC:Nat) (d2:Bool) (dA2:PY) (dL2 dC2:Nat) (dA3:PY) (dL3 dC3:Nat) (dA4:PY) (dL4 dC4:Nat) (h:ab) (R:VP):Prop:=let J:ab:=h.push (.cells #[PN d,PT dA dL dC,PV d2,PT dA2 dL2 dC2,PT dA3 dL3 dC3,PT dA4 dL4 dC4] 30);PI 9 #[.agg #[PN d,PT dA dL dC,PV d2,PT dA2 dL2 dC2,PT dA3 dL3 dC3,PT dA4 dL4 dC4]] J [h.size] fun Y c=>∃C:Bool,Y= PV C/\cnd (!C) (R (.tuple #[PU ⟨#[]⟩,PN 1]) c) (let V:ab:=c.push (.cells #[PW none,PT none 0 0,PN 0] 66);PI 19 #[PW (some (⟨c.size,0,none⟩:Addr)),PU ⟨#[103,114,97,112,104]⟩] V [h.size] fun a5 y=>a5= .tuple #[]/\∃k:LP,(cnd d2 (k [PU ⟨#[49]⟩] y) (k [PU ⟨#[48]⟩] y))/\∀r:P0,∀n,k [PU r] n->let W:ab:=n.push (.cells #[PU ⟨#[100,105,114,101,99,116,101,100]⟩,PU r] 9);PI 20 #[PW (some (⟨c.size,0,none⟩:Addr)),PT (some (⟨n.size,0,none⟩:Addr)) 2 2] W [h.size] fun a6 X=>a6= .tuple #[]/\∃(i:LP) (A:List Value->ab->Nat),i [PN 0] X/\∀f:Int,∀g,i [PN f] g->cnd (decide (f<d)) (PI 21 #[PW (some (⟨c.size,0,none⟩:Addr)),.agg #[PN d,PT dA dL dC,PV d2,PT dA2 dL2 dC2,PT dA3 dL3 dC3,PT dA4 dL4 dC4],PN f] g [h.size] fun a7 z=>a7= .tuple #[]/\i [PN (i64.wrap (f+1))] z/\A [PN (i64.wrap (f+1))] z<A [PN f] g) (∃(j:LP) (B:List Value->ab->Nat),j [PN 0] g/\∀e:Int,∀a,j [PN e] a->cnd (decide (e<(dL:Int))) (∃b o,dA=some ⟨b,o,none⟩/\0<=e/\e<(dL:Nat)/\∃p:Int,ac a b (o+(Int.toNat e)*2)=some (PN p)/\∃q:Int,ac a b ((o+(Int.toNat e)*2)+1)=some (PN q)/\let K:ab:=a.push (.cells #[PN 0,PN 0] 70);let L:ab:=aj (aj K a.size 0 (PN p)) a.size (0+1) (PN q);PI 19 #[PW (some (⟨c.size,0,none⟩:Addr)),PU ⟨#[101,100,103,101]⟩] L [a.size,h.size] fun a8 M=>a8= .tuple #[]/\PI 22 #[PN p] M [a.size,h.size] fun a9 s=>∃D:P0,a9= PU D/\let N:ab:=s.push (.cells #[PU ⟨#[115,111,117,114,99,101]⟩,PU D] 9);PI 20 #[PW (some (⟨c.size,0,none⟩:Addr)),PT (some (⟨s.size,0,none⟩:Addr)) 2 2] N [a.size,h.size] fun b0 O=>b0= .tuple #[]/\PI 22 #[PN q] O [a.size,h.size] fun b1 t=>∃E:P0,b1= PU E/\let P:ab:=t.push (.cells #[PU ⟨#[116,97,114,103,101,116]⟩,PU E] 9);PI 20 #[PW (some (⟨c.size,0,none⟩:Addr)),PT (some (⟨t.size,0,none⟩:Addr)) 2 2] P [a.size,h.size] fun b3 m=>b3= .tuple #[]/\∃l:LP,(cnd (decide ((dL4:Int)>(0:Int))) (∃b2 o2,dA4=some ⟨b2,o2,none⟩/\0<=e/\e<(dL4:Nat)/\∃I:Nat,ac m b2 (o2+(Int.toNat e)*1)=some (PS I)/\PI 23 #[PS I] m [a.size,h.size] fun Z u=>∃F:P0,Z= PU F/\let Q:ab:=u.push (.cells #[PU ⟨#[119,101,105,103,104,116]⟩,PU F] 9);PI 20 #[PW (some (⟨c.size,0,none⟩:Addr)),PT (some (⟨u.size,0,none⟩:Addr)) 2 2] Q [a.size,h.size] fun a0 S=>a0= .tuple #[]/\l [] S) (l [] m))/\∀v,l [] v->PI 24 #[PW (some (⟨c.size,0,none⟩:Addr))] v [h.size] fun a1 w=>a1= .tuple #[]/\j [PN (i64.wrap (e+1))] w/\B [PN (i64.wrap (e+1))] w<B [PN e] a) (PI 24 #[PW (some (⟨c.size,0,none⟩:Addr))] a [h.size] fun a2 T=>a2= .tuple #[]/\PI 25 #[PW (some (⟨c.size,0,none⟩:Addr))] T [h.size] fun a3 x=>∃G:Int,a3= PN G/\cnd (decide (G>262144)) (R (.tuple #[PU ⟨#[]⟩,PN 23]) x) (PI 26 #[PW (some (⟨c.size,0,none⟩:Addr))] x [h.size] fun a4 U=>∃H:P0,a4= PU H/\R (.tuple #[PU H,PN 0]) U))))
theorem Jl {h:ab} {R:VP} (d:Int) (dA:PY) (dL dC:Nat) (d2:Bool) (dA2:PY) (dL2 dC2:Nat) (dA3:PY) (dL3 dC3:Nat) (dA4:PY) (dL4 dC4:Nat) (H:S7 d dA dL dC d2 dA2 dL2 dC2 dA3 dL3 dC3 dA4 dL4 dC4 h R):PJ 7 #[.agg #[PN d,PT dA dL dC,PV d2,PT dA2 dL2 dC2,PT dA3 dL3 dC3,PT dA4 dL4 dC4]] h R:=ba [1,8] 83 [(0,⟨[1,4,24],[25],[1],[]⟩),(2,⟨[1,4,35,36],[37],[1],[]⟩)] [(17,⟨[1,4],[5],[1],[]⟩),(59,⟨[1,4,35,36,37],[],[1],[]⟩)] [] [] Tryz.func7 PD PD H
open Go.Proofs
def bI (l:PZ):List Int:=l.map fun c=>((c.toNat:Nat):Int)
theorem BL (a b:PZ):bI (a++b)=bI a++bI b:=List.map_append
theorem I5 (a:PZ):(bI a).length=a.length:=Rg _
def pU (u:Bool) (b:Nat):Value:=if u=true then PW (some ⟨b,0,none⟩)else PW none
def wC (b:Nat) (u:Bool) (A:PY) (c d:Nat) (l:PZ):List Ck:=
 [Ck.ob b 66 [pU u b,PT A l.length c,PN (d:Int)],Ck.sl (eK .u8) 5 A l.length c (bI l)]
theorem z8 (b:Nat) (w:World) (h0:w.cell? ⟨b,0,none⟩=some (PW (some ⟨b,0,none⟩))):
  Calls Tryz.prog 57 #[PW (some ⟨b,0,none⟩)] w fun e w'=>e= .returned (.tuple #[])/\w'=w:=by
 obtain⟨j,hj,_⟩:=QS.1 (show(Tryz.prog.info? 64).map (·.size)=some 2 by kernel_rfl)
 have t70:Tryz.prog.underlying 61=some (.pointer 64):=by kernel_rfl
 go_enter Tryz.func57,Tryz.ntmps57
 go_wp2
 rw[Lib.run_neq_ptr_same w _ t70 hj]
 go_wp2
 go_end0
 exact⟨rfl,rfl⟩
theorem xe (b:Nat) (w:World) (h0:w.cell? ⟨b,0,none⟩=some (PW none)) (hsh:w.shape? b=some (66,3)) (hfz:w.frozen? ⟨b,0,none⟩=false):
  Calls Tryz.prog 57 #[PW (some ⟨b,0,none⟩)] w fun e w'=>e= .returned (.tuple #[])/\w'=w.setCell ⟨b,0,none⟩ (PW (some ⟨b,0,none⟩)):=by
 obtain⟨j,hj,hjs⟩:=QS.1 (show(Tryz.prog.info? 64).map (·.size)=some 2 by kernel_rfl)
 have t70:Tryz.prog.underlying 61=some (.pointer 64):=by kernel_rfl
 have t164:Tryz.prog.underlying 124=some .unsafePointer:=by kernel_rfl
 go_enter Tryz.func57,Tryz.ntmps57
 go_wp2
 rw[Lib.run_to_unsafe w ⟨b,0,none⟩ t70 t164 hj (by rw[hjs];decide) hsh (by show 0<3;decide)]
 simp only[Result.andThen]
 rw[Oper.upon_value]
 go_wp2
 rw[run_callFunc_extern Tryz.func80 PD PD PD (e:=Extern.AbiNoEscape.same) PD]
 rw[Lib.run_noEscape]
 simp only[Result.andThen]
 rw[Oper.upon_value]
 go_wp2
 rw[Lib.run_from_unsafe w ⟨b,0,none⟩ t164 t70 hj hsh PD]
 simp only[Result.andThen]
 rw[Oper.upon_value]
 go_wp2
 go_end0
 exact⟨rfl,rfl⟩
theorem rG {w:World} {g n:Nat}:(w.freeze ⟨g,0,none⟩ n).heap.size=w.heap.size/\(∀k,k≠g->(w.freeze ⟨g,0,none⟩ n).heap[k]? =w.heap[k]?)/\(w.freeze ⟨g,0,none⟩ n).os=w.os/\(w.freeze ⟨g,0,none⟩ n).output=w.output:=by
 unfold World.freeze
 split
 ·exact⟨rfl,fun _ _=>rfl,rfl,rfl⟩
 ·refine⟨Array.size_modify,fun k hk=>?_,rfl,rfl⟩
  show(w.heap.modify g _)[k]? =_
  rw[Array.getElem?_modify,if_neg (Ne.symm hk)]
theorem Aa {w:World} {g n:Nat}:Fr [g] w.heap (w.drew.freeze ⟨g,0,none⟩ n).heap:=by
 obtain⟨h1,h2,_⟩:=rG (w:=w.drew) (g:=g) (n:=n)
 exact⟨Nat.le_of_eq h1.symm,fun k hk hkg=>h2 k (by simpa using hkg)⟩
theorem uU {w:World} {g n:Nat}:Go.X.Rest w (w.drew.freeze ⟨g,0,none⟩ n):=by
 obtain⟨h1,_,h3,h4⟩:=rG (w:=w.drew) (g:=g) (n:=n)
 have ht:(w.drew.freeze ⟨g,0,none⟩ n).tape=w.tape:=by unfold World.freeze;split<;>rfl
 exact⟨h3,ht,h4,Nat.le_of_eq h1.symm⟩
theorem Lz {b g cap:Nat} {p dv:Value} {l:PZ} {cur:Array Value} (w:World) (h0:l≠[]) (hb:w.heap[b]? =some (.cells #[p,PT (some ⟨g,0,none⟩) l.length cap,dv] 66 (0,0)))
  (hg:Blk w.heap g 5 cur) (hnc:l.length<=cap) (hcm:cap<=maxLen) (hcs:cap*1<=cur.size) (ht:cur.toList.take (l.length*1)=(eK .u8).l (bI l)):
  Calls Tryz.prog 26 #[PW (some ⟨b,0,none⟩)] w fun e w'=>e= .returned (PU ⟨l.toArray⟩)/\Go.X.Rest w w'/\Fr [g] w.heap w'.heap:=by
 have hl0:l.length≠0:=by simpa using h0
 have t127:Tryz.prog.underlying 98=some (.pointer 5):=by kernel_rfl
 have cB:Tryz.prog.cellsOf 5=1:=by kernel_rfl
 obtain⟨f,hgc,_⟩:=hg
 have hgc:w.heap[g]? =some (.cells cur 5 f):=hgc
 have c1:w.drew.cell? ⟨b,1,none⟩=some (PT (some ⟨g,0,none⟩) l.length cap):=by
  have:w.drew.heap[b]? =some (.cells #[p,PT (some ⟨g,0,none⟩) l.length cap,dv] 66 (0,0)):=hb
  rw[Lib.cell_of_heap this];rfl
 have hSD:(Builtin.unsafeSliceData_ #[62] 98 #[PT (some ⟨g,0,none⟩) l.length cap]).run Tryz.prog w.drew= .ok (PW (some ⟨g,0,none⟩)) w.drew:=
  Lib.run_unsafeSliceData_row _ _ _ _ _ _ PA
 have hUS:(Builtin.unsafeString_ #[98,3] 9 #[PW (some ⟨g,0,none⟩),PN l.length]).run Tryz.prog w.drew= .ok (PU ⟨l.toArray⟩) (w.drew.freeze ⟨g,0,none⟩ l.length):=by
  refine Lib.run_unsafeString_row w.drew 98 3 9 5 t127 cB g cur.size (by have hg':w.drew.heap[g]? =some (.cells cur 5 f):=hgc;simp[World.shape?,hg']) l h0 PA (by unfold maxLen at hcm;omega) ?_
  intro j x hx
  have hg':w.drew.heap[g]? =some (.cells cur 5 f):=hgc
  have hj:j<l.length:=(List.getElem?_eq_some_iff.1 hx).1
  have e1:(cur.toList.take (l.length*1))[j]? =some (PR x.toNat):=by
   rw[ht,wG,bI,List.map_map,List.getElem?_map,hx];rfl
  rw[List.getElem?_take,if_pos PA]at e1
  have ea:((⟨g,0,none⟩:Addr).add j)=⟨g,0+j,none⟩:=by simp[Addr.add];omega
  rw[ea,bz]
  unfold ac
  rw[hg',Qu];simpa using e1
 have fz:=Aa (w:=w) (g:=g) (n:=l.length)
 have rz:=uU (w:=w) (g:=g) (n:=l.length)
 have mixed:Tryz.prog.follows .mixedOrders=true:=by kernel_rfl
 go_enter Tryz.func26,Tryz.ntmps26
 go_wp2
 go_region_o
 all_goals (go_wp2;go_ret;exact⟨rfl,rz,fz⟩)
end Go.Proofs.YtmmmmjcfojhiaaaGreatDoor.N
namespace Go.Proofs.YtmmmmjcfojhiaaaGreatDoor.G
def aO (ls:List PZ):PZ:=ls.flatMap fun l=>l++[10]
def wr (tx:Nat->PZ) (d:Dc):PZ:=aO (wK tx d)
theorem cg (l:PZ) (ls:List PZ):aO (l::ls)=l++(10::aO ls):=by simp[aO]
theorem dX (a b:List PZ):aO (a++b)=aO a++aO b:=by simp[aO]
theorem uP :∀ls:List PZ,Sp ls (aO ls)
 | []=>.nil
 | l::ls=>by
  rw[cg]
  exact Sp.cons (w:=[10]) (.blank rfl .nil) ⟨10,[],rfl,rfl⟩ (uP ls)
end Go.Proofs.YtmmmmjcfojhiaaaGreatDoor.G
namespace Go.Proofs.YtmmmmjcfojhiaaaGreatDoor.N
open Go.Proofs.YtmmmmjcfojhiaaaGreatDoor
open Go.X
open Go.Proofs
theorem H5 {h0 h:ab} {M:List Nat} {cs:List Ck} (Y:Sy h0 M h cs) (k:Nat) {c:Ck} (hk:cs[k]? =some c):∀x∈c.own,x<h.size:=(c.lt h (Y.ok hk)).1
section
variable {b c d:Nat} {u:Bool} {A:PY} {l:PZ} {h:ab}
theorem LL (H:Hp h (wC b u A c d l)):PJ 57 #[PW (some ⟨b,0,none⟩)] h fun v h'=>v= .tuple #[]/\Sq h (wC b u A c d l) h' (wC b true A c d l):=by
 intro w hw
 subst hw
 have hb:w.heap[b]? =some (.cells #[pU u b,PT A l.length c,PN (d:Int)] 66 (0,0)):=H.ok 0 _ rfl
 cases u with
 | true=>
  have h0:w.cell? ⟨b,0,none⟩=some (PW (some ⟨b,0,none⟩)):=by rw[bz,bs hb];rfl
  refine(z8 b w h0).mono fun e w' r=>?_
  grind [Rest.refl,Sq.start]
 | false=>
  have h0:w.cell? ⟨b,0,none⟩=some (PW none):=by rw[bz,bs hb];rfl
  have hsh:w.shape? b=some (66,3):=by simp[World.shape?,hb]
  have hfz:w.frozen? ⟨b,0,none⟩=false:=by simp[World.frozen?,hb]
  refine(xe b w h0 hsh hfz).mono fun e w' r=>?_
  obtain⟨rfl,rfl⟩:=r
  refine⟨_,rfl,Rest.setCell _ _ _,rfl,?_⟩
  rw[heap_setCell]
  exact⟨(Sy.start H).stO 0 rfl 0 (PW (some ⟨b,0,none⟩)),fun x hx=>by simp[rds,wC,Ck.ob,Ck.sl]at hx⟩
theorem LM {c' d':Nat} {u':Bool} {A':PY} {l':PZ}:rds (wC b u' A' c' d' l')=[]:=rfl
theorem LN {s:P0} (H:Hp h (wC b u A c d l)) (hs:l.length+s.size<=100000000):PJ 38 #[PW (some ⟨b,0,none⟩),PU s] h fun v h'=>v= .tuple #[PN (s.size:Int),.nilIface]/\
  ∃A' c',Sq h (wC b u A c d l) h' (wC b true A' c' d (l++s.data.toList)):=by
 apply Gg
 unfold S38
 refine ak (ao (wC b u A c d l)) (LL H) PC (fun _ _ r=>r.2.fr) fun v h1 r=>?_
 obtain⟨rfl,Q⟩:=r
 have Y:=Q.sy
 refine⟨rfl,b,0,rfl,A,l.length,c,Y.cellO 0 rfl 1 rfl,(eK .u8).l (bI l),(Y.ownS 1 rfl),PC,PA,by unfold maxLen;omega,?_⟩
 intro sA sC h2 ow f g _
 have e:Lib.strCells s=(eK .u8).l (bI s.data.toList):=(mA s).symm
 rw[e]at ow
 have Y1:=Y.appS 1 rfl (bI s.data.toList) ow f g rfl (by rw[I5];rfl)
 refine⟨b,0,rfl,⟨_,Y1.cellO 0 rfl 1 rfl⟩,Y1.freeO 0 rfl 1,rfl,sA,sC,?_,fun x hx=>by rw[LM]at hx;cases hx⟩
 have Y2:=Y1.stO 0 rfl 1 (PT sA (l.length+s.size) sC)
 have el:(l++s.data.toList).length=l.length+s.size:=P9
 unfold wC
 rw[el,BL]
 exact Y2
theorem O2 {x:UInt8} (H:Hp h (wC b u A c d l)) (hs:l.length<=100000000):PJ 41 #[PW (some ⟨b,0,none⟩),PR ((x.toNat:Nat):Int)] h fun v h'=>v= .nilIface/\
  ∃A' c',Sq h (wC b u A c d l) h' (wC b true A' c' d (l++[x])):=by
 apply Gh
 unfold S41
 refine ak (ao (wC b u A c d l)) (LL H) PC (fun _ _ r=>r.2.fr) fun v h1 r=>?_
 obtain⟨rfl,Q⟩:=r
 have Y:=Q.sy
 refine⟨rfl,b,0,rfl,A,l.length,c,Y.cellO 0 rfl 1 rfl,?_⟩
 intro h2
 have Y1:Sy h _ h2 (wC b true A c d l):=Y.gr (Fr.push h1 _)
 have hbl:b<h1.size:=H5 Y 0 rfl b (by simp[Ck.ob])
 have hbA:∀y∈ai A,y<h1.size:=H5 Y 1 rfl
 refine⟨(eK .u8).l (bI l),Y1.ownS 1 rfl,fun y hy=>?_,PA,by unfold maxLen;omega,?_⟩
 ·grind
 intro sA sC h3 ow f g _
 have Y2:=Y1.appS 1 rfl (bI [x]) ow f g rfl rfl
 refine⟨b,0,rfl,PA,⟨_,Y2.cellO 0 rfl 1 rfl⟩,Y2.freeO 0 rfl 1,rfl,sA,sC,?_,fun x hx=>by rw[LM]at hx;cases hx⟩
 have Y3:=Y2.stO 0 rfl 1 (PT sA (l.length+1) sC)
 grind [wC,BL]
theorem O3 (H:Hp h (wC b u A c d l)):PJ 25 #[PW (some ⟨b,0,none⟩)] h fun v h'=>v= PN (l.length:Int)/\h'=h:=by
 apply Gf
 unfold S25
 exact⟨b,0,rfl,A,l.length,c,(Sy.start H).cellO 0 rfl 1 rfl,rfl,rfl⟩
theorem O4 (H:Hp h (wC b u A c d l)) (h0:l≠[]):PJ 26 #[PW (some ⟨b,0,none⟩)] h fun v h'=>v= PU (G.mkB l)/\Fr (ao (wC b u A c d l)) h h':=by
 intro w hw
 subst hw
 have hb:w.heap[b]? =some (.cells #[pU u b,PT A l.length c,PN (d:Int)] 66 (0,0)):=H.ok 0 _ rfl
 obtain⟨⟨o1,o2⟩,_⟩:aw w.heap 5 1 A l.length c ((eK .u8).l (bI l))/\_:=H.ok 1 _ rfl
 have hl0:l.length≠0:=by simpa using h0
 rcases o2 with⟨_,q,_⟩ | ⟨g,cur,rfl,q1,q2,q3,q4,q5⟩
 ·omega
 refine(Lz w h0 hb q1 q2 q3 q4 q5).mono fun e w' ⟨r1,r2,r3⟩=>⟨_,r1,r2,rfl,r3.mono fun x hx=>?_⟩
 grind [ao,wC,Ck.sl,ai]
theorem O5 (n:Nat):Lib.repeatL [32,32] n=G.ind (2*n):=by
 induction n with
 | zero=>rfl
 | succ n ih=>
  have:Lib.repeatL [32,32] (n+1)=32::32::Lib.repeatL [32,32] n:=rfl
  rw[this,ih,show 2*(n+1)=2*n+1+1 by omega];rfl
def wds (ws:List ByteArray):List Value:=ws.map Value.string
def jn (ws:List ByteArray):PZ:=Lib.join (ws.map (·.data.toList)) [32]
def lnB (d:Nat) (ws:List ByteArray):PZ:=G.ind (2*d)++(jn ws++[10])
theorem I8 {p:Nat} {ws:List ByteArray} (H:Hp h (wC b u A c d l++[Ck.ob p 9 (wds ws)])) (hd:d<=100) (hl:l.length<=90000000) (hw:ws.length<=100/\(jn ws).length<=1000000):
  PJ 20 #[PW (some ⟨b,0,none⟩),PT (some ⟨p,0,none⟩) ws.length ws.length] h fun v h'=>v= .tuple #[]/\
   ∃A' c',Sq h (wC b u A c d l++[Ck.ob p 9 (wds ws)]) h' (wC b true A' c' d (l++lnB d ws)++[Ck.ob p 9 (wds ws)]):=by
 apply Gj
 unfold S20
 intro K
 have Q:=Sq.start H
 refine⟨b,0,rfl,b,0,rfl,(d:Int),Q.sy.cellO 0 rfl 2 rfl,?_⟩
 refine ak (R:=fun v h'=>v= PU (G.mkB (G.ind (2*d)))/\Fr [] h h') [] ?_ PC (fun _ _ r=>r.2) ?_
 ·refine gk (fun w hw=>Go.Proofs.Tryz.strings_Repeat (⟨#[32,32]⟩:P0) d w PA (by show 2*d<=_;omega)) fun h' f=>⟨?_,f⟩
  show PU ⟨(Lib.repeatL [32,32] d).toArray⟩=_
  rw[O5];rfl
 rintro v h1 ⟨rfl,f1⟩
 refine⟨_,rfl,f1,?_⟩
 have Q1:=Q.gr f1
 refine ak (ao (wC b u A c d l)) (LN (u:=u) (A:=A) (c:=c) (d:=d) (l:=l) (Q1.pick [0,1] rfl).hp (by show l.length+(List.replicate (2*d) (32:UInt8)).toArray.size<=_;simp;omega)) PC (fun _ _ r=>r.2.choose_spec.choose_spec.fr) ?_
 rintro v h2 ⟨rfl,A2,c2,q2⟩
 have Q2:Sq h (wC b u A c d l++[Ck.ob p 9 (wds ws)]) h2 (wC b true A2 c2 d (l++G.ind (2*d))++[Ck.ob p 9 (wds ws)]):=Sq.call Q1 q2
 refine⟨_,.inl ⟨rfl,?_⟩⟩
 show K h2
 dsimp-zeta only[K]
 intro K2
 refine⟨b,0,rfl,?_⟩
 have hp2:h2[p]? =some (.cells (wds ws).toArray 9 (0,0)):=Q2.sy.ok (k:=2) (c:=Ck.ob p 9 (wds ws)) rfl
 refine ak (R:=fun v h'=>v= PU (G.mkB (jn ws))/\Fr [] h2 h') [] ?_ PC (fun _ _ r=>r.2) ?_
 ·refine gk (fun w hw'=>Go.Proofs.Tryz.strings_Join p 0 ws.length ws (⟨#[32]⟩:P0) w (fun j x hx=>?_) ?_ PA (P3 _) (by grind [jn])) fun h' f=>⟨rfl,f⟩
  ·subst hw'
   rw[bz,bs hp2,Qu]
   simp[wds,hx]
  grind
 rintro v h3 ⟨rfl,f3⟩
 refine⟨_,rfl,f3,?_⟩
 have Q3:=Q2.gr f3
 have e1:(l++G.ind (2*d)).length=l.length+2*d:=by simp[G.ind]
 refine ak (ao (wC b true A2 c2 d (l++G.ind (2*d)))) (LN (u:=true) (A:=A2) (c:=c2) (d:=d) (l:=l++G.ind (2*d)) (Q3.pick [0,1] rfl).hp (by rw[e1];show l.length+2*d+(jn ws).toArray.size<=_;grind)) PC (fun _ _ r=>r.2.choose_spec.choose_spec.fr) ?_
 rintro v h4 ⟨rfl,A4,c4,q4⟩
 have Q4:Sq h (wC b u A c d l++[Ck.ob p 9 (wds ws)]) h4 (wC b true A4 c4 d (l++G.ind (2*d)++jn ws)++[Ck.ob p 9 (wds ws)]):=Sq.call Q3 q4
 refine⟨_,.inl ⟨rfl,?_⟩⟩
 show K2 h4
 dsimp-zeta only[K2]
 refine⟨b,0,rfl,?_⟩
 have e2:(l++G.ind (2*d)++jn ws).length=l.length+2*d+(jn ws).length:=by grind
 refine ak (ao (wC b true A4 c4 d (l++G.ind (2*d)++jn ws))) (O2 (x:=10) (u:=true) (A:=A4) (c:=c4) (d:=d) (l:=l++G.ind (2*d)++jn ws) (Q4.pick [0,1] rfl).hp PA) PC (fun _ _ r=>r.2.choose_spec.choose_spec.fr) ?_
 rintro v h5 ⟨rfl,A5,c5,q5⟩
 refine .inl ⟨rfl,rfl,A5,c5,?_⟩
 grind [Sq.call,lnB]
theorem O6 {k:P0} (H:Hp h (wC b u A c d l)) (hd:d<=99) (hl:l.length<=90000000) (hk:k.size<=1000):PJ 19 #[PW (some ⟨b,0,none⟩),PU k] h fun v h'=>v= .tuple #[]/\
  ∃A' c',Sq h (wC b u A c d l) h' (wC b true A' c' (d+1) (l++lnB d [k,⟨#[91]⟩])):=by
 apply Gk
 unfold S19
 intro h1
 have Y:Sy h (ao (wC b u A c d l)) h1 (wC b u A c d l++[Ck.ob h.size 9 (wds [k,⟨#[91]⟩])]):=Sy.newO (Sy.start H) _
 have hj:(jn [k,⟨#[91]⟩]).length<=1000000:=by
  have:k.data.toList.length=k.size:=rfl
  simp[jn,Lib.join];omega
 refine ak (ao (wC b u A c d l++[Ck.ob h.size 9 (wds [k,⟨#[91]⟩])])) (I8 (ws:=[k,⟨#[91]⟩]) Y.hp PA hl ⟨PC,hj⟩) PC (fun _ _ r=>r.2.choose_spec.choose_spec.fr) ?_
 rintro v h2 ⟨rfl,A2,c2,q2⟩
 have Z:Sq h (wC b u A c d l) h1 (wC b u A c d l++[Ck.ob h.size 9 (wds [k,⟨#[91]⟩])]):=⟨Y,fun x hx=>by simp[rds,wC,Ck.ob,Ck.sl]at hx⟩
 have Q2:=Z.callT q2
 refine⟨rfl,b,0,rfl,(d:Int),Q2.sy.cellO 0 rfl 2 rfl,b,0,rfl,⟨_,Q2.sy.cellO 0 rfl 2 rfl⟩,Q2.sy.freeO 0 rfl 2,rfl,A2,c2,?_⟩
 have Y3:=Q2.sy.stO 0 rfl 2 (PN ((d+1:Nat):Int))
 rw[show i64.wrap ((d:Int)+1)=((d+1:Nat):Int) by rw[wr PA PA];omega]
 exact⟨Y3.pick [0,1] rfl,fun x hx=>by simp[rds,pk,wC,Ck.ob,Ck.sl]at hx⟩
theorem O7 (H:Hp h (wC b u A c (d+1) l)) (hd:d<=99) (hl:l.length<=90000000):PJ 24 #[PW (some ⟨b,0,none⟩)] h fun v h'=>v= .tuple #[]/\
  ∃A' c',Sq h (wC b u A c (d+1) l) h' (wC b true A' c' d (l++lnB d [⟨#[93]⟩])):=by
 apply Gm
 unfold S24
 have Y:=Sy.start H
 refine⟨b,0,rfl,((d+1:Nat):Int),Y.cellO 0 rfl 2 rfl,b,0,rfl,⟨_,Y.cellO 0 rfl 2 rfl⟩,Y.freeO 0 rfl 2,?_⟩
 rw[show i64.wrap (((d+1:Nat):Int)-1)=(d:Int) by rw[wr PA PA];omega]
 intro h1 h2
 have Y1:Sy h (ao (wC b u A c (d+1) l)) h1 (wC b u A c d l):=Y.stO 0 rfl 2 (PN (d:Int))
 have Y2:Sy h (ao (wC b u A c (d+1) l)) h2 (wC b u A c d l++[Ck.ob h1.size 9 (wds [⟨#[93]⟩])]):=Sy.newO Y1 _
 refine ak (ao (wC b u A c d l++[Ck.ob h1.size 9 (wds [⟨#[93]⟩])])) (I8 (ws:=[⟨#[93]⟩]) Y2.hp PA hl ⟨PC,by simp[jn,Lib.join]⟩) PC (fun _ _ r=>r.2.choose_spec.choose_spec.fr) ?_
 rintro v h3 ⟨rfl,A2,c2,q2⟩
 have Z:Sq h (wC b u A c (d+1) l) h2 (wC b u A c d l++[Ck.ob h1.size 9 (wds [⟨#[93]⟩])]):=⟨Y2,fun x hx=>by simp[rds,wC,Ck.ob,Ck.sl]at hx⟩
 have Q2:=Z.callT q2
 exact⟨rfl,rfl,A2,c2,Q2.pick [0,1] rfl⟩
end
def mK (c:UInt8) (nw:PZ) (x:UInt8):PZ:=if x=c then nw else [x]
theorem lA (c:UInt8) (nw:PZ):∀s:PZ,Lib.replaceK [c] nw (Lib.count s [c]) s=s.flatMap (mK c nw)
 | []=>by rw[Lib.count_miss (by simp[Lib.index])];rfl
 | b::l=>by
  have ih:=lA c nw l
  by_cases h:b=c
  ·subst h
   have hix:Lib.index (b::l) [b]=((0:Nat):Int):=by rw[Lib.index];simp[List.isPrefixOf]
   rw[Lib.count_cons_eq,Nat.add_comm,Lib.replaceK_hit _ _ _ _ 0 hix]
   show []++nw++Lib.replaceK [b] nw (Lib.count l [b]) l=_
   rw[ih,QM]
   simp[mK]
  ·rw[Lib.count_cons_ne b c l h,QM]
   have e1:mK c nw b=[b]:=by unfold mK;rw[if_neg h]
   rw[e1,<-ih]
   have hp:([c]:PZ).isPrefixOf (b::l)=false:=by simp[List.isPrefixOf,Ne.symm h]
   have hix:Lib.index (b::l) [c]=if Lib.index l [c]== -1 then-1 else Lib.index l [c]+1:=by rw[Lib.index,hp];simp
   cases hk:Lib.count l [c]with
   | zero=>rfl
   | succ k=>
    obtain⟨i,hi⟩:=Lib.index_of_count (s:=l) (old:=[c]) PA
    have hix':Lib.index (b::l) [c]=((i+1:Nat):Int):=by
     rw[hix,if_neg (fun e=>by have:=beq_iff_eq.1 e;omega),hi];omega
    rw[Lib.replaceK_hit _ _ _ _ _ hix',Lib.replaceK_hit _ _ _ _ _ hi]
    rfl
theorem pd (c:UInt8) (nw s:PZ) (h: [c]≠nw):Lib.replaceAll s [c] nw=s.flatMap (mK c nw):=by
 unfold Lib.replaceAll Lib.replace
 rw[if_neg (by simpa using h)]
 have:Lib.replaceNum s [c] (-1)=Lib.count s [c]:=by unfold Lib.replaceNum;rw[if_pos (.inl PB)]
 rw[this,lA]
theorem FD (l:PZ):(l.flatMap (mK 38 [38,97,109,112,59])).flatMap (mK 34 [38,113,117,111,116,59])=G.enc l:=by
 unfold G.enc
 rw[List.flatMap_assoc]
 congr 1
 funext x
 unfold mK G.uF
 by_cases h1:x=38
 ·subst h1;decide
 ·rw[if_neg h1,if_neg h1]
  simp only[QM,List.flatMap_nil,QZ]
  rfl
theorem pf (f:UInt8->PZ) (k:Nat) (hf:∀x,(f x).length<=k):∀l:PZ,(l.flatMap f).length<=k*l.length
 | []=>by simp
 | x::l=>by
  rw[QM,P9,Qk,Nat.mul_succ]
  have:=pf f k hf l;have:=hf x;omega
theorem yG (l:PZ):(G.enc l).length<=6*l.length:=by
 refine pf _ 6 (fun x=>?_) l
 unfold G.uF;split
 ·simp[G.amp]
 ·split<;>simp[G.wV]
theorem FE (l:PZ):(l.flatMap (mK 38 [38,97,109,112,59])).length<=5*l.length:=by
 refine pf _ 5 (fun x=>?_) l
 unfold mK;split<;>simp
theorem LG {s:P0} {c:UInt8} {nw:PZ} {gl:GL} {h:ab} (g:Gl gl h) (hs:s.size<=1000000) (hn:nw.length<=10) (hne: [c]≠nw):
  PJ 61 #[PU s,PU ⟨#[c]⟩,PU (G.mkB nw)] h fun v h'=>v= PU (G.mkB (s.data.toList.flatMap (mK c nw)))/\Fr [] h h':=by
 obtain⟨m,hm⟩:=g.ml
 refine gk (fun w hw=>Go.Proofs.Tryz.strings_ReplaceAll s (⟨#[c]⟩:P0) (G.mkB nw) m w PA ?_ (by show 1<=1;omega) ?_) fun h' f=>⟨?_,f⟩
 ·subst hw;rw[bz];exact hm
 ·have h1:=Lib.countB_le (⟨#[c]⟩:P0) (by show 1<=1;omega) s.size s (P3 _)
  have h2:(G.mkB nw).size=nw.length:=by simp[G.mkB,ByteArray.size]
  rw[h2]
  have:=RN h1 hn
  omega
 ·have e:(⟨#[c]⟩:P0).data.toList=[c]:=rfl
  have e2:(G.mkB nw).data.toList=nw:=by simp[G.mkB]
  rw[e,e2,pd c nw _ hne];rfl
theorem O1 {s:P0} {gl:GL} {h:ab} (g:Gl gl h) (hs:s.size<=100000):PJ 42 #[PU s] h fun v h'=>v= PU (G.mkB (G.quo s.data.toList))/\Fr [] h h':=by
 apply Gi
 unfold S42
 refine ak (R:=fun v h'=>v= PU (G.mkB (s.data.toList.flatMap (mK 38 [38,97,109,112,59])))/\Fr [] h h') [] (LG (c:=38) (nw:=[38,97,109,112,59]) g PA PB PB) PC (fun _ _ r=>r.2) ?_
 rintro v h1 ⟨rfl,f1⟩
 have hs0:s.data.toList.length=s.size:=rfl
 have e1:=FE s.data.toList
 have sz:∀l:PZ,(G.mkB l).size=l.length:=fun l=>by simp[G.mkB,ByteArray.size]
 have dt:∀l:PZ,(G.mkB l).data.toList=l:=fun l=>by simp[G.mkB]
 refine⟨_,rfl,?_⟩
 refine ak [] (LG (s:=G.mkB (s.data.toList.flatMap (mK 38 [38,97,109,112,59]))) (c:=34) (nw:=[38,113,117,111,116,59]) (gl:=gl) (g.fr f1 PC) (by rw[sz];omega) PB PB) PC (fun _ _ r=>r.2) ?_
 rintro v h2 ⟨rfl,f2⟩
 rw[dt,FD]
 have e3:=yG s.data.toList
 refine⟨_,rfl,?_,?_,?_,f1.trans f2⟩
 ·rw[sz];show((1+_:Nat):Int)<=_;omega
 ·rw[ByteArray.size_append,sz];show((1+_+1:Nat):Int)<=_;omega
 ·congr 1
theorem Fm (l:List (Value × Value)) (j:Nat) (k v:Value):(Ent l).modify j (fun e=>{e with key:=k,val:=v})=Ent (l.modify j fun _=>(k,v)):=by
 refine E4 fun i=>?_
 rw[Array.getElem?_modify,gi,List.getElem?_modify]
 by_cases q:j=i
 ·subst q;cases l[j]? <;>simp
 ·cases l[i]? <;>simp[q]
theorem Bw (b:P0):G.mkB b.data.toList=b:=by
 cases b;simp[G.mkB]
theorem jx {l:PZ} {b:P0}:(PU (G.mkB l)=PU b) ↔ l=b.data.toList:=by
 constructor
 ·intro e
  injection e with e
  rw[<-e];simp[G.mkB]
 ·rintro rfl;rw[Bw]
theorem mH {ks:List PZ} {j:Nat} {p:Value × Value} (h:(ek ks)[j]? =some p):∃k,ks[j]? =some k/\p=(PU (G.mkB k),PN 1):=by
 unfold ek at h
 rw[List.getElem?_map]at h
 cases e:ks[j]? with
 | none=>rw[e]at h;cases h
 | some k=>rw[e]at h;exact⟨k,rfl,(Option.some.inj h).symm⟩
theorem lm (ks:List PZ):fw kB (Ent (ek ks)):=by
 intro e he
 obtain⟨j,p,h1,rfl⟩:=gj he
 obtain⟨k,_,rfl⟩:=mH h1
 rfl
theorem zZ {h:ab} {m:Nat} {x:Array MapEntry × Nat} (hm:cI h m=some x) (o:Obj):cI (h.push o) m=some x:=by
 obtain⟨es,c⟩:=x
 have:=bW hm
 have hl:=(Array.getElem?_eq_some_iff.1 this).1
 exact mh (by rw[Array.getElem?_push,if_neg PA];exact this)
theorem iW {h:ab} {m:Nat} {x:Array MapEntry × Nat} (hm:cI h m=some x):m<h.size:=by
 obtain⟨es,c⟩:=x
 exact(Array.getElem?_eq_some_iff.1 (bW hm)).1
theorem Lo {t:G.Tok} {h:ab} {m:Nat} {ks:List PZ} (hm:cI h m=some (Ent (ek ks),(ek ks).length)) (hn:ks.Nodup):
  PM 74 #[.map (some m),cQ t] h (fun v h'=>t.l∉ks/\v= .tuple #[]/\Fr [m] h h'/\cI h' m=some (Ent (ek (ks++[t.l])),(ek (ks++[t.l])).length))
   (fun v h'=>t.l∈ks/\v=flt (t.at_,18)/\Fr [m] h h'):=by
 unfold cQ
 apply FY
 unfold S74
 intro hv K
 have ml:=iW hm
 have hm1:cI hv m=some (Ent (ek ks),(ek ks).length):=zZ hm _
 have f1:Fr [m] h hv:=(Fr.push h _).nil
 have e1:hv.size=h.size+1:=by simp[hv]
 clear_value hv
 have none:∀{h1:ab},Fr [m] h h1->cI h1 m=some (Ent (ek ks),(ek ks).length)->t.l∉ks->K (cJ h1 m ((Ent (ek ks)).push ⟨PU t.says,PN 1,(ek ks).length⟩) ((ek ks).length+1)):=by
  intro h1 f hmm hni
  have e:(Ent (ek ks)).push ⟨PU t.says,PN 1,(ek ks).length⟩=Ent (ek (ks++[t.l])):=by
   rw[uG];simp[ek,G.Tok.l,Bw]
  have el:(ek ks).length+1=(ek (ks++[t.l])).length:=by simp[ek]
  rw[e,el]
  have hp:=mF (iW hmm) (Ent (ek (ks++[t.l]))) (ek (ks++[t.l])).length
  refine⟨m,rfl,_,_,hp,lm _,fun ev he hk=>?_,fun q=>?_⟩
  ·obtain⟨j,p,h3,rfl⟩:=gj he
   obtain⟨k,_,rfl⟩:=mH h3
   exact⟨1,rfl,aF (fun _=>⟨rfl,hni,rfl,f.trans (oA _ _ _ _),hp⟩) fun z=>absurd z PB⟩
  ·exfalso
   refine q ⟨PU (G.mkB t.l),PN 1,ks.length⟩ ?_ (jx.2 rfl)
   refine Si.1 (Rt (i:=ks.length) ?_)
   rw[gi]
   simp[ek]
 have some:∀{h1:ab} {j:Nat},Fr [m] h h1->cI h1 m=some (Ent (ek ks),(ek ks).length)->ks[j]? =some t.l->K (cJ h1 m ((Ent (ek ks)).modify j fun e=>{e with key:=PU t.says,val:=PN 2}) (ek ks).length):=by
  intro h1 j f hmm hj
  rw[Fm]
  have hp:=mF (iW hmm) (Ent ((ek ks).modify j fun _=>(PU t.says,PN 2))) (ek ks).length
  have at_:∀{i:Nat} {p:Value × Value},((ek ks).modify j fun _=>(PU t.says,PN 2))[i]? =Option.some p->(i=j/\p=(PU t.says,PN 2))\/(i≠j/\∃k,ks[i]? =Option.some k/\p=(PU (G.mkB k),PN 1)):=by
   intro i p hp
   rw[List.getElem?_modify]at hp
   by_cases q:j=i
   ·subst q
    cases e:(ek ks)[j]? with
    | none=>rw[e]at hp;simp at hp
    | some y=>rw[e]at hp;simp at hp;exact .inl ⟨rfl,hp.symm⟩
   ·cases e:(ek ks)[i]? with
    | none=>rw[e]at hp;simp at hp
    | some y=>
     rw[e]at hp
     simp only[if_neg q,Option.map_eq_map,QL,id_eq,Option.some.injEq]at hp
     subst hp
     obtain⟨k,h3,h4⟩:=mH e
     exact .inr ⟨fun z=>q z.symm,k,h3,h4⟩
  refine⟨m,rfl,_,_,hp,?_,fun ev he hk=>?_,fun q=>?_⟩
  ·intro e he
   obtain⟨i,p,h1,rfl⟩:=gj he
   rcases at_ h1 with⟨_,rfl⟩ | ⟨_,k,_,rfl⟩<;>rfl
  ·obtain⟨i,p,h3,rfl⟩:=gj he
   rcases at_ h3 with⟨_,rfl⟩ | ⟨q,k,h4,rfl⟩
   ·exact⟨2,rfl,aF (fun z=>absurd z PB) fun _=>⟨Qa hj,rfl,f.trans (oA _ _ _ _)⟩⟩
   ·exfalso
    have:k=t.l:=jx.1 hk
    subst this
    exact q (sP hn h4 hj)
  ·exfalso
   refine q ⟨PU t.says,PN 2,j⟩ (Si.1 (Rt (i:=j) ?_)) rfl
   rw[gi,List.getElem?_modify]
   have:(ek ks)[j]? =Option.some (PU (G.mkB t.l),PN 1):=by simp[ek,hj]
   rw[this]
   simp
 refine⟨m,rfl,_,_,hm1,lm _,fun ev he hk=>?_,fun q=>?_⟩
 ·obtain⟨j,p,h3,rfl⟩:=gj he
  obtain⟨k,h4,rfl⟩:=mH h3
  have hk:k=t.l:=jx.1 hk
  subst hk
  refine⟨1,rfl,m,rfl,PA,_,_,hm1,lm _,fun j2 ev2 h5 h6=>?_,fun q=>?_⟩
  ·rw[gi]at h5
   cases e:(ek ks)[j2]? with
   | none=>rw[e]at h5;cases h5
   | some p=>
    rw[e]at h5
    obtain⟨k2,h7,rfl⟩:=mH e
    simp only[QL,Option.some.injEq]at h5
    subst h5
    have:k2=t.l:=jx.1 h6
    subst this
    exact some f1 hm1 h7
  ·exact(q _ he (jx.2 rfl)).elim
 ·have hni:t.l∉ks:=by
   intro hin
   obtain⟨j,hj⟩:=QO.1 hin
   refine q ⟨PU (G.mkB t.l),PN 1,j⟩ (Si.1 (Rt (i:=j) ?_)) (jx.2 rfl)
   rw[gi]
   simp[ek,hj]
  refine⟨m,rfl,PA,_,_,hm1,lm _,fun j2 ev2 h5 h6=>?_,fun _=>none f1 hm1 hni⟩
  exact absurd h6 (q ev2 (Si.1 (Rt h5)))
end Go.Proofs.YtmmmmjcfojhiaaaGreatDoor.N
namespace Go.X
theorem Sy.two {h0 h:ab} {M:List Nat} {X:List Ck} {a c:Ck} (Y:Sy h0 M h (X++[a])) (Z:Sy h0 M h (X++[c])) (ho:c.own=[]) (ha:∀b∈a.own,b∉c.rd):Sy h0 M h (X++[a,c]):=by
 have last:∀{k:Nat} {d:Ck},(X++[a,c])[k]? =some d->(X++[a])[k]? =some d\/(k=X.length+1/\d=c):=by
  intro k d hk
  rcases dY hk with hk | ⟨hl,hk⟩
  ·exact .inl (gf hk)
  ·obtain⟨j,e⟩:∃j,k=X.length+j:=⟨k-X.length,PA⟩
   subst e
   simp only[Nat.add_sub_cancel_left]at hk
   match j,hk with
   | 0,hk=>exact .inl (by simp at hk;subst hk;simp)
   | 1,hk=>exact .inr ⟨rfl,by simpa using hk.symm⟩
   | j+2,hk=>simp at hk
 have zl:(X++[c])[X.length]? =some c:=by simp
 have vs:∀{k:Nat} {d:Ck},(X++[a])[k]? =some d->Ap d c:=by
  intro k d hk b hb
  refine⟨by simp[ho],fun x=>?_⟩
  rcases dY hk with hk | ⟨hl,hk⟩
  ·exact(Z.hp.ap k X.length d c (by have:=(List.getElem?_eq_some_iff.1 hk).1;omega) (gf hk) zl b hb).2 x
  ·have e:d=a:=by
    cases q:k-X.length with
    | zero=>rw[q]at hk;simpa using hk.symm
    | succ n=>rw[q]at hk;simp at hk
   subst e
   exact ha b hb x
 refine⟨Y.fr,⟨fun k d hk=>?_,fun i j d e hij hi hj=>?_⟩,fun k d hk b hb=>?_⟩
 ·rcases last hk with hk | ⟨_,rfl⟩
  ·exact Y.hp.ok k d hk
  ·exact Z.hp.ok _ _ zl
 ·rcases last hi with hi2 | ⟨e1,e1'⟩
  ·rcases last hj with hj2 | ⟨e2,e2'⟩
   ·exact Y.hp.ap i j d e hij hi2 hj2
   ·subst e2';exact vs hi2
  ·subst e1';intro b hb;rw[ho]at hb;cases hb
 ·rcases last hk with hk | ⟨_,rfl⟩
  ·exact Y.ow k d hk b hb
  ·rw[ho]at hb;cases hb
end Go.X
namespace Go.Proofs.YtmmmmjcfojhiaaaGreatDoor.N
open Go.Proofs.YtmmmmjcfojhiaaaGreatDoor
open Go.X
def eT :En G.Tok:=⟨4,Fl,PB,fun _=>rfl,fun t v h=>by simp[Fl]at h;rcases h with rfl | rfl | rfl | rfl<;>rfl⟩
structure AD where
 mp:Nat
 aL:PY
 cL:Nat
 aS:PY
 cS:Nat
 aW:PY
 cW:Nat
 aE:PY
 cE:Nat
def iu (l:List (Int × Nat)):List (Value × Value):=l.map fun p=>(PN p.1,PN (p.2:Int))
def rc (s:P0) (A:AD) (σ:G.Rd) (d:Nat):List Value:=
 [PU s,PN (σ.i:Int),PN (d:Int),PN (σ.n:Int),PT none 0 0,PV σ.dir,PT none 0 0,PT none 0 0,PT none 0 0,PV σ.graph,.map (some A.mp),
  PT A.aL σ.labels.length A.cL,PT A.aS σ.spots.length A.cS,PT A.aW σ.weights.length A.cW,PV σ.h0,PV σ.h1,PV σ.h2,PT A.aE σ.ends.length A.cE]
def stC (gl:GL) (b:Nat) (s:P0) (A:AD) (σ:G.Rd) (d:Nat):List Ck:=
 [Ck.ob b 49 (rc s A σ d),Ck.mp A.mp (iu σ.ids),Ck.sl eS 9 A.aL σ.labels.length A.cL σ.labels,Ck.sl eFF 53 A.aS σ.spots.length A.cS σ.spots,Ck.sl eF 51 A.aW σ.weights.length A.cW σ.weights,
  Ck.sl eT 81 A.aE σ.ends.length A.cE σ.ends,Ck.glob gl]
def kts :G.Lv->List (PZ × Bool)
 | .graph d=>[(G.dj,d)]
 | .node _ a b c=>[(G.kId,a),(G.eU,b),(G.bm,c)]
 | .spot _ a b=>[(G.kX,a),(G.kY,b)]
 | .edge _ a b c=>[(G.bp,a),(G.bw,b),(G.cN,c)]
 | _=>[]
def Seen (l:G.Lv) (ks:List PZ):Prop:=ks.Nodup/\∀k,k∈ks ↔ (k,true)∈kts l
abbrev pt (b:Nat):Value:=PW (some ⟨b,0,none⟩)
abbrev fnV (n:Nat) (c:Array Value):Value:=.func (.func n) #[] c
def LvR (b:Nat) (l:G.Lv) (kv ov:Value) (mo:Option (Nat × List PZ)) (fs:Fs):Prop:=
 match l with
 | .over=>kv= .nilFunc/\mo=none/\fs=[]
 | .top=>kv= .func (.func 34) #[pt b] #[]/\mo=none/\fs=[]
 | .graph _=>∃xR xM m ks,kv=fnV 53 #[pt xR,pt xM]/\ov=fnV 52 #[]/\mo=some (m,ks)/\Seen l ks/\fs=[(xR,0,pt b),(xM,0,.map (some m))]
 | .node v _ _ _=>∃xM xR xV m ks,kv=fnV 101 #[pt xM,pt xR,pt xV]/\ov=fnV 105 #[pt xM]/\mo=some (m,ks)/\Seen l ks/\fs=[(xM,0,.map (some m)),(xR,0,pt b),(xV,0,PN (v:Int))]
 | .spot v _ _=>∃xM xR xV m ks,kv=fnV 144 #[pt xM,pt xR,pt xV]/\ov=fnV 52 #[]/\mo=some (m,ks)/\Seen l ks/\fs=[(xM,0,.map (some m)),(xR,0,pt b),(xV,0,PN (v:Int))]
 | .edge k _ _ _=>∃xM xK xR m ks,kv=fnV 106 #[pt xM,pt xK,pt xR]/\ov=fnV 110 #[pt xM]/\mo=some (m,ks)/\Seen l ks/\fs=[(xM,0,.map (some m)),(xK,0,PN (k:Int)),(xR,0,pt b)]
def TkR (b:Nat) (A:AD) (x:G.Tk) (p:PY) (mo:Option (Nat × List PZ)) (fs tfs:Fs):Prop:=
 match x with
 | .none=>p=none/\mo=none/\fs=[]/\tfs=[]
 | .list l=>∃t kf kc ov,p=some ⟨t,0,none⟩/\LvR b l (fnV kf kc) ov mo fs/\tfs=[(t,0,PN 1),(t,2,fnV kf kc),(t,3,ov)]
 | .dir=>∃t xR,p=some ⟨t,0,none⟩/\mo=none/\fs=[]/\tfs=[(t,0,PN 4),(t,1,fnV 75 #[pt xR]),(xR,0,pt b)]
 | .id v=>∃t xR xV,p=some ⟨t,0,none⟩/\mo=none/\fs=[]/\tfs=[(t,0,PN 4),(t,1,fnV 102 #[pt xR,pt xV]),(xR,0,pt b),(xV,0,PN (v:Int))]
 | .label v=>∃t xR xV,p=some ⟨t,0,none⟩/\mo=none/\fs=[]/\tfs=[(t,0,PN 5),(t,1,fnV 103 #[pt xR,pt xV]),(xR,0,pt b),(xV,0,PN (v:Int))]
 | .spot v y=>∃t xP xR g,p=some ⟨t,0,none⟩/\mo=none/\fs=[]/\A.aS=some ⟨g,0,none⟩/\tfs=[(t,0,PN 4),(t,1,fnV 145 #[pt xP,pt xR]),(xR,0,pt b),(xP,0,PW (some ⟨g,v*2+y.toNat,none⟩))]
 | .fin k=>∃t xR xT,p=some ⟨t,0,none⟩/\mo=none/\fs=[]/\tfs=[(t,0,PN 4),(t,1,fnV 107 #[pt xR,pt xT]),(xR,0,pt b),(xT,0,PN (k:Int))]
 | .weight k=>∃t xR xK,p=some ⟨t,0,none⟩/\mo=none/\fs=[]/\tfs=[(t,0,PN 4),(t,1,fnV 108 #[pt xR,pt xK]),(xR,0,pt b),(xK,0,PN (k:Int))]
def LvB (σ:G.Rd):G.Lv->Prop
 | .node v _ _ _=>v<σ.n
 | .spot v _ _=>v<σ.n
 | .edge k _ _ _=>k+1<σ.ends.length/\k/2<σ.weights.length
 | _=>True
def TkB (σ:G.Rd):G.Tk->Prop
 | .id v=>v<σ.n
 | .label v=>v<σ.n
 | .spot v _=>v<σ.n
 | .fin k=>k<σ.ends.length
 | .weight k=>k/2<σ.weights.length
 | .list l=>LvB σ l
 | _=>True
structure Gr (σ σ':G.Rd):Prop where
 n:σ.n<=σ'.n
 e:σ.ends.length<=σ'.ends.length
 w:σ.weights.length<=σ'.weights.length
theorem Gr.refl (σ:G.Rd):Gr σ σ:=⟨P3 _,P3 _,P3 _⟩
theorem Gr.trans {a b c:G.Rd} (x:Gr a b) (y:Gr b c):Gr a c:=⟨Qg x.n y.n,Qg x.e y.e,Qg x.w y.w⟩
theorem LvB.gr {σ σ':G.Rd} {l:G.Lv} (h:LvB σ l) (g:Gr σ σ'):LvB σ' l:=by
 have:=g.n;have:=g.e;have:=g.w
 cases l<;>simp only[LvB]at h ⊢ <;>omega
section
variable {gl:GL} {b d:Nat} {s:P0} {A:AD} {σ:G.Rd}
theorem oV {h h3:ab} {C rest:List Ck} {mo mo1:Option (Nat × List PZ)} {fs fs1 tfs:Fs} (Y:Sy h (ao C) h3 (stC gl b s A σ d++Ck.fx mo fs::rest))
  (hl:∀x∈fs.map (·.1),x∈rds C\/h.size<=x) (hg:∀x∈glB gl,x∈rds C)
  (hm:∀p:Nat × List PZ,mo1=some p->∃k:Nat,rest[k]? =some (Ck.mp p.1 (ek p.2)))
  (hf1:∀f∈fs1,ac h3 f.1 f.2.1=some f.2.2/\(f.1∈fs.map (·.1)\/(h.size<=f.1/\∃(k:Nat) (ty:TypeId) (vs:List Value),rest[k]? =some (Ck.ob f.1 ty vs))))
  (hf2:∀f∈tfs,ac h3 f.1 f.2.1=some f.2.2/\(f.1∈fs.map (·.1)\/(h.size<=f.1/\∃(k:Nat) (ty:TypeId) (vs:List Value),rest[k]? =some (Ck.ob f.1 ty vs)))):
  Sq h C h3 (stC gl b s A σ d++[Ck.fx mo fs,Ck.fx mo1 fs1,Ck.fx none tfs]):=by
 have hc:jR (stC gl b s A σ d++Ck.fx mo fs::rest).length [0,1,2,3,4,5,6,7]=true:=by
  simp[jR,stC]
  decide
 have at8:∀{k:Nat} {c:Ck},rest[k]? =some c->(stC gl b s A σ d++Ck.fx mo fs::rest)[k+8]? =some c:=by
  intro k c hk
  show(_::_::_::_::_::_::_::_::rest:List Ck)[k+8]? =some c
  simpa using hk
 have nin:∀k,k+8∉[0,1,2,3,4,5,6,7]:=by intro k;simp
 have conv:∀{g:Fs},(∀f∈g,ac h3 f.1 f.2.1=some f.2.2/\(f.1∈fs.map (·.1)\/(h.size<=f.1/\∃(k:Nat) (ty:TypeId) (vs:List Value),rest[k]? =some (Ck.ob f.1 ty vs))))->
   ∀f∈g,ac h3 f.1 f.2.1=some f.2.2/\∃(k:Nat) (c:Ck),(stC gl b s A σ d++Ck.fx mo fs::rest)[k]? =some c/\((f.1∈c.own/\k∉[0,1,2,3,4,5,6,7])\/(f.1∈c.rd/\∃mo fs,c=Ck.fx mo fs)):=by
  intro g hg f hf
  obtain⟨h1,h2⟩:=hg f hf
  refine⟨h1,?_⟩
  rcases h2 with h2 | ⟨_,k,ty,vs,h2⟩
  ·exact⟨7,Ck.fx mo fs,rfl,.inr ⟨h2,mo,fs,rfl⟩⟩
  ·exact⟨k+8,_,at8 h2,.inl ⟨by simp[Ck.ob],nin k⟩⟩
 have Z1:Sy h (ao C) h3 ((stC gl b s A σ d++[Ck.fx mo fs])++[Ck.fx mo1 fs1]):=Y.cutF [0,1,2,3,4,5,6,7] hc mo1 fs1 (fun p hp=>by
  obtain⟨k,h1⟩:=hm p hp
  exact⟨k+8,at8 h1,nin k⟩) (conv hf1)
 have Z2:Sy h (ao C) h3 ((stC gl b s A σ d++[Ck.fx mo fs])++[Ck.fx none tfs]):=Y.cutF [0,1,2,3,4,5,6,7] hc none tfs (fun p hp=>by cases hp) (conv hf2)
 have Z:Sy h (ao C) h3 ((stC gl b s A σ d++[Ck.fx mo fs])++[Ck.fx mo1 fs1,Ck.fx none tfs]):=Sy.two Z1 Z2 rfl (by
  intro x hx q
  cases mo1 with
  | none=>simp[Ck.fx]at hx
  | some p=>
   simp only[Ck.fx,QL,R1,Qi]at hx
   subst hx
   obtain⟨f,h1,h2⟩:=Rj.1 (show p.1∈tfs.map (·.1)from q)
   obtain⟨k,h3⟩:=hm p rfl
   have:=Y.mapM _ (at8 h3)
   exact jz this (hf2 f h1).1 h2.symm)
 refine⟨Z,fun x hx=>?_⟩
 have inl:∀{g:Fs},(∀f∈g,ac h3 f.1 f.2.1=some f.2.2/\(f.1∈fs.map (·.1)\/(h.size<=f.1/\∃(k:Nat) (ty:TypeId) (vs:List Value),rest[k]? =some (Ck.ob f.1 ty vs))))->x∈g.map (·.1)->x∈rds C\/x∈ao C\/h.size<=x:=by
  intro g hg hx
  obtain⟨f,h1,rfl⟩:=Rj.1 hx
  rcases(hg f h1).2 with q | q
  ·exact(hl _ q).imp id .inr
  ·exact .inr (.inr q.1)
 have:x∈glB gl\/x∈fs.map (·.1)\/x∈fs1.map (·.1)\/x∈tfs.map (·.1):=by
  simpa[rds,stC,Ck.ob,Ck.mp,Ck.sl,Ck.glob,Ck.fx]using hx
 rcases this with q | q | q | q
 ·exact .inl (hg x q)
 ·exact(hl x q).imp id .inr
 ·exact inl hf1 q
 ·exact inl hf2 q
end
end Go.Proofs.YtmmmmjcfojhiaaaGreatDoor.N
