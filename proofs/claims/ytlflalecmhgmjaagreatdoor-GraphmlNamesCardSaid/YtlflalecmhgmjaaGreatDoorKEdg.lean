/- A node, an edge more. Conditions: none. -/
import Derived.Test.YtlflalecmhgmjaaGreatDoorHKey3
import Derived.Test.YtlflalecmhgmjaaGreatDoorTGw
import Derived.Test.YtlflalecmhgmjaaGreatDoorWEnv
import Derived.Test.YtlflalecmhgmjaaGreatDoorSWr
import Derived.Test.YtlflalecmhgmjaaGreatDoorSRd
import Derived.Tactics
import Derived.Tactics2
import Derived.Defers
import Derived.Recover
import Derived.Laws.Pointers
set_option linter.unusedVariables false
set_option linter.unusedSimpArgs false
open Go.IntKind (i64 u64 u8 i32)
namespace Go.Proofs.YtlflalecmhgmjaaGreatDoor.N
open Go.Proofs.YtlflalecmhgmjaaGreatDoor
open Go.X
set_option maxRecDepth 100000
section
variable {gl:GL} {b d:Nat} {s:ByteArray}
end
section
variable {gl:GL} {b d:Nat} {s:ByteArray}
end
theorem Bn {s:ByteArray} {h:ab} (hs:s.size<=9223372036854775807):af Tryz.prog 68 #[.string s] h fun v h'=>v= .bool (s.data.toList.all (fun c=>G.bD c.toNat)&&decide (s.size<=256))/\h'=h:=by
 apply wS
 unfold S68
 refine⟨fun l h'=>h'=h/\∃i:Nat,l=[.int .i64 (i:Int)]/\i<=s.size/\(s.data.toList.take i).all (fun c=>G.bD c.toNat)=true,fun l _=>match l with
  | [.int _ i]=>s.size-i.toNat
  | _=>0,⟨rfl,0,rfl,Nat.zero_le _,by simp⟩,?_⟩
 rintro x hv ⟨rfl,i,e,hi,ha⟩
 cases e
 refine ae (fun q=>?_) fun q=>?_
 ·have hlt:i<s.size:=by omega
  obtain⟨c,hc,hb⟩:=get_at hlt
  refine⟨by omega,q,c,by grind,?_⟩
  refine dM zD ⟨_,rfl,?_⟩
  have hcl:s.data.toList[i]? =some c:=by
   rw[<-hc]
   have:s[i]? =s.data[i]? :=by
    rw[getElem?_pos s i hlt,getElem?_pos s.data i hlt];rfl
   rw[this];simp
  refine bd (fun q1=>?_) fun q1=>?_
  ·grind
  ·rw[show i64.wrap ((i:Int)+1)=((i+1:Nat):Int) by rw[wr (by omega) (by omega)];omega]
   refine⟨⟨rfl,i+1,rfl,hlt,?_⟩,?_⟩
   ·grind [List.take_add_one]
   grind
 ·refine⟨?_,rfl⟩
  have:i=s.size:=by omega
  subst this
  have e:s.data.toList.take s.size=s.data.toList:=List.take_of_length_le (Nat.le_refl _)
  rw[e]at ha
  rw[ha,Bool.true_and]
  congr 1
  grind
section
variable {gl:GL} {b d:Nat} {s:ByteArray} {cl:Nat->Nat} {tfs:Fs} {h:ab}
end
abbrev Es :=List (Int × Int)
def iR (g:Int) (e:Int × Int):Bool:=decide (0<=e.1)&&decide (e.1<g)&&decide (0<=e.2)&&decide (e.2<g)
def eb (g:Int) (es:Es):Bool:=decide (0<=g)&&decide (g<=1024)&&decide (es.length<=3072)&&es.all (iR g)
theorem hO {g:Int} {e:Int × Int}:iR g e=true ↔ (0<=e.1/\e.1<g)/\0<=e.2/\e.2<g:=by
 simp[iR];omega
theorem pe {g:Int} {es:Es}:eb g es=true ↔ (0<=g/\g<=1024)/\es.length<=3072/\∀e∈es,iR g e=true:=by
 simp only[eb,Bool.and_eq_true,decide_eq_true_eq,List.all_eq_true]
 exact⟨fun⟨⟨⟨a,b⟩,c⟩,d⟩=>⟨⟨a,b⟩,c,d⟩,fun⟨⟨a,b⟩,c,d⟩=>⟨⟨⟨a,b⟩,c⟩,d⟩⟩
structure MayN (g:Int) (es:Es):Prop where
 g0:0<=g
 g1:g<=1024
 m:es.length<=3072
 e:∀(i:Nat) (x:Int × Int),es[i]? =some x->(0<=x.1/\x.1<g)/\0<=x.2/\x.2<g
theorem yK {g:Int} {es:Es} (h:eb g es=true):MayN g es:=by
 obtain⟨⟨h1,h2⟩,h3,h4⟩:=pe.1 h
 exact⟨h1,h2,h3,fun i x hx=>hO.1 (h4 x (List.mem_of_getElem? hx))⟩
theorem pf {g:Int} {es:Es} {i:Nat} {x:Int × Int} (hx:es[i]? =some x) (h:(es.take i).all (iR g)=true) (hb:iR g x=true):(es.take (i+1)).all (iR g)=true:=by
 rw[List.take_add_one,hx]
 simp only[List.all_append,h,Bool.true_and,Option.toList,List.all_cons,List.all_nil,Bool.and_true]
 exact hb
theorem og {g:Int} {es:Es} {i:Nat} {x:Int × Int} (hx:es[i]? =some x) (hb:iR g x=false):eb g es=false:=by
 rw[<-Bool.not_eq_true]
 intro h
 have:=(pe.1 h).2.2 x (List.mem_of_getElem? hx)
 rw[hb]at this;cases this
theorem yL {g:Int} {es:Es} {R:Bool->Prop} (h:R (eb g es)):zg g es R:=by
 apply BI
 unfold T33
 have no:eb g es=false->R false:=fun e=>e▸h
 refine⟨eb g es=false,?_,no⟩
 refine ae (fun h1=>by simp[eb];omega) fun h1=>ae (fun h2=>by simp[eb];omega) fun h2=>ae (fun h3=>no (by simp[eb];omega)) fun h3=>?_
 refine⟨fun i=>∃k:Nat,i=k/\k<=es.length/\(es.take k).all (iR g)=true,fun i=>((es.length:Int)-i).toNat,⟨0,rfl,by omega,by simp⟩,?_⟩
 rintro _ ⟨k,rfl,hk,ha⟩
 refine ae (fun hlt=>?_) fun hlt=>?_
 ·have hx:es[k]? =some (es[k]'(by omega)):=List.getElem?_eq_getElem (by omega)
  generalize es[k]'(by omega)=x at hx
  have small:∀j:Int,0<=j->j<2->(0<=gW x j/\gW x j<g)\/iR g x=false:=fun j _ _=>by
   by_cases hb:iR g x=true
   ·have:=hO.1 hb
    left;unfold gW;split<;>omega
   ·right;simpa using hb
  refine⟨fun j=>∃n:Nat,j=n/\n<=2/\∀m:Int,0<=m->m<n->0<=gW x m/\gW x m<g,fun j=>(2-j).toNat,⟨0,rfl,by omega,by omega⟩,?_⟩
  rintro _ ⟨n,rfl,hn,hall⟩
  refine ae (fun hlt2=>⟨by omega,hlt,by omega,by omega,fun y hy=>?_⟩) fun hlt2=>?_
  ·have hy:es[k]? =some y:=by simpa using hy
   rw[hx]at hy;obtain rfl:=Option.some.inj hy
   refine ae (fun h5=>no ?_) fun h5=>⟨by omega,by omega,ae (fun h6=>no ?_) fun h6=>?_⟩
   ·rcases small n (by omega) hlt2 with q | q
    ·omega
    ·exact og hx q
   ·rcases small n (by omega) hlt2 with q | q
    ·omega
    ·exact og hx q
   ·rw[wr (by omega) (by omega)]
    refine⟨⟨n+1,by simp,by omega,fun m h7 h8=>?_⟩,by dsimp only;omega⟩
    by_cases h9:m=n
    ·subst h9;omega
    ·exact hall m h7 (by omega)
  ·rw[wr (by omega) (by omega)]
   have hn2:n=2:=by omega
   subst hn2
   have q0:=hall 0 (by omega) (by omega)
   have q1:=hall 1 (by omega) (by omega)
   have hb:iR g x=true:=hO.2 (by simp[gW]at q0 q1;omega)
   exact⟨⟨k+1,by simp,by omega,pf hx ha hb⟩,by dsimp only;omega⟩
 ·have hke:k=es.length:=by omega
  subst hke
  rw[List.take_length]at ha
  have:eb g es=true:=by
   simp only[eb,Bool.and_eq_true,decide_eq_true_eq];exact⟨⟨⟨by omega,by omega⟩,by omega⟩,ha⟩
  exact this▸h
theorem zK {a b:Int} {j:Int} (h0:0<=j) (h2:j<2):(#[.int .i64 a,.int .i64 b]:Array Value)[Int.toNat j]? =some (.int .i64 (gW (a,b) j)):=by
 have:j=0\/j=1:=by omega
 rcases this with rfl | rfl<;>rfl
theorem zL {g:Int} {es:Es} {R:Bool->Prop} (h:R (eb g es)):zd g es R:=by
 apply BD
 unfold T66
 have no:eb g es=false->R false:=fun e=>e▸h
 refine⟨eb g es=false,?_,no⟩
 refine ae (fun h1=>by simp[eb];omega) fun h1=>ae (fun h2=>by simp[eb];omega) fun h2=>ae (fun h3=>no (by simp[eb];omega)) fun h3=>?_
 refine⟨fun i=>∃k:Nat,i=k/\k<=es.length/\(es.take k).all (iR g)=true,fun i=>((es.length:Int)-i).toNat,⟨0,rfl,by omega,by simp⟩,?_⟩
 rintro _ ⟨k,rfl,hk,ha⟩
 refine ae (fun hlt=>⟨by omega,hlt,fun x hx=>?_⟩) fun hlt=>?_
 ·have hx:es[k]? =some x:=by simpa using hx
  have small:∀j:Int,(0<=gW x j/\gW x j<g)\/iR g x=false:=fun j=>by
   by_cases hb:iR g x=true
   ·have:=hO.1 hb
    left;unfold gW;split<;>omega
   ·right;simpa using hb
  refine⟨fun j=>∃n:Nat,j=n/\n<=2/\∀m:Int,0<=m->m<n->0<=gW x m/\gW x m<g,fun j=>(2-j).toNat,⟨0,rfl,by omega,by omega⟩,?_⟩
  rintro _ ⟨n,rfl,hn,hall⟩
  refine ae (fun hlt2=>⟨by omega,by omega,gW x n,zK (by omega) hlt2,?_⟩) fun hlt2=>?_
  ·refine ae (fun h5=>no ?_) fun h5=>ae (fun h6=>no ?_) fun h6=>?_
   ·rcases small n with q | q
    ·omega
    ·exact og hx q
   ·rcases small n with q | q
    ·omega
    ·exact og hx q
   ·rw[wr (by omega) (by omega)]
    refine⟨⟨n+1,by simp,by omega,fun m h7 h8=>?_⟩,by dsimp only;omega⟩
    by_cases h9:m=n
    ·subst h9;omega
    ·exact hall m h7 (by omega)
  ·rw[wr (by omega) (by omega)]
   have hn2:n=2:=by omega
   subst hn2
   have q0:=hall 0 (by omega) (by omega)
   have q1:=hall 1 (by omega) (by omega)
   have hb:iR g x=true:=hO.2 (by simp[gW]at q0 q1;omega)
   exact⟨⟨k+1,by simp,by omega,pf hx ha hb⟩,by dsimp only;omega⟩
 ·have hke:k=es.length:=by omega
  subst hke
  rw[List.take_length]at ha
  have:eb g es=true:=by
   simp only[eb,Bool.and_eq_true,decide_eq_true_eq];exact⟨⟨⟨by omega,by omega⟩,by omega⟩,ha⟩
  exact this▸h
def iZ (s:ByteArray):Bool:=(s.data.toList.all fun c=>G.bD c.toNat)&&decide (s.size<=256)
theorem zM {s:ByteArray} {R:Bool->Prop} (hs:s.size<=9223372036854775807) (r:R (iZ s)):AX s R:=by
 intro h _
 exact(Bn hs).mono fun v h' ⟨e1,e2⟩=>⟨_,by rw[e2];exact sy0 (Fr.refl _ _),e1,r⟩
def aO (a n:Int):Bool:=decide (a=0)||decide (a=n)
theorem qD {a n:Int} {R:Bool->Prop} (r:R (aO a n)):vk a n R:=by
 apply BF
 unfold T67
 unfold aO at r
 refine dZ (fun h=>?_) fun h=>?_
 ·rw[decide_eq_true h]at r;exact r
 ·rw[decide_eq_false h,Bool.false_or]at r
  have:(a==n)=decide (a=n):=by rw[Bool.eq_iff_iff];simp
  rw[this];exact r
def ec (n:Int) (es:Es) (ls:List ByteArray) (ss:List (Nat × Nat)) (ws:List Nat):Bool:=
 eb n es&&(aO (ls.length:Int) n&&(aO (ss.length:Int) n&&(aO (ws.length:Int) (es.length:Int)&&ls.all iZ)))
theorem zN {n:Int} {es:Es} {dr:Bool} {ls:List ByteArray} {ss:List (Nat × Nat)} {ws:List Nat} {R:Bool->Prop} (hs:∀s∈ls,s.size<=9223372036854775807) (hl:ls.length<=9223372036854775807) (r:R (ec n es ls ss ws)):AY n es dr ls ss ws R:=by
 apply BG
 unfold T25
 have no:ec n es ls ss ws=false->R false:=fun e=>e▸r
 refine⟨ec n es ls ss ws=false,zL (bd (fun q=>?_) fun q1=>qD (bd (fun q=>?_) fun q2=>qD (bd (fun q=>?_) fun q3=>qD (bd (fun q=>?_) fun q4=>?_)))),no⟩
 ·unfold ec;rw[q];rfl
 ·unfold ec;rw[q];simp
 ·unfold ec;rw[q];simp
 ·refine no ?_
  unfold ec;rw[q];simp
 ·refine⟨fun i=>∃k:Nat,i=k/\k<=ls.length/\(ls.take k).all iZ=true,fun i=>((ls.length:Int)-i).toNat,⟨0,rfl,by omega,by simp⟩,?_⟩
  rintro _ ⟨k,rfl,hk,ha⟩
  refine ae (fun hlt=>⟨by omega,hlt,fun x hx=>zM (hs x (List.mem_of_getElem? hx)) (bd (fun q=>no ?_) fun q=>?_)⟩) fun hlt=>?_
  ·have:ls.all iZ=false:=by
    rw[List.all_eq_false]
    exact⟨x,List.mem_of_getElem? hx,by simp[q]⟩
   unfold ec;rw[this];simp
  ·have hw:i64.wrap ((k:Int)+1)=((k+1:Nat):Int):=by rw[wr (by omega) (by omega)];omega
   rw[hw]
   refine⟨⟨k+1,rfl,by omega,?_⟩,by dsimp only;omega⟩
   have hx:ls[k]? =some x:=by simpa using hx
   rw[List.take_add_one,hx]
   simp only[List.all_append,ha,Bool.true_and,Option.toList,List.all_cons,List.all_nil,Bool.and_true]
   exact q
  ·have hke:k=ls.length:=by omega
   rw[hke,List.take_length]at ha
   have e:ec n es ls ss ws=true:=by
    unfold ec;rw[q1,q2,q3,q4,ha];rfl
   rw[e]at r;exact r
open Go.Proofs
theorem ub (l:List UInt8):(G.mkB l).data.toList=l:=by simp[G.mkB]
theorem aF (l:List UInt8):(G.mkB l).size=l.length:=by simp[G.mkB,ByteArray.size]
def Hd (H:List Nat) (B:List Ck):Prop:=∀x∈H,∃j:Nat,B[j]? =some (Ck.junk x)
section
variable {b c d:Nat} {u:Bool} {A:Option Addr} {l:List UInt8} {h0 h:ab} {C B:List Ck} {H:List Nat} {K:Value->ab->Prop}
theorem Sq.sub {cs cs':List Ck} (Q:Sq h0 C h cs) (f:Nat->Nat) (hf:∀i j c e,cs'[i]? =some c->cs'[j]? =some e->f i=f j->i=j) (hg:∀k c,cs'[k]? =some c->cs[f k]? =some c):Sq h0 C h cs':=
 ⟨⟨Q.sy.fr,⟨fun k c hk=>Q.sy.hp.ok _ c (hg k c hk),fun i j c e hij hi hj=>Q.sy.hp.ap (f i) (f j) c e (fun q=>hij (hf i j c e hi hj q)) (hg i c hi) (hg j e hj)⟩,fun k c hk=>Q.sy.ow _ c (hg k c hk)⟩,fun x hx=>by
  obtain⟨k,c,h1,h2⟩:=bp.1 hx
  exact Q.ri x (bp.2 ⟨_,c,hg k c h1,h2⟩)⟩
theorem Sq.del {D:List Ck} {c:Ck} (Q:Sq h0 C h (D++[c]++B)):Sq h0 C h (D++B):=by
 refine Sq.sub Q (fun k=>if k<D.length then k else k+1) (fun i j _ _ _ _ e=>?_) fun k c hk=>?_
 ·try simp only at e
  split at e<;>split at e<;>omega
 ·try simp only
  split
  ·rename_i hl
   rw[List.getElem?_append_left hl]at hk
   rw[List.append_assoc,List.getElem?_append_left hl];exact hk
  ·rename_i hl
   rw[List.getElem?_append_right (by omega)]at hk
   rw[List.getElem?_append_right (by simp;omega)]
   simpa[show k+1-(D.length+1)=k-D.length by omega]using hk
theorem Sq.ins {D:List Ck} (Q:Sq h0 C h (D++B)) (ty:TypeId) (vs:List Value):Sq h0 C (h.push (.cells vs.toArray ty)) (D++[Ck.ob h.size ty vs]++B):=by
 have Q1:Sq h0 C (h.push (.cells vs.toArray ty)) (D++B++[Ck.ob h.size ty vs]):=⟨Sy.newO Q.sy vs,fun x hx=>Q.ri x (by simpa[rds,Ck.ob]using hx)⟩
 refine Sq.sub Q1 (fun k=>if k<D.length then k else if k=D.length then D.length+B.length else k-1) (fun i j c e hi hj q=>?_) fun k c hk=>?_
 ·have li:=(List.getElem?_eq_some_iff.1 hi).1
  have lj:=(List.getElem?_eq_some_iff.1 hj).1
  simp only[List.length_append,List.length_singleton]at li lj
  try simp only at q
  split at q<;>split at q<;>(try split at q)<;>(try split at q)<;>omega
 ·have li:=(List.getElem?_eq_some_iff.1 hk).1
  simp only[List.length_append,List.length_singleton]at li
  try simp only
  split
  ·rename_i hl
   rw[List.append_assoc,List.getElem?_append_left hl]at hk
   rw[List.append_assoc,List.getElem?_append_left hl];exact hk
  ·split
   ·rename_i hl
    subst hl
    rw[List.append_assoc,List.getElem?_append_right (Nat.le_refl _)]at hk
    rw[List.getElem?_append_right (by simp)]
    simpa using hk
   ·rename_i hl1 hl2
    rw[List.getElem?_append_right (by simp;omega)]at hk
    rw[List.append_assoc,List.getElem?_append_right (by omega),List.getElem?_append_left (by simp at hk;omega)]
    simpa[show k-(D.length+1)=k-1-D.length by omega]using hk
theorem Hd.apart {D:List Ck} (hd:Hd H B) (Q:Sq h0 C h (D++B)):∀x∈H,x<h.size/\x∉az D:=by
 intro x hx
 obtain⟨j,hj⟩:=hd x hx
 have hj':=kA (A:=D) hj
 refine⟨(Ck.junk x |>.lt h (Q.sy.ok hj')).1 x (by simp[Ck.junk]),fun w=>?_⟩
 obtain⟨k,e,h1,h2⟩:=bZ.1 w
 have:=(List.getElem?_eq_some_iff.1 h1).1
 exact(Q.sy.hp.ap k (D.length+j) e _ (by omega) (gZ h1) hj' x h2).1 (by simp[Ck.junk])
theorem yN {gl:GL} {n:Nat} (g:Gl gl h) (hn:n<=1000000):af Tryz.prog 54 #[.int .i64 (n:Int)] h fun v h'=>v= .string (G.mkB (G.dec n))/\Fr [] h h':=by
 intro w hw
 subst hw
 refine(Go.Proofs.Tryz.strconv_Itoa (n:Int) (by omega) (by omega) w (Gl.tab g)).mono fun e w' ⟨e1,k,os,e2⟩=>⟨_,e1,?_,?_,?_⟩
 ·subst e2;exact⟨rfl,rfl,rfl,by simp[Sort.grow]⟩
 ·have:Lib.itoa (n:Int)=G.dec n:=by rw[G.tQ];unfold G.idt;rw[if_neg (by omega)];rfl
  rw[this];rfl
 ·subst e2;exact⟨by simp[Sort.grow],fun j hj _=>Sort.heap_grow_old _ _ hj⟩
end
def sI (gl:GL) (tx:Nat->List UInt8) (x:Nat):Prop:=(∀h:ab,Gl gl h->af Tryz.prog 55 #[.float .f64 x] h fun v h'=>v= .string (G.mkB (tx x))/\Fr [] h h')/\(tx x).length<=100
def dV (gl:GL) (aE:Option Addr) (nE cE:Nat) (es:Es) (aL:Option Addr) (nL cL:Nat) (ls:List ByteArray) (aS:Option Addr) (nS cS:Nat) (ss:List (Nat × Nat)) (aW:Option Addr) (nW cW:Nat) (ws:List Nat):List Ck:=
 [Ck.glob gl,Ck.vw eP aE nE cE es,Ck.vw eS aL nL cL ls,Ck.vw eFF aS nS cS ss,Ck.vw eF aW nW cW ws]
theorem cM {n:Nat} (h:n<=1000000):(G.dec n).length<=10:=G.n8 9 n (by omega)
section
variable {gl:GL} {b c:Nat} {u:Bool} {A:Option Addr} {l:List UInt8} {h:ab} {tx:Nat->List UInt8} {aE aL aS aW:Option Addr} {nE cE nL cL nS cS nW cW n v:Nat} {es:Es} {ls:List ByteArray} {ss:List (Nat × Nat)} {ws:List Nat} {dir:Bool}
end
section
variable {gl:GL} {h:ab} {tx:Nat->List UInt8} {aE aL aS aW:Option Addr} {nE cE nL cL nS cS nW cW:Nat} {n:Int} {es:Es} {ls:List ByteArray} {ss:List (Nat × Nat)} {ws:List Nat} {dir:Bool}
end
set_option maxHeartbeats 2000000
def isNaN (x:Nat):Bool:=(FloatKind.f64.format.read x).isNaN
abbrev F64 :Ieee.Format:=FloatKind.f64.format
theorem qB (x:Nat):F64.order x x=if isNaN x then none else some .eq:=by
 unfold Ieee.Format.order isNaN Ieee.Datum.order Ieee.Datum.isNaN
 cases F64.read x with
 | nan s t=>simp
 | infinity s=>simp[Std.compare_self]<;>cases s<;>rfl
 | number s m i=>simp[Std.compare_self]
theorem oU (x:Nat):(F64.order x x != some .eq)=isNaN x:=by
 rw[qB];cases isNaN x<;>rfl
theorem we {P:Program} {f:FuncId} {fn:Func} {e:Array Value->Sem Value} {args:Array Value} (hf:P.funcs[f]? =some fn) (hname:(fn.name== "runtime.NumGoroutine")=false) (hb:fn.body.isNone=true)
  (hn:Extern.findNext fn=none) (he:Extern.find fn=some e) (w:World):(callFunc f args).run P w=((e args).run P w).andThen fun v w'=>.ok (.value v) w':=by
 have h1:¬fn.name= "runtime.NumGoroutine" :=by simpa using hname
 have h2:fn.body=none:=by simpa using hb
 simp[callFunc,hf,hn,he,h1,h2]
theorem tS {P:Program} {f:FuncId} {fn:Func} {e:Array Value->Sem Value} {args:Array Value} {v:Value} (hf:P.funcs[f]? =some fn) (hname:(fn.name== "runtime.NumGoroutine")=false) (hb:fn.body.isNone=true)
  (hn:Extern.findNext fn=none) (he:Extern.find fn=some e) (hv:e args=pure v):xM P f args (· =v):=by
 intro w
 refine⟨v,w,?_,rfl,Rest.refl w,rfl⟩
 rw[we hf hname hb hn he,hv];simp
theorem oV {f:FuncId} {args:Array Value} {v:Value} {K:Value->Prop} (h:xM Tryz.prog f args (· =v)) (k:K v):l4 Tryz.prog f args K:=⟨_,h,fun _ e=>e▸k⟩
theorem pg (b:Nat):xM Tryz.prog 101 #[.float .f64 b] (· = .int .u64 b):=
 tS Tryz.func101 (by kernel_rfl) (by kernel_rfl) (by kernel_rfl) (e:=Extern.MathFloatBits.float64bits) (by kernel_rfl) rfl
def fe (x y:Nat):Bool:=(isNaN x&&isNaN y)||x==y
def fe2 (p q:Nat × Nat):Bool:=fe p.1 q.1&&fe p.2 q.2
def eqL {α:Type} (f:α->α->Bool) (xs ys:List α):Bool:=decide (xs.length=ys.length)&&(xs.zip ys).all fun p=>f p.1 p.2
theorem kV {α:Type} {f:α->α->Bool} {xs ys:List α} (h:xs.length≠ys.length):eqL f xs ys=false:=by unfold eqL;grind
theorem lk {α:Type} {f:α->α->Bool} {xs ys:List α} {k:Nat} {x y:α} (hx:xs[k]? =some x) (hy:ys[k]? =some y) (h:f x y=false):eqL f xs ys=false:=by
 unfold eqL
 have:((xs.zip ys).all fun p=>f p.1 p.2)=false:=by
  rw[List.all_eq_false]
  refine⟨(x,y),List.mem_of_getElem? (i:=k) ?_,by simp[h]⟩
  grind
 grind
theorem jp {α:Type} {f:α->α->Bool} {xs ys:List α} {k:Nat} {x y:α} (hx:xs[k]? =some x) (hy:ys[k]? =some y) (h:f x y=true) (ha:((xs.zip ys).take k).all (fun p=>f p.1 p.2)=true):
  ((xs.zip ys).take (k+1)).all (fun p=>f p.1 p.2)=true:=by
 have:(xs.zip ys)[k]? =some (x,y):=by grind
 rw[List.take_add_one,this]
 grind
theorem kX {α:Type} {f:α->α->Bool} {xs ys:List α} {k:Nat} (hl:xs.length=ys.length) (hk:xs.length<=k) (ha:((xs.zip ys).take k).all (fun p=>f p.1 p.2)=true):eqL f xs ys=true:=by
 unfold eqL
 rw[decide_eq_true hl,Bool.true_and]
 grind [List.take_of_length_le]
theorem uc {α:Type} [DecidableEq α] (xs ys:List α):eqL (fun x y=>decide (x=y)) xs ys=decide (xs=ys):=by
 by_cases hl:xs.length=ys.length
 ·by_cases he:xs=ys
  ·grind [eqL,List.mem_iff_getElem]
  ·rw[decide_eq_false he]
   rw[<-Bool.not_eq_true]
   intro h
   unfold eqL at h
   simp only[Bool.and_eq_true,List.all_eq_true,decide_eq_true_eq]at h
   refine he (List.ext_getElem? fun i=>?_)
   by_cases hi:i<xs.length
   ·have h1:xs[i]? =some xs[i]:=List.getElem?_eq_getElem hi
    have h2:ys[i]? =some ys[i]:=List.getElem?_eq_getElem (by omega)
    have:=h.2 (xs[i],ys[i]) (List.mem_of_getElem? (i:=i) (by grind))
    grind
   grind
 grind [kV]
theorem yO (s t:ByteArray):(s.toList==t.toList)=decide (s=t):=by
 grind [Lib.toList_data,ByteArray.ext,Array.ext']
section
variable {h:ab} {aX aY:Option Addr} {nX cX nY cY:Nat}
end
structure MD where
 n:Int
 dir:Bool
 es:List (Int × Int)
 ls:List ByteArray
 ss:List (Nat × Nat)
 ws:List Nat
def fE (a b:MD):Bool:=(decide (a.n=b.n)&&decide (a.es=b.es))&&((a.dir==b.dir)&&(decide (a.ls=b.ls)&&(eqL fe2 a.ss b.ss&&eqL fe a.ws b.ws)))
structure MDs where
 aE:Option Addr
 nE:Nat
 cE:Nat
 aL:Option Addr
 nL:Nat
 cL:Nat
 aS:Option Addr
 nS:Nat
 cS:Nat
 aW:Option Addr
 nW:Nat
 cW:Nat
def MD.v (d:MD) (s:MDs):Value:=.agg #[.int .i64 d.n,.slice s.aE s.nE s.cE,.bool d.dir,.slice s.aL s.nL s.cL,.slice s.aS s.nS s.cS,.slice s.aW s.nW s.cW]
set_option maxHeartbeats 1000000
theorem BK (s:ByteArray) (i:Nat):s[i]? =s.data.toList[i]? :=by
 rw[getElem?_def]
 by_cases h:i<s.size
 ·rw[dif_pos h]
  have h2:i<s.data.toList.length:=h
  rw[List.getElem?_eq_getElem h2];rfl
 ·rw[dif_neg h]
  exact(List.getElem?_eq_none (by exact Nat.le_of_not_lt h)).symm
end Go.Proofs.YtlflalecmhgmjaaGreatDoor.N
/- readFloat as a function: digits scanned, the exponent read. Conditions: none. -/
namespace Go.Proofs.YtlflalecmhgmjaaGreatDoor.N
open Go.X Go.Proofs.YtlflalecmhgmjaaGreatDoor
set_option maxRecDepth 100000
set_option maxHeartbeats 2000000
end Go.Proofs.YtlflalecmhgmjaaGreatDoor.N
/- readFloat answers as the scan does, for texts of numbers. Conditions: none. -/
namespace Go.Proofs.YtlflalecmhgmjaaGreatDoor.N
open Go.X Go.Proofs.YtlflalecmhgmjaaGreatDoor
set_option maxRecDepth 100000
set_option maxHeartbeats 4000000
end Go.Proofs.YtlflalecmhgmjaaGreatDoor.N
/- What is told of special texts: a number's text is none; exact answers by floats. Conditions: none. -/
namespace Go.Proofs.YtlflalecmhgmjaaGreatDoor.N
open Go.X Go.Proofs.YtlflalecmhgmjaaGreatDoor
set_option maxRecDepth 100000
set_option maxHeartbeats 1000000
end Go.Proofs.YtlflalecmhgmjaaGreatDoor.N
/- atof64exact as a function. Conditions: none. -/
namespace Go.Proofs.YtlflalecmhgmjaaGreatDoor.N
open Go.X Go.Proofs.YtlflalecmhgmjaaGreatDoor
set_option maxRecDepth 100000
set_option maxHeartbeats 1000000
open Go.RowKit (Below)
theorem toL (s:ByteArray):s.toList=s.data.toList:=Lib.toList_data s
end Go.Proofs.YtlflalecmhgmjaaGreatDoor.N
/- A text of the form of a number is one that the scan reads to its end. Conditions: none. -/
namespace Go.Proofs.YtlflalecmhgmjaaGreatDoor.N
open Go.X Go.Proofs.YtlflalecmhgmjaaGreatDoor
set_option maxRecDepth 100000
set_option maxHeartbeats 1000000
end Go.Proofs.YtlflalecmhgmjaaGreatDoor.N
/- weigh.Read answers as told, if ParseFloat has a value. Conditions: none. -/
namespace Go.Proofs.YtlflalecmhgmjaaGreatDoor.N
open Go.X Go.Proofs.YtlflalecmhgmjaaGreatDoor
open Go.RowKit (Below)
set_option maxRecDepth 100000
set_option maxHeartbeats 1000000
end Go.Proofs.YtlflalecmhgmjaaGreatDoor.N
namespace Go.Proofs.YtlflalecmhgmjaaGreatDoor.G
section
variable {s:ByteArray} {rd:ByteArray->Option (Nat × Nat)} {cl:Nat->Nat}
end
end Go.Proofs.YtlflalecmhgmjaaGreatDoor.G
namespace Go.Proofs.YtlflalecmhgmjaaGreatDoor.N
open Go.Proofs.YtlflalecmhgmjaaGreatDoor
open Go.X
set_option maxRecDepth 100000
section
variable {gl:GL} {b d:Nat} {s:ByteArray} {cl:Nat->Nat} {h:ab}
end
section
variable (gl:GL) (b:Nat) (s:ByteArray) (rd:ByteArray->Option (Nat × Nat)) (cl:Nat->Nat)
end
section
variable {gl:GL} {b:Nat} {s:ByteArray} {rd:ByteArray->Option (Nat × Nat)} {cl:Nat->Nat}
end
section
variable {gl:GL} {b:Nat} {s:ByteArray} {rd:ByteArray->Option (Nat × Nat)} {cl:Nat->Nat}
end
end Go.Proofs.YtlflalecmhgmjaaGreatDoor.N
namespace Go.Proofs.YtlflalecmhgmjaaGreatDoor.G
variable {s:ByteArray} {rd:ByteArray->Option (Nat × Nat)} {cl:Nat->Nat}
end Go.Proofs.YtlflalecmhgmjaaGreatDoor.G
namespace Go.Proofs.YtlflalecmhgmjaaGreatDoor.N
open Go.Proofs.YtlflalecmhgmjaaGreatDoor
open Go.X
set_option maxRecDepth 100000
section
variable {gl:GL} {b:Nat} {s:ByteArray} {rd:ByteArray->Option (Nat × Nat)} {cl:Nat->Nat}
end
def jT (n:Nat):Code->Option (Array Oper)
 | .seq x y=>(jT n x).or (jT n y)
 | .cond _ x y=>(jT n x).or (jT n y)
 | .block _ x=>jT n x
 | .region k ops _=>if k=n then some ops else none
 | _=>none
theorem eu {k t:Nat} {v y:AVal} {r:List (Nat × AVal)} (h:Go.X.look ((k,v)::r) t=some y):(t=k/\y=v)\/Go.X.look r t=some y:=by
 unfold Go.X.look at h
 split at h
 ·rename_i hb
  exact .inl ⟨(Nat.eq_of_beq_eq_true hb).symm,(Option.some.inj h).symm⟩
 ·exact .inr h
def jo (h:ab) (p1 p2 p3:Nat) (x x2:Int):ab:=
 ag (ag (ag (ag (ag (ag (ag (ag h p1 0 (.int .i64 0)) p1 (0+1) (.slice none 0 0)) p1 ((0+1)+1) (.bool false)) p1 (((0+1)+1)+1) (.slice none 0 0)) p1 ((((0+1)+1)+1)+1) (.slice none 0 0)) p1 (((((0+1)+1)+1)+1)+1) (.slice none 0 0)) p2 0 (.int .i64 x)) p3 0 (.int .i64 x2)
open Go.Proofs
section
variable {gl:GL} {s:ByteArray} {rd:ByteArray->Option (Nat × Nat)} {cl:Nat->Nat}
def z29 :List Value:=[.int .i64 0,.slice none 0 0,.bool false,.slice none 0 0,.slice none 0 0,.slice none 0 0]
theorem Sq.drop {h0 h h':ab} {C A B:List Ck} (q:Sq h0 C h (A++B)) (f:Fr (az A) h h'):Sq h0 C h' B:=by
 have p:Sq h A h' []:=⟨⟨f,Hp.nil _,fun k c hk=>by simp at hk⟩,fun b hb=>by simp[rds]at hb⟩
 simpa using Sq.call q p
theorem zE (h:ab) (a b c:Obj):(((h.push a).push b).push c)[h.size]? =some a/\(((h.push a).push b).push c)[h.size+1]? =some b/\(((h.push a).push b).push c)[h.size+1+1]? =some c:=by
 refine⟨?_,?_,?_⟩
 ·rw[Array.getElem?_push,if_neg (by simp;omega),Array.getElem?_push,if_neg (by simp),Array.getElem?_push,if_pos rfl]
 ·rw[Array.getElem?_push,if_neg (by simp),Array.getElem?_push,if_pos (by simp)]
 ·rw[Array.getElem?_push,if_pos (by simp)]
theorem tY {h:ab} {p1 p2 p3:Nat} {x y:Int} (h1:h[p1]? =some (.cells z29.toArray 29 (0,0))) (h2:h[p2]? =some (.cells #[.int .i64 0] 3 (0,0))) (h3:h[p3]? =some (.cells #[.int .i64 0] 32 (0,0))) (n2:p1≠p2/\p1≠p3/\p2≠p3):
  (jo h p1 p2 p3 x y)[p1]? =some (.cells #[.int .i64 0,.slice none 0 0,.bool false,.slice none 0 0,.slice none 0 0,.slice none 0 0] 29 (0,0))/\(jo h p1 p2 p3 x y)[p2]? =some (.cells #[.int .i64 x] 3 (0,0))/\(jo h p1 p2 p3 x y)[p3]? =some (.cells #[.int .i64 y] 32 (0,0)):=by
 unfold jo
 have a:=bM (bM (bM (bM (bM (bM h1 (o:=0) (v:=.int .i64 0)) (o:=0+1) (v:=.slice none 0 0)) (o:=(0+1)+1) (v:=.bool false)) (o:=((0+1)+1)+1) (v:=.slice none 0 0)) (o:=(((0+1)+1)+1)+1) (v:=.slice none 0 0)) (o:=((((0+1)+1)+1)+1)+1) (v:=.slice none 0 0)
 generalize hq:ag (ag (ag (ag (ag (ag h p1 0 (.int .i64 0)) p1 (0+1) (.slice none 0 0)) p1 ((0+1)+1) (.bool false)) p1 (((0+1)+1)+1) (.slice none 0 0)) p1 ((((0+1)+1)+1)+1) (.slice none 0 0)) p1 (((((0+1)+1)+1)+1)+1) (.slice none 0 0)=hv at a ⊢
 have F:Fr [p1] h hv:=by
  subst hq
  exact((((((Fr.refl _ _:Fr [p1] h h).hsetr (.inr (by simp))).hsetr (.inr (by simp))).hsetr (.inr (by simp))).hsetr (.inr (by simp))).hsetr (.inr (by simp))).hsetr (.inr (by simp))
 have g2:hv[p2]? =some (.cells #[.int .i64 0] 3 (0,0)):=F.blk_some h2 (by simp[Ne.symm n2.1])
 have g3:hv[p3]? =some (.cells #[.int .i64 0] 32 (0,0)):=F.blk_some h3 (by simp[Ne.symm n2.2.1])
 refine⟨?_,?_,?_⟩
 ·rw[eQ n2.2.1,eQ n2.1];exact a
 ·rw[eQ n2.2.2];exact bM g2
 ·have:=(Fr.hset hv p2 0 (.int .i64 x)).blk_some g3 (by simp[Ne.symm n2.2.2])
  exact bM this
end
set_option maxHeartbeats 1000000
end Go.Proofs.YtlflalecmhgmjaaGreatDoor.N
namespace Go.Proofs.YtlflalecmhgmjaaGreatDoor.G
section
variable {s:ByteArray} {rd:ByteArray->Option (Nat × Nat)} {cl:Nat->Nat}
end
end Go.Proofs.YtlflalecmhgmjaaGreatDoor.G
namespace Go.Proofs.YtlflalecmhgmjaaGreatDoor.N
open Go.Proofs.YtlflalecmhgmjaaGreatDoor
open Go.X
set_option maxRecDepth 100000
set_option maxHeartbeats 2000000
open Go.Proofs
theorem Bo :G.dec 0=[48]:=by rw[G.dec];rfl
def tx0 :Nat->List UInt8:=fun _=>[]
theorem ua {s:ByteArray} {k:Nat} {x:UInt8} (hx:s.data.toList[k]? =some x) (h:G.bD x.toNat=false):iZ s=false:=by
 unfold iZ
 have:(s.data.toList.all fun c=>G.bD c.toNat)=false:=by
  rw[List.all_eq_false]
  exact⟨x,List.mem_of_getElem? hx,by simp[h]⟩
 rw[this];rfl
theorem zJ {s:ByteArray} {R:Bool->Prop} (r:R (iZ s)):zf s R:=by
 apply BH
 unfold T32
 have hl:s.data.toList.length=s.size:=rfl
 refine ae (fun h=>?_) fun h=>?_
 ·have:iZ s=false:=by unfold iZ;rw[decide_eq_false (show ¬s.size<=256 by omega),Bool.and_false]
  rw[this]at r;exact r
 refine⟨fun i=>∃k:Nat,i=k/\k<=s.size/\(s.data.toList.take k).all (fun c=>G.bD c.toNat)=true,fun i=>((s.size:Int)-i).toNat,⟨0,rfl,by omega,by simp⟩,?_⟩
 rintro _ ⟨k,rfl,hk,ha⟩
 refine ae (fun hlt=>?_) fun hlt=>?_
 ·have hx:s.data.toList[k]? =some (s.data.toList[k]'(by omega)):=List.getElem?_eq_getElem (by omega)
  generalize s.data.toList[k]'(by omega)=x at hx
  have hx2:s[Int.toNat (k:Int)]? =some x:=by rw[Int.toNat_natCast,BK];exact hx
  refine⟨by omega,hlt,x,hx2,ae (fun q=>?_) fun q=>⟨by omega,hlt,x,hx2,ae (fun q2=>?_) fun q2=>?_⟩⟩
  ·rw[ua hx (by unfold G.bD;exact decide_eq_false (by omega))]at r;exact r
  ·rw[ua hx (by unfold G.bD;exact decide_eq_false (by omega))]at r;exact r
  ·rw[wr (by omega) (by omega)]
   refine⟨⟨k+1,by simp,by omega,?_⟩,by dsimp only;omega⟩
   rw[List.take_add_one,hx]
   simp only[List.all_append,ha,Bool.true_and,Option.toList,List.all_cons,List.all_nil,Bool.and_true]
   unfold G.bD;exact decide_eq_true (by omega)
 ·have hke:k=s.size:=by omega
  rw[hke,<-hl,List.take_length]at ha
  have e:iZ s=true:=by
   unfold iZ;rw[ha,decide_eq_true (show s.size<=256 by omega)];rfl
  rw[e]at r;exact r
section
variable {gl:GL} {h:ab} {aL:Option Addr} {nL cL:Nat} {ls:List ByteArray}
end
def S38 (n:Int) (h:ab) (R:VP):Prop:=cnd (decide (n<10)) (let m:ab:=h.push (.cells #[.int .u8 (u8.wrap (i64.wrap ((48:Int)+n)))] 5);∃p:List Int,Reads m 1 (some (⟨h.size,0,none⟩:Addr)) 1 (List.map (Value.int IntKind.u8) p)/\R (.string (strOf p)) m) (let d:=fun(u:ByteArray) (q:ab)=>(R (.string u) q);(10:Int)≠0/\(10:Int)≠0/\(aj Tryz.prog 38 #[.int .i64 (i64.wrap (Int.tdiv n (10:Int)))] h [] fun r e=>∃f:ByteArray,r= .string f/\Fr [] h e/\let b:ab:=e.push (.cells #[.int .u8 (u8.wrap (i64.wrap ((48:Int)+(Int.tmod n (10:Int)))))] 5);Fr [] h b/\∃j:List Int,Reads b 1 (some (⟨e.size,0,none⟩:Addr)) 1 (List.map (Value.int IntKind.u8) j)/\Fr [] h b/\(((f.size+(strOf j).size:Nat)):Int)<=9223372036854775807/\d (f++(strOf j)) b)/\(let a:ab:=h.push (.cells #[.int .u8 (u8.wrap (i64.wrap ((48:Int)+(Int.tmod n (10:Int)))))] 5);Fr [] h a/\(aj Tryz.prog 38 #[.int .i64 (i64.wrap (Int.tdiv n (10:Int)))] a [] fun s c=>∃g:ByteArray,s= .string g/\Fr [] h c/\∃k:List Int,Reads c 1 (some (⟨h.size,0,none⟩:Addr)) 1 (List.map (Value.int IntKind.u8) k)/\Fr [] h c/\(((g.size+(strOf k).size:Nat)):Int)<=9223372036854775807/\d (g++(strOf k)) c)/\(∃l:List Int,Reads a 1 (some (⟨h.size,0,none⟩:Addr)) 1 (List.map (Value.int IntKind.u8) l)/\Fr [] h a/\aj Tryz.prog 38 #[.int .i64 (i64.wrap (Int.tdiv n (10:Int)))] a [] fun t o=>∃i:ByteArray,t= .string i/\Fr [] h o/\(((i.size+(strOf l).size:Nat)):Int)<=9223372036854775807/\d (i++(strOf l)) o)))
theorem xn {h:ab} {R:VP} (n:Int) (H:S38 n h R):af Tryz.prog 38 #[.int .i64 n] h R:=bT [] 20 [] [] [] [(3,⟨11,false⟩)] Tryz.func38 (by kernel_rfl) (by kernel_rfl) H
def zc (n:Int) (R:ByteArray->Prop):Prop:=
 ∀(h:ab),Hp h []->af Tryz.prog 38 #[.int .i64 n] h fun v h'=>∃(rV:ByteArray),Sy h [] h' []/\v= .string rV/\R rV
def T38 (n:Int) (R:ByteArray->Prop):Prop:=cnd (decide (n<10)) (R (strOf ([(u8.wrap (i64.wrap ((48:Int)+n)))]:List Int))) (∃a:ByteArray->Prop,((10:Int)≠0/\(10:Int)≠0/\zc (i64.wrap (Int.tdiv n (10:Int))) (fun b=>(((b.size+(strOf ([(u8.wrap (i64.wrap ((48:Int)+(Int.tmod n (10:Int)))))]:List Int)).size:Nat)):Int)<=9223372036854775807/\a (b++(strOf ([(u8.wrap (i64.wrap ((48:Int)+(Int.tmod n (10:Int)))))]:List Int)))))/\∀c:ByteArray,a c->R c)
theorem Bx {n} {R:ByteArray->Prop} (T:T38 n R):zc n R:=by
 intro h H;have Y:Sy h [] h _:=Sy.startM H rfl;apply xn;unfold S38;unfold T38 at T;refine ao T (fun T=>?_) (fun T=>?_)
 ·intro hv;have Y:Sy _ _ hv [_]:=Y.litS (E:=(eK .u8)) (ty:=5) ([(u8.wrap (i64.wrap ((48:Int)+n)))]:List Int) rfl (by simp[maxLen]);clear_value hv;refine⟨_,oS (Y.readsS 0 rfl),?_⟩;exact⟨_,Y.pick [] rfl,rfl,T⟩
 ·obtain⟨Jv,T0,T1⟩:=T;obtain⟨B,hB,_⟩:=Y.cut [] [] rfl;intro K;have hK:∀(x:ByteArray) (hv7:ab),(Sy h [] hv7 ([]++B)/\Jv x)->K x hv7:=by
   subst hB;clear T0 Y;rintro x hv7 ⟨Y,T⟩;replace T:=T1 x T;have Y:Sy _ _ _ []:=Y;unfold K;exact⟨_,Y.pick [] rfl,rfl,T⟩
  subst hB;replace T:=T0;clear T0 T1;have Y0:=Y;have F:Fr [] h h:=Fr.refl _ _;obtain⟨q_5,T⟩:=T;refine⟨q_5,?_⟩;obtain⟨q_4,T⟩:=T;refine⟨q_4,?_⟩;refine⟨?_,?_⟩
  ·refine bB (T _ (Hp.nil _)) (fun _ _ ⟨_,p,_⟩=>p.fr) iV ?_;rintro v hv2 ⟨r,PP,rfl,T⟩;have F:Fr _ _ hv2:=F.trans PP.fr.nil;have fshv2:=F.size;have Y:Sy _ _ hv2 []:=Y.gr PP.fr;clear PP;refine⟨r,rfl,?_⟩;refine⟨F,?_⟩;intro hv3;have Y:Sy _ _ hv3 [_]:=Y.litS (E:=(eK .u8)) (ty:=5) ([(u8.wrap (i64.wrap ((48:Int)+(Int.tmod n (10:Int)))))]:List Int) rfl (by simp[maxLen]);have F:Fr _ _ hv3:=F.pushr _;have fshv3:=F.size;clear_value hv3;refine⟨F,?_⟩;refine⟨_,oS (Y.readsS 0 rfl),?_⟩;refine⟨F,?_⟩;obtain⟨q,T⟩:=T;refine⟨q,?_⟩;exact hK _ _ ⟨Y.pick [] rfl,T⟩
  ·intro hv4;have Y:Sy _ _ hv4 [_]:=Y.litS (E:=(eK .u8)) (ty:=5) ([(u8.wrap (i64.wrap ((48:Int)+(Int.tmod n (10:Int)))))]:List Int) rfl (by simp[maxLen]);have F:Fr _ _ hv4:=F.pushr _;have fshv4:=F.size;clear_value hv4;refine⟨F,?_⟩;refine⟨?_,?_⟩
   ·refine bB (T _ (Hp.nil _)) (fun _ _ ⟨_,p,_⟩=>p.fr) iV ?_;rintro v2 hv5 ⟨r2,PP,rfl,T⟩;have F:Fr _ _ hv5:=F.trans PP.fr.nil;have fshv5:=F.size;have Y:Sy _ _ hv5 [_]:=Y.gr PP.fr;clear PP;refine⟨r2,rfl,?_⟩;refine⟨F,?_⟩;refine⟨_,oS (Y.readsS 0 rfl),?_⟩;refine⟨F,?_⟩;obtain⟨q_2,T⟩:=T;refine⟨q_2,?_⟩;exact hK _ _ ⟨Y.pick [] rfl,T⟩
   ·refine⟨_,oS (Y.readsS 0 rfl),?_⟩;refine⟨F,?_⟩;refine bB (T _ (Hp.nil _)) (fun _ _ ⟨_,p,_⟩=>p.fr) iV ?_;rintro v3 hv6 ⟨r3,PP,rfl,T⟩;have F:Fr _ _ hv6:=F.trans PP.fr.nil;have fshv6:=F.size;have Y:Sy _ _ hv6 [_]:=Y.gr PP.fr;clear PP;refine⟨r3,rfl,?_⟩;refine⟨F,?_⟩;obtain⟨q_3,T⟩:=T;refine⟨q_3,?_⟩;exact hK _ _ ⟨Y.pick [] rfl,T⟩
theorem rG (xs:List Int):(strOf xs).data.toList=xs.map fun n=>UInt8.ofNat n.toNat:=by
 have gen:∀(xs:List Int) (b:ByteArray),(xs.foldl (fun r n=>r.push (UInt8.ofNat n.toNat)) b).data.toList=b.data.toList++xs.map fun n=>UInt8.ofNat n.toNat:=by
  intro xs
  induction xs with
  | nil=>intro b;simp
  | cons x xs ih=>intro b;rw[List.foldl_cons,ih];simp[ByteArray.push]
 have:=gen xs ByteArray.empty
 unfold strOf
 rw[this];rfl
theorem pd (l:List UInt8):strOf (bI l)=G.mkB l:=by
 apply ByteArray.ext;apply Array.ext'
 rw[rG,ub,bI,List.map_map]
 conv=>rhs;rw[<-List.map_id l]
 apply List.map_congr_left
 intro x _
 simp
theorem yJ {n:Nat}:(strOf [u8.wrap (i64.wrap (48+((n % 10:Nat):Int)))]).data.toList=[G.dg n]:=by
 rw[rG]
 have h:n % 10<10:=Nat.mod_lt _ (by decide)
 rw[wr (by omega) (by omega),u8w (by omega) (by omega)]
 show [UInt8.ofNat (48+((n % 10:Nat):Int)).toNat]=[UInt8.ofNat (48+n % 10)]
 congr 2
theorem zH :∀(n:Nat),n<=1000000000000->∀{R:ByteArray->Prop},(∀s:ByteArray,s.data.toList=G.dec n->R s)->zc (n:Int) R:=by
 intro n
 induction n using Nat.strongRecOn with
 | _ n ih=>
  intro hn R r
  apply Bx
  unfold T38
  refine ae (fun h=>?_) fun h=>?_
  ·have e:(n:Int)=((n % 10:Nat):Int):=by omega
   refine r _ ?_
   rw[e,yJ,G.dec,if_pos (by omega)]
  ·refine⟨fun x=>x.data.toList=G.dec n,⟨by decide,by decide,?_⟩,fun x hx=>r x hx⟩
   have e1:i64.wrap (Int.tdiv (n:Int) 10)=((n/10:Nat):Int):=by
    have:Int.tdiv (n:Int) 10=((n/10:Nat):Int):=by rw[Int.tdiv_eq_ediv_of_nonneg (by omega)];omega
    rw[this,wr (by omega) (by omega)]
   have e2:Int.tmod (n:Int) 10=((n % 10:Nat):Int):=rfl
   rw[e1,e2]
   refine ih (n/10) (by omega) (by omega) fun s hs=>⟨?_,?_⟩
   ·have h1:s.size=(G.dec (n/10)).length:=by rw[<-hs];rfl
    have h2:(strOf [u8.wrap (i64.wrap (48+((n % 10:Nat):Int)))]).size=1:=by
     show(strOf [u8.wrap (i64.wrap (48+((n % 10:Nat):Int)))]).data.toList.length=1
     rw[yJ];rfl
    have:=G.n8 12 (n/10) (by omega)
    rw[h1,h2];omega
   ·show(s++strOf [u8.wrap (i64.wrap (48+((n % 10:Nat):Int)))]).data.toList=G.dec n
    rw[ByteArray.data_append,Array.toList_append,hs,yJ,G.dec.eq_def n,if_neg (show ¬n<10 by omega)]
theorem zI {a b:Int} {xs ys:Es} (hx:xs.length<=9223372036854775807) {R:Bool->Prop} (r:R (decide (a=b)&&decide (xs=ys))):zh a xs b ys R:=by
 apply BJ
 unfold T35
 refine fj (fun h=>?_) fun h=>?_
 ·rw[decide_eq_false h,Bool.false_and]at r;exact r
 rw[decide_eq_true h,Bool.true_and,<-uc]at r
 refine fj (fun h=>?_) fun h=>?_
 ·rw[kV (by omega)]at r;exact r
 refine⟨fun i=>∃k:Nat,i=k/\k<=xs.length/\((xs.zip ys).take k).all (fun p=>decide (p.1=p.2))=true,fun i=>((xs.length:Int)-i).toNat,⟨0,rfl,by omega,by simp⟩,?_⟩
 rintro _ ⟨k,rfl,hk,ha⟩
 refine ae (fun hlt=>⟨by omega,hlt,fun x hx=>⟨by omega,by omega,fun y hy=>?_⟩⟩) fun hlt=>?_
 ·have hx:xs[k]? =some x:=by simpa using hx
  have hy:ys[k]? =some y:=by simpa using hy
  have e:((x.1==y.1)&&(x.2==y.2))=decide (x=y):=by
   rw[Bool.eq_iff_iff];simp[Prod.ext_iff]
  rw[e]
  refine bd (fun q=>?_) fun q=>?_
  ·rw[lk (f:=fun x y=>decide (x=y)) hx hy q]at r;exact r
  ·rw[wr (by omega) (by omega)]
   exact⟨⟨k+1,by simp,by omega,jp (f:=fun x y=>decide (x=y)) hx hy q ha⟩,by dsimp only;omega⟩
 ·rw[kX (f:=fun x y=>decide (x=y)) (by omega) (show xs.length<=k by omega) ha]at r;exact r
section
variable {h0 h:ab} {C B:List Ck} {H:List Nat} {A:Option Addr} {n c:Nat} {l:List UInt8}
end
section
variable {gl:GL} {h:ab} {gA:Option Addr} {gL gC:Nat} {es:Es} {g k:Int} {up:Bool}
end
end Go.Proofs.YtlflalecmhgmjaaGreatDoor.N
