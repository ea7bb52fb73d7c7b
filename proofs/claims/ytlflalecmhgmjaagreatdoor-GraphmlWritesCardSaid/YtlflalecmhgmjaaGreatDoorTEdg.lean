/- strings.Builder inside the writer of GML: its methods over chunks. Conditions: none. -/
import Derived.Test.YtlflalecmhgmjaaGreatDoorHSt
import Derived.Test.YtlflalecmhgmjaaGreatDoorSWr
import Derived.Tactics
import Derived.Tactics2
import Derived.Laws.Pointers
import Derived.Lib.Replace
import Derived.Test.YtlflalecmhgmjaaGreatDoorTGw
import Derived.Test.YtlflalecmhgmjaaGreatDoorWEnv
import Derived.Defers
import Derived.Recover
set_option linter.unusedVariables false
set_option linter.unusedSimpArgs false
open Go.IntKind (i64 u64 u8 i32)
namespace Go.Proofs.YtlflalecmhgmjaaGreatDoor.N
open Go.Proofs.YtlflalecmhgmjaaGreatDoor
open Go.X
open Go.Proofs
set_option maxRecDepth 100000
def bI (l:List UInt8):List Int:=l.map fun c=>((c.toNat:Nat):Int)
theorem kj (a b:List UInt8):bI (a++b)=bI a++bI b:=List.map_append
theorem fQ (a:List UInt8):(bI a).length=a.length:=List.length_map _
def pU (u:Bool) (b:Nat):Value:=if u=true then .pointer (some ⟨b,0,none⟩)else .pointer none
set_option maxHeartbeats 1000000 in
theorem tt (b:Nat) (w:World) (h0:w.cell? ⟨b,0,none⟩=some (.pointer (some ⟨b,0,none⟩))):
  Calls Tryz.prog 128 #[.pointer (some ⟨b,0,none⟩)] w fun e w'=>e= .returned (.tuple #[])/\w'=w:=by
 obtain⟨j,hj,_⟩:=Option.map_eq_some_iff.1 (show(Tryz.prog.info? 56).map (·.size)=some 2 by kernel_rfl)
 have t70:Tryz.prog.underlying 54=some (.pointer 56):=by kernel_rfl
 go_enter Tryz.func128,Tryz.ntmps128
 go_wp2
 rw[Lib.run_neq_ptr_same w _ t70 hj]
 go_wp2
 go_end0
 exact⟨rfl,rfl⟩
theorem nH {w:World} {g n:Nat}:(w.freeze ⟨g,0,none⟩ n).heap.size=w.heap.size/\(∀k,k≠g->(w.freeze ⟨g,0,none⟩ n).heap[k]? =w.heap[k]?)/\(w.freeze ⟨g,0,none⟩ n).os=w.os/\(w.freeze ⟨g,0,none⟩ n).output=w.output:=by
 unfold World.freeze
 split
 ·exact⟨rfl,fun _ _=>rfl,rfl,rfl⟩
 ·refine⟨Array.size_modify,fun k hk=>?_,rfl,rfl⟩
  show(w.heap.modify g _)[k]? =_
  rw[Array.getElem?_modify,if_neg (Ne.symm hk)]
theorem tu {w:World} {g n:Nat}:Fr [g] w.heap (w.drew.freeze ⟨g,0,none⟩ n).heap:=by
 obtain⟨h1,h2,_⟩:=nH (w:=w.drew) (g:=g) (n:=n)
 exact⟨Nat.le_of_eq h1.symm,fun k hk hkg=>h2 k (by simpa using hkg)⟩
theorem pF {w:World} {g n:Nat}:Go.X.Rest w (w.drew.freeze ⟨g,0,none⟩ n):=by
 obtain⟨h1,_,h3,h4⟩:=nH (w:=w.drew) (g:=g) (n:=n)
 have ht:(w.drew.freeze ⟨g,0,none⟩ n).tape=w.tape:=by unfold World.freeze;split<;>rfl
 exact⟨h3,ht,h4,Nat.le_of_eq h1.symm⟩
end Go.Proofs.YtlflalecmhgmjaaGreatDoor.N
namespace Go.Proofs.YtlflalecmhgmjaaGreatDoor.G
end Go.Proofs.YtlflalecmhgmjaaGreatDoor.G
namespace Go.Proofs.YtlflalecmhgmjaaGreatDoor.N
open Go.Proofs.YtlflalecmhgmjaaGreatDoor
open Go.X
open Go.Proofs
set_option maxRecDepth 100000
theorem zS {h0 h:ab} {M:List Nat} {cs:List Ck} (Y:Sy h0 M h cs) (k:Nat) {c:Ck} (hk:cs[k]? =some c):∀x∈c.own,x<h.size:=(c.lt h (Y.ok hk)).1
section
variable {b c d:Nat} {u:Bool} {A:Option Addr} {l:List UInt8} {h:ab}
theorem EV (n:Nat):Lib.repeatL [32,32] n=G.ind (2*n):=by
 induction n with
 | zero=>rfl
 | succ n ih=>
  have:Lib.repeatL [32,32] (n+1)=32::32::Lib.repeatL [32,32] n:=rfl
  rw[this,ih,show 2*(n+1)=2*n+1+1 by omega];rfl
def wds (ws:List ByteArray):List Value:=ws.map Value.string
end
theorem xT (l:List (Value × Value)) (j:Nat) (k v:Value):(Ent l).modify j (fun e=>{e with key:=k,val:=v})=Ent (l.modify j fun _=>(k,v)):=by
 refine xN fun i=>?_
 rw[Array.getElem?_modify,fE,List.getElem?_modify]
 by_cases q:j=i
 ·subst q;cases l[j]? <;>simp
 ·cases l[i]? <;>simp[q]
theorem kL (b:ByteArray):G.mkB b.data.toList=b:=by
 cases b;simp[G.mkB]
theorem gF {l:List UInt8} {b:ByteArray}:(Value.string (G.mkB l)=Value.string b) ↔ l=b.data.toList:=by
 constructor
 ·intro e
  injection e with e
  rw[<-e];simp[G.mkB]
 ·rintro rfl;rw[kL]
theorem oE {ks:List (List UInt8)} {j:Nat} {p:Value × Value} (h:(ek ks)[j]? =some p):∃k,ks[j]? =some k/\p=(.string (G.mkB k),.int .i64 1):=by
 unfold ek at h
 rw[List.getElem?_map]at h
 cases e:ks[j]? with
 | none=>rw[e]at h;cases h
 | some k=>rw[e]at h;exact⟨k,rfl,(Option.some.inj h).symm⟩
theorem lh (ks:List (List UInt8)):bm bz (Ent (ek ks)):=by
 intro e he
 obtain⟨j,p,h1,rfl⟩:=dh he
 obtain⟨k,_,rfl⟩:=oE h1
 rfl
theorem tq {h:ab} {m:Nat} {x:Array MapEntry × Nat} (hm:bf h m=some x) (o:Obj):bf (h.push o) m=some x:=by
 obtain⟨es,c⟩:=x
 have:=bd hm
 have hl:=(Array.getElem?_eq_some_iff.1 this).1
 exact gO (by rw[Array.getElem?_push,if_neg (by omega)];exact this)
theorem lk {h:ab} {m:Nat} {x:Array MapEntry × Nat} (hm:bf h m=some x):m<h.size:=by
 obtain⟨es,c⟩:=x
 exact(Array.getElem?_eq_some_iff.1 (bd hm)).1
end Go.Proofs.YtlflalecmhgmjaaGreatDoor.N
namespace Go.X
end Go.X
namespace Go.Proofs.YtlflalecmhgmjaaGreatDoor.N
open Go.Proofs.YtlflalecmhgmjaaGreatDoor
open Go.X
set_option maxRecDepth 100000
abbrev pt (b:Nat):Value:=.pointer (some ⟨b,0,none⟩)
section
variable {gl:GL} {b d:Nat} {s:ByteArray}
end
section
variable {gl:GL} {b d:Nat} {s:ByteArray}
end
section
variable {gl:GL} {b d:Nat} {s:ByteArray}
end
section
variable {gl:GL} {b d:Nat} {s:ByteArray}
end
section
variable {gl:GL} {b d:Nat} {s:ByteArray}
end
section
variable {gl:GL} {b d:Nat} {s:ByteArray}
end
theorem ES {s:ByteArray} {h:ab} (hs:s.size<=9223372036854775807):ae Tryz.prog 68 #[.string s] h fun v h'=>v= .bool (s.data.toList.all (fun c=>G.dq c.toNat)&&decide (s.size<=256))/\h'=h:=by
 apply yp
 unfold S68
 refine⟨fun l h'=>h'=h/\∃i:Nat,l=[.int .i64 (i:Int)]/\i<=s.size/\(s.data.toList.take i).all (fun c=>G.dq c.toNat)=true,fun l _=>match l with
  | [.int _ i]=>s.size-i.toNat
  | _=>0,⟨rfl,0,rfl,Nat.zero_le _,by simp⟩,?_⟩
 rintro x hv ⟨rfl,i,e,hi,ha⟩
 cases e
 refine af (fun q=>?_) fun q=>?_
 ·have hlt:i<s.size:=by omega
  obtain⟨c,hc,hb⟩:=get_at hlt
  refine⟨by omega,q,c,by grind,?_⟩
  refine di Cd ⟨_,rfl,?_⟩
  have hcl:s.data.toList[i]? =some c:=by
   rw[<-hc]
   have:s[i]? =s.data[i]? :=by
    rw[getElem?_pos s i hlt,getElem?_pos s.data i hlt];rfl
   rw[this];simp
  refine bw (fun q1=>?_) fun q1=>?_
  ·grind
  ·rw[show i64.wrap ((i:Int)+1)=((i+1:Nat):Int) by rw[wr (by omega) (by omega)];omega]
   refine⟨⟨rfl,i+1,rfl,hlt,?_⟩,?_⟩
   ·grind [List.take_add_one]
   grind
 ·refine⟨?_,rfl⟩
  have:i=s.size:=by omega
  subst this
  have e:s.data.toList.take s.size=s.data.toList:=List.take_of_length_le (Nat.le_refl _)
  rw[e]at ha
  rw[ha,Bool.true_and]
  congr 1
  grind
section
variable {gl:GL} {b d:Nat} {s:ByteArray} {cl:Nat->Nat} {tfs:Fs} {h:ab}
end
abbrev Es :=List (Int × Int)
def jc (g:Int) (e:Int × Int):Bool:=decide (0<=e.1)&&decide (e.1<g)&&decide (0<=e.2)&&decide (e.2<g)
def dt (g:Int) (es:Es):Bool:=decide (0<=g)&&decide (g<=1024)&&decide (es.length<=3072)&&es.all (jc g)
theorem iq {g:Int} {e:Int × Int}:jc g e=true ↔ (0<=e.1/\e.1<g)/\0<=e.2/\e.2<g:=by
 simp[jc];omega
theorem pG {g:Int} {es:Es}:dt g es=true ↔ (0<=g/\g<=1024)/\es.length<=3072/\∀e∈es,jc g e=true:=by
 simp only[dt,Bool.and_eq_true,decide_eq_true_eq,List.all_eq_true]
 exact⟨fun⟨⟨⟨a,b⟩,c⟩,d⟩=>⟨⟨a,b⟩,c,d⟩,fun⟨⟨a,b⟩,c,d⟩=>⟨⟨⟨a,b⟩,c⟩,d⟩⟩
structure MayN (g:Int) (es:Es):Prop where
 g0:0<=g
 g1:g<=1024
 m:es.length<=3072
 e:∀(i:Nat) (x:Int × Int),es[i]? =some x->(0<=x.1/\x.1<g)/\0<=x.2/\x.2<g
theorem Ci {g:Int} {es:Es} (h:dt g es=true):MayN g es:=by
 obtain⟨⟨h1,h2⟩,h3,h4⟩:=pG.1 h
 exact⟨h1,h2,h3,fun i x hx=>iq.1 (h4 x (List.mem_of_getElem? hx))⟩
theorem pH {g:Int} {es:Es} {i:Nat} {x:Int × Int} (hx:es[i]? =some x) (h:(es.take i).all (jc g)=true) (hb:jc g x=true):(es.take (i+1)).all (jc g)=true:=by
 rw[List.take_add_one,hx]
 simp only[List.all_append,h,Bool.true_and,Option.toList,List.all_cons,List.all_nil,Bool.and_true]
 exact hb
theorem oH {g:Int} {es:Es} {i:Nat} {x:Int × Int} (hx:es[i]? =some x) (hb:jc g x=false):dt g es=false:=by
 rw[<-Bool.not_eq_true]
 intro h
 have:=(pG.1 h).2.2 x (List.mem_of_getElem? hx)
 rw[hb]at this;cases this
theorem uJ {g:Int} {es:Es} {R:Bool->Prop} (h:R (dt g es)):y7 g es R:=by
 apply Fc
 unfold T33
 have no:dt g es=false->R false:=fun e=>e▸h
 refine⟨dt g es=false,?_,no⟩
 refine af (fun h1=>by simp[dt];omega) fun h1=>af (fun h2=>by simp[dt];omega) fun h2=>af (fun h3=>no (by simp[dt];omega)) fun h3=>?_
 refine⟨fun i=>∃k:Nat,i=k/\k<=es.length/\(es.take k).all (jc g)=true,fun i=>((es.length:Int)-i).toNat,⟨0,rfl,by omega,by simp⟩,?_⟩
 rintro _ ⟨k,rfl,hk,ha⟩
 refine af (fun hlt=>?_) fun hlt=>?_
 ·have hx:es[k]? =some (es[k]'(by omega)):=List.getElem?_eq_getElem (by omega)
  generalize es[k]'(by omega)=x at hx
  have small:∀j:Int,0<=j->j<2->(0<=ig x j/\ig x j<g)\/jc g x=false:=fun j _ _=>by
   by_cases hb:jc g x=true
   ·have:=iq.1 hb
    left;unfold ig;split<;>omega
   ·right;simpa using hb
  refine⟨fun j=>∃n:Nat,j=n/\n<=2/\∀m:Int,0<=m->m<n->0<=ig x m/\ig x m<g,fun j=>(2-j).toNat,⟨0,rfl,by omega,by omega⟩,?_⟩
  rintro _ ⟨n,rfl,hn,hall⟩
  refine af (fun hlt2=>⟨by omega,hlt,by omega,by omega,fun y hy=>?_⟩) fun hlt2=>?_
  ·have hy:es[k]? =some y:=by simpa using hy
   rw[hx]at hy;obtain rfl:=Option.some.inj hy
   refine af (fun h5=>no ?_) fun h5=>⟨by omega,by omega,af (fun h6=>no ?_) fun h6=>?_⟩
   ·rcases small n (by omega) hlt2 with q | q
    ·omega
    ·exact oH hx q
   ·rcases small n (by omega) hlt2 with q | q
    ·omega
    ·exact oH hx q
   ·rw[wr (by omega) (by omega)]
    refine⟨⟨n+1,by simp,by omega,fun m h7 h8=>?_⟩,by dsimp only;omega⟩
    by_cases h9:m=n
    ·subst h9;omega
    ·exact hall m h7 (by omega)
  ·rw[wr (by omega) (by omega)]
   have hn2:n=2:=by omega
   subst hn2
   have q0:=hall 0 (by omega) (by omega)
   have q1:=hall 1 (by omega) (by omega)
   have hb:jc g x=true:=iq.2 (by simp[ig]at q0 q1;omega)
   exact⟨⟨k+1,by simp,by omega,pH hx ha hb⟩,by dsimp only;omega⟩
 ·have hke:k=es.length:=by omega
  subst hke
  rw[List.take_length]at ha
  have:dt g es=true:=by
   simp only[dt,Bool.and_eq_true,decide_eq_true_eq];exact⟨⟨⟨by omega,by omega⟩,by omega⟩,ha⟩
  exact this▸h
theorem Cj {a b:Int} {j:Int} (h0:0<=j) (h2:j<2):(#[.int .i64 a,.int .i64 b]:Array Value)[Int.toNat j]? =some (.int .i64 (ig (a,b) j)):=by
 have:j=0\/j=1:=by omega
 rcases this with rfl | rfl<;>rfl
theorem Cl {g:Int} {es:Es} {R:Bool->Prop} (h:R (dt g es)):Bk g es R:=by
 apply E8
 unfold T66
 have no:dt g es=false->R false:=fun e=>e▸h
 refine⟨dt g es=false,?_,no⟩
 refine af (fun h1=>by simp[dt];omega) fun h1=>af (fun h2=>by simp[dt];omega) fun h2=>af (fun h3=>no (by simp[dt];omega)) fun h3=>?_
 refine⟨fun i=>∃k:Nat,i=k/\k<=es.length/\(es.take k).all (jc g)=true,fun i=>((es.length:Int)-i).toNat,⟨0,rfl,by omega,by simp⟩,?_⟩
 rintro _ ⟨k,rfl,hk,ha⟩
 refine af (fun hlt=>⟨by omega,hlt,fun x hx=>?_⟩) fun hlt=>?_
 ·have hx:es[k]? =some x:=by simpa using hx
  have small:∀j:Int,(0<=ig x j/\ig x j<g)\/jc g x=false:=fun j=>by
   by_cases hb:jc g x=true
   ·have:=iq.1 hb
    left;unfold ig;split<;>omega
   ·right;simpa using hb
  refine⟨fun j=>∃n:Nat,j=n/\n<=2/\∀m:Int,0<=m->m<n->0<=ig x m/\ig x m<g,fun j=>(2-j).toNat,⟨0,rfl,by omega,by omega⟩,?_⟩
  rintro _ ⟨n,rfl,hn,hall⟩
  refine af (fun hlt2=>⟨by omega,by omega,ig x n,Cj (by omega) hlt2,?_⟩) fun hlt2=>?_
  ·refine af (fun h5=>no ?_) fun h5=>af (fun h6=>no ?_) fun h6=>?_
   ·rcases small n with q | q
    ·omega
    ·exact oH hx q
   ·rcases small n with q | q
    ·omega
    ·exact oH hx q
   ·rw[wr (by omega) (by omega)]
    refine⟨⟨n+1,by simp,by omega,fun m h7 h8=>?_⟩,by dsimp only;omega⟩
    by_cases h9:m=n
    ·subst h9;omega
    ·exact hall m h7 (by omega)
  ·rw[wr (by omega) (by omega)]
   have hn2:n=2:=by omega
   subst hn2
   have q0:=hall 0 (by omega) (by omega)
   have q1:=hall 1 (by omega) (by omega)
   have hb:jc g x=true:=iq.2 (by simp[ig]at q0 q1;omega)
   exact⟨⟨k+1,by simp,by omega,pH hx ha hb⟩,by dsimp only;omega⟩
 ·have hke:k=es.length:=by omega
  subst hke
  rw[List.take_length]at ha
  have:dt g es=true:=by
   simp only[dt,Bool.and_eq_true,decide_eq_true_eq];exact⟨⟨⟨by omega,by omega⟩,by omega⟩,ha⟩
  exact this▸h
def jh (s:ByteArray):Bool:=(s.data.toList.all fun c=>G.dq c.toNat)&&decide (s.size<=256)
theorem Cm {s:ByteArray} {R:Bool->Prop} (hs:s.size<=9223372036854775807) (r:R (jh s)):Ek s R:=by
 intro h _
 exact(ES hs).mono fun v h' ⟨e1,e2⟩=>⟨_,by rw[e2];exact sy0 (Fr.refl _ _),e1,r⟩
def aU (a n:Int):Bool:=decide (a=0)||decide (a=n)
theorem qR {a n:Int} {R:Bool->Prop} (r:R (aU a n)):wF a n R:=by
 apply E9
 unfold T67
 unfold aU at r
 refine bu (fun h=>?_) fun h=>?_
 ·rw[decide_eq_true h]at r;exact r
 ·rw[decide_eq_false h,Bool.false_or]at r
  have:(a==n)=decide (a=n):=by rw[Bool.eq_iff_iff];simp
  rw[this];exact r
def du (n:Int) (es:Es) (ls:List ByteArray) (ss:List (Nat × Nat)) (ws:List Nat):Bool:=
 dt n es&&(aU (ls.length:Int) n&&(aU (ss.length:Int) n&&(aU (ws.length:Int) (es.length:Int)&&ls.all jh)))
theorem Cn {n:Int} {es:Es} {dr:Bool} {ls:List ByteArray} {ss:List (Nat × Nat)} {ws:List Nat} {R:Bool->Prop} (hs:∀s∈ls,s.size<=9223372036854775807) (hl:ls.length<=9223372036854775807) (r:R (du n es ls ss ws)):El n es dr ls ss ws R:=by
 apply Fa
 unfold T25
 have no:du n es ls ss ws=false->R false:=fun e=>e▸r
 refine⟨du n es ls ss ws=false,Cl (bw (fun q=>?_) fun q1=>qR (bw (fun q=>?_) fun q2=>qR (bw (fun q=>?_) fun q3=>qR (bw (fun q=>?_) fun q4=>?_)))),no⟩
 ·unfold du;rw[q];rfl
 ·unfold du;rw[q];simp
 ·unfold du;rw[q];simp
 ·refine no ?_
  unfold du;rw[q];simp
 ·refine⟨fun i=>∃k:Nat,i=k/\k<=ls.length/\(ls.take k).all jh=true,fun i=>((ls.length:Int)-i).toNat,⟨0,rfl,by omega,by simp⟩,?_⟩
  rintro _ ⟨k,rfl,hk,ha⟩
  refine af (fun hlt=>⟨by omega,hlt,fun x hx=>Cm (hs x (List.mem_of_getElem? hx)) (bw (fun q=>no ?_) fun q=>?_)⟩) fun hlt=>?_
  ·have:ls.all jh=false:=by
    rw[List.all_eq_false]
    exact⟨x,List.mem_of_getElem? hx,by simp[q]⟩
   unfold du;rw[this];simp
  ·have hw:i64.wrap ((k:Int)+1)=((k+1:Nat):Int):=by rw[wr (by omega) (by omega)];omega
   rw[hw]
   refine⟨⟨k+1,rfl,by omega,?_⟩,by dsimp only;omega⟩
   have hx:ls[k]? =some x:=by simpa using hx
   rw[List.take_add_one,hx]
   simp only[List.all_append,ha,Bool.true_and,Option.toList,List.all_cons,List.all_nil,Bool.and_true]
   exact q
  ·have hke:k=ls.length:=by omega
   rw[hke,List.take_length]at ha
   have e:du n es ls ss ws=true:=by
    unfold du;rw[q1,q2,q3,q4,ha];rfl
   rw[e]at r;exact r
open Go.Proofs
theorem jB (l:List UInt8):(G.mkB l).data.toList=l:=by simp[G.mkB]
theorem aB (l:List UInt8):(G.mkB l).size=l.length:=by simp[G.mkB,ByteArray.size]
def Hd (H:List Nat) (B:List Ck):Prop:=∀x∈H,∃j:Nat,B[j]? =some (Ck.junk x)
section
variable {b c d:Nat} {u:Bool} {A:Option Addr} {l:List UInt8} {h0 h:ab} {C B:List Ck} {H:List Nat} {K:Value->ab->Prop}
theorem Sq.sub {cs cs':List Ck} (Q:Sq h0 C h cs) (f:Nat->Nat) (hf:∀i j c e,cs'[i]? =some c->cs'[j]? =some e->f i=f j->i=j) (hg:∀k c,cs'[k]? =some c->cs[f k]? =some c):Sq h0 C h cs':=
 ⟨⟨Q.sy.fr,⟨fun k c hk=>Q.sy.hp.ok _ c (hg k c hk),fun i j c e hij hi hj=>Q.sy.hp.ap (f i) (f j) c e (fun q=>hij (hf i j c e hi hj q)) (hg i c hi) (hg j e hj)⟩,fun k c hk=>Q.sy.ow _ c (hg k c hk)⟩,fun x hx=>by
  obtain⟨k,c,h1,h2⟩:=bk.1 hx
  exact Q.ri x (bk.2 ⟨_,c,hg k c h1,h2⟩)⟩
theorem Sq.del {D:List Ck} {c:Ck} (Q:Sq h0 C h (D++[c]++B)):Sq h0 C h (D++B):=by
 refine Sq.sub Q (fun k=>if k<D.length then k else k+1) (fun i j _ _ _ _ e=>?_) fun k c hk=>?_
 ·try simp only at e
  split at e<;>split at e<;>omega
 ·try simp only
  split
  ·rename_i hl
   rw[List.getElem?_append_left hl]at hk
   rw[List.append_assoc,List.getElem?_append_left hl];exact hk
  ·rename_i hl
   rw[List.getElem?_append_right (by omega)]at hk
   rw[List.getElem?_append_right (by simp;omega)]
   simpa[show k+1-(D.length+1)=k-D.length by omega]using hk
theorem Sq.ins {D:List Ck} (Q:Sq h0 C h (D++B)) (ty:TypeId) (vs:List Value):Sq h0 C (h.push (.cells vs.toArray ty)) (D++[Ck.ob h.size ty vs]++B):=by
 have Q1:Sq h0 C (h.push (.cells vs.toArray ty)) (D++B++[Ck.ob h.size ty vs]):=⟨Sy.newO Q.sy vs,fun x hx=>Q.ri x (by simpa[rds,Ck.ob]using hx)⟩
 refine Sq.sub Q1 (fun k=>if k<D.length then k else if k=D.length then D.length+B.length else k-1) (fun i j c e hi hj q=>?_) fun k c hk=>?_
 ·have li:=(List.getElem?_eq_some_iff.1 hi).1
  have lj:=(List.getElem?_eq_some_iff.1 hj).1
  simp only[List.length_append,List.length_singleton]at li lj
  try simp only at q
  split at q<;>split at q<;>(try split at q)<;>(try split at q)<;>omega
 ·have li:=(List.getElem?_eq_some_iff.1 hk).1
  simp only[List.length_append,List.length_singleton]at li
  try simp only
  split
  ·rename_i hl
   rw[List.append_assoc,List.getElem?_append_left hl]at hk
   rw[List.append_assoc,List.getElem?_append_left hl];exact hk
  ·split
   ·rename_i hl
    subst hl
    rw[List.append_assoc,List.getElem?_append_right (Nat.le_refl _)]at hk
    rw[List.getElem?_append_right (by simp)]
    simpa using hk
   ·rename_i hl1 hl2
    rw[List.getElem?_append_right (by simp;omega)]at hk
    rw[List.append_assoc,List.getElem?_append_right (by omega),List.getElem?_append_left (by simp at hk;omega)]
    simpa[show k-(D.length+1)=k-1-D.length by omega]using hk
theorem Hd.apart {D:List Ck} (hd:Hd H B) (Q:Sq h0 C h (D++B)):∀x∈H,x<h.size/\x∉aA D:=by
 intro x hx
 obtain⟨j,hj⟩:=hd x hx
 have hj':=kM (A:=D) hj
 refine⟨(Ck.junk x |>.lt h (Q.sy.ok hj')).1 x (by simp[Ck.junk]),fun w=>?_⟩
 obtain⟨k,e,h1,h2⟩:=bM.1 w
 have:=(List.getElem?_eq_some_iff.1 h1).1
 exact(Q.sy.hp.ap k (D.length+j) e _ (by omega) (ik h1) hj' x h2).1 (by simp[Ck.junk])
theorem Ay {gl:GL} {n:Nat} (g:Gl gl h) (hn:n<=1000000):ae Tryz.prog 54 #[.int .i64 (n:Int)] h fun v h'=>v= .string (G.mkB (G.dec n))/\Fr [] h h':=by
 intro w hw
 subst hw
 refine(Go.Proofs.Tryz.strconv_Itoa (n:Int) (by omega) (by omega) w (Gl.tab g)).mono fun e w' ⟨e1,k,os,e2⟩=>⟨_,e1,?_,?_,?_⟩
 ·subst e2;exact⟨rfl,rfl,rfl,by simp[Sort.grow]⟩
 ·have:Lib.itoa (n:Int)=G.dec n:=by rw[G.uA];unfold G.idt;rw[if_neg (by omega)];rfl
  rw[this];rfl
 ·subst e2;exact⟨by simp[Sort.grow],fun j hj _=>Sort.heap_grow_old _ _ hj⟩
end
def qS (gl:GL) (tx:Nat->List UInt8) (x:Nat):Prop:=(∀h:ab,Gl gl h->ae Tryz.prog 55 #[.float .f64 x] h fun v h'=>v= .string (G.mkB (tx x))/\Fr [] h h')/\(tx x).length<=100
def dV (gl:GL) (aE:Option Addr) (nE cE:Nat) (es:Es) (aL:Option Addr) (nL cL:Nat) (ls:List ByteArray) (aS:Option Addr) (nS cS:Nat) (ss:List (Nat × Nat)) (aW:Option Addr) (nW cW:Nat) (ws:List Nat):List Ck:=
 [Ck.glob gl,Ck.vw eP aE nE cE es,Ck.vw eS aL nL cL ls,Ck.vw eFF aS nS cS ss,Ck.vw eF aW nW cW ws]
theorem fZ {n:Nat} (h:n<=1000000):(G.dec n).length<=10:=G.sb 9 n (by omega)
section
variable {gl:GL} {b c:Nat} {u:Bool} {A:Option Addr} {l:List UInt8} {h:ab} {tx:Nat->List UInt8} {aE aL aS aW:Option Addr} {nE cE nL cL nS cS nW cW n v:Nat} {es:Es} {ls:List ByteArray} {ss:List (Nat × Nat)} {ws:List Nat} {dir:Bool}
end
def dB (gl:GL) (aE:Option Addr) (nE cE:Nat) (es:Es) (aL:Option Addr) (nL cL:Nat) (ls:List ByteArray) (aS:Option Addr) (nS cS:Nat) (ss:List (Nat × Nat)) (aW:Option Addr) (nW cW:Nat) (ws:List Nat) (k:Nat):List Ck:=
 dV gl aE nE cE es aL nL cL ls aS nS cS ss aW nW cW ws++[Ck.junk k]
section
variable {gl:GL} {h:ab} {tx:Nat->List UInt8} {aE aL aS aW:Option Addr} {nE cE nL cL nS cS nW cW:Nat} {n:Int} {es:Es} {ls:List ByteArray} {ss:List (Nat × Nat)} {ws:List Nat} {dir:Bool}
end
set_option maxHeartbeats 2000000
def isNaN (x:Nat):Bool:=(FloatKind.f64.format.read x).isNaN
abbrev F64 :Ieee.Format:=FloatKind.f64.format
theorem qQ (x:Nat):F64.order x x=if isNaN x then none else some .eq:=by
 unfold Ieee.Format.order isNaN Ieee.Datum.order Ieee.Datum.isNaN
 cases F64.read x with
 | nan s t=>simp
 | infinity s=>simp[Std.compare_self]<;>cases s<;>rfl
 | number s m i=>simp[Std.compare_self]
theorem pB (x:Nat):(F64.order x x != some .eq)=isNaN x:=by
 rw[qQ];cases isNaN x<;>rfl
theorem xO {P:Program} {f:FuncId} {fn:Func} {e:Array Value->Sem Value} {args:Array Value} (hf:P.funcs[f]? =some fn) (hname:(fn.name== "runtime.NumGoroutine")=false) (hb:fn.body.isNone=true)
  (hn:Extern.findNext fn=none) (he:Extern.find fn=some e) (w:World):(callFunc f args).run P w=((e args).run P w).andThen fun v w'=>.ok (.value v) w':=by
 have h1:¬fn.name= "runtime.NumGoroutine" :=by simpa using hname
 have h2:fn.body=none:=by simpa using hb
 simp[callFunc,hf,hn,he,h1,h2]
theorem uC {P:Program} {f:FuncId} {fn:Func} {e:Array Value->Sem Value} {args:Array Value} {v:Value} (hf:P.funcs[f]? =some fn) (hname:(fn.name== "runtime.NumGoroutine")=false) (hb:fn.body.isNone=true)
  (hn:Extern.findNext fn=none) (he:Extern.find fn=some e) (hv:e args=pure v):zu P f args (· =v):=by
 intro w
 refine⟨v,w,?_,rfl,Rest.refl w,rfl⟩
 rw[xO hf hname hb hn he,hv];simp
theorem uD {f:FuncId} {args:Array Value} {v:Value} {K:Value->Prop} (h:zu Tryz.prog f args (· =v)) (k:K v):qd Tryz.prog f args K:=⟨_,h,fun _ e=>e▸k⟩
section
variable {h:ab} {aX aY:Option Addr} {nX cX nY cY:Nat}
end
structure MD where
 n:Int
 dir:Bool
 es:List (Int × Int)
 ls:List ByteArray
 ss:List (Nat × Nat)
 ws:List Nat
structure MDs where
 aE:Option Addr
 nE:Nat
 cE:Nat
 aL:Option Addr
 nL:Nat
 cL:Nat
 aS:Option Addr
 nS:Nat
 cS:Nat
 aW:Option Addr
 nW:Nat
 cW:Nat
def MD.vw (d:MD) (s:MDs):List Ck:=[Ck.vw eP s.aE s.nE s.cE d.es,Ck.vw eS s.aL s.nL s.cL d.ls,Ck.vw eFF s.aS s.nS s.cS d.ss,Ck.vw eF s.aW s.nW s.cW d.ws]
def MD.v (d:MD) (s:MDs):Value:=.agg #[.int .i64 d.n,.slice s.aE s.nE s.cE,.bool d.dir,.slice s.aL s.nL s.cL,.slice s.aS s.nS s.cS,.slice s.aW s.nW s.cW]
theorem zi :F64.leastPlace= -1074:=by decide
theorem pX :F64.binade=2^52:=by decide
theorem Aj :F64.infRung=2047*2^52:=by decide
theorem wM :F64.signWeight=2^63:=by decide
def pY (x:Nat):Nat:=Op.negFloat .f64 x
theorem zj (q:Nat):((q ^^^ 1) % 2==1)= !(q % 2==1):=by
 have:=Nat.xor_mod_two_pow (a:=q) (b:=1) (n:=1)
 rw[Nat.pow_one]at this
 grind [Nat.mod_two_eq_zero_or_one]
theorem wN (x:Nat):F64.read (pY x)=(F64.read x).opposite:=by
 have e0:pY x=x ^^^ 2^63:=rfl
 have h1:(x ^^^ 2^63) % 2^63=x % 2^63:=by
  rw[Nat.xor_mod_two_pow,Nat.mod_self,Nat.xor_zero]
 have h2:(x ^^^ 2^63)/2^63=x/2^63 ^^^ 1:=by
  rw[Nat.xor_div_two_pow]
 rw[e0]
 unfold Ieee.Format.read
 simp only[pX,wM,zi,Aj]
 rw[h1,h2,zj]
 split
 ·rfl
 ·split
  ·rfl
  ·split<;>rfl
theorem rc {a:Nat} (h:isNaN a=false):(∃s,F64.read a= .infinity s)\/∃s m i,F64.read a= .number s m i:=by
 unfold isNaN at h
 cases hr:F64.read a with
 | nan s t=>rw[show FloatKind.f64.format.read a= .nan s t from hr]at h;simp[Ieee.Datum.isNaN]at h
 | infinity s=>grind
 | number s m i=>grind
set_option maxHeartbeats 1000000
theorem tN (k:Nat):((2:Int)^k)=((2^k:Nat):Int):=by rw[Int.natCast_pow];rfl
theorem shr (a k:Nat):Int.fdiv (a:Int) (2^k)=((a/2^k:Nat):Int):=by
 rw[tN,Int.fdiv_eq_ediv_of_nonneg _ (Int.natCast_nonneg _)];rfl
theorem Br (a:Int) (k:Nat):Int.fdiv a (2^k)=a/2^k:=Int.fdiv_eq_ediv_of_nonneg _ (by rw[tN];exact Int.natCast_nonneg _)
theorem pZ (a:Nat):u64.wrap (a:Int)=((a % 18446744073709551616:Nat):Int):=by rw[IntKind.wrap_u64];omega
theorem gM {a:Nat} (h:a<18446744073709551616):u64.wrap (a:Int)=(a:Int):=by rw[IntKind.wrap_u64];omega
theorem wr1 {k:Nat} (h:k<1000000):i64.wrap ((k:Int)+1)=((k+1:Nat):Int):=by rw[wr (by omega) (by omega)];omega
theorem wR {b:Bool} {R:Int->Prop} (r:R (((if b then 1 else 0:Nat)):Int)):sP b R:=by
 apply D6;unfold Bd
 cases b
 ·exact cq rfl r
 ·exact bG rfl r
theorem zm (b:Nat):zu Tryz.prog 245 #[.float .f64 b] (· = .int .u64 b):=
 uC Tryz.func245 (by kernel_rfl) (by kernel_rfl) (by kernel_rfl) (e:=Extern.MathFloatBits.float64bits) (by kernel_rfl) rfl
abbrev Fi :Nat:=9218868437227405311
def isInf (x:Nat):Bool:=F64.order x Fi==some .gt
theorem Eu (s:ByteArray) (i:Nat):s[i]? =s.data.toList[i]? :=by
 rw[getElem?_def]
 by_cases h:i<s.size
 ·rw[dif_pos h]
  have h2:i<s.data.toList.length:=h
  rw[List.getElem?_eq_getElem h2];rfl
 ·rw[dif_neg h]
  exact(List.getElem?_eq_none (by exact Nat.le_of_not_lt h)).symm
end Go.Proofs.YtlflalecmhgmjaaGreatDoor.N
/- readFloat as a function: digits scanned, the exponent read. Conditions: none. -/
namespace Go.Proofs.YtlflalecmhgmjaaGreatDoor.N
open Go.X Go.Proofs.YtlflalecmhgmjaaGreatDoor
set_option maxRecDepth 100000
set_option maxHeartbeats 2000000
end Go.Proofs.YtlflalecmhgmjaaGreatDoor.N
/- readFloat answers as the scan does, for texts of numbers. Conditions: none. -/
namespace Go.Proofs.YtlflalecmhgmjaaGreatDoor.N
open Go.X Go.Proofs.YtlflalecmhgmjaaGreatDoor
set_option maxRecDepth 100000
set_option maxHeartbeats 4000000
theorem eqB {c d:UInt8}:(((UInt8.toNat c:Nat):Int)=(d.toNat:Int)) ↔ c=d:=
 ⟨fun h=>UInt8.toNat_inj.1 (by omega),fun h=>by rw[h]⟩
end Go.Proofs.YtlflalecmhgmjaaGreatDoor.N
/- What is told of special texts: a number's text is none; exact answers by floats. Conditions: none. -/
namespace Go.Proofs.YtlflalecmhgmjaaGreatDoor.N
open Go.X Go.Proofs.YtlflalecmhgmjaaGreatDoor
set_option maxRecDepth 100000
set_option maxHeartbeats 1000000
end Go.Proofs.YtlflalecmhgmjaaGreatDoor.N
/- atof64exact as a function. Conditions: none. -/
namespace Go.Proofs.YtlflalecmhgmjaaGreatDoor.N
open Go.X Go.Proofs.YtlflalecmhgmjaaGreatDoor
set_option maxRecDepth 100000
set_option maxHeartbeats 1000000
open Go.RowKit (Below)
theorem toL (s:ByteArray):s.toList=s.data.toList:=Lib.toList_data s
end Go.Proofs.YtlflalecmhgmjaaGreatDoor.N
/- A text of the form of a number is one that the scan reads to its end. Conditions: none. -/
namespace Go.Proofs.YtlflalecmhgmjaaGreatDoor.N
open Go.X Go.Proofs.YtlflalecmhgmjaaGreatDoor
set_option maxRecDepth 100000
set_option maxHeartbeats 1000000
end Go.Proofs.YtlflalecmhgmjaaGreatDoor.N
/- weigh.Read answers as told, if ParseFloat has a value. Conditions: none. -/
namespace Go.Proofs.YtlflalecmhgmjaaGreatDoor.N
open Go.X Go.Proofs.YtlflalecmhgmjaaGreatDoor
open Go.RowKit (Below)
set_option maxRecDepth 100000
set_option maxHeartbeats 1000000
end Go.Proofs.YtlflalecmhgmjaaGreatDoor.N
namespace Go.Proofs.YtlflalecmhgmjaaGreatDoor.G
section
variable {s:ByteArray} {rd:ByteArray->Option (Nat × Nat)} {cl:Nat->Nat}
end
end Go.Proofs.YtlflalecmhgmjaaGreatDoor.G
namespace Go.Proofs.YtlflalecmhgmjaaGreatDoor.N
open Go.Proofs.YtlflalecmhgmjaaGreatDoor
open Go.X
set_option maxRecDepth 100000
section
variable {gl:GL} {b d:Nat} {s:ByteArray} {cl:Nat->Nat} {h:ab}
end
section
variable (gl:GL) (b:Nat) (s:ByteArray) (rd:ByteArray->Option (Nat × Nat)) (cl:Nat->Nat)
end
section
variable {gl:GL} {b:Nat} {s:ByteArray} {rd:ByteArray->Option (Nat × Nat)} {cl:Nat->Nat}
end
section
variable {gl:GL} {b:Nat} {s:ByteArray} {rd:ByteArray->Option (Nat × Nat)} {cl:Nat->Nat}
end
end Go.Proofs.YtlflalecmhgmjaaGreatDoor.N
namespace Go.Proofs.YtlflalecmhgmjaaGreatDoor.G
variable {s:ByteArray} {rd:ByteArray->Option (Nat × Nat)} {cl:Nat->Nat}
end Go.Proofs.YtlflalecmhgmjaaGreatDoor.G
namespace Go.Proofs.YtlflalecmhgmjaaGreatDoor.N
open Go.Proofs.YtlflalecmhgmjaaGreatDoor
open Go.X
set_option maxRecDepth 100000
section
variable {gl:GL} {b:Nat} {s:ByteArray} {rd:ByteArray->Option (Nat × Nat)} {cl:Nat->Nat}
end
def kh (n:Nat):Code->Option (Array Oper)
 | .seq x y=>(kh n x).or (kh n y)
 | .cond _ x y=>(kh n x).or (kh n y)
 | .block _ x=>kh n x
 | .region k ops _=>if k=n then some ops else none
 | _=>none
theorem dy {k t:Nat} {v y:AVal} {r:List (Nat × AVal)} (h:Go.X.look ((k,v)::r) t=some y):(t=k/\y=v)\/Go.X.look r t=some y:=by
 unfold Go.X.look at h
 split at h
 ·rename_i hb
  exact .inl ⟨(Nat.eq_of_beq_eq_true hb).symm,(Option.some.inj h).symm⟩
 ·exact .inr h
def jz (h:ab) (p1 p2 p3:Nat) (x x2:Int):ab:=
 am (am (am (am (am (am (am (am h p1 0 (.int .i64 0)) p1 (0+1) (.slice none 0 0)) p1 ((0+1)+1) (.bool false)) p1 (((0+1)+1)+1) (.slice none 0 0)) p1 ((((0+1)+1)+1)+1) (.slice none 0 0)) p1 (((((0+1)+1)+1)+1)+1) (.slice none 0 0)) p2 0 (.int .i64 x)) p3 0 (.int .i64 x2)
open Go.Proofs
section
variable {gl:GL} {s:ByteArray} {rd:ByteArray->Option (Nat × Nat)} {cl:Nat->Nat}
def z29 :List Value:=[.int .i64 0,.slice none 0 0,.bool false,.slice none 0 0,.slice none 0 0,.slice none 0 0]
theorem Sq.drop {h0 h h':ab} {C A B:List Ck} (q:Sq h0 C h (A++B)) (f:Fr (aA A) h h'):Sq h0 C h' B:=by
 have p:Sq h A h' []:=⟨⟨f,Hp.nil _,fun k c hk=>by simp at hk⟩,fun b hb=>by simp[rds]at hb⟩
 simpa using Sq.call q p
theorem Ce (h:ab) (a b c:Obj):(((h.push a).push b).push c)[h.size]? =some a/\(((h.push a).push b).push c)[h.size+1]? =some b/\(((h.push a).push b).push c)[h.size+1+1]? =some c:=by
 refine⟨?_,?_,?_⟩
 ·rw[Array.getElem?_push,if_neg (by simp;omega),Array.getElem?_push,if_neg (by simp),Array.getElem?_push,if_pos rfl]
 ·rw[Array.getElem?_push,if_neg (by simp),Array.getElem?_push,if_pos (by simp)]
 ·rw[Array.getElem?_push,if_pos (by simp)]
theorem uH {h:ab} {p1 p2 p3:Nat} {x y:Int} (h1:h[p1]? =some (.cells z29.toArray 29 (0,0))) (h2:h[p2]? =some (.cells #[.int .i64 0] 3 (0,0))) (h3:h[p3]? =some (.cells #[.int .i64 0] 32 (0,0))) (n2:p1≠p2/\p1≠p3/\p2≠p3):
  (jz h p1 p2 p3 x y)[p1]? =some (.cells #[.int .i64 0,.slice none 0 0,.bool false,.slice none 0 0,.slice none 0 0,.slice none 0 0] 29 (0,0))/\(jz h p1 p2 p3 x y)[p2]? =some (.cells #[.int .i64 x] 3 (0,0))/\(jz h p1 p2 p3 x y)[p3]? =some (.cells #[.int .i64 y] 32 (0,0)):=by
 unfold jz
 have a:=bD (bD (bD (bD (bD (bD h1 (o:=0) (v:=.int .i64 0)) (o:=0+1) (v:=.slice none 0 0)) (o:=(0+1)+1) (v:=.bool false)) (o:=((0+1)+1)+1) (v:=.slice none 0 0)) (o:=(((0+1)+1)+1)+1) (v:=.slice none 0 0)) (o:=((((0+1)+1)+1)+1)+1) (v:=.slice none 0 0)
 generalize hq:am (am (am (am (am (am h p1 0 (.int .i64 0)) p1 (0+1) (.slice none 0 0)) p1 ((0+1)+1) (.bool false)) p1 (((0+1)+1)+1) (.slice none 0 0)) p1 ((((0+1)+1)+1)+1) (.slice none 0 0)) p1 (((((0+1)+1)+1)+1)+1) (.slice none 0 0)=hv at a ⊢
 have F:Fr [p1] h hv:=by
  subst hq
  exact((((((Fr.refl _ _:Fr [p1] h h).hsetr (.inr (by simp))).hsetr (.inr (by simp))).hsetr (.inr (by simp))).hsetr (.inr (by simp))).hsetr (.inr (by simp))).hsetr (.inr (by simp))
 have g2:hv[p2]? =some (.cells #[.int .i64 0] 3 (0,0)):=F.blk_some h2 (by simp[Ne.symm n2.1])
 have g3:hv[p3]? =some (.cells #[.int .i64 0] 32 (0,0)):=F.blk_some h3 (by simp[Ne.symm n2.2.1])
 refine⟨?_,?_,?_⟩
 ·rw[dM n2.2.1,dM n2.1];exact a
 ·rw[dM n2.2.2];exact bD g2
 ·have:=(Fr.hset hv p2 0 (.int .i64 x)).blk_some g3 (by simp[Ne.symm n2.2.2])
  exact bD this
end
set_option maxHeartbeats 1000000
end Go.Proofs.YtlflalecmhgmjaaGreatDoor.N
namespace Go.Proofs.YtlflalecmhgmjaaGreatDoor.G
section
variable {s:ByteArray} {rd:ByteArray->Option (Nat × Nat)} {cl:Nat->Nat}
end
end Go.Proofs.YtlflalecmhgmjaaGreatDoor.G
namespace Go.Proofs.YtlflalecmhgmjaaGreatDoor.N
open Go.Proofs.YtlflalecmhgmjaaGreatDoor
open Go.X
set_option maxRecDepth 100000
set_option maxHeartbeats 2000000
open Go.Proofs
theorem ET :G.dec 0=[48]:=by rw[G.dec];rfl
def tx0 :Nat->List UInt8:=fun _=>[]
theorem uI {s:ByteArray} {k:Nat} {x:UInt8} (hx:s.data.toList[k]? =some x) (h:G.dq x.toNat=false):jh s=false:=by
 unfold jh
 have:(s.data.toList.all fun c=>G.dq c.toNat)=false:=by
  rw[List.all_eq_false]
  exact⟨x,List.mem_of_getElem? hx,by simp[h]⟩
 rw[this];rfl
theorem Ch {s:ByteArray} {R:Bool->Prop} (r:R (jh s)):Bl s R:=by
 apply Fb
 unfold T32
 have hl:s.data.toList.length=s.size:=rfl
 refine af (fun h=>?_) fun h=>?_
 ·have:jh s=false:=by unfold jh;rw[decide_eq_false (show ¬s.size<=256 by omega),Bool.and_false]
  rw[this]at r;exact r
 refine⟨fun i=>∃k:Nat,i=k/\k<=s.size/\(s.data.toList.take k).all (fun c=>G.dq c.toNat)=true,fun i=>((s.size:Int)-i).toNat,⟨0,rfl,by omega,by simp⟩,?_⟩
 rintro _ ⟨k,rfl,hk,ha⟩
 refine af (fun hlt=>?_) fun hlt=>?_
 ·have hx:s.data.toList[k]? =some (s.data.toList[k]'(by omega)):=List.getElem?_eq_getElem (by omega)
  generalize s.data.toList[k]'(by omega)=x at hx
  have hx2:s[Int.toNat (k:Int)]? =some x:=by rw[Int.toNat_natCast,Eu];exact hx
  refine⟨by omega,hlt,x,hx2,af (fun q=>?_) fun q=>⟨by omega,hlt,x,hx2,af (fun q2=>?_) fun q2=>?_⟩⟩
  ·rw[uI hx (by unfold G.dq;exact decide_eq_false (by omega))]at r;exact r
  ·rw[uI hx (by unfold G.dq;exact decide_eq_false (by omega))]at r;exact r
  ·rw[wr (by omega) (by omega)]
   refine⟨⟨k+1,by simp,by omega,?_⟩,by dsimp only;omega⟩
   rw[List.take_add_one,hx]
   simp only[List.all_append,ha,Bool.true_and,Option.toList,List.all_cons,List.all_nil,Bool.and_true]
   unfold G.dq;exact decide_eq_true (by omega)
 ·have hke:k=s.size:=by omega
  rw[hke,<-hl,List.take_length]at ha
  have e:jh s=true:=by
   unfold jh;rw[ha,decide_eq_true (show s.size<=256 by omega)];rfl
  rw[e]at r;exact r
section
variable {gl:GL} {h:ab} {aL:Option Addr} {nL cL:Nat} {ls:List ByteArray}
end
def S38 (n:Int) (h:ab) (R:VP):Prop:=cnd (decide (n<10)) (let m:ab:=h.push (.cells #[.int .u8 (u8.wrap (i64.wrap ((48:Int)+n)))] 5);∃p:List Int,Reads m 1 (some (⟨h.size,0,none⟩:Addr)) 1 (List.map (Value.int IntKind.u8) p)/\R (.string (strOf p)) m) (let d:=fun(u:ByteArray) (q:ab)=>(R (.string u) q);(10:Int)≠0/\(10:Int)≠0/\(ai Tryz.prog 38 #[.int .i64 (i64.wrap (Int.tdiv n (10:Int)))] h [] fun r e=>∃f:ByteArray,r= .string f/\Fr [] h e/\let b:ab:=e.push (.cells #[.int .u8 (u8.wrap (i64.wrap ((48:Int)+(Int.tmod n (10:Int)))))] 5);Fr [] h b/\∃j:List Int,Reads b 1 (some (⟨e.size,0,none⟩:Addr)) 1 (List.map (Value.int IntKind.u8) j)/\Fr [] h b/\(((f.size+(strOf j).size:Nat)):Int)<=9223372036854775807/\d (f++(strOf j)) b)/\(let a:ab:=h.push (.cells #[.int .u8 (u8.wrap (i64.wrap ((48:Int)+(Int.tmod n (10:Int)))))] 5);Fr [] h a/\(ai Tryz.prog 38 #[.int .i64 (i64.wrap (Int.tdiv n (10:Int)))] a [] fun s c=>∃g:ByteArray,s= .string g/\Fr [] h c/\∃k:List Int,Reads c 1 (some (⟨h.size,0,none⟩:Addr)) 1 (List.map (Value.int IntKind.u8) k)/\Fr [] h c/\(((g.size+(strOf k).size:Nat)):Int)<=9223372036854775807/\d (g++(strOf k)) c)/\(∃l:List Int,Reads a 1 (some (⟨h.size,0,none⟩:Addr)) 1 (List.map (Value.int IntKind.u8) l)/\Fr [] h a/\ai Tryz.prog 38 #[.int .i64 (i64.wrap (Int.tdiv n (10:Int)))] a [] fun t o=>∃i:ByteArray,t= .string i/\Fr [] h o/\(((i.size+(strOf l).size:Nat)):Int)<=9223372036854775807/\d (i++(strOf l)) o)))
theorem yS {h:ab} {R:VP} (n:Int) (H:S38 n h R):ae Tryz.prog 38 #[.int .i64 n] h R:=aR [] 20 [] [] [] [(3,⟨11,false⟩)] Tryz.func38 (by kernel_rfl) (by kernel_rfl) H
def AQ (n:Int) (R:ByteArray->Prop):Prop:=
 ∀(h:ab),Hp h []->ae Tryz.prog 38 #[.int .i64 n] h fun v h'=>∃(rV:ByteArray),Sy h [] h' []/\v= .string rV/\R rV
def T38 (n:Int) (R:ByteArray->Prop):Prop:=cnd (decide (n<10)) (R (strOf ([(u8.wrap (i64.wrap ((48:Int)+n)))]:List Int))) (∃a:ByteArray->Prop,((10:Int)≠0/\(10:Int)≠0/\AQ (i64.wrap (Int.tdiv n (10:Int))) (fun b=>(((b.size+(strOf ([(u8.wrap (i64.wrap ((48:Int)+(Int.tmod n (10:Int)))))]:List Int)).size:Nat)):Int)<=9223372036854775807/\a (b++(strOf ([(u8.wrap (i64.wrap ((48:Int)+(Int.tmod n (10:Int)))))]:List Int)))))/\∀c:ByteArray,a c->R c)
theorem E5 {n} {R:ByteArray->Prop} (T:T38 n R):AQ n R:=by
 intro h H;have Y:Sy h [] h _:=Sy.startM H rfl;apply yS;unfold S38;unfold T38 at T;refine aj T (fun T=>?_) (fun T=>?_)
 ·intro hv;have Y:Sy _ _ hv [_]:=Y.litS (E:=(eK .u8)) (ty:=5) ([(u8.wrap (i64.wrap ((48:Int)+n)))]:List Int) rfl (by simp[maxLen]);clear_value hv;refine⟨_,iQ (Y.readsS 0 rfl),?_⟩;exact⟨_,Y.pick [] rfl,rfl,T⟩
 ·obtain⟨Jv,T0,T1⟩:=T;obtain⟨B,hB,_⟩:=Y.cut [] [] rfl;intro K;have hK:∀(x:ByteArray) (hv7:ab),(Sy h [] hv7 ([]++B)/\Jv x)->K x hv7:=by
   subst hB;clear T0 Y;rintro x hv7 ⟨Y,T⟩;replace T:=T1 x T;have Y:Sy _ _ _ []:=Y;unfold K;exact⟨_,Y.pick [] rfl,rfl,T⟩
  subst hB;replace T:=T0;clear T0 T1;have Y0:=Y;have F:Fr [] h h:=Fr.refl _ _;obtain⟨q_5,T⟩:=T;refine⟨q_5,?_⟩;obtain⟨q_4,T⟩:=T;refine⟨q_4,?_⟩;refine⟨?_,?_⟩
  ·refine au (T _ (Hp.nil _)) (fun _ _ ⟨_,p,_⟩=>p.fr) bj ?_;rintro v hv2 ⟨r,PP,rfl,T⟩;have F:Fr _ _ hv2:=F.trans PP.fr.nil;have fshv2:=F.size;have Y:Sy _ _ hv2 []:=Y.gr PP.fr;clear PP;refine⟨r,rfl,?_⟩;refine⟨F,?_⟩;intro hv3;have Y:Sy _ _ hv3 [_]:=Y.litS (E:=(eK .u8)) (ty:=5) ([(u8.wrap (i64.wrap ((48:Int)+(Int.tmod n (10:Int)))))]:List Int) rfl (by simp[maxLen]);have F:Fr _ _ hv3:=F.pushr _;have fshv3:=F.size;clear_value hv3;refine⟨F,?_⟩;refine⟨_,iQ (Y.readsS 0 rfl),?_⟩;refine⟨F,?_⟩;obtain⟨q,T⟩:=T;refine⟨q,?_⟩;exact hK _ _ ⟨Y.pick [] rfl,T⟩
  ·intro hv4;have Y:Sy _ _ hv4 [_]:=Y.litS (E:=(eK .u8)) (ty:=5) ([(u8.wrap (i64.wrap ((48:Int)+(Int.tmod n (10:Int)))))]:List Int) rfl (by simp[maxLen]);have F:Fr _ _ hv4:=F.pushr _;have fshv4:=F.size;clear_value hv4;refine⟨F,?_⟩;refine⟨?_,?_⟩
   ·refine au (T _ (Hp.nil _)) (fun _ _ ⟨_,p,_⟩=>p.fr) bj ?_;rintro v2 hv5 ⟨r2,PP,rfl,T⟩;have F:Fr _ _ hv5:=F.trans PP.fr.nil;have fshv5:=F.size;have Y:Sy _ _ hv5 [_]:=Y.gr PP.fr;clear PP;refine⟨r2,rfl,?_⟩;refine⟨F,?_⟩;refine⟨_,iQ (Y.readsS 0 rfl),?_⟩;refine⟨F,?_⟩;obtain⟨q_2,T⟩:=T;refine⟨q_2,?_⟩;exact hK _ _ ⟨Y.pick [] rfl,T⟩
   ·refine⟨_,iQ (Y.readsS 0 rfl),?_⟩;refine⟨F,?_⟩;refine au (T _ (Hp.nil _)) (fun _ _ ⟨_,p,_⟩=>p.fr) bj ?_;rintro v3 hv6 ⟨r3,PP,rfl,T⟩;have F:Fr _ _ hv6:=F.trans PP.fr.nil;have fshv6:=F.size;have Y:Sy _ _ hv6 [_]:=Y.gr PP.fr;clear PP;refine⟨r3,rfl,?_⟩;refine⟨F,?_⟩;obtain⟨q_3,T⟩:=T;refine⟨q_3,?_⟩;exact hK _ _ ⟨Y.pick [] rfl,T⟩
end Go.Proofs.YtlflalecmhgmjaaGreatDoor.N
