/- Whatever is read is a document that may be written, its numbers clean; faults lie in the text; a reader that knows all numbers tells. Conditions: none. -/
import Derived.Test.YtlflalecmhgmjaaGreatDoorGBack
import Derived.Test.YtlflalecmhgmjaaGreatDoorSLex
set_option linter.unusedVariables false
set_option linter.unusedSimpArgs false
open Go.IntKind (i64 u64 u8 i32)
namespace Go.Proofs.YtlflalecmhgmjaaGreatDoor.G
theorem oI (p:Nat->Bool) (s:ByteArray):∀n i,s.size-i=n->i<=s.size->run p s i<=s.size:=by
 intro n
 induction n with
 | zero=>intro i h1 h2;rw[run,if_neg (by omega)];exact h2
 | succ n ih=>
  intro i h1 h2
  rw[run]
  grind
theorem rE {p:Nat->Bool} {s:ByteArray} {i:Nat} (h:i<s.size) (hp:p (bt s i)=true):i<run p s i:=by
 rw[run,if_pos ⟨h,hp⟩]
 exact oN p s (i+1)
theorem vY (s:ByteArray):∀n i,s.size-i<=n->i<=s.size->i<=skp s i/\skp s i<=s.size:=by
 intro n
 induction n with
 | zero=>intro i h1 h2;rw[skp,if_neg (by omega)];omega
 | succ n ih=>
  intro i h1 h2
  rw[skp]
  split
  ·rename_i hlt
   split
   ·grind
   ·split
    ·have h3:=oN (fun c=>decide (c≠10)) s (i+1)
     have h4:=oI (fun c=>decide (c≠10)) s _ (i+1) rfl (by omega)
     grind
    ·omega
  ·omega
theorem oJ (s:ByteArray):∀k n i,i<=(fS s k n i).2
 | 0,n,i=>Nat.le_refl _
 | k+1,n,i=>by
  rw[fS]
  split
  ·have:=oJ s k (10*n+(bt s i-48)) (i+1);omega
  omega
theorem CB {s:ByteArray} {i:Nat} (h:bt s i≠256):i<s.size:=by
 grind [bt]
theorem tu {s:ByteArray} {i:Nat} {l:List UInt8} (h:preB s i l=true):l.length<=s.size-i\/l=[]:=by
 unfold preB at h
 have h:=of_decide_eq_true h
 have h2:=congrArg List.length h
 grind [ByteArray.data_extract,gF]
theorem tv {s:ByteArray} {i c n:Nat} (hi:i<s.size) (h:part s i=some (c,n)):0<n/\i+n<=s.size:=by
 unfold part at h
 have pre:∀{l:List UInt8} {m:Nat},preB s i l=true->l.length=m->0<m->i+m<=s.size:=by
  intro l m q e hm
  rcases tu q with q | q
  ·omega
  grind
 split at h
 ·rename_i q;cases h;exact⟨by decide,pre q rfl (by decide)⟩
 split at h
 ·rename_i q;cases h;exact⟨by decide,pre q rfl (by decide)⟩
 split at h
 ·rename_i q;cases h;exact⟨by decide,pre q rfl (by decide)⟩
 split at h
 ·rename_i q;cases h;exact⟨by decide,pre q rfl (by decide)⟩
 split at h
 ·rename_i q;cases h;exact⟨by decide,pre q rfl (by decide)⟩
 split at h
 ·cases h
 ·have hg:=oJ s 3 0 (i+2)
  generalize fS s 3 0 (i+2)=y at h hg
  obtain⟨m,k⟩:=y
  simp only at h hg
  split at h
  ·cases h
  ·rename_i q
   simp only[not_or]at q
   simp only[Option.some.injEq,Prod.mk.injEq]at h
   have:=CB (s:=s) (i:=k) (by omega)
   omega
theorem Dj {s:ByteArray} {fr:Nat} (hfr:fr<=s.size):∀n i out,s.size-i<=n->i<=s.size->
  (∀l j,str s fr i out= .ok (l,j)->i<j/\j<=s.size)/\(∀f,str s fr i out= .no f->f.1<=s.size)/\str s fr i out≠ .un:=by
 intro n
 induction n with
 | zero=>
  intro i out h1 h2
  rw[str,if_neg (by omega)]
  grind
 | succ n ih=>
  intro i out h1 h2
  rw[str]
  split
  ·rename_i hlt
   split
   ·grind
   ·split
    ·split
     ·rename_i c m hp
      obtain⟨p1,p2⟩:=tv hlt hp
      grind
     grind
    grind
  grind
theorem jb {s:ByteArray} {i:Nat} (hi:i<=s.size):
  (∀t j,next s i= .ok (t,j)->i<=j/\j<=s.size/\t.at_<=s.size/\(t.kind≠0->i<j))/\(∀f,next s i= .no f->f.1<=s.size)/\next s i≠ .un:=by
 obtain⟨h1,h2⟩:=vY s _ i (Nat.le_refl _) hi
 unfold next
 generalize skp s i=p at h1 h2
 simp only[]
 split
 ·grind
 ·rename_i hp
  split
  ·grind
  split
  ·grind
  split
  ·obtain⟨q1,q2,q3⟩:=Dj h2 _ (p+1) [] (Nat.le_refl _) (by omega)
   generalize str s p (p+1) []=y at q1 q2 q3
   cases y<;>grind [Er.bind]
  split
  ·rename_i hc
   have r1:=rE (p:=cx) (s:=s) (i:=p) (by omega) (by simp[cx,hc])
   have r2:=oI cx s _ p rfl h2
   grind
  split
  ·rename_i hc
   have r1:=rE (p:=bU) (s:=s) (i:=p) (by omega) (by grind [bU])
   have r2:=oI bU s _ p rfl h2
   grind
  grind
def Er.all {α:Type} (x:Er α) (P:α->Prop) (m:Nat):Prop:=(∀a,x= .ok a->P a)/\∀f,x= .no f->f.1<=m
theorem Er.all_ok {α:Type} {a:α} {P:α->Prop} {m:Nat} (h:P a):(Er.ok a).all P m:=⟨fun _ q=>(by grind),fun _ q=>(by cases q)⟩
theorem Er.all_no {α:Type} {f:F} {P:α->Prop} {m:Nat} (h:f.1<=m):(Er.no f:Er α).all P m:=⟨fun _ q=>(by cases q),fun _ q=>(by grind)⟩
theorem Er.all_un {α:Type} {P:α->Prop} {m:Nat}:(Er.un:Er α).all P m:=⟨fun _ q=>(by cases q),fun _ q=>(by cases q)⟩
theorem Er.all_bind {α β:Type} {x:Er α} {k:α->Er β} {P:α->Prop} {Q:β->Prop} {m:Nat} (h:x.all P m) (hk:∀a,P a->(k a).all Q m):(x.bind k).all Q m:=by
 cases x with
 | ok a=>exact hk a (h.1 a rfl)
 | no f=>exact Er.all_no (h.2 f rfl)
 | un=>exact Er.all_un
theorem Er.all_must {α:Type} {b:Bool} {f:F} {k:Er α} {P:α->Prop} {m:Nat} (hf:f.1<=m) (hk:b=true->k.all P m):(aG b f k).all P m:=by
 cases b with
 | true=>exact hk rfl
 | false=>exact Er.all_no hf
structure RI (cl:Nat->Nat) (s:ByteArray) (σ:Rd):Prop where
 i:σ.i<=s.size
 n:σ.n<=1024
 ll:σ.labels.length=σ.n
 sl:σ.spots.length=σ.n
 el:σ.ends.length=2*σ.weights.length
 wl:σ.weights.length<=3072
 lp:∀l∈σ.labels,l.size<=256/\∀c∈l.data.toList,fy c.toNat=true
 sc:∀p∈σ.spots,cl p.1=p.1/\cl p.2=p.2
 wc:∀x∈σ.weights,cl x=x
 ids:∀p∈σ.ids,p.2<σ.n
 ea:∀t∈σ.ends,t.at_<=s.size
def LvI (σ:Rd):Lv->Prop
 | .node v _ _ _=>v<σ.n
 | _=>True
def TkI (σ:Rd):Tk->Prop
 | .id v=>v<σ.n
 | .list l=>LvI σ l
 | _=>True
theorem RI.at {cl:Nat->Nat} {s:ByteArray} {σ:Rd} (h:RI cl s σ) {i:Nat} (hi:i<=s.size):RI cl s {σ with i:=i}:=⟨hi,h.n,h.ll,h.sl,h.el,h.wl,h.lp,h.sc,h.wc,h.ids,h.ea⟩
theorem TkI.at {σ:Rd} {x:Tk} (h:TkI σ x) (i:Nat):TkI {σ with i:=i} x:=by
 cases x with
 | list l=>cases l<;>exact h
 | _=>exact h
structure ClOK (cl:Nat->Nat):Prop where
 c:∀x,cl (cl x)=cl x
 z:cl 0=0
 o:cl kV=kV
section
variable {cl:Nat->Nat} {s:ByteArray} {rd:ByteArray->Option (Nat × Nat)}
theorem oK (hc:ClOK cl) {l:Lv} {t:Tok} {σ:Rd} (h:RI cl s σ) (hl:LvI σ l) (ht:t.at_<=s.size):
  (key l t σ).all (fun x=>TkI x.2.2 x.1/\LvI x.2.2 x.2.1/\RI cl s x.2.2/\σ.n<=x.2.2.n/\x.2.2.i=σ.i) s.size:=by
 have ok0:∀{x:Tk} {l:Lv},TkI σ x->LvI σ l->(Er.ok (x,l,σ)).all (fun x=>TkI x.2.2 x.1/\LvI x.2.2 x.2.1/\RI cl s x.2.2/\σ.n<=x.2.2.n/\x.2.2.i=σ.i) s.size:=fun a b=>Er.all_ok ⟨a,b,h,Nat.le_refl _,rfl⟩
 cases l with
 | over=>exact ok0 trivial trivial
 | top=>
  simp only[key]
  split
  ·exact Er.all_must ht fun _=>Er.all_ok ⟨trivial,trivial,⟨h.i,h.n,h.ll,h.sl,h.el,h.wl,h.lp,h.sc,h.wc,h.ids,h.ea⟩,Nat.le_refl _,rfl⟩
  ·exact ok0 trivial trivial
 | graph d=>
  simp only[key]
  split
  ·exact Er.all_must ht fun _=>ok0 trivial trivial
  split
  ·refine Er.all_must ht fun hn=>Er.all_ok ⟨?_,trivial,?_,?_,rfl⟩
   ·show σ.n<σ.n+1
    omega
   ·have hn:=of_decide_eq_true hn
    refine⟨h.i,?_,?_,?_,h.el,h.wl,?_,?_,h.wc,?_,h.ea⟩
    ·grind
    ·show(σ.labels++[noB]).length=σ.n+1;simp[h.ll]
    ·show(σ.spots++[(0,0)]).length=σ.n+1;simp[h.sl]
    ·intro l hl
     have hl:l∈σ.labels++[noB]:=hl
     rw[List.mem_append]at hl
     rcases hl with hl | hl
     ·exact h.lp l hl
     ·simp at hl;subst hl;exact⟨by decide,fun c hc=>absurd hc (by decide+revert)⟩
    ·intro p hp
     have hp:p∈σ.spots++[(0,0)]:=hp
     rw[List.mem_append]at hp
     rcases hp with hp | hp
     ·exact h.sc p hp
     ·simp at hp;subst hp;exact⟨hc.z,hc.z⟩
    ·intro p hp
     have:=h.ids p hp
     grind
   grind
  split
  ·refine Er.all_must ht fun hn=>Er.all_ok ⟨trivial,trivial,?_,Nat.le_refl _,rfl⟩
   have hn:=of_decide_eq_true hn
   have he:=h.el
   refine⟨h.i,h.n,h.ll,h.sl,?_,?_,h.lp,h.sc,?_,h.ids,?_⟩
   ·grind
   ·grind
   ·intro x hx
    have hx:x∈σ.weights++[kV]:=hx
    rw[List.mem_append]at hx
    rcases hx with hx | hx
    ·exact h.wc x hx
    ·simp at hx;subst hx;exact hc.o
   ·intro t ht
    have ht:t∈σ.ends++[⟨0,0,noB,0⟩,⟨0,0,noB,0⟩]:=ht
    rw[List.mem_append]at ht
    rcases ht with ht | ht
    ·exact h.ea t ht
    grind
  ·exact ok0 trivial trivial
 | node v a b c=>
  simp only[key]
  split
  ·exact Er.all_must ht fun _=>ok0 hl hl
  split
  ·exact Er.all_must ht fun _=>ok0 trivial hl
  split
  ·exact Er.all_must ht fun _=>ok0 trivial hl
  ·exact ok0 trivial hl
 | spot v a b=>
  simp only[key]
  split
  ·exact Er.all_must ht fun _=>ok0 trivial trivial
  split
  ·exact Er.all_must ht fun _=>ok0 trivial trivial
  ·exact ok0 trivial trivial
 | edge k a b c=>
  simp only[key]
  split
  ·exact Er.all_must ht fun _=>ok0 trivial trivial
  split
  ·exact Er.all_must ht fun _=>ok0 trivial trivial
  split
  ·exact Er.all_must ht fun _=>ok0 trivial trivial
  ·exact ok0 trivial trivial
theorem rF {t:Tok} (h:t.at_<=s.size):(bs rd t).all (fun v=>v.at_<=s.size) s.size:=by
 grind [bs,Er.all_no,Er.all_ok,Er.all_un]
theorem vZ (hc:ClOK cl) {x:Tk} {v:Tok} {σ:Rd} (h:RI cl s σ) (hx:TkI σ x) (ht:v.at_<=s.size):(cM cl x v σ).all (fun r=>RI cl s r/\σ.n<=r.n/\r.i=σ.i) s.size:=by
 cases x with
 | none=>exact Er.all_ok ⟨h,Nat.le_refl _,rfl⟩
 | list l=>exact Er.all_ok ⟨h,Nat.le_refl _,rfl⟩
 | dir=>exact Er.all_must ht fun _=>Er.all_ok ⟨⟨h.i,h.n,h.ll,h.sl,h.el,h.wl,h.lp,h.sc,h.wc,h.ids,h.ea⟩,Nat.le_refl _,rfl⟩
 | id k=>
  simp only[cM]
  split
  ·refine Er.all_must ht fun _=>Er.all_ok ⟨⟨h.i,h.n,h.ll,h.sl,h.el,h.wl,h.lp,h.sc,h.wc,?_,h.ea⟩,Nat.le_refl _,rfl⟩
   intro p hp
   have hp:p∈σ.ids++[_]:=hp
   rw[List.mem_append]at hp
   rcases hp with hp | hp
   ·exact h.ids p hp
   ·simp at hp;subst hp;exact hx
  ·exact Er.all_no ht
 | label k=>
  simp only[cM]
  refine Er.all_must ht fun h1=>Er.all_must ht fun h2=>Er.all_ok ⟨⟨h.i,h.n,?_,h.sl,h.el,h.wl,?_,h.sc,h.wc,h.ids,h.ea⟩,Nat.le_refl _,rfl⟩
  ·show(σ.labels.set k v.says).length=σ.n
   rw[List.length_set];exact h.ll
  ·intro l hl
   rcases List.mem_or_eq_of_mem_set hl with hl | rfl
   ·exact h.lp l hl
   ·exact⟨of_decide_eq_true h1,List.all_eq_true.1 h2⟩
 | spot k y=>
  refine Er.all_ok ⟨⟨h.i,h.n,h.ll,?_,h.el,h.wl,h.lp,?_,h.wc,h.ids,h.ea⟩,Nat.le_refl _,rfl⟩
  ·show(σ.spots.modify k _).length=σ.n
   rw[List.length_modify];exact h.sl
  ·intro p hp
   obtain⟨j,hj,hp⟩:=List.getElem_of_mem hp
   have hp:(σ.spots.modify k fun p=>if y=true then(p.1,cl v.num)else(cl v.num,p.2))[j]? =some p:=by grind
   rw[List.getElem?_modify]at hp
   cases q:σ.spots[j]? with
   | none=>grind
   | some p0=>
    have h0:=h.sc p0 (List.mem_of_getElem? q)
    rw[q]at hp
    obtain rfl:=Option.some.inj hp
    split
    ·split
     ·exact⟨h0.1,hc.c _⟩
     ·exact⟨hc.c _,h0.2⟩
    ·exact h0
 | fin k=>
  simp only[cM]
  split
  ·refine Er.all_ok ⟨⟨h.i,h.n,h.ll,h.sl,?_,h.wl,h.lp,h.sc,h.wc,h.ids,?_⟩,Nat.le_refl _,rfl⟩
   ·show(σ.ends.set k v).length=_
    rw[List.length_set];exact h.el
   ·intro t ht2
    rcases List.mem_or_eq_of_mem_set ht2 with q | rfl
    ·exact h.ea t q
    ·exact ht
  ·exact Er.all_no ht
 | weight k=>
  refine Er.all_ok ⟨⟨h.i,h.n,h.ll,h.sl,?_,?_,h.lp,h.sc,?_,h.ids,h.ea⟩,Nat.le_refl _,rfl⟩
  ·show σ.ends.length=2*(σ.weights.set _ _).length
   rw[List.length_set];exact h.el
  ·show(σ.weights.set _ _).length<=3072
   rw[List.length_set];exact h.wl
  ·intro x hx
   rcases List.mem_or_eq_of_mem_set hx with hx | rfl
   ·exact h.wc x hx
   ·exact hc.c _
theorem kZ {l:Lv} {e:Nat} {σ:Rd} (h:RI cl s σ) (he:e<=s.size):(behind l e σ).all (fun r=>r=σ) s.size:=by
 cases l<;>simp only[behind]<;>first | exact Er.all_ok rfl | exact Er.all_must he fun _=>Er.all_ok rfl
theorem LvI.mono {l:Lv} {σ σ':Rd} (h:LvI σ l) (hn:σ.n<=σ'.n):LvI σ' l:=by
 cases l<;>simp only[LvI]at h ⊢
 omega
theorem jK (hc:ClOK cl) {L:Lv->Nat->Rd->Er (Nat × Lv × Rd)} (hL:∀l d σ,RI cl s σ->LvI σ l->(L l d σ).all (fun x=>x.1<=s.size/\LvI x.2.2 x.2.1/\RI cl s x.2.2/\σ.n<=x.2.2.n/\σ.i<=x.2.2.i) s.size)
  {x:Tk} {d:Nat} {σ:Rd} (h:RI cl s σ) (hx:TkI σ x):(value s rd cl L x d σ).all (fun r=>RI cl s r/\σ.n<=r.n/\σ.i<=r.i) s.size:=by
 unfold value
 obtain⟨n1,n2,n3⟩:=jb h.i
 refine Er.all_bind (P:=fun y=>σ.i<=y.2/\y.2<=s.size/\y.1.at_<=s.size) ⟨fun a q=>?_,n2⟩ ?_
 ·grind
 rintro⟨v0,i⟩ ⟨q1,q2,q3⟩
 simp only at q1 q2 q3
 refine Er.all_bind (rF q3) fun v q4=>?_
 refine Er.all_must q4 fun _=>Er.all_must q4 fun _=>?_
 have h':=h.at q2
 split
 ·split
  ·rename_i l _
   refine Er.all_bind (hL l (d+1) {σ with i:=i} h' hx) ?_
   rintro⟨e,l',r2⟩ ⟨p1,p2,p3,p4,p5⟩
   refine⟨fun a q=>?_,(kZ p3 p1).2⟩
   have:=(kZ p3 p1).1 a q
   grind
  ·refine Er.all_bind (hL .over (d+1) {σ with i:=i} h' trivial) ?_
   grind [Er.all_ok]
 ·have hx':=hx.at i
  obtain⟨a1,a2⟩:=vZ (v:=v) hc h' hx' q4
  exact⟨fun a q=>let ⟨b1,b2,b3⟩:=a1 a q;⟨b1,b2,by grind⟩,a2⟩
theorem ld (hc:ClOK cl):∀(n:Nat) (l:Lv) (d:Nat) (σ:Rd),RI cl s σ->LvI σ l->(list s rd cl n l d σ).all (fun x=>x.1<=s.size/\LvI x.2.2 x.2.1/\RI cl s x.2.2/\σ.n<=x.2.2.n/\σ.i<=x.2.2.i) s.size:=by
 intro n
 induction n with
 | zero=>intro l d σ h hl;exact Er.all_un
 | succ n ih=>
  intro l d σ h hl
  rw[list]
  obtain⟨n1,n2,n3⟩:=jb h.i
  refine Er.all_bind (P:=fun y=>σ.i<=y.2/\y.2<=s.size/\y.1.at_<=s.size) ⟨fun a q=>?_,n2⟩ ?_
  ·grind
  rintro⟨t,i⟩ ⟨q1,q2,q3⟩
  simp only at q1 q2 q3 ⊢
  have h':=h.at q2
  have hl':LvI {σ with i:=i} l:=by cases l<;>exact hl
  split
  ·exact Er.all_ok ⟨q3,hl',h',Nat.le_refl _,q1⟩
  ·refine Er.all_must q3 fun _=>Er.all_bind (oK hc h' hl' q3) ?_
   rintro⟨x,l',r1⟩ ⟨p1,p2,p3,p4,p5⟩
   simp only at p1 p2 p3 p4 p5 ⊢
   refine Er.all_bind (jK hc (fun l d σ=>ih l d σ) p3 p1) ?_
   rintro r2 ⟨b1,b2,b3⟩
   obtain⟨a1,a2⟩:=ih l' d r2 b1 (p2.mono b2)
   refine⟨fun a q=>?_,a2⟩
   grind
theorem wg :RI cl s start:=⟨Nat.zero_le _,by decide,rfl,rfl,rfl,by decide,by simp[start],by simp[start],by simp[start],by simp[start],by simp[start]⟩
end
section
variable {cl:Nat->Nat} {s:ByteArray} {rd:ByteArray->Option (Nat × Nat)}
end
end Go.Proofs.YtlflalecmhgmjaaGreatDoor.G
namespace Go.Proofs.YtlflalecmhgmjaaGreatDoor.N
open Go.Proofs.YtlflalecmhgmjaaGreatDoor
open Go.X
set_option maxRecDepth 100000
def cm (t:G.Tok):Value:=.agg #[.int .i64 (t.kind:Int),.int .i64 (t.at_:Int),.string t.says,.float .f64 t.num]
def flt (f:G.F):Value:=.iface 88 (.agg #[.int .i64 (f.1:Int),.int .i64 (f.2:Int)])
theorem gM {a e:Nat} {h:ab} {H:List Nat} {K E:Value->ab->Prop} (k:E (flt (a,e)) h):aB Tryz.prog 109 #[.int .i64 (a:Int),.int .i64 (e:Int)] h H K E:=by
 refine aH (R:=fun _ _=>False) (Rp:=fun v h'=>v=flt (a,e)/\h'=h) [] ?_ (by simp) (fun _ _ r=>r.elim) (fun _ _ r=>Fr.of_eq r.2) (fun _ _ r=>r.elim) fun v h' r=>by grind
 apply xj
 exact⟨rfl,rfl⟩
theorem av {b:Bool} {a e:Nat} {h:ab} {H:List Nat} {K E:Value->ab->Prop} (k:b=true->K (.tuple #[]) h) (k2:b=false->E (flt (a,e)) h):aB Tryz.prog 58 #[.bool b,.int .i64 (a:Int),.int .i64 (e:Int)] h H K E:=by
 refine aH (R:=fun v h'=>b=true/\v= .tuple #[]/\h'=h) (Rp:=fun v h'=>b=false/\v=flt (a,e)/\h'=h) [] ?_ (by simp) (fun _ _ r=>Fr.of_eq r.2.2) (fun _ _ r=>Fr.of_eq r.2.2) (fun v h' r=>by grind) fun v h' r=>by grind
 apply tK
 unfold S58
 refine⟨fun _ h'=>b=true/\h'=h,aK (fun q=>?_) fun q=>⟨q,rfl⟩,fun h' q=>⟨q.1,rfl,q.2⟩⟩
 exact gM ⟨q,rfl,rfl⟩
theorem fT {p:Prop} [Decidable p] {b:Bool} (h:b=true ↔ p):b=decide p:=by
 grind
section
variable {n:Nat} {h:ab} {H:List Nat} {K:Value->ab->Prop}
theorem ct {f:Nat} {r:Bool} (c:af Tryz.prog f #[.int .u8 (n:Int)] h fun v h'=>v= .bool r/\h'=h) (k:K (.bool r) h):ah Tryz.prog f #[.int .u8 (n:Int)] h H K:=
 ai [] c (by simp) (fun _ _ r=>Fr.of_eq r.2) fun v h' r=>by grind
theorem wx :af Tryz.prog 203 #[.int .u8 (n:Int)] h fun v h'=>v= .bool (G.fD n)/\h'=h:=by
 apply xd
 unfold Gk
 have fin:∀b:Bool,(b=true ↔ 97<=n/\n<=122\/65<=n/\n<=90)->Value.bool b= .bool (G.fD n)/\h=h:=fun b e=>⟨by rw[fT e];rfl,rfl⟩
 refine ag (fun h1=>ag (fun h2=>fin _ ?_) fun h2=>ag (fun h3=>fin _ ?_) fun h3=>fin _ ?_) fun h1=>ag (fun h3=>fin _ ?_) fun h3=>fin _ ?_
 all_goals grind
theorem tB :af Tryz.prog 206 #[.int .u8 (n:Int)] h fun v h'=>v= .bool (G.cJ n)/\h'=h:=by
 apply xe
 unfold Gm
 have fin:∀b:Bool,(b=true ↔ 48<=n/\n<=57)->Value.bool b= .bool (G.cJ n)/\h=h:=fun b e=>⟨by rw[fT e];rfl,rfl⟩
 refine ag (fun h1=>fin _ ?_) fun h1=>fin _ ?_
 all_goals grind
theorem wy :af Tryz.prog 114 #[.int .u8 (n:Int)] h fun v h'=>v= .bool (G.fy n)/\h'=h:=by
 apply xg
 unfold Gp
 have fin:∀b:Bool,(b=true ↔ 32<=n/\n<=126)->Value.bool b= .bool (G.fy n)/\h=h:=fun b e=>⟨by rw[fT e];rfl,rfl⟩
 refine ag (fun h1=>fin _ ?_) fun h1=>fin _ ?_
 all_goals grind
theorem CF :af Tryz.prog 258 #[.int .u8 (n:Int)] h fun v h'=>v= .bool (G.jN n)/\h'=h:=by
 apply xf
 unfold Gn
 have fin:∀b:Bool,(b=true ↔ n=32\/n=9\/n=10\/n=13)->Value.bool b= .bool (G.jN n)/\h=h:=fun b e=>⟨by rw[fT e];rfl,rfl⟩
 refine au (fun h1=>fin _ ?_) fun h1=>au (fun h2=>fin _ ?_) fun h2=>au (fun h3=>fin _ ?_) fun h3=>fin _ ?_
 all_goals grind
theorem FD :af Tryz.prog 205 #[.int .u8 (n:Int)] h fun v h'=>v= .bool (G.cx n)/\h'=h:=by
 apply xh
 unfold Gq
 intro K
 refine ct wx ⟨_,rfl,aV (fun q=>?_) fun q=>ct tB ⟨_,rfl,aV (fun q2=>?_) fun q2=>?_⟩⟩
 ·exact⟨by simp[G.cx,q],rfl⟩
 ·exact⟨by simp[G.cx,q2],rfl⟩
 ·refine⟨?_,rfl⟩
  have:((n:Int)==95)=decide (n=95):=fT (by simp;omega)
  rw[this]
  simp[G.cx,q,q2]
theorem FE :af Tryz.prog 207 #[.int .u8 (n:Int)] h fun v h'=>v= .bool (G.bU n)/\h'=h:=by
 apply xi
 unfold Gs
 intro K
 refine ct wx ⟨_,rfl,aV (fun q=>?_) fun q=>ct tB ⟨_,rfl,aV (fun q2=>?_) fun q2=>au (fun q3=>?_) fun q3=>au (fun q4=>?_) fun q4=>?_⟩⟩
 ·exact⟨by simp[G.bU,q],rfl⟩
 ·exact⟨by simp[G.bU,q2],rfl⟩
 ·grind [G.bU]
 ·grind [G.bU]
 ·refine⟨?_,rfl⟩
  have:((n:Int)==46)=decide (n=46):=fT (by simp;omega)
  grind [G.bU]
end
theorem wrN {j:Nat} (h:j<4611686018427387904):i64.wrap ((j:Int)+(1:Int))=((j+1:Nat):Int):=by
 rw[wr (by omega) (by omega)];omega
theorem get_at {s:ByteArray} {j:Nat} (h:j<s.size):∃c:UInt8,s[j]? =some c/\G.bt s j=c.toNat:=by
 refine⟨s[j],getElem?_pos s j h,?_⟩
 unfold G.bt
 grind
def wz (s:ByteArray) (b:Nat):List Value->ab->Nat:=fun _ h=>
 match ac h b 1 with
 | some (.int _ x)=>s.size-x.toNat
 | _=>0
theorem im {s:ByteArray} {b i:Nat} {h:ab} (L:Lx h b s i) (l:List Value):wz s b l h=s.size-i:=by
 unfold wz;rw[L.c1];simp
theorem wB {s:ByteArray} {j:Nat} (h:¬j<s.size):G.skp s j=j:=by rw[G.skp,if_neg h]
theorem wD {s:ByteArray} {j:Nat} (h1:G.jN (G.bt s j)=false) (h2:G.bt s j≠35):G.skp s j=j:=by
 grind [G.skp]
theorem uP {s:ByteArray} {j:Nat} (h:j<s.size) (h1:G.jN (G.bt s j)=true):G.skp s j=G.skp s (j+1):=by
 conv=>lhs;rw[G.skp,if_pos h,if_pos h1]
theorem wE {s:ByteArray} {j:Nat} (h:j<s.size) (h1:G.bt s j=35):G.skp s j=G.skp s (G.run (fun c=>decide (c≠10)) s j):=by
 conv=>lhs;rw[G.skp,if_pos h,if_neg (by rw[h1];decide),if_pos h1]
 conv=>rhs;rw[G.run,if_pos ⟨h,by rw[h1];rfl⟩]
theorem nI {s:ByteArray}:∀{l:List UInt8} {j:Nat},G.At s j l->G.run (fun c=>decide (c≠10)) s j=(if Lib.indexByte l 10<0 then s.size else j+(Lib.indexByte l 10).toNat)/\ -1<=Lib.indexByte l 10
 | [],j,a=>by
  have:=a.nil
  rw[G.run,if_neg (by omega)]
  simp[Lib.indexByte,this]
 | c::l,j,a=>by
  obtain⟨h1,h2,h3⟩:=a.cons
  obtain⟨e1,e2⟩:=nI h3
  rw[G.run]
  by_cases q:c=10
  ·subst q
   rw[if_neg (by rw[h2];simp)]
   simp[Lib.indexByte]
  ·have hq:c.toNat≠10:=fun e=>q (UInt8.toNat_inj.1 e)
   rw[if_pos ⟨h1,by grind⟩,e1]
   have e3:Lib.indexByte (c::l) 10=if Lib.indexByte l 10== -1 then-1 else Lib.indexByte l 10+1:=by
    simp[Lib.indexByte,q]
   grind
theorem AF {s:ByteArray} {j:Nat} (h:j<=s.size):G.At s j (s.extract j s.size).data.toList:=by
 refine⟨h,?_⟩
 rw[ByteArray.data_extract,Array.toList_extract,List.extract_eq_take_drop,List.take_of_length_le]
 simp_all
theorem FF {h:ab} {b i:Nat} {s:ByteArray} (L:Lx h b s i) (hi:i<=s.size) (hs:s.size<=262144):af Tryz.prog 201 #[.pointer (some ⟨b,0,none⟩)] h fun v h'=>v= .tuple #[]/\Mv b h h' (G.skp s i):=by
 apply xk
 unfold Gt
 refine⟨fun _ h'=>∃j,j<=s.size/\G.skp s j=G.skp s i/\Mv b h h' j,wz s b,⟨i,hi,rfl,Mv.refl L⟩,?_⟩
 rintro hv ⟨j,hj,hsk,M⟩
 have Lj:=L.mv M
 refine⟨b,0,rfl,_,Lj.c1,b,0,rfl,_,Lj.c0,ag (fun hlt=>?_) fun hlt=>?_⟩
 ·have hlt:j<s.size:=by omega
  obtain⟨c,hc,hb⟩:=get_at hlt
  refine⟨b,0,rfl,_,Lj.c0,b,0,rfl,_,Lj.c1,by omega,by omega,c,by grind,?_⟩
  refine ct CF ⟨_,rfl,?_⟩
  refine⟨fun _ h'=>∃k,j<k/\k<=s.size/\G.skp s k=G.skp s i/\Mv b h h' k,?_,?_⟩
  ·refine aV (fun q=>?_) fun q=>au (fun q2=>?_) fun q2=>?_
   ·refine⟨b,0,rfl,_,Lj.c1,b,0,rfl,Lj.cell,Lj.fr,?_⟩
    rw[wrN (by omega)]
    exact⟨j+1,by omega,by omega,by grind [uP],M.trans (Mv.to Lj (j+1))⟩
   ·have h35:G.bt s j=35:=by rw[hb];omega
    refine⟨b,0,rfl,_,Lj.c0,b,0,rfl,_,Lj.c1,by omega,by omega,?_⟩
    rw[Int.toNat_natCast]
    refine eO (Fw (c:=10) (by decide)) ?_
    have e10:UInt8.ofNat 10=10:=rfl
    rw[e10]
    obtain⟨e1,e2⟩:=nI (AF (s:=s) (j:=j) hj)
    generalize Lib.indexByte (s.extract j s.size).data.toList 10=n at e1 e2
    refine⟨_,rfl,Fr.refl _ _,?_⟩
    have hge:=G.oN (fun c=>decide (c≠10)) s j
    have hle:=G.oI (fun c=>decide (c≠10)) s _ j rfl hj
    have hgt:=G.rE (p:=fun c=>decide (c≠10)) hlt (by rw[h35];rfl)
    have hsk2:=wE hlt h35
    refine⟨fun l h'=>∃n2:Int,l=[.int .i64 n2]/\h'=hv/\(j:Int)+n2=(G.run (fun c=>decide (c≠10)) s j:Nat),?_,?_⟩
    ·refine ag (fun hneg=>?_) fun hneg=>?_
     ·rw[if_pos hneg]at e1
      refine⟨b,0,rfl,_,Lj.c0,b,0,rfl,_,Lj.c1,?_⟩
      grind [wr]
     grind
    ·rintro n2 hv5 ⟨_,e,rfl,hn⟩
     cases e
     refine⟨b,0,rfl,_,Lj.c1,b,0,rfl,Lj.cell,Lj.fr,?_⟩
     rw[wr (by omega) (by omega),hn]
     exact⟨_,hgt,hle,by omega,M.trans (Mv.to Lj _)⟩
   grind [wD]
  ·rintro hv7 ⟨k,h1,h2,h3,h4⟩
   refine⟨⟨k,h2,h3,h4⟩,?_⟩
   rw[im (L.mv h4),im Lj]
   omega
 grind [wB]
theorem CG {p:Nat->Bool} {g:Nat} (hg:∀(n:Nat) (h:ab),af Tryz.prog g #[.int .u8 (n:Int)] h fun v h'=>v= .bool (p n)/\h'=h) (hm:mem iI g=true) {h:ab} {b i:Nat} {s:ByteArray} (L:Lx h b s i) (hi:i<=s.size) (hs:s.size<=262144):
  af Tryz.prog 204 #[.pointer (some ⟨b,0,none⟩),.func (.func g) #[] #[]] h fun v h'=>v= .string (s.extract i (G.run p s i))/\Mv b h h' (G.run p s i):=by
 apply xl
 unfold Gu
 refine⟨b,0,rfl,_,L.c1,?_⟩
 intro K
 refine⟨fun _ h'=>∃j,i<=j/\j<=s.size/\G.run p s j=G.run p s i/\Mv b h h' j,wz s b,⟨i,Nat.le_refl _,hi,rfl,Mv.refl L⟩,?_⟩
 rintro hv ⟨j,hij,hj,hsk,M⟩
 have Lj:=L.mv M
 have fin:G.run p s j=j->K hv:=by
  intro e
  have ej:G.run p s i=j:=by rw[<-hsk,e]
  refine⟨b,0,rfl,_,Lj.c0,b,0,rfl,_,Lj.c1,by omega,by omega,by omega,by omega,?_⟩
  grind
 refine⟨b,0,rfl,_,Lj.c1,b,0,rfl,_,Lj.c0,ag (fun hlt=>?_) fun hlt=>?_⟩
 ·have hlt:j<s.size:=by omega
  obtain⟨c,hc,hb⟩:=get_at hlt
  refine⟨b,0,rfl,_,Lj.c0,b,0,rfl,_,Lj.c1,by omega,by omega,c,by grind,?_⟩
  have hcall:∀{K:Value->ab->Prop},K (.bool (p c.toNat)) hv->fJ Tryz.prog iI [] none (.func g) #[] #[] [.int .u8 ((UInt8.toNat c:Nat):Int)] hv [] K:=by
   grind [fJ,mem,ct]
  refine hcall ⟨_,rfl,Fr.refl _ _,aV (fun q=>?_) fun q=>?_⟩
  ·refine⟨b,0,rfl,_,Lj.c1,b,0,rfl,Lj.cell,Lj.fr,?_⟩
   rw[wrN (by omega)]
   have M':=M.trans (Mv.to Lj (j+1))
   refine⟨⟨j+1,by omega,by omega,?_,M'⟩,?_⟩
   ·rw[<-hsk]
    conv=>rhs;rw[G.run,if_pos ⟨hlt,by grind⟩]
   ·rw[im (L.mv M'),im Lj]
    omega
  ·exact fin (by rw[G.run,if_neg (by grind)])
 ·exact⟨Fr.refl _ _,fin (by rw[G.run,if_neg (by omega)])⟩
theorem u8w {x:Int} (h1:0<=x) (h2:x<256):u8.wrap x=x:=by rw[IntKind.wrap_u8'];omega
theorem nK (t:ByteArray) (l:List UInt8):G.preB t 0 l=Lib.hasPrefix t.data.toList l:=by
 unfold G.preB Lib.hasPrefix
 rw[ByteArray.data_extract,Array.toList_extract,List.extract_eq_take_drop,List.drop_zero,Nat.zero_add,Nat.sub_zero]
 rw[Bool.eq_iff_iff]
 simp only[decide_eq_true_eq,List.isPrefixOf_iff_prefix]
 constructor
 ·intro e
  rw[<-e]
  exact List.take_prefix _ _
 ·intro h
  exact(List.prefix_iff_eq_take.1 h).symm
def CI (o:Option (Nat × Nat)):Value:=
 match o with
 | some (c,n)=>.tuple #[.int .u8 (c:Int),.int .i64 (n:Int)]
 | none=>.tuple #[.int .u8 0,.int .i64 0]
def nm5 :List (List UInt8):=[G.amp,G.wq,G.ltB,G.gtB,G.Dm]
def nb5 :List UInt8:=[38,34,60,62,39]
theorem Du {t:ByteArray} {i:Nat} (h:G.cJ (G.bt t i)=true):i<t.size:=G.CB (by intro e;rw[e]at h;revert h;decide)
theorem FH {t:ByteArray} (ht:t.size<=262144) {h:ab}:af Tryz.prog 259 #[.string t] h fun v h'=>v=CI (G.part t 0)/\Fr [] h h':=by
 apply xn
 unfold Gw
 intro hv
 have hfr:Fr [] h hv:=Fr.push h _
 have hblk:hv[h.size]? =some (.cells #[.string ⟨#[38,97,109,112,59]⟩,.string ⟨#[38,113,117,111,116,59]⟩,.string ⟨#[38,108,116,59]⟩,.string ⟨#[38,103,116,59]⟩,.string ⟨#[38,97,112,111,115,59]⟩] 9):=cw
 clear_value hv
 refine⟨fun l h'=>∃n:Nat,l=[.int .i64 (n:Int)]/\n<=5/\h'=hv/\∀k x,k<n->nm5[k]? =some x->G.preB t 0 x=false,mI 5,⟨0,rfl,by decide,rfl,fun k x hk=>by omega⟩,?_⟩
 rintro _ hv2 ⟨n,e,hn,rfl,hno⟩
 cases e
 refine ag (fun hlt=>?_) fun hlt=>?_
 ·have hn5:n<5:=by omega
  obtain⟨x,hx,c,hc,ac,hbyte,hpart⟩:∃x:List UInt8,nm5[n]? =some x/\∃c:UInt8,nb5[n]? =some c/\ac hv2 h.size (0+(Int.toNat (n:Int))*1)=some (.string ⟨x.toArray⟩)/\(⟨#[38,34,60,62,39]⟩:ByteArray)[Int.toNat (n:Int)]? =some c/\(G.preB t 0 x=true->G.part t 0=some (c.toNat,x.length)):=by
   have q:∀k v,(#[.string ⟨#[38,97,109,112,59]⟩,.string ⟨#[38,113,117,111,116,59]⟩,.string ⟨#[38,108,116,59]⟩,.string ⟨#[38,103,116,59]⟩,.string ⟨#[38,97,112,111,115,59]⟩]:Array Value)[k]? =some v->ac hv2 h.size k=some v:=fun k v q=>by rw[bc hblk];exact q
   have no:∀k x,k<n->nm5[k]? =some x->¬G.preB t 0 x=true:=fun k x a b=>by rw[hno k x a b];simp
   match n,hn5,no with
   | 0,_,no=>exact⟨G.amp,rfl,38,rfl,q 0 _ rfl,rfl,fun p=>by unfold G.part;rw[if_pos p];rfl⟩
   | 1,_,no=>exact⟨G.wq,rfl,34,rfl,q 1 _ rfl,rfl,fun p=>by unfold G.part;rw[if_neg (no 0 _ (by decide) rfl),if_pos p];rfl⟩
   | 2,_,no=>exact⟨G.ltB,rfl,60,rfl,q 2 _ rfl,rfl,fun p=>by unfold G.part;rw[if_neg (no 0 _ (by decide) rfl),if_neg (no 1 _ (by decide) rfl),if_pos p];rfl⟩
   | 3,_,no=>exact⟨G.gtB,rfl,62,rfl,q 3 _ rfl,rfl,fun p=>by unfold G.part;rw[if_neg (no 0 _ (by decide) rfl),if_neg (no 1 _ (by decide) rfl),if_neg (no 2 _ (by decide) rfl),if_pos p];rfl⟩
   | 4,_,no=>exact⟨G.Dm,rfl,39,rfl,q 4 _ rfl,rfl,fun p=>by unfold G.part;rw[if_neg (no 0 _ (by decide) rfl),if_neg (no 1 _ (by decide) rfl),if_neg (no 2 _ (by decide) rfl),if_neg (no 3 _ (by decide) rfl),if_pos p];rfl⟩
  refine⟨h.size,0,rfl,by omega,by omega,_,ac,?_⟩
  refine eO CD ?_
  rw[<-nK]
  refine⟨_,rfl,aV (fun p=>?_) fun p=>?_⟩
  ·refine⟨by omega,by show(n:Int)<((5:Nat):Int);omega,c,hbyte,?_,hfr⟩
   rw[hpart p]
   rfl
  ·rw[wr (x:=(n:Int)+1) (by omega) (by omega)]
   refine⟨⟨n+1,by simp,by omega,rfl,fun k y hk hy=>?_⟩,by simp only[mI];omega⟩
   by_cases q:k=n
   ·subst q;rw[hx]at hy;cases hy;exact p
   ·exact hno k y (by omega) hy
 ·obtain rfl:n=5:=by omega
  have np:∀k x,k<5->nm5[k]? =some x->¬G.preB t 0 x=true:=fun k x a b=>by rw[hno k x a b];simp
  have hp:G.part t 0=(if G.preB t 0 [38,35]=false then none else match G.fS t 3 0 (0+2)with
    | (n,k)=>if k=0+2\/G.bt t k≠59\/G.fy n=false then none else some (n,k+1-0)):=by
   unfold G.part
   rw[if_neg (np 0 _ (by decide) rfl),if_neg (np 1 _ (by decide) rfl),if_neg (np 2 _ (by decide) rfl),if_neg (np 3 _ (by decide) rfl),if_neg (np 4 _ (by decide) rfl)]
  refine eO CD ?_
  rw[<-nK]
  refine⟨_,rfl,aK (fun p=>?_) fun p=>?_⟩
  ·rw[hp,if_pos p]
   exact⟨rfl,hfr⟩
  ·rw[if_neg (by rw[p];simp)]at hp
   intro K2
   have fin:∀m k:Nat,G.fS t 3 0 2=(m,k)->2<=k->k<=5->k<=t.size->m<1000->K2 (m:Int) (k:Int) hv2:=by
    intro m k e k2 k5 ks m3
    rw[show(0+2)=2 from rfl,e]at hp
    simp only[Nat.sub_zero]at hp
    have no:(k=2\/G.bt t k≠59\/G.fy m=false)->Value.tuple #[Value.int IntKind.u8 0,Value.int IntKind.i64 0]=CI (G.part t 0)/\Fr [] h hv2:=fun q=>by rw[if_pos q]at hp;exact⟨by rw[hp];rfl,hfr⟩
    refine au (fun q=>no (.inl (by omega))) fun q=>au (fun q2=>?_) fun q2=>?_
    ·refine no (.inr (.inl ?_))
     have:¬k<t.size:=by omega
     unfold G.bt
     rw[getElem?_neg t k this]
     decide
    ·have hk:k<t.size:=by omega
     obtain⟨c,hc,hb⟩:=get_at hk
     refine⟨by omega,by omega,c,by rw[Int.toNat_natCast];exact hc,bz (fun q3=>no (.inr (.inl (by rw[hb];omega)))) fun q3=>ag (fun q4=>?_) fun q4=>?_⟩
     ·refine no (.inr (.inr ?_))
      simp[G.fy];omega
     ·rw[u8w (x:=(m:Int)) (by omega) (by omega)]
      refine ct wy ⟨_,rfl,aK (fun q5=>?_) fun q5=>?_⟩
      ·have:=no (.inr (.inr q5))
       exact this
      ·rw[wrN (by omega)]
       rw[if_neg (by rw[hb,q5];simp;omega)]at hp
       exact⟨by rw[hp];rfl,hfr⟩
   refine⟨fun l h'=>∃r m k:Nat,l=[.int .i64 (m:Int),.int .i64 (k:Int)]/\k+r=5/\2<=k/\k<=t.size/\G.fS t 3 0 2=G.fS t r m k/\m<10^(k-2)/\h'=hv2,fun l _=>(match l with | [_,.int _ x]=>((5:Int)-x).toNat | _=>0),⟨3,0,2,rfl,rfl,by decide,?_,rfl,by decide,rfl⟩,?_⟩
   ·rcases G.tu p with q | q
    ·simpa using q
    ·cases q
   rintro _ _ hv5 ⟨r,m,k,e,hr,k2,ks,hd,hm,rfl⟩
   cases e
   have m3:m<1000:=by
    have:10^(k-2)<=10^3:=Nat.pow_le_pow_right (by decide) (by omega)
    omega
   intro K
   have stop:G.fS t r m k=(m,k)->K2 (m:Int) (k:Int) hv5:=fun q=>fin m k (hd.trans q) k2 (by omega) ks m3
   refine ag (fun q1=>ag (fun q2=>?_) fun q2=>?_) fun q1=>?_
   ·obtain⟨c,hc,hb⟩:=get_at (show k<t.size by omega)
    refine⟨by omega,by omega,c,by rw[Int.toNat_natCast];exact hc,?_⟩
    obtain⟨r',rfl⟩:∃r',r=r'+1:=⟨r-1,by omega⟩
    refine ct tB ⟨_,rfl,aV (fun q3=>?_) fun q3=>?_⟩
    ·have hdg:48<=c.toNat/\c.toNat<=57:=by simpa[G.cJ]using q3
     refine⟨by omega,by omega,c,by rw[Int.toNat_natCast];exact hc,?_⟩
     have e1:u8.wrap (((UInt8.toNat c:Nat):Int)-(48:Int))=((c.toNat-48:Nat):Int):=by rw[u8w (by omega) (by omega)];omega
     rw[e1,wr (x:=((c.toNat-48:Nat):Int)) (by omega) (by omega),wr (x:=(10:Int)*(m:Int)) (by omega) (by omega),wr (x:=(10:Int)*(m:Int)+((c.toNat-48:Nat):Int)) (by omega) (by omega),wrN (by omega)]
     refine⟨⟨r',10*m+(c.toNat-48),k+1,by simp,by omega,by omega,by omega,?_,?_,rfl⟩,by simp only[];omega⟩
     ·rw[hd,G.fS,if_pos (by rw[hb];exact q3),hb]
     ·rw[show k+1-2=(k-2)+1 by omega,Nat.pow_succ];omega
    ·exact stop (by rw[G.fS,if_neg (by rw[hb,q3];simp)])
   ·obtain rfl:r=0:=by omega
    exact stop rfl
   ·refine stop ?_
    cases r with
    | zero=>rfl
    | succ r=>
     rw[G.fS,if_neg]
     intro q
     have:=Du q
     omega
end Go.Proofs.YtlflalecmhgmjaaGreatDoor.N
namespace Go.Proofs.YtlflalecmhgmjaaGreatDoor.G
theorem ly {s:ByteArray} {j:Nat} (a b:Nat):(s.extract a b).data.toList=(s.data.toList.drop a).take (b-a):=by
 rw[ByteArray.data_extract,Array.toList_extract,List.extract_eq_take_drop]
theorem tD (s:ByteArray) (j:Nat):(s.extract j s.size).data.toList=s.data.toList.drop j:=by
 rw[ly (j:=0),List.take_of_length_le]
 rw[List.length_drop];exact Nat.le_refl _
theorem wG (s:ByteArray) (j:Nat) (l:List UInt8):preB (s.extract j s.size) 0 l=preB s j l:=by
 unfold preB
 rw[ly (j:=0),tD,ly (j:=0),Nat.zero_add,Nat.sub_zero,Nat.add_sub_cancel_left,List.drop_zero]
theorem wH (s:ByteArray) (j k:Nat):bt (s.extract j s.size) k=bt s (j+k):=by
 rw[rG,rG,tD,List.getElem?_drop]
theorem pZ (s:ByteArray) (j:Nat):∀(r n k:Nat),fS s r n (j+k)=((fS (s.extract j s.size) r n k).1,j+(fS (s.extract j s.size) r n k).2)
 | 0,n,k=>rfl
 | r+1,n,k=>by
  rw[fS,fS,wH]
  split
  ·rw[show j+k+1=j+(k+1) by omega,pZ s j r _ (k+1)]
  ·rfl
theorem wI (s:ByteArray) (j:Nat):part (s.extract j s.size) 0=part s j:=by
 unfold part
 simp only[wG,pZ s j 3 0 2]
 have hg:=oJ (s.extract j s.size) 3 0 2
 simp only[Nat.zero_add]at hg ⊢
 generalize fS (s.extract j s.size) 3 0 2=y at hg ⊢
 obtain⟨n,k⟩:=y
 simp only[wH]at hg ⊢
 have e1:(j+k=j+2)=(k=2):=by apply propext;omega
 have e2:j+k+1-j=k+1-0:=by omega
 simp only[e1,e2]
theorem AK {s:ByteArray} {i c n:Nat} (h:part s i=some (c,n)):c<256:=by
 unfold part at h
 split at h
 ·cases h;decide
 split at h
 ·cases h;decide
 split at h
 ·cases h;decide
 split at h
 ·cases h;decide
 split at h
 ·cases h;decide
 split at h
 ·cases h
 ·generalize fS s 3 0 (i+2)=y at h
  obtain⟨m,k⟩:=y
  simp only at h
  split at h
  ·cases h
  ·rename_i q
   simp only[not_or,Bool.not_eq_false]at q
   simp only[Option.some.injEq,Prod.mk.injEq]at h
   have:=q.2.2
   simp[fy]at this
   omega
end Go.Proofs.YtlflalecmhgmjaaGreatDoor.G
namespace Go.Proofs.YtlflalecmhgmjaaGreatDoor.N
open Go.Proofs.YtlflalecmhgmjaaGreatDoor
open Go.X
set_option maxRecDepth 100000
def bv (l:List UInt8):List Value:=l.map fun c=>Value.int .u8 ((c.toNat:Nat):Int)
theorem qa (l:List UInt8):strOf (l.map fun c=>((c.toNat:Nat):Int))=G.mkB l:=by
 unfold strOf G.mkB
 rw[foldl_push_byteCells l ByteArray.empty]
 have e:ByteArray.empty.data=#[]:=rfl
 rw[e];simp
theorem AL {s:ByteArray} {fr i:Nat} {out:List UInt8} (h:¬i<s.size):G.str s fr i out= .no (fr,15):=by rw[G.str,if_neg h]
theorem FI {h:ab} {b i:Nat} {s:ByteArray} (L:Lx h b s i) (hi:i<s.size) (hs:s.size<=262144):
  az Tryz.prog 202 #[.pointer (some ⟨b,0,none⟩)] h (fun v h'=>∃l j,G.str s i (i+1) []= .ok (l,j)/\v= .string (G.mkB l)/\Mv b h h' j) (fun v h'=>∃f,G.str s i (i+1) []= .no f/\v=flt f/\Fr [b] h h'):=by
 apply xm
 unfold Gv
 refine⟨b,0,rfl,_,L.c1,b,0,rfl,_,L.c1,b,0,rfl,L.cell,L.fr,?_⟩
 rw[wrN (by omega)]
 intro hv
 have M0:Mv b h hv (i+1):=Mv.to L (i+1)
 clear_value hv
 refine⟨fun l h'=>∃(A:Option Addr) (C j:Nat) (out:List UInt8),l=[.slice A out.length C]/\out.length+i+1<=j/\j<=s.size/\G.str s i j out=G.str s i (i+1) []/\Mv b h h' j/\bn h' 5 1 A out.length C (bv out)/\∀g∈am A,h.size<=g,wz s b,
  ⟨none,0,i+1,[],rfl,by simp,by omega,rfl,M0,bn.nil _ _ _,by simp[am]⟩,?_⟩
 rintro A _ C hv2 ⟨_,_,j,out,e,hol,hj,hst,M,ow,hA⟩
 cases e
 have Lj:=L.mv M
 have ne:∀g∈am A,g≠b:=fun g q e=>by have:=hA g q;have:=L.lt;omega
 refine⟨b,0,rfl,_,Lj.c1,b,0,rfl,_,Lj.c0,ag (fun hlt=>?_) fun hlt=>?_⟩
 ·have hlt:j<s.size:=by omega
  obtain⟨c,hc,hb⟩:=get_at hlt
  rw[G.str,if_pos hlt,hb]at hst
  refine⟨b,0,rfl,_,Lj.c0,b,0,rfl,_,Lj.c1,by omega,by omega,c,by rw[Int.toNat_natCast];exact hc,au (fun q=>?_) fun q=>?_⟩
  ·rw[if_pos (by omega)]at hst
   refine⟨b,0,rfl,_,Lj.c1,b,0,rfl,Lj.cell,Lj.fr,?_⟩
   rw[wrN (by omega)]
   have M':=M.trans (Mv.to Lj (j+1))
   have ow':bn (ak hv2 b (0+1) (.int .i64 ((j+1:Nat):Int))) 5 1 A out.length C (bv out):=ow.fr (Fr.hset _ _ _ _) (fun g q=>by simpa using ne g q)
   refine⟨out.map fun c=>((c.toNat:Nat):Int),?_,out,j+1,hst.symm,by rw[qa],M'⟩
   have:=ow'.reads
   rw[List.map_map]
   exact this
  ·rw[if_neg (by omega)]at hst
   have put:∀(hv6:ab) (ra:Int) (c1:UInt8) (k:Nat) {K:Value->ab->Prop},Fr [] hv2 hv6->ra=((c1.toNat:Nat):Int)->j<k->k<=s.size->G.str s i k (out++[c1])=G.str s i (i+1) []->
     (let hv7:ab:=hv6.push (.cells #[.int .u8 ra] 5)
      ∃old,bn hv7 5 1 A out.length C old/\(∀b∈([hv6.size]:List Nat),b∉am A)/\(out.length+1)*1<=140737488355328/\(out.length+1)<=maxLen/\
      ∀sA sC hv8,bn hv8 5 1 sA (out.length+1) sC (old++[.int .u8 ra])->Fr (am A) hv7 hv8->((sA=A/\sC=C)\/∃g,sA=some ⟨g,0,none⟩/\hv7.size<=g)->(C<(out.length+1)->Fr [] hv7 hv8)->
      (Lx hv8 b s j/\b≠hv6.size/\∃(A':Option Addr) (C' k':Nat) (out':List UInt8),[Value.slice sA (out.length+1) sC]=[.slice A' out'.length C']/\out'.length+i+1<=k'/\j<k'/\k'<=s.size/\G.str s i k' out'=G.str s i (i+1) []/\k'=k/\
       (Mv b h (ak hv8 b 1 (.int .i64 (k':Int))) k'/\bn (ak hv8 b 1 (.int .i64 (k':Int))) 5 1 A' out'.length C' (bv out')/\∀g∈am A',h.size<=g))):=by
    intro hv6 ra c1 k K f6 hra hk hks hst2 hv7
    have f7:Fr [] hv2 hv7:=f6.trans (Fr.push hv6 _)
    have hsz:hv2.size<=hv6.size:=f6.size
    have hM:=M.fr.size
    have e7:hv7.size=hv6.size+1:=by simp[hv7]
    clear_value hv7
    refine⟨bv out,ow.fr f7 (by simp),fun x hx=>?_,by omega,by simp only[maxLen];omega,?_⟩
    ·simp only[List.mem_singleton]at hx
     subst hx
     intro q
     have:=ow.lt _ q
     omega
    intro sA sC hv8 ow8 f8 gA _
    have M8:Mv b h hv8 j:=(M.ext f7 (by simp)).ext f8 hA
    have L8:=L.mv M8
    have hA8:∀g∈am sA,h.size<=g:=by
     rcases gA with⟨rfl,_⟩ | ⟨g,rfl,hg⟩
     ·exact hA
     ·intro x hx;simp[am]at hx;omega
    have ne8:∀g∈am sA,g≠b:=fun g q e=>by have:=hA8 g q;have:=L.lt;omega
    refine⟨L8,by have:=L.lt;omega,sA,sC,k,out++[c1],by rw[List.length_append];rfl,by rw[List.length_append,List.length_singleton];omega,hk,hks,hst2,rfl,M8.trans (Mv.to L8 k),?_,hA8⟩
    have e2:bv out++[.int .u8 ra]=bv (out++[c1]):=by simp[bv,hra]
    rw[e2]at ow8
    rw[List.length_append,List.length_singleton]
    exact ow8.fr (Fr.hset _ _ _ _) (fun g q=>by simpa using ne8 g q)
   let J:List Value->ab->Prop:=fun l h'=>∃(A:Option Addr) (C k:Nat) (out:List UInt8),l=[.slice A out.length C]/\out.length+i+1<=k/\j<k/\k<=s.size/\G.str s i k out=G.str s i (i+1) []/\Mv b h h' k/\bn h' 5 1 A out.length C (bv out)/\∀g∈am A,h.size<=g
   refine⟨J,?_,?_⟩
   ·refine au (fun q2=>?_) fun q2=>?_
    ·rw[if_pos (by omega)]at hst
     refine⟨b,0,rfl,_,Lj.c0,b,0,rfl,_,Lj.c1,by omega,by omega,?_⟩
     rw[Int.toNat_natCast]
     refine ai [] (FH (t:=s.extract j s.size) (by rw[ByteArray.size_extract];omega)) (by simp) (fun _ _ r=>r.2) fun v hv4 r=>?_
     obtain⟨rfl,f4⟩:=r
     rw[G.wI]
     have L4:=Lj.mv ((Mv.refl Lj).ext f4 (by simp))
     cases hp:G.part s j with
     | none=>
      rw[hp]at hst
      refine⟨0,0,rfl,f4,b,0,rfl,_,L4.c1,?_⟩
      refine av (fun q=>?_) fun q=>?_
      ·exact absurd q (by decide)
      ·exact⟨_,hst.symm,rfl,M.fr.trans f4.nil⟩
     | some p=>
      obtain⟨c1,n1⟩:=p
      rw[hp]at hst
      simp only at hst
      obtain⟨p1,p2⟩:=G.tv hlt hp
      have p3:=G.AK hp
      refine⟨_,_,rfl,f4,b,0,rfl,_,L4.c1,?_⟩
      refine av (fun q=>⟨rfl,?_⟩) fun q=>?_
      ·obtain⟨old,o1,o2,o3,o4,o5⟩:=put hv4 (c1:Int) (UInt8.ofNat c1) (j+(n1-1)+1) (K:=fun _ _=>True) f4 (by rw[UInt8.toNat_ofNat'];omega) (by omega) (by omega) hst
       refine⟨old,o1,o2,o3,o4,fun sA sC hv7 q1 q2 q3 q4=>?_⟩
       obtain⟨L8,hne,A',C',k',out',e1,e2,e3,e4,e5,e6,e7,e8,e9⟩:=o5 sA sC hv7 q1 q2 q3 q4
       refine⟨b,0,rfl,_,L8.c1,b,0,rfl,hne,L8.cell,L8.fr,?_⟩
       have ek:(j:Int)+(n1:Int)=(k':Int):=by omega
       rw[wr (by omega) (by omega),ek]
       exact⟨A',C',k',out',e1,e2,e3,e4,e5,e7,e8,e9⟩
      ·exact absurd q (by simp;omega)
    ·rw[if_neg (by omega)]at hst
     intro K
     have go:∀hv13,Fr [] hv2 hv13->(G.fy c.toNat=true\/G.jN c.toNat=true)->K hv13:=by
      intro hv13 f13 hpb
      rw[if_pos hpb,UInt8.ofNat_toNat]at hst
      obtain⟨old,o1,o2,o3,o4,o5⟩:=put hv13 ((c.toNat:Nat):Int) c (j+1) (K:=fun _ _=>True) f13 rfl (by omega) (by omega) hst
      refine⟨old,o1,o2,o3,o4,fun sA sC hv7 q1 q2 q3 q4=>?_⟩
      obtain⟨L8,hne,A',C',k',out',e1,e2,e3,e4,e5,e6,e7,e8,e9⟩:=o5 sA sC hv7 q1 q2 q3 q4
      refine⟨b,0,rfl,_,L8.c1,b,0,rfl,hne,L8.cell,L8.fr,?_⟩
      have ek:(j:Int)+(1:Int)=(k':Int):=by omega
      rw[wr (by omega) (by omega),ek]
      exact⟨A',C',k',out',e1,e2,e3,e4,e5,e7,e8,e9⟩
     refine⟨b,0,rfl,_,Lj.c1,?_⟩
     refine ct wy ⟨_,rfl,Fr.refl _ _,aV (fun q3=>?_) fun q3=>?_⟩
     ·refine⟨Fr.refl _ _,?_⟩
      refine av (fun _=>⟨rfl,Fr.refl _ _,go _ (Fr.refl _ _) (.inl q3)⟩) fun q=>absurd q (by decide)
     ·refine ct CF ⟨_,rfl,Fr.refl _ _,?_⟩
      refine av (fun q4=>⟨rfl,Fr.refl _ _,go _ (Fr.refl _ _) (.inr q4)⟩) fun q4=>?_
      rw[if_neg (by rw[q3,q4];simp)]at hst
      exact⟨_,hst.symm,rfl,M.fr⟩
   ·rintro A2 L2 C2 hv17 ⟨A3,C3,k,out3,e,h1,h2,h3,h4,h5,h6,h7⟩
    refine⟨⟨A3,C3,k,out3,e,h1,h3,h4,h5,h6,h7⟩,?_⟩
    rw[im (L.mv h5),im Lj]
    omega
 ·refine gM ?_
  exact⟨_,by rw[<-hst];exact AL (by omega),rfl,M.fr⟩
end Go.Proofs.YtlflalecmhgmjaaGreatDoor.N
