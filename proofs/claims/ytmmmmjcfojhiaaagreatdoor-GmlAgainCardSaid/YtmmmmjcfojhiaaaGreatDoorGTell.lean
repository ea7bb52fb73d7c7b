/- A document that is written, with whatever blanks where lines end, is read as it was, its numbers clean. Conditions: its numbers' texts lead back. -/
import Derived.Test.YtmmmmjcfojhiaaaGreatDoorHBr
set_option linter.unusedVariables false
set_option linter.unusedSimpArgs false
namespace Go.Proofs.YtmmmmjcfojhiaaaGreatDoor.G
def ind (n:Nat):PZ:=List.replicate n 32
def kv (n:Nat) (k v:PZ):PZ:=ind n++(k++32::v)
def opn (n:Nat) (k:PZ):PZ:=kv n k [91]
def cls (n:Nat):PZ:=ind n++[93]
def quo (l:PZ):PZ:=34::(enc l++[34])
def nk (tx:Nat->PZ) (p:Nat × Nat):List PZ:=[opn 4 bm,kv 6 kX (tx p.1),kv 6 kY (tx p.2),cls 4]
def nr (tx:Nat->PZ) (lab:Option ByteArray) (sp:Option (Nat × Nat)) (v:Nat):List PZ:=
 opn 2 ib::kv 4 kId (dec v)::((match lab with | some l=>[kv 4 eU (quo l.data.toList)] | none=>[])++((match sp with | some p=>nk tx p | none=>[])++[cls 2]))
def rk (tx:Nat->PZ) (w:Option Nat) (e:Nat × Nat):List PZ:=
 opn 2 fL::kv 4 bp (dec e.1)::kv 4 bw (dec e.2)::((match w with | some x=>[kv 4 cN (tx x)] | none=>[])++[cls 2])
def iq (tx:Nat->PZ) (d:Dc):Nat->Nat->List PZ
 | 0,_=>[]
 | k+1,v=>nr tx d.labels[v]? d.spots[v]? v++iq tx d k (v+1)
def fW (tx:Nat->PZ):List (Nat × Nat)->List Nat->List PZ
 | [],_=>[]
 | e::es,ws=>rk tx ws.head? e++fW tx es ws.tail
def wK (tx:Nat->PZ) (d:Dc):List PZ:=
 opn 0 it::kv 2 dj (if d.dir=true then [49]else [48])::(iq tx d d.n 0++(fW tx d.edges d.weights++[cls 0]))
inductive Sp :List PZ->PZ->Prop where
 | nil:Sp [] []
 | cons {l:PZ} {ls:List PZ} {w t:PZ}:Bl w->Sep w->Sp ls t->Sp (l::ls) (l++(w++t))
theorem Sp.inv {l:PZ} {ls:List PZ} {t:PZ} (h:Sp (l::ls) t):∃w t',t=l++(w++t')/\Bl w/\Sep w/\Sp ls t':=by
 cases h<;>grind
theorem oD :∀n,Bl (ind n)
 | 0=>.nil
 | n+1=>by
  show Bl (32::ind n)
  exact .blank rfl (oD n)
section
variable {s:P0} {rd:P0->Option (Nat × Nat)} {cl:Nat->Nat} {tx:Nat->PZ}
theorem fJ (l:PZ):Sep (32::l):=⟨32,l,rfl,rfl⟩
theorem IE :Bl [32]:=.blank rfl .nil
theorem wL {i n:Nat} {w0 k v w t:PZ} (a:At s i (w0++(kv n k v++(w++t)))):At s i ((w0++ind n)++(k++(32::(v++(w++t))))):=by
 simpa[kv,Qj]using a
def cT (s:P0) (rd:P0->Option (Nat × Nat)) (cl:Nat->Nat) (l:Lv) (d:Nat) (r:Rd) (P:Nat->Lv->Rd->Prop):Prop:=∃e l' r',Big s rd cl l d r (e,l',r')/\P e l' r'
theorem gD {l l':Lv} {d n v:Nat} {σ:Rd} {σ1:Nat->Rd} {x:Tk} {w0 k y w t:PZ} {P:Nat->Lv->Rd->Prop} (a:At s σ.i (w0++(kv n k y++(w++t)))) (h0:Bl w0) (hk:∀l,Sep l->Wd k l) (hy:ji rd y v) (hw:Sep w)
  (hkey:∀t j,t.l=k->key l t {σ with i:=j}= .ok (x,l',σ1 j)) (hi:∀j,(σ1 j).i=j) (hx:x.kind=0\/x.kind=4)
  (ht:∀(u:Tok) j1 j,u.l=y->u.num=v->u.kind=4->σ.i<j->At s j (w++t)->∃σ2,bX cl x u {σ1 j1 with i:=j}= .ok σ2/\σ2.i=j/\cT s rd cl l' d σ2 P):cT s rd cl l d σ P:=by
 have a1:=wL a
 have hb:Bl (w0++ind n):=h0.app (oD n)
 have a2:=At.app (At.app a1)
 have hsw:=hw.app (m:=t)
 have a3:At s (σ1 (σ.i+(w0++ind n).length+k.length)).i ([32]++(y++(w++t))):=by grind
 obtain⟨u,u1,u2,u3,u4⟩:=ru (cl:=cl) (d:=d) IE hy hsw.numb hsw.word a3 hx
 have a4:=At.app (At.app a3)
 obtain⟨σ2,q1,q2,e,l2,r2,q3,q4⟩:=ht u (σ.i+(w0++ind n).length+k.length) _ u1 u2 u3 PE a4
 refine⟨e,l2,r2,lg hb (hk _ (fJ _)) a1 (fun t ht=>hkey t _ ht) (fun m hm=>?_) ?_ ?_ q3,q4⟩
 ·grind
 ·grind
 ·rw[q2];exact a4.1
theorem AW {l l':Lv} {d n:Nat} {σ:Rd} {σ1:Nat->Rd} {x:Tk} {w0 k y w t:PZ} {P:Nat->Lv->Rd->Prop} (a:At s σ.i (w0++(kv n k (quo y)++(w++t)))) (h0:Bl w0) (hk:∀l,Sep l->Wd k l) (hy:∀c∈y,gH c.toNat=true)
  (hkey:∀t j,t.l=k->key l t {σ with i:=j}= .ok (x,l',σ1 j)) (hi:∀j,(σ1 j).i=j) (hx:x.kind=0\/x.kind=5)
  (ht:∀(u:Tok) j1 j,u.says=mkB y->u.kind=5->σ.i<j->At s j (w++t)->∃σ2,bX cl x u {σ1 j1 with i:=j}= .ok σ2/\σ2.i=j/\cT s rd cl l' d σ2 P):cT s rd cl l d σ P:=by
 have a1:=wL a
 have hb:Bl (w0++ind n):=h0.app (oD n)
 have a2:=At.app (At.app a1)
 have a3:At s (σ1 (σ.i+(w0++ind n).length+k.length)).i ([32]++34::(enc y++34::(w++t))):=by rw[hi];simpa[quo]using a2
 obtain⟨u,u1,u2,a4,u4⟩:=zN (rd:=rd) (cl:=cl) (d:=d) IE hy a3 hx
 obtain⟨σ2,q1,q2,e,l2,r2,q3,q4⟩:=ht u (σ.i+(w0++ind n).length+k.length) _ u1 u2 PE a4
 refine⟨e,l2,r2,lg hb (hk _ (fJ _)) a1 (fun t ht=>hkey t _ ht) (fun m hm=>?_) ?_ ?_ q3,q4⟩
 ·grind
 ·grind
 ·rw[q2];exact a4.1
theorem jU {l l' l2:Lv} {d n:Nat} {σ:Rd} {σ1:Nat->Rd} {w0 k w t:PZ} {P:Nat->Lv->Rd->Prop} (a:At s σ.i (w0++(opn n k++(w++t)))) (h0:Bl w0) (hk:∀l,Sep l->Wd k l) (hd:d<16)
  (hkey:∀t j,t.l=k->key l t {σ with i:=j}= .ok (.list l2,l',σ1 j)) (hi:∀j,(σ1 j).i=j)
  (hin:∀j1 j,σ.i<j->At s j (w++t)->cT s rd cl l2 (d+1) {σ1 j1 with i:=j} fun e l3 r2=>∃r3,behind l3 e r2= .ok r3/\j<r3.i/\r3.i<=s.size/\cT s rd cl l' d r3 P):cT s rd cl l d σ P:=by
 have a1:=wL a
 have hb:Bl (w0++ind n):=h0.app (oD n)
 have a2:=At.app (At.app a1)
 have a3:At s (σ1 (σ.i+(w0++ind n).length+k.length)).i ([32]++91::(w++t)):=by grind
 have a4:At s ((σ1 (σ.i+(w0++ind n).length+k.length)).i+1+1) (w++t):=(At.app a3).cons.2.2
 obtain⟨e,l3,r2,q1,r3,q2,q3,q4,e',l4,r4,q5,q6⟩:=hin (σ.i+(w0++ind n).length+k.length) _ (by rw[hi];omega) a4
 rw[hi]at q3
 refine⟨e',l4,r4,lg hb (hk _ (fJ _)) a1 (fun t ht=>hkey t _ ht) (fun m hm=>?_) ?_ q4 q5,q6⟩
 ·refine oO IE a3 hd ?_ q1 q2
  grind
 ·omega
theorem iT {l:Lv} {d n:Nat} {σ:Rd} {w0 w t:PZ} {P:Nat->Lv->Rd->Prop} (a:At s σ.i (w0++(cls n++(w++t)))) (h0:Bl w0) (hl:bV l=false) (hp:∀e j,σ.i<j->At s j (w++t)->P e l {σ with i:=j}):cT s rd cl l d σ P:=by
 have a1:At s σ.i ((w0++ind n)++93::(w++t)):=by simpa[cls,Qj]using a
 obtain⟨q1,q2⟩:=yw (rd:=rd) (cl:=cl) (d:=d) hl (h0.app (oD n)) a1
 exact⟨_,_,_,q1,hp _ _ PA q2⟩
theorem jf {k:PZ} (h1:∃c r,k=c::r/\ia c.toNat=true) (h2:∀c∈k,du c.toNat=true):∀l,Sep l->Wd k l:=fun l hl=>⟨h1,h2,hl.word⟩
theorem sQ :∀l,Sep l->Wd it l:=jf ⟨103,_,rfl,rfl⟩ PB
theorem wM :∀l,Sep l->Wd dj l:=jf ⟨100,_,rfl,rfl⟩ PB
theorem wN :∀l,Sep l->Wd ib l:=jf ⟨110,_,rfl,rfl⟩ PB
theorem AX :∀l,Sep l->Wd fL l:=jf ⟨101,_,rfl,rfl⟩ PB
theorem Lg :∀l,Sep l->Wd kId l:=jf ⟨105,_,rfl,rfl⟩ PB
theorem ET :∀l,Sep l->Wd eU l:=jf ⟨108,_,rfl,rfl⟩ PB
theorem wO :∀l,Sep l->Wd bm l:=jf ⟨103,_,rfl,rfl⟩ PB
theorem wdX :∀l,Sep l->Wd kX l:=jf ⟨120,_,rfl,rfl⟩ PB
theorem wdY :∀l,Sep l->Wd kY l:=jf ⟨121,_,rfl,rfl⟩ PB
theorem uw :∀l,Sep l->Wd bp l:=jf ⟨115,_,rfl,rfl⟩ PB
theorem uz :∀l,Sep l->Wd bw l:=jf ⟨116,_,rfl,rfl⟩ PB
theorem AY :∀l,Sep l->Wd cN l:=jf ⟨119,_,rfl,rfl⟩ PB
theorem uA {α:Type} (l:List α) (a b:α):(l++[a]).set l.length b=l++[b]:=by
 grind
theorem nt {α:Type} (l:List α) (a:α) (f:α->α):(l++[a]).modify l.length f=l++[f a]:=by
 induction l<;>grind
theorem zB {σ:Rd} {v d:Nat} {sp:List (Nat × Nat)} {q:Nat × Nat} {p:Nat × Nat} {w0 tt:PZ} {P:Nat->Lv->Rd->Prop} {ls:List PZ} {vx vy:Nat} (hx:ji rd (tx p.1) vx) (hy:ji rd (tx p.2) vy) (hsp:σ.spots=sp++[q]) (hv:sp.length=v) (hd:d<16) (h0:Bl w0)
  {l l':Lv} (hkey:∀(t:Tok) (j:Nat),t.l=bm->key l t {σ with i:=j}= .ok (.list (.spot v false false),l',{σ with i:=j})) (ht:Sp (nk tx p++ls) tt) (a:At s σ.i (w0++tt))
  (hp:∀j w t,σ.i<j->At s j (w++t)->Bl w->Sp ls t->cT s rd cl l' d {σ with i:=j,spots:=sp++[(cl vx,cl vy)],h1:=true} P):cT s rd cl l d σ P:=by
 obtain⟨w1,t1,rfl,b1,s1,ht⟩:=Sp.inv ht
 obtain⟨w2,t2,rfl,b2,s2,ht⟩:=Sp.inv ht
 obtain⟨w3,t3,rfl,b3,s3,ht⟩:=Sp.inv ht
 obtain⟨w4,t4,rfl,b4,s4,ht⟩:=Sp.inv ht
 refine jU (σ1:=fun j=>{σ with i:=j}) a h0 wO hd hkey (fun j=>rfl) fun j0 j1 lt1 a=>?_
 refine gD (x:=.spot v false) (l':=.spot v true false) (σ1:=fun j=>{σ with i:=j}) a b1 wdX hx s2 (fun t j e=>by simp[key,e,kX,kY,aB]) (fun j=>rfl) (.inr rfl) fun u j0 j2 u1 u2 u3 lt2 a=>?_
 refine⟨{σ with i:=j2,spots:=sp++[(cl vx,q.2)],h1:=true},?_,rfl,?_⟩
 ·subst hv
  simp only[bX,u2,hsp,nt,Qq,if_false]
 refine gD (x:=.spot v true) (l':=.spot v true true) (σ1:=fun j=>{σ with i:=j,spots:=sp++[(cl vx,q.2)],h1:=true}) a b2 wdY hy s3 (fun t j e=>by simp[key,e,kX,kY,aB]) (fun j=>rfl) (.inr rfl) fun u j0 j3 u1 u2 u3 lt3 a=>?_
 refine⟨{σ with i:=j3,spots:=sp++[(cl vx,cl vy)],h1:=true},?_,rfl,?_⟩
 ·subst hv
  simp only[bX,u2,nt,if_true]
 refine iT a b3 rfl fun e j4 lt4 a=>?_
 simp only at lt2 lt3 lt4
 exact⟨_,rfl,PE,a.1,hp j4 w4 t4 PA a b4 ht⟩
def nT (d:Dc) (v:Nat):List ByteArray:=(List.range v).map fun k=>d.labels.getD k noB
def oE (f:Nat->Nat) (d:Dc) (v:Nat):List (Nat × Nat):=(List.range v).map fun k=>(d.spots[k]?.map fun p=>(f p.1,f p.2)).getD (0,0)
def stN (f:Nat->Nat) (d:Dc) (v i:Nat):Rd:=⟨i,v,d.dir,true,(List.range v).map fun k:Nat=>((k:Int),k),nT d v,oE f d v,[],decide (0<v/\d.labels≠[]),decide (0<v/\d.spots≠[]),false,[]⟩
structure Ok (d:Dc):Prop where
 n:d.n<=1024
 m:d.edges.length<=3072
 e:∀e∈d.edges,e.1<d.n/\e.2<d.n
 l:d.labels=[]\/d.labels.length=d.n
 p:∀l∈d.labels,l.size<=256/\∀c∈l.data.toList,gH c.toNat=true
 s:d.spots=[]\/d.spots.length=d.n
 w:d.weights=[]\/d.weights.length=d.edges.length
theorem EU (v:Nat):((List.range v).map fun k:Nat=>((k:Int),k)).any (fun p=>p.1==(v:Int))=false:=by
 grind
theorem iz {α:Type} (f:Nat->α) (v:Nat):(List.range (v+1)).map f=(List.range v).map f++[f v]:=by grind [List.range_succ]
def IG (rd:P0->Option (Nat × Nat)) (tx:Nat->PZ) (f:Nat->Nat) (d:Dc):Prop:=
 (∀p∈d.spots,ji rd (tx p.1) (f p.1)/\ji rd (tx p.2) (f p.2))/\(∀x∈d.weights,ji rd (tx x) (f x))
def RdW (rd:P0->Option (Nat × Nat)):Prop:=∀n:Nat,n<=2147483648->∃v,ji rd (dec n) v
theorem zC {d:Dc} {f:Nat->Nat} (ok:Ok d) (hr:RdW rd) (tok:IG rd tx f d) {v:Nat} (hv:v<d.n) {w0 tt:PZ} {P:Nat->Lv->Rd->Prop} {ls:List PZ} {i:Nat} (h0:Bl w0)
  (ht:Sp (nr tx d.labels[v]? d.spots[v]? v++ls) tt) (a:At s i (w0++tt)) (hp:∀j w t,i<j->At s j (w++t)->Bl w->Sp ls t->cT s rd cl (.graph true) 1 (stN (fun x=>cl (f x)) d (v+1) j) P):
  cT s rd cl (.graph true) 1 (stN (fun x=>cl (f x)) d v i) P:=by
 unfold nr at ht
 rw[QB,QB,Qj,Qj]at ht
 obtain⟨w1,t1,rfl,b1,s1,ht⟩:=Sp.inv ht
 obtain⟨w2,t2,rfl,b2,s2,ht⟩:=Sp.inv ht
 have hn:=ok.n
 let g:Nat->Nat:=fun x=>cl (f x)
 let σ1:Nat->Rd:=fun j=>{stN g d v j with n:=v+1,labels:=nT d v++[noB],spots:=oE g d v++[(0,0)]}
 refine jU (σ1:=σ1) (l2:=.node v false false false) (l':=.graph true) a h0 wN PB (fun t j e=>?_) (fun j=>rfl) fun j0 j1 lt1 a=>?_
 ·exact(oL e (by show v<1024;omega)).trans rfl
 obtain⟨vv,hvv⟩:=hr v PA
 let σ2:Nat->Rd:=fun j=>{σ1 j with ids:=(List.range (v+1)).map fun k:Nat=>((k:Int),k)}
 refine gD (x:=.id v) (l':=.node v true false false) (σ1:=fun j=>σ1 j) a b1 Lg hvv s2 (fun t j e=>by simp[key,e,aB];rfl) (fun j=>rfl) (.inr rfl) fun u j0 j2 u1 u2 u3 lt2 a=>?_
 refine⟨σ2 j2,?_,rfl,?_⟩
 ·simp only[bX,u1,iA v PA]
  have:(σ1 j0).ids=(List.range v).map fun k:Nat=>((k:Int),k):=rfl
  grind [stN,EU,aB,iz]
 have lt1':i<j1:=lt1
 have lt2':j1<j2:=lt2
 let σ3:Nat->Rd:=fun j=>{σ2 j with labels:=nT d (v+1),h0:=decide (0<v+1/\d.labels≠[])}
 have lab:∀(j2:Nat) {w t:PZ} {c:Bool},j1<j2->Bl w->At s j2 (w++t)->Sp ((match d.labels[v]? with | some l=>[kv 4 eU (quo l.data.toList)] | none=>[])++((match d.spots[v]? with | some p=>nk tx p | none=>[])++([cls 2]++ls))) t->
   (∀(j:Nat) (b:Bool) {w t:PZ},j1<j->Bl w->At s j (w++t)->Sp ((match d.spots[v]? with | some p=>nk tx p | none=>[])++([cls 2]++ls)) t->cT s rd cl (.node v true b false) 2 (σ3 j) fun e l3 r2=>∃r3,behind l3 e r2= .ok r3/\j1<r3.i/\r3.i<=s.size/\cT s rd cl (.graph true) 1 r3 P)->
   cT s rd cl (.node v true false false) 2 (σ2 j2) fun e l3 r2=>∃r3,behind l3 e r2= .ok r3/\j1<r3.i/\r3.i<=s.size/\cT s rd cl (.graph true) 1 r3 P:=by
  intro j2 w t _ lt2 hw a ht k
  have hlen:(nT d v).length=v:=by simp[nT]
  rcases ok.l with e0 | el
  ·have en:d.labels[v]? =none:=by rw[e0];rfl
   rw[en]at ht
   have e3:σ2 j2=σ3 j2:=by
    simp only[σ3,σ2,σ1,stN,nT,iz,e0]
    simp
   grind
  ·have es:d.labels[v]? =some d.labels[v]:=List.getElem?_eq_getElem PA
   rw[es]at ht
   obtain⟨w3,t3,rfl,b3,s3,ht⟩:=Sp.inv ht
   obtain⟨p1,p2⟩:=ok.p d.labels[v] (RJ _)
   refine AW (x:=.label v) (l':=.node v true true false) (σ1:=fun j=>σ2 j) a hw ET p2 (fun t j e=>by simp[key,e,kId,eU,aB];rfl) (fun j=>rfl) (.inr rfl) fun u j0 j3 u1 u2 lt3 a=>?_
   have lt3':j2<j3:=lt3
   refine⟨σ3 j3,?_,rfl,k j3 true PA b3 a ht⟩
   have us:u.says=d.labels[v]:=by rw[u1];rfl
   have ul:u.l.all (fun c=>gH c.toNat)=true:=by
    unfold Tok.l;rw[us];exact Qx.2 p2
   simp only[bX,us,ul,p1,decide_true,aB]
   have e4:(nT d v++[noB]).set v d.labels[v]=nT d (v+1):=by
    conv=>lhs;arg 2;rw[<-hlen]
    rw[uA]
    simp only[nT,iz]
    congr 2
    simp[List.getD,es]
   have e5:decide (0<v+1/\d.labels≠[])=true:=by
    grind
   simp only[σ3,σ2,σ1,e4,e5]
   rfl
 let σ4:Nat->Rd:=fun j=>stN g d (v+1) j
 refine lab j2 (c:=true) lt2' b2 a ht fun j3 b w t lt3 hw a ht=>?_
 have fin:∀(j:Nat) (b c:Bool) {w t:PZ},j1<j->Bl w->At s j (w++t)->Sp ([cls 2]++ls) t->cT s rd cl (.node v true b c) 2 (σ4 j) fun e l3 r2=>∃r3,behind l3 e r2= .ok r3/\j1<r3.i/\r3.i<=s.size/\cT s rd cl (.graph true) 1 r3 P:=by
  intro j b c w t lt hw a ht
  obtain⟨w5,t5,rfl,b5,s5,ht⟩:=Sp.inv ht
  refine iT a hw rfl fun e j5 lt5 a=>?_
  have lt5':j<j5:=lt5
  exact⟨stN g d (v+1) j5,rfl,by show j1<j5;omega,a.1,hp j5 w5 t5 PA a b5 ht⟩
 have hlen:(oE g d v).length=v:=by simp[oE]
 rcases ok.s with e0 | el
 ·have en:d.spots[v]? =none:=by rw[e0];rfl
  rw[en]at ht
  have e3:σ3 j3=σ4 j3:=by
   simp only[σ4,σ3,σ2,σ1,stN,oE,iz,e0]
   simp
  grind
 ·have es:d.spots[v]? =some d.spots[v]:=List.getElem?_eq_getElem PA
  rw[es]at ht
  obtain⟨q1,q2⟩:=tok.1 d.spots[v] (RJ _)
  refine zB (l':=.node v true b true) (σ:=σ3 j3) q1 q2 (sp:=oE g d v) rfl hlen PB hw (fun t j e=>by simp[key,e,kId,eU,bm,aB]) ht a fun j w t lt a hw ht=>?_
  have lt':j3<j:=lt
  have e3:({σ3 j3 with i:=j,spots:=oE g d v++[(cl (f d.spots[v].1),cl (f d.spots[v].2))],h1:=true}:Rd)=σ4 j:=by
   have e5:decide (0<v+1/\d.spots≠[])=true:=by
    grind
   simp only[σ4,σ3,σ2,σ1,stN,e5]
   congr 1
   simp only[oE,iz]
   congr 2
   simp[es,g]
  grind
theorem oG {d:Dc} {f:Nat->Nat} (ok:Ok d) (hr:RdW rd) (tok:IG rd tx f d) {P:Nat->Lv->Rd->Prop} {ls:List PZ}:∀(k:Nat) {v i:Nat} {w0 tt:PZ},v+k=d.n->Bl w0->
  Sp (iq tx d k v++ls) tt->At s i (w0++tt)->(∀j w t,i<=j->At s j (w++t)->Bl w->Sp ls t->cT s rd cl (.graph true) 1 (stN (fun x=>cl (f x)) d d.n j) P)->cT s rd cl (.graph true) 1 (stN (fun x=>cl (f x)) d v i) P
 | 0,v,i,w0,tt,hv,h0,ht,a,hp=>by
  obtain rfl:v=d.n:=by omega
  exact hp i w0 tt (P3 _) a h0 ht
 | k+1,v,i,w0,tt,hv,h0,ht,a,hp=>by
  unfold iq at ht
  rw[Qj]at ht
  exact zC ok hr tok PA h0 ht a fun j w t lt a hw ht=>oG ok hr tok k PA hw ht a fun j' w t lt'=>hp j' w t PA
def gE (ts:List Tok) (es:List (Nat × Nat)):Prop:=ts.map Tok.l=es.flatMap fun e=>[dec e.1,dec e.2]
theorem gE.len {ts:List Tok} {es:List (Nat × Nat)} (h:gE ts es):ts.length=2*es.length:=by
 have:=congrArg List.length h
 rw[Rg]at this
 rw[this]
 clear this h
 induction es<;>grind
def stE (f:Nat->Nat) (d:Dc) (ts:List Tok) (ws:List Nat) (h2:Bool) (i:Nat):Rd:={stN f d d.n i with weights:=ws,h2:=h2,ends:=ts}
def fK :Nat:=4607182418800017408
theorem AZ {α:Type} (l:List α) (a b c:α):(l++[a,b]).set l.length c=l++[c,b]:=by
 grind
theorem A0 {α:Type} (l:List α) (a b c:α):(l++[a,b]).set (l.length+1) c=l++[a,c]:=by
 simp_all
theorem zD {d:Dc} {f:Nat->Nat} (ok:Ok d) (hr:RdW rd) {e:Nat × Nat} (he:e.1<d.n/\e.2<d.n) {wt:Option Nat} (hwt:∀x,wt=some x->ji rd (tx x) (f x)) {ts:List Tok} {ws:List Nat} {h2:Bool} {es:List (Nat × Nat)} (hts:gE ts es) (hws:ws.length=es.length) (hes:es.length<3072)
  {w0 tt:PZ} {P:Nat->Lv->Rd->Prop} {ls:List PZ} {i:Nat} (h0:Bl w0) (ht:Sp (rk tx wt e++ls) tt) (a:At s i (w0++tt))
  (hp:∀ts' j w t,i<j->gE ts' (es++[e])->At s j (w++t)->Bl w->Sp ls t->cT s rd cl (.graph true) 1 (stE (fun x=>cl (f x)) d ts' (ws++[(wt.map fun x=>cl (f x)).getD fK]) (h2||wt.isSome) j) P):
  cT s rd cl (.graph true) 1 (stE (fun x=>cl (f x)) d ts ws h2 i) P:=by
 unfold rk at ht
 rw[QB,QB,QB,Qj]at ht
 obtain⟨w1,t1,rfl,b1,s1,ht⟩:=Sp.inv ht
 obtain⟨w2,t2,rfl,b2,s2,ht⟩:=Sp.inv ht
 obtain⟨w3,t3,rfl,b3,s3,ht⟩:=Sp.inv ht
 have hn:=ok.n
 have hl:=hts.len
 let g:Nat->Nat:=fun x=>cl (f x)
 let z:Tok:=⟨0,0,noB,0⟩
 refine jU (σ1:=fun j=>stE g d (ts++[z,z]) (ws++[fK]) h2 j) (l2:=.edge ts.length false false false) (l':=.graph true) a h0 AX PB (fun t j e=>?_) (fun j=>rfl) fun j0 j1 lt1 a=>?_
 ·exact(uE e (by show ts.length/2<3072;omega)).trans rfl
 obtain⟨v1,hv1⟩:=hr e.1 PA
 obtain⟨v2,hv2⟩:=hr e.2 PA
 refine gD (x:=.fin ts.length) (l':=.edge ts.length true false false) (σ1:=fun j=>stE g d (ts++[z,z]) (ws++[fK]) h2 j) a b1 uw hv1 s2 (fun t j e=>by simp[key,e,aB];rfl) (fun j=>rfl) (.inr rfl) fun u j0 j2 u1 u2 u3 lt2 a=>?_
 refine⟨stE g d (ts++[u,z]) (ws++[fK]) h2 j2,?_,rfl,?_⟩
 ·simp only[bX,u1,iA e.1 PA,stE,AZ]
  rfl
 refine gD (x:=.fin (ts.length+1)) (l':=.edge ts.length true true false) (σ1:=fun j=>stE g d (ts++[u,z]) (ws++[fK]) h2 j) a b2 uz hv2 s3 (fun t j e=>by simp[key,e,bp,bw,aB];rfl) (fun j=>rfl) (.inr rfl) fun u' j0 j3 u1' u2' u3' lt3 a=>?_
 refine⟨stE g d (ts++[u,u']) (ws++[fK]) h2 j3,?_,rfl,?_⟩
 ·simp only[bX,u1',iA e.2 PA,stE,A0]
  rfl
 have lt1':i<j1:=lt1
 have lt2':j1<j2:=lt2
 have lt3':j2<j3:=lt3
 have hts':gE (ts++[u,u']) (es++[e]):=by
  unfold gE at hts ⊢
  simp_all
 have fin:∀(j:Nat) (c:Bool) {w t:PZ},j1<j->Bl w->At s j (w++t)->Sp ([cls 2]++ls) t->cT s rd cl (.edge ts.length true true c) 2 (stE g d (ts++[u,u']) (ws++[(wt.map g).getD fK]) (h2||wt.isSome) j) fun e l3 r2=>∃r3,behind l3 e r2= .ok r3/\j1<r3.i/\r3.i<=s.size/\cT s rd cl (.graph true) 1 r3 P:=by
  intro j c w t lt hw a ht
  obtain⟨w5,t5,rfl,b5,s5,ht⟩:=Sp.inv ht
  refine iT a hw rfl fun e j5 lt5 a=>?_
  have lt5':j<j5:=lt5
  exact⟨stE g d (ts++[u,u']) (ws++[(wt.map g).getD fK]) (h2||wt.isSome) j5,rfl,by show j1<j5;omega,a.1,hp _ j5 w5 t5 PA hts' a b5 ht⟩
 cases wt with
 | none=>
  have e1:(h2||(none:Option Nat).isSome)=h2:=by simp
  rw[e1]at fin
  exact fin j3 false PA b3 a ht
 | some x=>
  obtain⟨w4,t4,rfl,b4,s4,ht⟩:=Sp.inv ht
  refine gD (x:=.weight ts.length) (l':=.edge ts.length true true true) (σ1:=fun j=>stE g d (ts++[u,u']) (ws++[fK]) h2 j) a b3 AY (hwt x rfl) s4 (fun t j e=>by simp[key,e,bp,bw,cN,aB];rfl) (fun j=>rfl) (.inr rfl) fun u4 j0 j4 q1 q2 q3 lt4 a=>?_
  have lt4':j3<j4:=lt4
  refine⟨_,?_,?_,fin j4 true PA b4 a ht⟩
  ·simp only[bX,q2,stE]
   have e2:ts.length/2=ws.length:=by omega
   rw[e2,uA,show(h2||(some x).isSome)=true by simp]
   rfl
  ·rfl
def jq (g:Nat->Nat):List (Nat × Nat)->List Nat->List Nat
 | [],_=>[]
 | _::es,ws=>(ws.head?.map g).getD fK::jq g es ws.tail
def iU :List (Nat × Nat)->List Nat->Bool
 | [],_=>false
 | _::es,ws=>ws.head?.isSome||iU es ws.tail
theorem yq (g:Nat->Nat):∀(es:List (Nat × Nat)) (ws:List Nat),ws.length=es.length->jq g es ws=ws.map g
 | [],[],_=>rfl
 | _::es,x::ws,h=>by
  rw[jq,List.tail_cons,yq g es ws (by simpa using h)];rfl
 | [],_::_,h=>by simp at h
 | _::_,[],h=>by simp at h
theorem uB :∀es:List (Nat × Nat),iU es []=false
 | []=>rfl
 | _::es=>by rw[iU,List.tail_nil,uB es];rfl
theorem EV :∀(es:List (Nat × Nat)) (ws:List Nat),ws.length=es.length->iU es ws=decide (ws≠[])
 | [],[],_=>rfl
 | _::es,x::ws,h=>by simp[iU]
 | [],_::_,h=>by simp at h
 | _::_,[],h=>by simp at h
theorem oH {d:Dc} {f:Nat->Nat} (ok:Ok d) (hr:RdW rd) {P:Nat->Lv->Rd->Prop} {ls:List PZ}:∀(es2:List (Nat × Nat)) (wts:List Nat) {es:List (Nat × Nat)} {ts:List Tok} {ws:List Nat} {h2:Bool} {i:Nat} {w0 tt:PZ},(∀e∈es2,e.1<d.n/\e.2<d.n)->(∀x∈wts,ji rd (tx x) (f x))->
  gE ts es->ws.length=es.length->es.length+es2.length<=3072->Bl w0->Sp (fW tx es2 wts++ls) tt->At s i (w0++tt)->
  (∀ts' j w t,i<=j->gE ts' (es++es2)->At s j (w++t)->Bl w->Sp ls t->cT s rd cl (.graph true) 1 (stE (fun x=>cl (f x)) d ts' (ws++jq (fun x=>cl (f x)) es2 wts) (h2||iU es2 wts) j) P)->
  cT s rd cl (.graph true) 1 (stE (fun x=>cl (f x)) d ts ws h2 i) P
 | [],wts,es,ts,ws,h2,i,w0,tt,he,hx,hts,hws,hm,h0,ht,a,hp=>by
  have:=hp ts i w0 tt (P3 _) PE a h0 ht
  simpa[jq,iU]using this
 | e::es2,wts,es,ts,ws,h2,i,w0,tt,he,hx,hts,hws,hm,h0,ht,a,hp=>by
  unfold fW at ht
  rw[Qj]at ht
  rw[Qk]at hm
  refine zD ok hr (he e PC) (fun x q=>hx x (List.mem_of_mem_head? (by rw[q];rfl))) hts hws PA h0 ht a fun ts' j w t lt hts' a hw ht=>?_
  refine oH ok hr es2 wts.tail (fun e q=>he e (by simp[q])) (fun x q=>hx x (List.mem_of_mem_tail q)) hts' (by simp[hws]) PE hw ht a fun ts2 j2 w2 t2 lt2 k1 k4 k5 k6=>?_
  grind [jq,iU]
theorem A1 (n v:Nat) (h:v<n):find ((List.range n).map fun k:Nat=>((k:Int),k)) (v:Int)=some v:=by
 unfold find
 have:((List.range n).map fun k:Nat=>((k:Int),k)).find? (fun p=>p.1==(v:Int))=some ((v:Int),v):=by
  rw[List.find?_eq_some_iff_append]
  refine⟨PC,(List.range v).map fun k:Nat=>((k:Int),k),(List.range' (v+1) (n-v-1)).map fun k:Nat=>((k:Int),k),?_,fun p hp=>?_⟩
  ·rw[<-Se (f:=fun k:Nat=>((k:Int),k)),<-List.map_append]
   congr 1
   rw[List.range_eq_range',List.range_eq_range',show n=v+((n-v-1)+1) by omega,<-List.range'_append_1,List.range'_succ]
   simp
  grind
 rw[this];rfl
theorem rl {n v:Nat} {t:Tok} (h:v<n) (h2:n<=1024) (ht:t.l=dec v):eV ((List.range n).map fun k:Nat=>((k:Int),k)) t= .ok v:=by
 grind [eV,iA,A1]
theorem rm {n:Nat} (h2:n<=1024):∀{es:List (Nat × Nat)} {ts:List Tok},(∀e∈es,e.1<n/\e.2<n)->gE ts es->edges ((List.range n).map fun k:Nat=>((k:Int),k)) ts= .ok es
 | [],ts,_,h=>by
  have:=h.len
  have:ts=[]:=Qb PA
  rw[this];rfl
 | e::es,ts,he,h=>by
  have hl:=h.len
  match ts,h,hl with
  | a::b::ts,h,hl=>
   have h':a.l=dec e.1/\b.l=dec e.2/\ts.map Tok.l=es.flatMap fun e=>[dec e.1,dec e.2]:=by
    unfold gE at h;simpa using h
   obtain⟨q1,q2⟩:=he e PC
   rw[edges,rl q1 h2 h'.1]
   simp only[Er.bind]
   rw[rl q2 h2 h'.2.1]
   simp only[Er.bind]
   rw[rm h2 (fun e q=>he e (by simp[q])) h'.2.2]
  | [a],h,hl=>simp at hl;omega
  | [],h,hl=>simp at hl
def Ba (g:Nat->Nat) (d:Dc):Dc:={d with spots:=d.spots.map fun p=>(g p.1,g p.2),weights:=d.weights.map g}
theorem zE {d:Dc} {f:Nat->Nat} (ok:Ok d) (hr:RdW rd) (tok:IG rd tx f d) (ht:Sp (wK tx d) s.data.toList) (hs:s.size<=262144):read rd cl s= .ok (Ba (fun x=>cl (f x)) d):=by
 let g:Nat->Nat:=fun x=>cl (f x)
 have a0:At s 0 ([]++s.data.toList):=At.start s
 have key0:cT s rd cl .top 0 start fun e l r=>∃ts i,gE ts d.edges/\r=stE g d ts (jq g d.edges d.weights) (iU d.edges d.weights) i:=by
  unfold wK at ht
  obtain⟨w1,t1,et,b1,s1,ht⟩:=Sp.inv ht
  obtain⟨w2,t2,rfl,b2,s2,ht⟩:=Sp.inv ht
  rw[et]at a0
  refine jU (σ1:=fun j=>{start with i:=j,graph:=true}) (l2:=.graph false) (l':=.top) (σ:=start) a0 .nil sQ PB (fun t j e=>by simp[key,e,start,aB]) (fun j=>rfl) fun j0 j1 lt1 a=>?_
  obtain⟨vd,hvd⟩:∃v,ji rd (if d.dir=true then [49]else [48]) v:=by
   have e0:dec 0=[48]:=by rw[dec];rfl
   have e1:dec 1=[49]:=by rw[dec];rfl
   cases d.dir
   ·have:=hr 0 PB;grind
   ·have:=hr 1 PB;grind
  refine gD (x:=.dir) (l':=.graph true) (σ1:=fun j=>{start with i:=j,graph:=true}) a b1 wM hvd s2 (fun t j e=>by simp[key,e,aB]) (fun j=>rfl) (.inr rfl) fun u j0 j2 u1 u2 u3 lt2 a=>?_
  refine⟨stN g d 0 j2,?_,rfl,?_⟩
  ·simp only[bX,u1]
   cases q:d.dir<;>simp[aB,stN,start,nT,oE,q]
  refine oG ok hr tok d.n PA b2 ht a fun j3 w t lt3 a hw ht=>?_
  have e0:stN g d d.n j3=stE g d [] [] false j3:=rfl
  show cT s rd cl (.graph true) 1 (stN g d d.n j3) _
  rw[e0]
  refine oH ok hr d.edges d.weights ok.e tok.2 (es:=[]) (ts:=[]) rfl rfl (by simpa using ok.m) hw ht a fun ts j4 w4 t4 lt4 k1 a hw ht=>?_
  obtain⟨w5,t5,rfl,b5,s5,ht⟩:=Sp.inv ht
  cases ht
  refine iT a hw rfl fun e j5 lt5 a=>⟨_,rfl,?_,a.1,?_⟩
  ·have h2:j1<j2:=lt2
   have h5:j4<j5:=lt5
   grind
  ·rw[QZ]at a
   exact⟨_,_,_,yy b5 a,ts,s.size,by simpa using k1,rfl⟩
 obtain⟨e,l,r,hb,ts,i,k1,rfl⟩:=key0
 unfold read
 rw[gF (decide_eq_true hs),hb (s.size+1) (by simp[start])]
 simp only[aB,Er.bind]
 have eg:(stE g d ts (jq g d.edges d.weights) (iU d.edges d.weights) i).graph=true:=rfl
 have ei:(stE g d ts (jq g d.edges d.weights) (iU d.edges d.weights) i).ids=(List.range d.n).map fun k:Nat=>((k:Int),k):=rfl
 have ee:(stE g d ts (jq g d.edges d.weights) (iU d.edges d.weights) i).ends=ts:=rfl
 rw[eg,ei,ee,rm ok.n ok.e k1]
 simp only[]
 congr 1
 have nz:d.n=0->d.labels=[]/\d.spots=[]:=fun h0=>⟨ok.l.elim id fun q=>Qb PA,ok.s.elim id fun q=>Qb PA⟩
 have eL:(if(stE g d ts (jq g d.edges d.weights) (iU d.edges d.weights) i).h0=true then(stE g d ts (jq g d.edges d.weights) (iU d.edges d.weights) i).labels else [])=d.labels:=by
  show(if decide (0<d.n/\d.labels≠[])=true then nT d d.n else [])=d.labels
  rcases ok.l with q | q
  ·grind
  ·by_cases h0:d.n=0
   ·grind
   ·rw[if_pos PE]
    unfold nT
    apply Re
    grind
 have eS:(if(stE g d ts (jq g d.edges d.weights) (iU d.edges d.weights) i).h1=true then(stE g d ts (jq g d.edges d.weights) (iU d.edges d.weights) i).spots else [])=d.spots.map fun p=>(g p.1,g p.2):=by
  show(if decide (0<d.n/\d.spots≠[])=true then oE g d d.n else [])=_
  rcases ok.s with q | q
  ·grind
  ·by_cases h0:d.n=0
   ·grind
   ·rw[if_pos PE]
    unfold oE
    apply Re
    grind
 have eW:(if(stE g d ts (jq g d.edges d.weights) (iU d.edges d.weights) i).h2=true then(stE g d ts (jq g d.edges d.weights) (iU d.edges d.weights) i).weights else [])=d.weights.map g:=by
  show(if iU d.edges d.weights=true then jq g d.edges d.weights else [])=_
  rcases ok.w with q | q
  ·rw[q,uB,if_neg PC];rfl
  ·rw[EV _ _ q,yq g _ _ q]
   grind
 rw[eL,eS,eW]
 rfl
end
theorem sW (p:Nat->Bool) (s:P0):∀n i,s.size-i=n->i<=s.size->run p s i<=s.size:=by
 intro n
 induction n with
 | zero=>intro i h1 h2;rw[run,if_neg PA];exact h2
 | succ n ih=>
  intro i h1 h2
  rw[run]
  grind
theorem wQ {p:Nat->Bool} {s:P0} {i:Nat} (h:i<s.size) (hp:p (bt s i)=true):i<run p s i:=by
 rw[run,if_pos ⟨h,hp⟩]
 exact tf p s (i+1)
theorem Bb (s:P0):∀n i,s.size-i<=n->i<=s.size->i<=skp s i/\skp s i<=s.size:=by
 intro n
 induction n with
 | zero=>intro i h1 h2;rw[skp,if_neg PA];omega
 | succ n ih=>
  intro i h1 h2
  rw[skp]
  split
  ·rename_i hlt
   split
   ·grind
   ·split
    ·have h3:=tf (fun c=>decide (c≠10)) s (i+1)
     have h4:=sW (fun c=>decide (c≠10)) s _ (i+1) rfl PA
     grind
    ·omega
  ·omega
theorem sX (s:P0):∀k n i,i<=(iB s k n i).2
 | 0,n,i=>P3 _
 | k+1,n,i=>by
  rw[iB]
  split
  ·have:=sX s k (10*n+(bt s i-48)) (i+1);omega
  omega
theorem HZ {s:P0} {i:Nat} (h:bt s i≠256):i<s.size:=by
 grind [bt]
theorem yu {s:P0} {i:Nat} {l:PZ} (h:preB s i l=true):l.length<=s.size-i\/l=[]:=by
 unfold preB at h
 have h:=of_decide_eq_true h
 have h2:=congrArg List.length h
 grind [ByteArray.data_extract,js]
theorem sY {s:P0} {i c n:Nat} (hi:i<s.size) (h:part s i=some (c,n)):0<n/\i+n<=s.size:=by
 unfold part at h
 have pre:∀{l:PZ} {m:Nat},preB s i l=true->l.length=m->0<m->i+m<=s.size:=by
  intro l m q e hm
  rcases yu q with q | q
  ·omega
  grind
 split at h
 ·rename_i q;cases h;exact⟨PB,pre q rfl PB⟩
 split at h
 ·rename_i q;cases h;exact⟨PB,pre q rfl PB⟩
 split at h
 ·rename_i q;cases h;exact⟨PB,pre q rfl PB⟩
 split at h
 ·rename_i q;cases h;exact⟨PB,pre q rfl PB⟩
 split at h
 ·rename_i q;cases h;exact⟨PB,pre q rfl PB⟩
 split at h
 ·cases h
 ·have hg:=sX s 3 0 (i+2)
  generalize iB s 3 0 (i+2)=y at h hg
  obtain⟨m,k⟩:=y
  simp only at h hg
  split at h
  ·cases h
  ·rename_i q
   simp only[not_or]at q
   simp only[Option.some.injEq,Prod.mk.injEq]at h
   have:=HZ (s:=s) (i:=k) PA
   omega
theorem IL {s:P0} {fr:Nat} (hfr:fr<=s.size):∀n i out,s.size-i<=n->i<=s.size->
  (∀l j,str s fr i out= .ok (l,j)->i<j/\j<=s.size)/\(∀f,str s fr i out= .no f->f.1<=s.size)/\str s fr i out≠ .un:=by
 intro n
 induction n with
 | zero=>
  intro i out h1 h2
  rw[str,if_neg PA]
  grind
 | succ n ih=>
  intro i out h1 h2
  rw[str]
  split
  ·rename_i hlt
   split
   ·grind
   ·split
    ·split
     ·rename_i c m hp
      obtain⟨p1,p2⟩:=sY hlt hp
      grind
     grind
    grind
  grind
theorem iV {s:P0} {i:Nat} (hi:i<=s.size):
  (∀t j,next s i= .ok (t,j)->i<=j/\j<=s.size/\t.at_<=s.size/\(t.kind≠0->i<j))/\(∀f,next s i= .no f->f.1<=s.size)/\next s i≠ .un:=by
 obtain⟨h1,h2⟩:=Bb s _ i (P3 _) hi
 unfold next
 generalize skp s i=p at h1 h2
 simp only[]
 split
 ·grind
 ·rename_i hp
  split
  ·grind
  split
  ·grind
  split
  ·obtain⟨q1,q2,q3⟩:=IL h2 _ (p+1) [] (P3 _) PA
   generalize str s p (p+1) []=y at q1 q2 q3
   cases y<;>grind [Er.bind]
  split
  ·rename_i hc
   have r1:=wQ (p:=du) (s:=s) (i:=p) PA (by simp[du,hc])
   have r2:=sW du s _ p rfl h2
   grind
  split
  ·rename_i hc
   have r1:=wQ (p:=bM) (s:=s) (i:=p) PA (by grind [bM])
   have r2:=sW bM s _ p rfl h2
   grind
  grind
def Er.all {α:Type} (x:Er α) (P:α->Prop) (m:Nat):Prop:=(∀a,x= .ok a->P a)/\∀f,x= .no f->f.1<=m
theorem Er.all_ok {α:Type} {a:α} {P:α->Prop} {m:Nat} (h:P a):(Er.ok a).all P m:=⟨fun _ q=>PE,fun _ q=>(by cases q)⟩
theorem Er.all_no {α:Type} {f:F} {P:α->Prop} {m:Nat} (h:f.1<=m):(Er.no f:Er α).all P m:=⟨fun _ q=>(by cases q),fun _ q=>PE⟩
theorem Er.all_un {α:Type} {P:α->Prop} {m:Nat}:(Er.un:Er α).all P m:=⟨fun _ q=>(by cases q),fun _ q=>(by cases q)⟩
theorem Er.all_bind {α β:Type} {x:Er α} {k:α->Er β} {P:α->Prop} {Q:β->Prop} {m:Nat} (h:x.all P m) (hk:∀a,P a->(k a).all Q m):(x.bind k).all Q m:=by
 cases x with
 | ok a=>exact hk a (h.1 a rfl)
 | no f=>exact Er.all_no (h.2 f rfl)
 | un=>exact Er.all_un
theorem Er.all_must {α:Type} {b:Bool} {f:F} {k:Er α} {P:α->Prop} {m:Nat} (hf:f.1<=m) (hk:b=true->k.all P m):(aB b f k).all P m:=by
 cases b with
 | true=>exact hk rfl
 | false=>exact Er.all_no hf
structure RI (cl:Nat->Nat) (s:P0) (σ:Rd):Prop where
 i:σ.i<=s.size
 n:σ.n<=1024
 ll:σ.labels.length=σ.n
 sl:σ.spots.length=σ.n
 el:σ.ends.length=2*σ.weights.length
 wl:σ.weights.length<=3072
 lp:∀l∈σ.labels,l.size<=256/\∀c∈l.data.toList,gH c.toNat=true
 sc:∀p∈σ.spots,cl p.1=p.1/\cl p.2=p.2
 wc:∀x∈σ.weights,cl x=x
 ids:∀p∈σ.ids,p.2<σ.n
 ea:∀t∈σ.ends,t.at_<=s.size
def LvI (σ:Rd):Lv->Prop
 | .node v _ _ _=>v<σ.n
 | _=>True
def TkI (σ:Rd):Tk->Prop
 | .id v=>v<σ.n
 | .list l=>LvI σ l
 | _=>True
theorem RI.at {cl:Nat->Nat} {s:P0} {σ:Rd} (h:RI cl s σ) {i:Nat} (hi:i<=s.size):RI cl s {σ with i:=i}:=⟨hi,h.n,h.ll,h.sl,h.el,h.wl,h.lp,h.sc,h.wc,h.ids,h.ea⟩
theorem TkI.at {σ:Rd} {x:Tk} (h:TkI σ x) (i:Nat):TkI {σ with i:=i} x:=by
 cases x with
 | list l=>cases l<;>exact h
 | _=>exact h
structure ClOK (cl:Nat->Nat):Prop where
 c:∀x,cl (cl x)=cl x
 z:cl 0=0
 o:cl fK=fK
section
variable {cl:Nat->Nat} {s:P0} {rd:P0->Option (Nat × Nat)}
theorem od (hc:ClOK cl) {l:Lv} {t:Tok} {σ:Rd} (h:RI cl s σ) (hl:LvI σ l) (ht:t.at_<=s.size):
  (key l t σ).all (fun x=>TkI x.2.2 x.1/\LvI x.2.2 x.2.1/\RI cl s x.2.2/\σ.n<=x.2.2.n/\x.2.2.i=σ.i) s.size:=by
 have ok0:∀{x:Tk} {l:Lv},TkI σ x->LvI σ l->(Er.ok (x,l,σ)).all (fun x=>TkI x.2.2 x.1/\LvI x.2.2 x.2.1/\RI cl s x.2.2/\σ.n<=x.2.2.n/\x.2.2.i=σ.i) s.size:=fun a b=>Er.all_ok ⟨a,b,h,P3 _,rfl⟩
 cases l with
 | over=>exact ok0 trivial trivial
 | top=>
  simp only[key]
  split
  ·exact Er.all_must ht fun _=>Er.all_ok ⟨trivial,trivial,⟨h.i,h.n,h.ll,h.sl,h.el,h.wl,h.lp,h.sc,h.wc,h.ids,h.ea⟩,P3 _,rfl⟩
  ·exact ok0 trivial trivial
 | graph d=>
  simp only[key]
  split
  ·exact Er.all_must ht fun _=>ok0 trivial trivial
  split
  ·refine Er.all_must ht fun hn=>Er.all_ok ⟨?_,trivial,?_,?_,rfl⟩
   ·show σ.n<σ.n+1
    omega
   ·have hn:=of_decide_eq_true hn
    refine⟨h.i,?_,?_,?_,h.el,h.wl,?_,?_,h.wc,?_,h.ea⟩
    ·grind
    ·show(σ.labels++[noB]).length=σ.n+1;simp[h.ll]
    ·show(σ.spots++[(0,0)]).length=σ.n+1;simp[h.sl]
    ·intro l hl
     have hl:l∈σ.labels++[noB]:=hl
     rw[Qe]at hl
     rcases hl with hl | hl
     ·exact h.lp l hl
     ·simp at hl;subst hl;exact⟨PB,fun c hc=>absurd hc (by decide+revert)⟩
    ·intro p hp
     have hp:p∈σ.spots++[(0,0)]:=hp
     rw[Qe]at hp
     rcases hp with hp | hp
     ·exact h.sc p hp
     ·simp at hp;subst hp;exact⟨hc.z,hc.z⟩
    ·intro p hp
     have:=h.ids p hp
     grind
   grind
  split
  ·refine Er.all_must ht fun hn=>Er.all_ok ⟨trivial,trivial,?_,P3 _,rfl⟩
   have hn:=of_decide_eq_true hn
   have he:=h.el
   refine⟨h.i,h.n,h.ll,h.sl,?_,?_,h.lp,h.sc,?_,h.ids,?_⟩
   ·grind
   ·grind
   ·intro x hx
    have hx:x∈σ.weights++[fK]:=hx
    rw[Qe]at hx
    rcases hx with hx | hx
    ·exact h.wc x hx
    ·simp at hx;subst hx;exact hc.o
   ·intro t ht
    have ht:t∈σ.ends++[⟨0,0,noB,0⟩,⟨0,0,noB,0⟩]:=ht
    rw[Qe]at ht
    rcases ht with ht | ht
    ·exact h.ea t ht
    grind
  ·exact ok0 trivial trivial
 | node v a b c=>
  simp only[key]
  split
  ·exact Er.all_must ht fun _=>ok0 hl hl
  split
  ·exact Er.all_must ht fun _=>ok0 trivial hl
  split
  ·exact Er.all_must ht fun _=>ok0 trivial hl
  ·exact ok0 trivial hl
 | spot v a b=>
  simp only[key]
  split
  ·exact Er.all_must ht fun _=>ok0 trivial trivial
  split
  ·exact Er.all_must ht fun _=>ok0 trivial trivial
  ·exact ok0 trivial trivial
 | edge k a b c=>
  simp only[key]
  split
  ·exact Er.all_must ht fun _=>ok0 trivial trivial
  split
  ·exact Er.all_must ht fun _=>ok0 trivial trivial
  split
  ·exact Er.all_must ht fun _=>ok0 trivial trivial
  ·exact ok0 trivial trivial
theorem wR {t:Tok} (h:t.at_<=s.size):(bn rd t).all (fun v=>v.at_<=s.size) s.size:=by
 grind [bn,Er.all_no,Er.all_ok,Er.all_un]
theorem Bc (hc:ClOK cl) {x:Tk} {v:Tok} {σ:Rd} (h:RI cl s σ) (hx:TkI σ x) (ht:v.at_<=s.size):(bX cl x v σ).all (fun r=>RI cl s r/\σ.n<=r.n/\r.i=σ.i) s.size:=by
 cases x with
 | none=>exact Er.all_ok ⟨h,P3 _,rfl⟩
 | list l=>exact Er.all_ok ⟨h,P3 _,rfl⟩
 | dir=>exact Er.all_must ht fun _=>Er.all_ok ⟨⟨h.i,h.n,h.ll,h.sl,h.el,h.wl,h.lp,h.sc,h.wc,h.ids,h.ea⟩,P3 _,rfl⟩
 | id k=>
  simp only[bX]
  split
  ·refine Er.all_must ht fun _=>Er.all_ok ⟨⟨h.i,h.n,h.ll,h.sl,h.el,h.wl,h.lp,h.sc,h.wc,?_,h.ea⟩,P3 _,rfl⟩
   intro p hp
   have hp:p∈σ.ids++[_]:=hp
   rw[Qe]at hp
   rcases hp with hp | hp
   ·exact h.ids p hp
   ·simp at hp;subst hp;exact hx
  ·exact Er.all_no ht
 | label k=>
  simp only[bX]
  refine Er.all_must ht fun h1=>Er.all_must ht fun h2=>Er.all_ok ⟨⟨h.i,h.n,?_,h.sl,h.el,h.wl,?_,h.sc,h.wc,h.ids,h.ea⟩,P3 _,rfl⟩
  ·show(σ.labels.set k v.says).length=σ.n
   rw[Sd];exact h.ll
  ·intro l hl
   rcases Rm hl with hl | rfl
   ·exact h.lp l hl
   ·exact⟨of_decide_eq_true h1,Qx.1 h2⟩
 | spot k y=>
  refine Er.all_ok ⟨⟨h.i,h.n,h.ll,?_,h.el,h.wl,h.lp,?_,h.wc,h.ids,h.ea⟩,P3 _,rfl⟩
  ·show(σ.spots.modify k _).length=σ.n
   rw[List.length_modify];exact h.sl
  ·intro p hp
   obtain⟨j,hj,hp⟩:=List.getElem_of_mem hp
   have hp:(σ.spots.modify k fun p=>if y=true then(p.1,cl v.num)else(cl v.num,p.2))[j]? =some p:=by grind
   rw[List.getElem?_modify]at hp
   cases q:σ.spots[j]? with
   | none=>grind
   | some p0=>
    have h0:=h.sc p0 (Qa q)
    rw[q]at hp
    obtain rfl:=Option.some.inj hp
    split
    ·split
     ·exact⟨h0.1,hc.c _⟩
     ·exact⟨hc.c _,h0.2⟩
    ·exact h0
 | fin k=>
  simp only[bX]
  split
  ·refine Er.all_ok ⟨⟨h.i,h.n,h.ll,h.sl,?_,h.wl,h.lp,h.sc,h.wc,h.ids,?_⟩,P3 _,rfl⟩
   ·show(σ.ends.set k v).length=_
    rw[Sd];exact h.el
   ·intro t ht2
    rcases Rm ht2 with q | rfl
    ·exact h.ea t q
    ·exact ht
  ·exact Er.all_no ht
 | weight k=>
  refine Er.all_ok ⟨⟨h.i,h.n,h.ll,h.sl,?_,?_,h.lp,h.sc,?_,h.ids,h.ea⟩,P3 _,rfl⟩
  ·show σ.ends.length=2*(σ.weights.set _ _).length
   rw[Sd];exact h.el
  ·show(σ.weights.set _ _).length<=3072
   rw[Sd];exact h.wl
  ·intro x hx
   rcases Rm hx with hx | rfl
   ·exact h.wc x hx
   ·exact hc.c _
theorem oJ {l:Lv} {e:Nat} {σ:Rd} (h:RI cl s σ) (he:e<=s.size):(behind l e σ).all (fun r=>r=σ) s.size:=by
 cases l<;>simp only[behind]<;>first | exact Er.all_ok rfl | exact Er.all_must he fun _=>Er.all_ok rfl
theorem LvI.mono {l:Lv} {σ σ':Rd} (h:LvI σ l) (hn:σ.n<=σ'.n):LvI σ' l:=by
 cases l<;>simp only[LvI]at h ⊢
 omega
theorem jV (hc:ClOK cl) {L:Lv->Nat->Rd->Er (Nat × Lv × Rd)} (hL:∀l d σ,RI cl s σ->LvI σ l->(L l d σ).all (fun x=>x.1<=s.size/\LvI x.2.2 x.2.1/\RI cl s x.2.2/\σ.n<=x.2.2.n/\σ.i<=x.2.2.i) s.size)
  {x:Tk} {d:Nat} {σ:Rd} (h:RI cl s σ) (hx:TkI σ x):(value s rd cl L x d σ).all (fun r=>RI cl s r/\σ.n<=r.n/\σ.i<=r.i) s.size:=by
 unfold value
 obtain⟨n1,n2,n3⟩:=iV h.i
 refine Er.all_bind (P:=fun y=>σ.i<=y.2/\y.2<=s.size/\y.1.at_<=s.size) ⟨fun a q=>?_,n2⟩ ?_
 ·grind
 rintro⟨v0,i⟩ ⟨q1,q2,q3⟩
 simp only at q1 q2 q3
 refine Er.all_bind (wR q3) fun v q4=>?_
 refine Er.all_must q4 fun _=>Er.all_must q4 fun _=>?_
 have h':=h.at q2
 split
 ·split
  ·rename_i l _
   refine Er.all_bind (hL l (d+1) {σ with i:=i} h' hx) ?_
   rintro⟨e,l',r2⟩ ⟨p1,p2,p3,p4,p5⟩
   refine⟨fun a q=>?_,(oJ p3 p1).2⟩
   have:=(oJ p3 p1).1 a q
   grind
  ·refine Er.all_bind (hL .over (d+1) {σ with i:=i} h' trivial) ?_
   grind [Er.all_ok]
 ·have hx':=hx.at i
  obtain⟨a1,a2⟩:=Bc (v:=v) hc h' hx' q4
  exact⟨fun a q=>let ⟨b1,b2,b3⟩:=a1 a q;⟨b1,b2,PE⟩,a2⟩
theorem jr (hc:ClOK cl):∀(n:Nat) (l:Lv) (d:Nat) (σ:Rd),RI cl s σ->LvI σ l->(list s rd cl n l d σ).all (fun x=>x.1<=s.size/\LvI x.2.2 x.2.1/\RI cl s x.2.2/\σ.n<=x.2.2.n/\σ.i<=x.2.2.i) s.size:=by
 intro n
 induction n with
 | zero=>intro l d σ h hl;exact Er.all_un
 | succ n ih=>
  intro l d σ h hl
  rw[list]
  obtain⟨n1,n2,n3⟩:=iV h.i
  refine Er.all_bind (P:=fun y=>σ.i<=y.2/\y.2<=s.size/\y.1.at_<=s.size) ⟨fun a q=>?_,n2⟩ ?_
  ·grind
  rintro⟨t,i⟩ ⟨q1,q2,q3⟩
  simp only at q1 q2 q3 ⊢
  have h':=h.at q2
  have hl':LvI {σ with i:=i} l:=by cases l<;>exact hl
  split
  ·exact Er.all_ok ⟨q3,hl',h',P3 _,q1⟩
  ·refine Er.all_must q3 fun _=>Er.all_bind (od hc h' hl' q3) ?_
   rintro⟨x,l',r1⟩ ⟨p1,p2,p3,p4,p5⟩
   simp only at p1 p2 p3 p4 p5 ⊢
   refine Er.all_bind (jV hc (fun l d σ=>ih l d σ) p3 p1) ?_
   rintro r2 ⟨b1,b2,b3⟩
   obtain⟨a1,a2⟩:=ih l' d r2 b1 (p2.mono b2)
   refine⟨fun a q=>?_,a2⟩
   grind
theorem E3 {ids:List (Int × Nat)} {n:Nat} (h:∀p∈ids,p.2<n) {k:Int} {v:Nat} (hf:find ids k=some v):v<n:=by
 unfold find at hf
 cases q:ids.find? (fun p=>p.1==k)<;>grind
theorem rn {ids:List (Int × Nat)} {n m:Nat} (h:∀p∈ids,p.2<n) {t:Tok} (ht:t.at_<=m):(eV ids t).all (fun v=>v<n) m:=by
 grind [eV,Er.all_ok,E3,Er.all_no]
theorem rp {ids:List (Int × Nat)} {n m:Nat} (h:∀p∈ids,p.2<n):∀{k:Nat} {ts:List Tok},ts.length=2*k->(∀t∈ts,t.at_<=m)->(edges ids ts).all (fun es=>es.length=k/\∀e∈es,e.1<n/\e.2<n) m
 | 0,ts,hl,ht=>by
  have:ts=[]:=Qb hl
  subst this
  exact Er.all_ok ⟨rfl,PC⟩
 | k+1,a::b::ts,hl,ht=>by
  rw[edges]
  refine Er.all_bind (rn h (ht a PC)) fun x hx=>Er.all_bind (rn h (ht b PC)) fun y hy=>?_
  refine Er.all_bind (rp h (k:=k) PE fun t q=>ht t (by simp[q])) fun es hes=>Er.all_ok ⟨by simp[hes.1],fun e he=>?_⟩
  grind
 | k+1,[a],hl,ht=>by grind
 | k+1,[],hl,ht=>by simp at hl
theorem oK :RI cl s start:=⟨QU _,PB,rfl,rfl,rfl,PB,by simp[start],by simp[start],by simp[start],by simp[start],by simp[start]⟩
theorem Bd (hc:ClOK cl):(read rd cl s).all (fun d=>Ok d/\(∀p∈d.spots,cl p.1=p.1/\cl p.2=p.2)/\∀x∈d.weights,cl x=x) s.size:=by
 unfold read
 refine Er.all_must (QU _) fun hs=>Er.all_bind (jr hc (s.size+1) .top 0 start oK trivial) ?_
 rintro⟨e,l,r⟩ ⟨q1,q2,q3,q4,q5⟩
 simp only at q1 q2 q3 q4 q5 ⊢
 refine Er.all_must q1 fun hg=>Er.all_bind (rp q3.ids q3.el q3.ea) fun es hes=>Er.all_ok ?_
 refine⟨⟨q3.n,by rw[hes.1];exact q3.wl,hes.2,?_,?_,?_,?_⟩,?_,?_⟩
 ·show(if r.h0=true then r.labels else [])=[]\/_
  split
  ·exact .inr (by simpa using q3.ll)
  grind
 ·intro l hl
  have hl:l∈(if r.h0=true then r.labels else []):=hl
  split at hl
  ·exact q3.lp l hl
  ·simp at hl
 ·show(if r.h1=true then r.spots else [])=[]\/_
  split
  ·exact .inr (by simpa using q3.sl)
  grind
 ·grind
 ·intro p hp
  have hp:p∈(if r.h1=true then r.spots else []):=hp
  split at hp
  ·exact q3.sc p hp
  ·simp at hp
 ·intro x hx
  have hx:x∈(if r.h2=true then r.weights else []):=hx
  split at hx
  ·exact q3.wc x hx
  ·simp at hx
end
theorem Er.bind_un {α β:Type} {x:Er α} {k:α->Er β} (h:x≠ .un) (hk:∀a,x= .ok a->k a≠ .un):x.bind k≠ .un:=by
 cases x<;>grind [Er.bind]
theorem fH {α:Type} {b:Bool} {f:F} {k:Er α} (hk:b=true->k≠ .un):aB b f k≠ .un:=by
 cases b<;>grind [aB]
section
variable {cl:Nat->Nat} {s:P0} {rd:P0->Option (Nat × Nat)}
theorem zS {t:Tok} (hr:t.kind=3\/t.kind=4->rd t.says≠none):bn rd t≠ .un:=by
 grind [bn]
theorem uK {i j:Nat} {t:Tok} (h:next s i= .ok (t,j)):t.num=0/\(t.kind=3\/t.kind=4->t.says.size<=s.size):=by
 unfold next at h
 simp only at h
 have ex:∀p q,(s.extract p q).size<=s.size:=fun p q=>by rw[ByteArray.size_extract];omega
 split at h
 ·cases h;exact⟨rfl,PC⟩
 split at h
 ·cases h;exact⟨rfl,PC⟩
 split at h
 ·cases h;exact⟨rfl,PC⟩
 split at h
 ·cases hq:str s (skp s i) (skp s i+1) []with
  | ok a=>rw[hq]at h;cases h;exact⟨rfl,PC⟩
  | no f=>rw[hq]at h;cases h
  | un=>rw[hq]at h;cases h
 split at h
 ·cases h;exact⟨rfl,fun _=>ex _ _⟩
 split at h
 ·cases h;exact⟨rfl,fun _=>ex _ _⟩
 ·cases h
theorem IR (l:Lv) (t:Tok) (r:Rd):key l t r≠ .un:=by
 cases l<;>simp only[key]<;>(try split)<;>(try split)<;>(try split)<;>first | exact fH fun _=>by simp | simp
theorem E6 (x:Tk) (v:Tok) (r:Rd):bX cl x v r≠ .un:=by
 cases x<;>simp only[bX]
 case dir=>exact fH fun _=>by simp
 case id=>
  grind [fH]
 case label=>grind [fH]
 case fin=>split<;>simp
 all_goals simp
theorem zT (l:Lv) (e:Nat) (r:Rd):behind l e r≠ .un:=by
 cases l<;>simp only[behind]<;>first | exact fH fun _=>by simp | simp
theorem E7 (hc:ClOK cl) (hr:∀b,b.size<=s.size->rd b≠none):∀(n:Nat) (l:Lv) (d:Nat) (σ:Rd),RI cl s σ->LvI σ l->s.size-σ.i<n->list s rd cl n l d σ≠ .un:=by
 intro n
 induction n with
 | zero=>omega
 | succ n ih=>
  intro l d σ h hl hn
  rw[list]
  obtain⟨n1,n2,n3⟩:=iV h.i
  refine Er.bind_un n3 ?_
  rintro⟨t,i⟩ q
  obtain⟨q1,q2,q3,q4⟩:=n1 t i q
  simp only
  have h':=h.at q2
  have hl':LvI {σ with i:=i} l:=by cases l<;>exact hl
  split
  ·simp
  ·refine fH fun hk=>Er.bind_un (IR _ _ _) ?_
   have hk:=of_decide_eq_true hk
   have q5:=q4 PA
   rintro⟨x,l',r1⟩ qk
   obtain⟨p1,p2,p3,p4,p5⟩:=(od hc h' hl' q3).1 _ qk
   simp only at p1 p2 p3 p4 p5 ⊢
   refine Er.bind_un ?_ fun r2 qv=>?_
   ·unfold value
    obtain⟨m1,m2,m3⟩:=iV p3.i
    refine Er.bind_un m3 ?_
    rintro⟨v0,j⟩ qn
    obtain⟨b1,b2,b3,b4⟩:=m1 v0 j qn
    refine Er.bind_un (zS fun hk=>hr _ ((uK qn).2 hk)) fun v qv=>fH fun _=>fH fun _=>?_
    have h2:=p3.at b2
    have step:s.size-j<n:=by omega
    split
    ·split
     ·rename_i l2 _
      exact Er.bind_un (ih l2 (d+1) {r1 with i:=j} h2 p1 step) fun a _=>zT _ _ _
     ·exact Er.bind_un (ih .over (d+1) {r1 with i:=j} h2 trivial step) fun a _=>by simp
    ·exact E6 _ _ _
   ·obtain⟨c1,c2,c3⟩:=(jV hc (fun l d σ=>jr hc n l d σ) p3 p1).1 r2 qv
    exact ih l' d r2 c1 (p2.mono c2) PA
theorem uL (ids:List (Int × Nat)) (t:Tok):eV ids t≠ .un:=by
 grind [eV]
theorem uM (ids:List (Int × Nat)):∀n,∀ts:List Tok,ts.length<=n->edges ids ts≠ .un
 | _,[],_=>by simp[edges]
 | _,[a],_=>by simp[edges]
 | n+1,a::b::ts,h=>by
  rw[edges]
  exact Er.bind_un (uL _ _) fun x _=>Er.bind_un (uL _ _) fun y _=>Er.bind_un (uM ids n ts (by simp at h;omega)) fun l _=>by simp
 | 0,a::b::ts,h=>by simp at h
theorem E8 (hc:ClOK cl) (hr:∀b,b.size<=s.size->rd b≠none):read rd cl s≠ .un:=by
 unfold read
 exact fH fun _=>Er.bind_un (E7 hc hr (s.size+1) .top 0 start oK trivial (by simp[start])) fun a _=>fH fun _=>Er.bind_un (uM _ _ _ (P3 _)) fun es _=>by simp
end
end Go.Proofs.YtmmmmjcfojhiaaaGreatDoor.G
