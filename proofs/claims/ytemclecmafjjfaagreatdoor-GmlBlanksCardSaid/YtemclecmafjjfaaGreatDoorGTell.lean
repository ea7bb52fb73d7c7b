/- A document that is written, with whatever blanks where lines end, is read as it was, its numbers clean. Conditions: its numbers' texts lead back. -/
import Derived.Test.YtemclecmafjjfaaGreatDoorHBr
set_option linter.unusedVariables false
set_option linter.unusedSimpArgs false
namespace Go.Proofs.YtemclecmafjjfaaGreatDoor.G
def ind (n:Nat):List UInt8:=List.replicate n 32
def kv (n:Nat) (k v:List UInt8):List UInt8:=ind n++(k++32::v)
def opn (n:Nat) (k:List UInt8):List UInt8:=kv n k [91]
def cls (n:Nat):List UInt8:=ind n++[93]
def quo (l:List UInt8):List UInt8:=34::(enc l++[34])
def mH (tx:Nat->List UInt8) (p:Nat × Nat):List (List UInt8):=[opn 4 aZ,kv 6 kX (tx p.1),kv 6 kY (tx p.2),cls 4]
def kB (tx:Nat->List UInt8) (lab:Option ByteArray) (sp:Option (Nat × Nat)) (v:Nat):List (List UInt8):=
 opn 2 gh::kv 4 kId (dec v)::((match lab with | some l=>[kv 4 dj (quo l.data.toList)] | none=>[])++((match sp with | some p=>mH tx p | none=>[])++[cls 2]))
def qo (tx:Nat->List UInt8) (w:Option Nat) (e:Nat × Nat):List (List UInt8):=
 opn 2 eH::kv 4 bc (dec e.1)::kv 4 bi (dec e.2)::((match w with | some x=>[kv 4 cb (tx x)] | none=>[])++[cls 2])
def fV (tx:Nat->List UInt8) (d:Dc):Nat->Nat->List (List UInt8)
 | 0,_=>[]
 | k+1,v=>kB tx d.labels[v]? d.spots[v]? v++fV tx d k (v+1)
def eM (tx:Nat->List UInt8):List (Nat × Nat)->List Nat->List (List UInt8)
 | [],_=>[]
 | e::es,ws=>qo tx ws.head? e++eM tx es ws.tail
def pY (tx:Nat->List UInt8) (d:Dc):List (List UInt8):=
 opn 0 gf::kv 2 cr (if d.dir=true then [49]else [48])::(fV tx d d.n 0++(eM tx d.edges d.weights++[cls 0]))
inductive Sp :List (List UInt8)->List UInt8->Prop where
 | nil:Sp [] []
 | cons {l:List UInt8} {ls:List (List UInt8)} {w t:List UInt8}:Bl w->Sep w->Sp ls t->Sp (l::ls) (l++(w++t))
theorem Sp.inv {l:List UInt8} {ls:List (List UInt8)} {t:List UInt8} (h:Sp (l::ls) t):∃w t',t=l++(w++t')/\Bl w/\Sep w/\Sp ls t':=by
 cases h<;>grind
theorem nF :∀n,Bl (ind n)
 | 0=>.nil
 | n+1=>by
  show Bl (32::ind n)
  exact .blank rfl (nF n)
section
variable {s:ByteArray} {rd:ByteArray->Option (Nat × Nat)} {cl:Nat->Nat} {tx:Nat->List UInt8}
theorem fj (l:List UInt8):Sep (32::l):=⟨32,l,rfl,rfl⟩
theorem G5 :Bl [32]:=.blank rfl .nil
theorem vA {i n:Nat} {w0 k v w t:List UInt8} (a:At s i (w0++(kv n k v++(w++t)))):At s i ((w0++ind n)++(k++(32::(v++(w++t))))):=by
 simpa[kv,List.append_assoc]using a
def cG (s:ByteArray) (rd:ByteArray->Option (Nat × Nat)) (cl:Nat->Nat) (l:Lv) (d:Nat) (r:Rd) (P:Nat->Lv->Rd->Prop):Prop:=∃e l' r',Big s rd cl l d r (e,l',r')/\P e l' r'
theorem fW {l l':Lv} {d n v:Nat} {σ:Rd} {σ1:Nat->Rd} {x:Tk} {w0 k y w t:List UInt8} {P:Nat->Lv->Rd->Prop} (a:At s σ.i (w0++(kv n k y++(w++t)))) (h0:Bl w0) (hk:∀l,Sep l->Wd k l) (hy:iT rd y v) (hw:Sep w)
  (hkey:∀t j,t.l=k->key l t {σ with i:=j}= .ok (x,l',σ1 j)) (hi:∀j,(σ1 j).i=j) (hx:x.kind=0\/x.kind=4)
  (ht:∀(u:Tok) j1 j,u.l=y->u.num=v->u.kind=4->σ.i<j->At s j (w++t)->∃σ2,bW cl x u {σ1 j1 with i:=j}= .ok σ2/\σ2.i=j/\cG s rd cl l' d σ2 P):cG s rd cl l d σ P:=by
 have a1:=vA a
 have hb:Bl (w0++ind n):=h0.app (nF n)
 have a2:=At.app (At.app a1)
 have hsw:=hw.app (m:=t)
 have a3:At s (σ1 (σ.i+(w0++ind n).length+k.length)).i ([32]++(y++(w++t))):=by grind
 obtain⟨u,u1,u2,u3,u4⟩:=qt (cl:=cl) (d:=d) G5 hy hsw.numb hsw.word a3 hx
 have a4:=At.app (At.app a3)
 obtain⟨σ2,q1,q2,e,l2,r2,q3,q4⟩:=ht u (σ.i+(w0++ind n).length+k.length) _ u1 u2 u3 (by grind) a4
 refine⟨e,l2,r2,kD hb (hk _ (fj _)) a1 (fun t ht=>hkey t _ ht) (fun m hm=>?_) ?_ ?_ q3,q4⟩
 ·grind
 ·grind
 ·rw[q2];exact a4.1
theorem zQ {l l':Lv} {d n:Nat} {σ:Rd} {σ1:Nat->Rd} {x:Tk} {w0 k y w t:List UInt8} {P:Nat->Lv->Rd->Prop} (a:At s σ.i (w0++(kv n k (quo y)++(w++t)))) (h0:Bl w0) (hk:∀l,Sep l->Wd k l) (hy:∀c∈y,fN c.toNat=true)
  (hkey:∀t j,t.l=k->key l t {σ with i:=j}= .ok (x,l',σ1 j)) (hi:∀j,(σ1 j).i=j) (hx:x.kind=0\/x.kind=5)
  (ht:∀(u:Tok) j1 j,u.says=mkB y->u.kind=5->σ.i<j->At s j (w++t)->∃σ2,bW cl x u {σ1 j1 with i:=j}= .ok σ2/\σ2.i=j/\cG s rd cl l' d σ2 P):cG s rd cl l d σ P:=by
 have a1:=vA a
 have hb:Bl (w0++ind n):=h0.app (nF n)
 have a2:=At.app (At.app a1)
 have a3:At s (σ1 (σ.i+(w0++ind n).length+k.length)).i ([32]++34::(enc y++34::(w++t))):=by rw[hi];simpa[quo]using a2
 obtain⟨u,u1,u2,a4,u4⟩:=yL (rd:=rd) (cl:=cl) (d:=d) G5 hy a3 hx
 obtain⟨σ2,q1,q2,e,l2,r2,q3,q4⟩:=ht u (σ.i+(w0++ind n).length+k.length) _ u1 u2 (by grind) a4
 refine⟨e,l2,r2,kD hb (hk _ (fj _)) a1 (fun t ht=>hkey t _ ht) (fun m hm=>?_) ?_ ?_ q3,q4⟩
 ·grind
 ·grind
 ·rw[q2];exact a4.1
theorem jE {l l' l2:Lv} {d n:Nat} {σ:Rd} {σ1:Nat->Rd} {w0 k w t:List UInt8} {P:Nat->Lv->Rd->Prop} (a:At s σ.i (w0++(opn n k++(w++t)))) (h0:Bl w0) (hk:∀l,Sep l->Wd k l) (hd:d<16)
  (hkey:∀t j,t.l=k->key l t {σ with i:=j}= .ok (.list l2,l',σ1 j)) (hi:∀j,(σ1 j).i=j)
  (hin:∀j1 j,σ.i<j->At s j (w++t)->cG s rd cl l2 (d+1) {σ1 j1 with i:=j} fun e l3 r2=>∃r3,behind l3 e r2= .ok r3/\j<r3.i/\r3.i<=s.size/\cG s rd cl l' d r3 P):cG s rd cl l d σ P:=by
 have a1:=vA a
 have hb:Bl (w0++ind n):=h0.app (nF n)
 have a2:=At.app (At.app a1)
 have a3:At s (σ1 (σ.i+(w0++ind n).length+k.length)).i ([32]++91::(w++t)):=by grind
 have a4:At s ((σ1 (σ.i+(w0++ind n).length+k.length)).i+1+1) (w++t):=(At.app a3).cons.2.2
 obtain⟨e,l3,r2,q1,r3,q2,q3,q4,e',l4,r4,q5,q6⟩:=hin (σ.i+(w0++ind n).length+k.length) _ (by rw[hi];omega) a4
 rw[hi]at q3
 refine⟨e',l4,r4,kD hb (hk _ (fj _)) a1 (fun t ht=>hkey t _ ht) (fun m hm=>?_) ?_ q4 q5,q6⟩
 ·refine nU G5 a3 hd ?_ q1 q2
  grind
 ·omega
theorem iy {l:Lv} {d n:Nat} {σ:Rd} {w0 w t:List UInt8} {P:Nat->Lv->Rd->Prop} (a:At s σ.i (w0++(cls n++(w++t)))) (h0:Bl w0) (hl:bN l=false) (hp:∀e j,σ.i<j->At s j (w++t)->P e l {σ with i:=j}):cG s rd cl l d σ P:=by
 have a1:At s σ.i ((w0++ind n)++93::(w++t)):=by simpa[cls,List.append_assoc]using a
 obtain⟨q1,q2⟩:=xl (rd:=rd) (cl:=cl) (d:=d) hl (h0.app (nF n)) a1
 exact⟨_,_,_,q1,hp _ _ (by omega) q2⟩
theorem iM {k:List UInt8} (h1:∃c r,k=c::r/\gO c.toNat=true) (h2:∀c∈k,cM c.toNat=true):∀l,Sep l->Wd k l:=fun l hl=>⟨h1,h2,hl.word⟩
theorem ry :∀l,Sep l->Wd gf l:=iM ⟨103,_,rfl,rfl⟩ (by decide)
theorem vB :∀l,Sep l->Wd cr l:=iM ⟨100,_,rfl,rfl⟩ (by decide)
theorem vC :∀l,Sep l->Wd gh l:=iM ⟨110,_,rfl,rfl⟩ (by decide)
theorem zR :∀l,Sep l->Wd eH l:=iM ⟨101,_,rfl,rfl⟩ (by decide)
theorem Jt :∀l,Sep l->Wd kId l:=iM ⟨105,_,rfl,rfl⟩ (by decide)
theorem DA :∀l,Sep l->Wd dj l:=iM ⟨108,_,rfl,rfl⟩ (by decide)
theorem vD :∀l,Sep l->Wd aZ l:=iM ⟨103,_,rfl,rfl⟩ (by decide)
theorem wdX :∀l,Sep l->Wd kX l:=iM ⟨120,_,rfl,rfl⟩ (by decide)
theorem wdY :∀l,Sep l->Wd kY l:=iM ⟨121,_,rfl,rfl⟩ (by decide)
theorem tw :∀l,Sep l->Wd bc l:=iM ⟨115,_,rfl,rfl⟩ (by decide)
theorem tz :∀l,Sep l->Wd bi l:=iM ⟨116,_,rfl,rfl⟩ (by decide)
theorem zS :∀l,Sep l->Wd cb l:=iM ⟨119,_,rfl,rfl⟩ (by decide)
theorem tA {α:Type} (l:List α) (a b:α):(l++[a]).set l.length b=l++[b]:=by
 grind
theorem mJ {α:Type} (l:List α) (a:α) (f:α->α):(l++[a]).modify l.length f=l++[f a]:=by
 induction l<;>grind
theorem yD {σ:Rd} {v d:Nat} {sp:List (Nat × Nat)} {q:Nat × Nat} {p:Nat × Nat} {w0 tt:List UInt8} {P:Nat->Lv->Rd->Prop} {ls:List (List UInt8)} {vx vy:Nat} (hx:iT rd (tx p.1) vx) (hy:iT rd (tx p.2) vy) (hsp:σ.spots=sp++[q]) (hv:sp.length=v) (hd:d<16) (h0:Bl w0)
  {l l':Lv} (hkey:∀(t:Tok) (j:Nat),t.l=aZ->key l t {σ with i:=j}= .ok (.list (.spot v false false),l',{σ with i:=j})) (ht:Sp (mH tx p++ls) tt) (a:At s σ.i (w0++tt))
  (hp:∀j w t,σ.i<j->At s j (w++t)->Bl w->Sp ls t->cG s rd cl l' d {σ with i:=j,spots:=sp++[(cl vx,cl vy)],h1:=true} P):cG s rd cl l d σ P:=by
 obtain⟨w1,t1,rfl,b1,s1,ht⟩:=Sp.inv ht
 obtain⟨w2,t2,rfl,b2,s2,ht⟩:=Sp.inv ht
 obtain⟨w3,t3,rfl,b3,s3,ht⟩:=Sp.inv ht
 obtain⟨w4,t4,rfl,b4,s4,ht⟩:=Sp.inv ht
 refine jE (σ1:=fun j=>{σ with i:=j}) a h0 vD hd hkey (fun j=>rfl) fun j0 j1 lt1 a=>?_
 refine fW (x:=.spot v false) (l':=.spot v true false) (σ1:=fun j=>{σ with i:=j}) a b1 wdX hx s2 (fun t j e=>by simp[key,e,kX,kY,az]) (fun j=>rfl) (.inr rfl) fun u j0 j2 u1 u2 u3 lt2 a=>?_
 refine⟨{σ with i:=j2,spots:=sp++[(cl vx,q.2)],h1:=true},?_,rfl,?_⟩
 ·subst hv
  simp only[bW,u2,hsp,mJ,Bool.false_eq_true,if_false]
 refine fW (x:=.spot v true) (l':=.spot v true true) (σ1:=fun j=>{σ with i:=j,spots:=sp++[(cl vx,q.2)],h1:=true}) a b2 wdY hy s3 (fun t j e=>by simp[key,e,kX,kY,az]) (fun j=>rfl) (.inr rfl) fun u j0 j3 u1 u2 u3 lt3 a=>?_
 refine⟨{σ with i:=j3,spots:=sp++[(cl vx,cl vy)],h1:=true},?_,rfl,?_⟩
 ·subst hv
  simp only[bW,u2,mJ,if_true]
 refine iy a b3 rfl fun e j4 lt4 a=>?_
 simp only at lt2 lt3 lt4
 exact⟨_,rfl,by grind,a.1,hp j4 w4 t4 (by omega) a b4 ht⟩
def mX (d:Dc) (v:Nat):List ByteArray:=(List.range v).map fun k=>d.labels.getD k noB
def nG (f:Nat->Nat) (d:Dc) (v:Nat):List (Nat × Nat):=(List.range v).map fun k=>(d.spots[k]?.map fun p=>(f p.1,f p.2)).getD (0,0)
def stN (f:Nat->Nat) (d:Dc) (v i:Nat):Rd:=⟨i,v,d.dir,true,(List.range v).map fun k:Nat=>((k:Int),k),mX d v,nG f d v,[],decide (0<v/\d.labels≠[]),decide (0<v/\d.spots≠[]),false,[]⟩
structure Ok (d:Dc):Prop where
 n:d.n<=1024
 m:d.edges.length<=3072
 e:∀e∈d.edges,e.1<d.n/\e.2<d.n
 l:d.labels=[]\/d.labels.length=d.n
 p:∀l∈d.labels,l.size<=256/\∀c∈l.data.toList,fN c.toNat=true
 s:d.spots=[]\/d.spots.length=d.n
 w:d.weights=[]\/d.weights.length=d.edges.length
theorem DB (v:Nat):((List.range v).map fun k:Nat=>((k:Int),k)).any (fun p=>p.1==(v:Int))=false:=by
 grind
theorem ig {α:Type} (f:Nat->α) (v:Nat):(List.range (v+1)).map f=(List.range v).map f++[f v]:=by grind [List.range_succ]
def G6 (rd:ByteArray->Option (Nat × Nat)) (tx:Nat->List UInt8) (f:Nat->Nat) (d:Dc):Prop:=
 (∀p∈d.spots,iT rd (tx p.1) (f p.1)/\iT rd (tx p.2) (f p.2))/\(∀x∈d.weights,iT rd (tx x) (f x))
def RdW (rd:ByteArray->Option (Nat × Nat)):Prop:=∀n:Nat,n<=2147483648->∃v,iT rd (dec n) v
theorem yE {d:Dc} {f:Nat->Nat} (ok:Ok d) (hr:RdW rd) (tok:G6 rd tx f d) {v:Nat} (hv:v<d.n) {w0 tt:List UInt8} {P:Nat->Lv->Rd->Prop} {ls:List (List UInt8)} {i:Nat} (h0:Bl w0)
  (ht:Sp (kB tx d.labels[v]? d.spots[v]? v++ls) tt) (a:At s i (w0++tt)) (hp:∀j w t,i<j->At s j (w++t)->Bl w->Sp ls t->cG s rd cl (.graph true) 1 (stN (fun x=>cl (f x)) d (v+1) j) P):
  cG s rd cl (.graph true) 1 (stN (fun x=>cl (f x)) d v i) P:=by
 unfold kB at ht
 rw[List.cons_append,List.cons_append,List.append_assoc,List.append_assoc]at ht
 obtain⟨w1,t1,rfl,b1,s1,ht⟩:=Sp.inv ht
 obtain⟨w2,t2,rfl,b2,s2,ht⟩:=Sp.inv ht
 have hn:=ok.n
 let g:Nat->Nat:=fun x=>cl (f x)
 let σ1:Nat->Rd:=fun j=>{stN g d v j with n:=v+1,labels:=mX d v++[noB],spots:=nG g d v++[(0,0)]}
 refine jE (σ1:=σ1) (l2:=.node v false false false) (l':=.graph true) a h0 vC (by decide) (fun t j e=>?_) (fun j=>rfl) fun j0 j1 lt1 a=>?_
 ·exact(nQ e (by show v<1024;omega)).trans rfl
 obtain⟨vv,hvv⟩:=hr v (by omega)
 let σ2:Nat->Rd:=fun j=>{σ1 j with ids:=(List.range (v+1)).map fun k:Nat=>((k:Int),k)}
 refine fW (x:=.id v) (l':=.node v true false false) (σ1:=fun j=>σ1 j) a b1 Jt hvv s2 (fun t j e=>by simp[key,e,az];rfl) (fun j=>rfl) (.inr rfl) fun u j0 j2 u1 u2 u3 lt2 a=>?_
 refine⟨σ2 j2,?_,rfl,?_⟩
 ·simp only[bW,u1,ii v (by omega)]
  have:(σ1 j0).ids=(List.range v).map fun k:Nat=>((k:Int),k):=rfl
  grind [stN,DB,az,ig]
 have lt1':i<j1:=lt1
 have lt2':j1<j2:=lt2
 let σ3:Nat->Rd:=fun j=>{σ2 j with labels:=mX d (v+1),h0:=decide (0<v+1/\d.labels≠[])}
 have lab:∀(j2:Nat) {w t:List UInt8} {c:Bool},j1<j2->Bl w->At s j2 (w++t)->Sp ((match d.labels[v]? with | some l=>[kv 4 dj (quo l.data.toList)] | none=>[])++((match d.spots[v]? with | some p=>mH tx p | none=>[])++([cls 2]++ls))) t->
   (∀(j:Nat) (b:Bool) {w t:List UInt8},j1<j->Bl w->At s j (w++t)->Sp ((match d.spots[v]? with | some p=>mH tx p | none=>[])++([cls 2]++ls)) t->cG s rd cl (.node v true b false) 2 (σ3 j) fun e l3 r2=>∃r3,behind l3 e r2= .ok r3/\j1<r3.i/\r3.i<=s.size/\cG s rd cl (.graph true) 1 r3 P)->
   cG s rd cl (.node v true false false) 2 (σ2 j2) fun e l3 r2=>∃r3,behind l3 e r2= .ok r3/\j1<r3.i/\r3.i<=s.size/\cG s rd cl (.graph true) 1 r3 P:=by
  intro j2 w t _ lt2 hw a ht k
  have hlen:(mX d v).length=v:=by simp[mX]
  rcases ok.l with e0 | el
  ·have en:d.labels[v]? =none:=by rw[e0];rfl
   rw[en]at ht
   have e3:σ2 j2=σ3 j2:=by
    simp only[σ3,σ2,σ1,stN,mX,ig,e0]
    simp
   grind
  ·have es:d.labels[v]? =some d.labels[v]:=List.getElem?_eq_getElem (by omega)
   rw[es]at ht
   obtain⟨w3,t3,rfl,b3,s3,ht⟩:=Sp.inv ht
   obtain⟨p1,p2⟩:=ok.p d.labels[v] (List.getElem_mem _)
   refine zQ (x:=.label v) (l':=.node v true true false) (σ1:=fun j=>σ2 j) a hw DA p2 (fun t j e=>by simp[key,e,kId,dj,az];rfl) (fun j=>rfl) (.inr rfl) fun u j0 j3 u1 u2 lt3 a=>?_
   have lt3':j2<j3:=lt3
   refine⟨σ3 j3,?_,rfl,k j3 true (by omega) b3 a ht⟩
   have us:u.says=d.labels[v]:=by rw[u1];rfl
   have ul:u.l.all (fun c=>fN c.toNat)=true:=by
    unfold Tok.l;rw[us];exact List.all_eq_true.2 p2
   simp only[bW,us,ul,p1,decide_true,az]
   have e4:(mX d v++[noB]).set v d.labels[v]=mX d (v+1):=by
    conv=>lhs;arg 2;rw[<-hlen]
    rw[tA]
    simp only[mX,ig]
    congr 2
    simp[List.getD,es]
   have e5:decide (0<v+1/\d.labels≠[])=true:=by
    grind
   simp only[σ3,σ2,σ1,e4,e5]
   rfl
 let σ4:Nat->Rd:=fun j=>stN g d (v+1) j
 refine lab j2 (c:=true) lt2' b2 a ht fun j3 b w t lt3 hw a ht=>?_
 have fin:∀(j:Nat) (b c:Bool) {w t:List UInt8},j1<j->Bl w->At s j (w++t)->Sp ([cls 2]++ls) t->cG s rd cl (.node v true b c) 2 (σ4 j) fun e l3 r2=>∃r3,behind l3 e r2= .ok r3/\j1<r3.i/\r3.i<=s.size/\cG s rd cl (.graph true) 1 r3 P:=by
  intro j b c w t lt hw a ht
  obtain⟨w5,t5,rfl,b5,s5,ht⟩:=Sp.inv ht
  refine iy a hw rfl fun e j5 lt5 a=>?_
  have lt5':j<j5:=lt5
  exact⟨stN g d (v+1) j5,rfl,by show j1<j5;omega,a.1,hp j5 w5 t5 (by omega) a b5 ht⟩
 have hlen:(nG g d v).length=v:=by simp[nG]
 rcases ok.s with e0 | el
 ·have en:d.spots[v]? =none:=by rw[e0];rfl
  rw[en]at ht
  have e3:σ3 j3=σ4 j3:=by
   simp only[σ4,σ3,σ2,σ1,stN,nG,ig,e0]
   simp
  grind
 ·have es:d.spots[v]? =some d.spots[v]:=List.getElem?_eq_getElem (by omega)
  rw[es]at ht
  obtain⟨q1,q2⟩:=tok.1 d.spots[v] (List.getElem_mem _)
  refine yD (l':=.node v true b true) (σ:=σ3 j3) q1 q2 (sp:=nG g d v) rfl hlen (by decide) hw (fun t j e=>by simp[key,e,kId,dj,aZ,az]) ht a fun j w t lt a hw ht=>?_
  have lt':j3<j:=lt
  have e3:({σ3 j3 with i:=j,spots:=nG g d v++[(cl (f d.spots[v].1),cl (f d.spots[v].2))],h1:=true}:Rd)=σ4 j:=by
   have e5:decide (0<v+1/\d.spots≠[])=true:=by
    grind
   simp only[σ4,σ3,σ2,σ1,stN,e5]
   congr 1
   simp only[nG,ig]
   congr 2
   simp[es,g]
  grind
theorem nH {d:Dc} {f:Nat->Nat} (ok:Ok d) (hr:RdW rd) (tok:G6 rd tx f d) {P:Nat->Lv->Rd->Prop} {ls:List (List UInt8)}:∀(k:Nat) {v i:Nat} {w0 tt:List UInt8},v+k=d.n->Bl w0->
  Sp (fV tx d k v++ls) tt->At s i (w0++tt)->(∀j w t,i<=j->At s j (w++t)->Bl w->Sp ls t->cG s rd cl (.graph true) 1 (stN (fun x=>cl (f x)) d d.n j) P)->cG s rd cl (.graph true) 1 (stN (fun x=>cl (f x)) d v i) P
 | 0,v,i,w0,tt,hv,h0,ht,a,hp=>by
  obtain rfl:v=d.n:=by omega
  exact hp i w0 tt (Nat.le_refl _) a h0 ht
 | k+1,v,i,w0,tt,hv,h0,ht,a,hp=>by
  unfold fV at ht
  rw[List.append_assoc]at ht
  exact yE ok hr tok (by omega) h0 ht a fun j w t lt a hw ht=>nH ok hr tok k (by omega) hw ht a fun j' w t lt'=>hp j' w t (by omega)
def fX (ts:List Tok) (es:List (Nat × Nat)):Prop:=ts.map Tok.l=es.flatMap fun e=>[dec e.1,dec e.2]
theorem fX.len {ts:List Tok} {es:List (Nat × Nat)} (h:fX ts es):ts.length=2*es.length:=by
 have:=congrArg List.length h
 rw[List.length_map]at this
 rw[this]
 clear this h
 induction es<;>grind
def stE (f:Nat->Nat) (d:Dc) (ts:List Tok) (ws:List Nat) (h2:Bool) (i:Nat):Rd:={stN f d d.n i with weights:=ws,h2:=h2,ends:=ts}
def fk :Nat:=4607182418800017408
theorem zT {α:Type} (l:List α) (a b c:α):(l++[a,b]).set l.length c=l++[c,b]:=by
 grind
theorem zU {α:Type} (l:List α) (a b c:α):(l++[a,b]).set (l.length+1) c=l++[a,c]:=by
 simp_all
theorem yF {d:Dc} {f:Nat->Nat} (ok:Ok d) (hr:RdW rd) {e:Nat × Nat} (he:e.1<d.n/\e.2<d.n) {wt:Option Nat} (hwt:∀x,wt=some x->iT rd (tx x) (f x)) {ts:List Tok} {ws:List Nat} {h2:Bool} {es:List (Nat × Nat)} (hts:fX ts es) (hws:ws.length=es.length) (hes:es.length<3072)
  {w0 tt:List UInt8} {P:Nat->Lv->Rd->Prop} {ls:List (List UInt8)} {i:Nat} (h0:Bl w0) (ht:Sp (qo tx wt e++ls) tt) (a:At s i (w0++tt))
  (hp:∀ts' j w t,i<j->fX ts' (es++[e])->At s j (w++t)->Bl w->Sp ls t->cG s rd cl (.graph true) 1 (stE (fun x=>cl (f x)) d ts' (ws++[(wt.map fun x=>cl (f x)).getD fk]) (h2||wt.isSome) j) P):
  cG s rd cl (.graph true) 1 (stE (fun x=>cl (f x)) d ts ws h2 i) P:=by
 unfold qo at ht
 rw[List.cons_append,List.cons_append,List.cons_append,List.append_assoc]at ht
 obtain⟨w1,t1,rfl,b1,s1,ht⟩:=Sp.inv ht
 obtain⟨w2,t2,rfl,b2,s2,ht⟩:=Sp.inv ht
 obtain⟨w3,t3,rfl,b3,s3,ht⟩:=Sp.inv ht
 have hn:=ok.n
 have hl:=hts.len
 let g:Nat->Nat:=fun x=>cl (f x)
 let z:Tok:=⟨0,0,noB,0⟩
 refine jE (σ1:=fun j=>stE g d (ts++[z,z]) (ws++[fk]) h2 j) (l2:=.edge ts.length false false false) (l':=.graph true) a h0 zR (by decide) (fun t j e=>?_) (fun j=>rfl) fun j0 j1 lt1 a=>?_
 ·exact(tC e (by show ts.length/2<3072;omega)).trans rfl
 obtain⟨v1,hv1⟩:=hr e.1 (by omega)
 obtain⟨v2,hv2⟩:=hr e.2 (by omega)
 refine fW (x:=.fin ts.length) (l':=.edge ts.length true false false) (σ1:=fun j=>stE g d (ts++[z,z]) (ws++[fk]) h2 j) a b1 tw hv1 s2 (fun t j e=>by simp[key,e,az];rfl) (fun j=>rfl) (.inr rfl) fun u j0 j2 u1 u2 u3 lt2 a=>?_
 refine⟨stE g d (ts++[u,z]) (ws++[fk]) h2 j2,?_,rfl,?_⟩
 ·simp only[bW,u1,ii e.1 (by omega),stE,zT]
  rfl
 refine fW (x:=.fin (ts.length+1)) (l':=.edge ts.length true true false) (σ1:=fun j=>stE g d (ts++[u,z]) (ws++[fk]) h2 j) a b2 tz hv2 s3 (fun t j e=>by simp[key,e,bc,bi,az];rfl) (fun j=>rfl) (.inr rfl) fun u' j0 j3 u1' u2' u3' lt3 a=>?_
 refine⟨stE g d (ts++[u,u']) (ws++[fk]) h2 j3,?_,rfl,?_⟩
 ·simp only[bW,u1',ii e.2 (by omega),stE,zU]
  rfl
 have lt1':i<j1:=lt1
 have lt2':j1<j2:=lt2
 have lt3':j2<j3:=lt3
 have hts':fX (ts++[u,u']) (es++[e]):=by
  unfold fX at hts ⊢
  simp_all
 have fin:∀(j:Nat) (c:Bool) {w t:List UInt8},j1<j->Bl w->At s j (w++t)->Sp ([cls 2]++ls) t->cG s rd cl (.edge ts.length true true c) 2 (stE g d (ts++[u,u']) (ws++[(wt.map g).getD fk]) (h2||wt.isSome) j) fun e l3 r2=>∃r3,behind l3 e r2= .ok r3/\j1<r3.i/\r3.i<=s.size/\cG s rd cl (.graph true) 1 r3 P:=by
  intro j c w t lt hw a ht
  obtain⟨w5,t5,rfl,b5,s5,ht⟩:=Sp.inv ht
  refine iy a hw rfl fun e j5 lt5 a=>?_
  have lt5':j<j5:=lt5
  exact⟨stE g d (ts++[u,u']) (ws++[(wt.map g).getD fk]) (h2||wt.isSome) j5,rfl,by show j1<j5;omega,a.1,hp _ j5 w5 t5 (by omega) hts' a b5 ht⟩
 cases wt with
 | none=>
  have e1:(h2||(none:Option Nat).isSome)=h2:=by simp
  rw[e1]at fin
  exact fin j3 false (by omega) b3 a ht
 | some x=>
  obtain⟨w4,t4,rfl,b4,s4,ht⟩:=Sp.inv ht
  refine fW (x:=.weight ts.length) (l':=.edge ts.length true true true) (σ1:=fun j=>stE g d (ts++[u,u']) (ws++[fk]) h2 j) a b3 zS (hwt x rfl) s4 (fun t j e=>by simp[key,e,bc,bi,cb,az];rfl) (fun j=>rfl) (.inr rfl) fun u4 j0 j4 q1 q2 q3 lt4 a=>?_
  have lt4':j3<j4:=lt4
  refine⟨_,?_,?_,fin j4 true (by omega) b4 a ht⟩
  ·simp only[bW,q2,stE]
   have e2:ts.length/2=ws.length:=by omega
   rw[e2,tA,show(h2||(some x).isSome)=true by simp]
   rfl
  ·rfl
def ja (g:Nat->Nat):List (Nat × Nat)->List Nat->List Nat
 | [],_=>[]
 | _::es,ws=>(ws.head?.map g).getD fk::ja g es ws.tail
def iz :List (Nat × Nat)->List Nat->Bool
 | [],_=>false
 | _::es,ws=>ws.head?.isSome||iz es ws.tail
theorem xg (g:Nat->Nat):∀(es:List (Nat × Nat)) (ws:List Nat),ws.length=es.length->ja g es ws=ws.map g
 | [],[],_=>rfl
 | _::es,x::ws,h=>by
  rw[ja,List.tail_cons,xg g es ws (by simpa using h)];rfl
 | [],_::_,h=>by simp at h
 | _::_,[],h=>by simp at h
theorem tB :∀es:List (Nat × Nat),iz es []=false
 | []=>rfl
 | _::es=>by rw[iz,List.tail_nil,tB es];rfl
theorem DC :∀(es:List (Nat × Nat)) (ws:List Nat),ws.length=es.length->iz es ws=decide (ws≠[])
 | [],[],_=>rfl
 | _::es,x::ws,h=>by simp[iz]
 | [],_::_,h=>by simp at h
 | _::_,[],h=>by simp at h
theorem nI {d:Dc} {f:Nat->Nat} (ok:Ok d) (hr:RdW rd) {P:Nat->Lv->Rd->Prop} {ls:List (List UInt8)}:∀(es2:List (Nat × Nat)) (wts:List Nat) {es:List (Nat × Nat)} {ts:List Tok} {ws:List Nat} {h2:Bool} {i:Nat} {w0 tt:List UInt8},(∀e∈es2,e.1<d.n/\e.2<d.n)->(∀x∈wts,iT rd (tx x) (f x))->
  fX ts es->ws.length=es.length->es.length+es2.length<=3072->Bl w0->Sp (eM tx es2 wts++ls) tt->At s i (w0++tt)->
  (∀ts' j w t,i<=j->fX ts' (es++es2)->At s j (w++t)->Bl w->Sp ls t->cG s rd cl (.graph true) 1 (stE (fun x=>cl (f x)) d ts' (ws++ja (fun x=>cl (f x)) es2 wts) (h2||iz es2 wts) j) P)->
  cG s rd cl (.graph true) 1 (stE (fun x=>cl (f x)) d ts ws h2 i) P
 | [],wts,es,ts,ws,h2,i,w0,tt,he,hx,hts,hws,hm,h0,ht,a,hp=>by
  have:=hp ts i w0 tt (Nat.le_refl _) (by grind) a h0 ht
  simpa[ja,iz]using this
 | e::es2,wts,es,ts,ws,h2,i,w0,tt,he,hx,hts,hws,hm,h0,ht,a,hp=>by
  unfold eM at ht
  rw[List.append_assoc]at ht
  rw[List.length_cons]at hm
  refine yF ok hr (he e (by simp)) (fun x q=>hx x (List.mem_of_mem_head? (by rw[q];rfl))) hts hws (by omega) h0 ht a fun ts' j w t lt hts' a hw ht=>?_
  refine nI ok hr es2 wts.tail (fun e q=>he e (by simp[q])) (fun x q=>hx x (List.mem_of_mem_tail q)) hts' (by simp[hws]) (by grind) hw ht a fun ts2 j2 w2 t2 lt2 k1 k4 k5 k6=>?_
  grind [ja,iz]
theorem zV (n v:Nat) (h:v<n):find ((List.range n).map fun k:Nat=>((k:Int),k)) (v:Int)=some v:=by
 unfold find
 have:((List.range n).map fun k:Nat=>((k:Int),k)).find? (fun p=>p.1==(v:Int))=some ((v:Int),v):=by
  rw[List.find?_eq_some_iff_append]
  refine⟨by simp,(List.range v).map fun k:Nat=>((k:Int),k),(List.range' (v+1) (n-v-1)).map fun k:Nat=>((k:Int),k),?_,fun p hp=>?_⟩
  ·rw[<-List.map_cons (f:=fun k:Nat=>((k:Int),k)),<-List.map_append]
   congr 1
   rw[List.range_eq_range',List.range_eq_range',show n=v+((n-v-1)+1) by omega,<-List.range'_append_1,List.range'_succ]
   simp
  grind
 rw[this];rfl
theorem qp {n v:Nat} {t:Tok} (h:v<n) (h2:n<=1024) (ht:t.l=dec v):ik ((List.range n).map fun k:Nat=>((k:Int),k)) t= .ok v:=by
 grind [ik,ii,zV]
theorem qq {n:Nat} (h2:n<=1024):∀{es:List (Nat × Nat)} {ts:List Tok},(∀e∈es,e.1<n/\e.2<n)->fX ts es->edges ((List.range n).map fun k:Nat=>((k:Int),k)) ts= .ok es
 | [],ts,_,h=>by
  have:=h.len
  have:ts=[]:=List.eq_nil_of_length_eq_zero (by omega)
  rw[this];rfl
 | e::es,ts,he,h=>by
  have hl:=h.len
  match ts,h,hl with
  | a::b::ts,h,hl=>
   have h':a.l=dec e.1/\b.l=dec e.2/\ts.map Tok.l=es.flatMap fun e=>[dec e.1,dec e.2]:=by
    unfold fX at h;simpa using h
   obtain⟨q1,q2⟩:=he e (by simp)
   rw[edges,qp q1 h2 h'.1]
   simp only[Er.bind]
   rw[qp q2 h2 h'.2.1]
   simp only[Er.bind]
   rw[qq h2 (fun e q=>he e (by simp[q])) h'.2.2]
  | [a],h,hl=>simp at hl;omega
  | [],h,hl=>simp at hl
def zW (g:Nat->Nat) (d:Dc):Dc:={d with spots:=d.spots.map fun p=>(g p.1,g p.2),weights:=d.weights.map g}
theorem yG {d:Dc} {f:Nat->Nat} (ok:Ok d) (hr:RdW rd) (tok:G6 rd tx f d) (ht:Sp (pY tx d) s.data.toList) (hs:s.size<=262144):read rd cl s= .ok (zW (fun x=>cl (f x)) d):=by
 let g:Nat->Nat:=fun x=>cl (f x)
 have a0:At s 0 ([]++s.data.toList):=At.start s
 have key0:cG s rd cl .top 0 start fun e l r=>∃ts i,fX ts d.edges/\r=stE g d ts (ja g d.edges d.weights) (iz d.edges d.weights) i:=by
  unfold pY at ht
  obtain⟨w1,t1,et,b1,s1,ht⟩:=Sp.inv ht
  obtain⟨w2,t2,rfl,b2,s2,ht⟩:=Sp.inv ht
  rw[et]at a0
  refine jE (σ1:=fun j=>{start with i:=j,graph:=true}) (l2:=.graph false) (l':=.top) (σ:=start) a0 .nil ry (by decide) (fun t j e=>by simp[key,e,start,az]) (fun j=>rfl) fun j0 j1 lt1 a=>?_
  obtain⟨vd,hvd⟩:∃v,iT rd (if d.dir=true then [49]else [48]) v:=by
   have e0:dec 0=[48]:=by rw[dec];rfl
   have e1:dec 1=[49]:=by rw[dec];rfl
   cases d.dir
   ·have:=hr 0 (by decide);grind
   ·have:=hr 1 (by decide);grind
  refine fW (x:=.dir) (l':=.graph true) (σ1:=fun j=>{start with i:=j,graph:=true}) a b1 vB hvd s2 (fun t j e=>by simp[key,e,az]) (fun j=>rfl) (.inr rfl) fun u j0 j2 u1 u2 u3 lt2 a=>?_
  refine⟨stN g d 0 j2,?_,rfl,?_⟩
  ·simp only[bW,u1]
   cases q:d.dir<;>simp[az,stN,start,mX,nG,q]
  refine nH ok hr tok d.n (by omega) b2 ht a fun j3 w t lt3 a hw ht=>?_
  have e0:stN g d d.n j3=stE g d [] [] false j3:=rfl
  show cG s rd cl (.graph true) 1 (stN g d d.n j3) _
  rw[e0]
  refine nI ok hr d.edges d.weights ok.e tok.2 (es:=[]) (ts:=[]) rfl rfl (by simpa using ok.m) hw ht a fun ts j4 w4 t4 lt4 k1 a hw ht=>?_
  obtain⟨w5,t5,rfl,b5,s5,ht⟩:=Sp.inv ht
  cases ht
  refine iy a hw rfl fun e j5 lt5 a=>⟨_,rfl,?_,a.1,?_⟩
  ·have h2:j1<j2:=lt2
   have h5:j4<j5:=lt5
   grind
  ·rw[List.append_nil]at a
   exact⟨_,_,_,xn b5 a,ts,s.size,by simpa using k1,rfl⟩
 obtain⟨e,l,r,hb,ts,i,k1,rfl⟩:=key0
 unfold read
 rw[fY (decide_eq_true hs),hb (s.size+1) (by simp[start])]
 simp only[az,Er.bind]
 have eg:(stE g d ts (ja g d.edges d.weights) (iz d.edges d.weights) i).graph=true:=rfl
 have ei:(stE g d ts (ja g d.edges d.weights) (iz d.edges d.weights) i).ids=(List.range d.n).map fun k:Nat=>((k:Int),k):=rfl
 have ee:(stE g d ts (ja g d.edges d.weights) (iz d.edges d.weights) i).ends=ts:=rfl
 rw[eg,ei,ee,qq ok.n ok.e k1]
 simp only[]
 congr 1
 have nz:d.n=0->d.labels=[]/\d.spots=[]:=fun h0=>⟨ok.l.elim id fun q=>List.eq_nil_of_length_eq_zero (by omega),ok.s.elim id fun q=>List.eq_nil_of_length_eq_zero (by omega)⟩
 have eL:(if(stE g d ts (ja g d.edges d.weights) (iz d.edges d.weights) i).h0=true then(stE g d ts (ja g d.edges d.weights) (iz d.edges d.weights) i).labels else [])=d.labels:=by
  show(if decide (0<d.n/\d.labels≠[])=true then mX d d.n else [])=d.labels
  rcases ok.l with q | q
  ·grind
  ·by_cases h0:d.n=0
   ·grind
   ·rw[if_pos (by grind)]
    unfold mX
    apply List.ext_getElem?
    grind
 have eS:(if(stE g d ts (ja g d.edges d.weights) (iz d.edges d.weights) i).h1=true then(stE g d ts (ja g d.edges d.weights) (iz d.edges d.weights) i).spots else [])=d.spots.map fun p=>(g p.1,g p.2):=by
  show(if decide (0<d.n/\d.spots≠[])=true then nG g d d.n else [])=_
  rcases ok.s with q | q
  ·grind
  ·by_cases h0:d.n=0
   ·grind
   ·rw[if_pos (by grind)]
    unfold nG
    apply List.ext_getElem?
    grind
 have eW:(if(stE g d ts (ja g d.edges d.weights) (iz d.edges d.weights) i).h2=true then(stE g d ts (ja g d.edges d.weights) (iz d.edges d.weights) i).weights else [])=d.weights.map g:=by
  show(if iz d.edges d.weights=true then ja g d.edges d.weights else [])=_
  rcases ok.w with q | q
  ·rw[q,tB,if_neg (by simp)];rfl
  ·rw[DC _ _ q,xg g _ _ q]
   grind
 rw[eL,eS,eW]
 rfl
end
theorem rG (p:Nat->Bool) (s:ByteArray):∀n i,s.size-i=n->i<=s.size->run p s i<=s.size:=by
 intro n
 induction n with
 | zero=>intro i h1 h2;rw[run,if_neg (by omega)];exact h2
 | succ n ih=>
  intro i h1 h2
  rw[run]
  grind
theorem vF {p:Nat->Bool} {s:ByteArray} {i:Nat} (h:i<s.size) (hp:p (bt s i)=true):i<run p s i:=by
 rw[run,if_pos ⟨h,hp⟩]
 exact rQ p s (i+1)
theorem zX (s:ByteArray):∀n i,s.size-i<=n->i<=s.size->i<=skp s i/\skp s i<=s.size:=by
 intro n
 induction n with
 | zero=>intro i h1 h2;rw[skp,if_neg (by omega)];omega
 | succ n ih=>
  intro i h1 h2
  rw[skp]
  split
  ·rename_i hlt
   split
   ·grind
   ·split
    ·have h3:=rQ (fun c=>decide (c≠10)) s (i+1)
     have h4:=rG (fun c=>decide (c≠10)) s _ (i+1) rfl (by omega)
     grind
    ·omega
  ·omega
theorem rH (s:ByteArray):∀k n i,i<=(ij s k n i).2
 | 0,n,i=>Nat.le_refl _
 | k+1,n,i=>by
  rw[ij]
  split
  ·have:=rH s k (10*n+(bt s i-48)) (i+1);omega
  omega
theorem Gx {s:ByteArray} {i:Nat} (h:bt s i≠256):i<s.size:=by
 grind [bt]
theorem xi {s:ByteArray} {i:Nat} {l:List UInt8} (h:preB s i l=true):l.length<=s.size-i\/l=[]:=by
 unfold preB at h
 have h:=of_decide_eq_true h
 have h2:=congrArg List.length h
 grind [ByteArray.data_extract,jb]
theorem xj {s:ByteArray} {i c n:Nat} (hi:i<s.size) (h:part s i=some (c,n)):0<n/\i+n<=s.size:=by
 unfold part at h
 have pre:∀{l:List UInt8} {m:Nat},preB s i l=true->l.length=m->0<m->i+m<=s.size:=by
  intro l m q e hm
  rcases xi q with q | q
  ·omega
  grind
 split at h
 ·rename_i q;cases h;exact⟨by decide,pre q rfl (by decide)⟩
 split at h
 ·rename_i q;cases h;exact⟨by decide,pre q rfl (by decide)⟩
 split at h
 ·rename_i q;cases h;exact⟨by decide,pre q rfl (by decide)⟩
 split at h
 ·rename_i q;cases h;exact⟨by decide,pre q rfl (by decide)⟩
 split at h
 ·rename_i q;cases h;exact⟨by decide,pre q rfl (by decide)⟩
 split at h
 ·cases h
 ·have hg:=rH s 3 0 (i+2)
  generalize ij s 3 0 (i+2)=y at h hg
  obtain⟨m,k⟩:=y
  simp only at h hg
  split at h
  ·cases h
  ·rename_i q
   simp only[not_or]at q
   simp only[Option.some.injEq,Prod.mk.injEq]at h
   have:=Gx (s:=s) (i:=k) (by omega)
   omega
theorem G7 {s:ByteArray} {fr:Nat} (hfr:fr<=s.size):∀n i out,s.size-i<=n->i<=s.size->
  (∀l j,str s fr i out= .ok (l,j)->i<j/\j<=s.size)/\(∀f,str s fr i out= .no f->f.1<=s.size)/\str s fr i out≠ .un:=by
 intro n
 induction n with
 | zero=>
  intro i out h1 h2
  rw[str,if_neg (by omega)]
  grind
 | succ n ih=>
  intro i out h1 h2
  rw[str]
  split
  ·rename_i hlt
   split
   ·grind
   ·split
    ·split
     ·rename_i c m hp
      obtain⟨p1,p2⟩:=xj hlt hp
      grind
     grind
    grind
  grind
theorem kC {s:ByteArray} {i:Nat} (hi:i<=s.size):
  (∀t j,next s i= .ok (t,j)->i<=j/\j<=s.size/\t.at_<=s.size/\(t.kind≠0->i<j))/\(∀f,next s i= .no f->f.1<=s.size)/\next s i≠ .un:=by
 obtain⟨h1,h2⟩:=zX s _ i (Nat.le_refl _) hi
 unfold next
 generalize skp s i=p at h1 h2
 simp only[]
 split
 ·grind
 ·rename_i hp
  split
  ·grind
  split
  ·grind
  split
  ·obtain⟨q1,q2,q3⟩:=G7 h2 _ (p+1) [] (Nat.le_refl _) (by omega)
   generalize str s p (p+1) []=y at q1 q2 q3
   cases y<;>grind [Er.bind]
  split
  ·rename_i hc
   have r1:=vF (p:=cM) (s:=s) (i:=p) (by omega) (by simp[cM,hc])
   have r2:=rG cM s _ p rfl h2
   grind
  split
  ·rename_i hc
   have r1:=vF (p:=bx) (s:=s) (i:=p) (by omega) (by grind [bx])
   have r2:=rG bx s _ p rfl h2
   grind
  grind
def Er.all {α:Type} (x:Er α) (P:α->Prop) (m:Nat):Prop:=(∀a,x= .ok a->P a)/\∀f,x= .no f->f.1<=m
theorem Er.all_ok {α:Type} {a:α} {P:α->Prop} {m:Nat} (h:P a):(Er.ok a).all P m:=⟨fun _ q=>(by grind),fun _ q=>(by cases q)⟩
theorem Er.all_no {α:Type} {f:F} {P:α->Prop} {m:Nat} (h:f.1<=m):(Er.no f:Er α).all P m:=⟨fun _ q=>(by cases q),fun _ q=>(by grind)⟩
theorem Er.all_un {α:Type} {P:α->Prop} {m:Nat}:(Er.un:Er α).all P m:=⟨fun _ q=>(by cases q),fun _ q=>(by cases q)⟩
theorem Er.all_bind {α β:Type} {x:Er α} {k:α->Er β} {P:α->Prop} {Q:β->Prop} {m:Nat} (h:x.all P m) (hk:∀a,P a->(k a).all Q m):(x.bind k).all Q m:=by
 cases x with
 | ok a=>exact hk a (h.1 a rfl)
 | no f=>exact Er.all_no (h.2 f rfl)
 | un=>exact Er.all_un
theorem Er.all_must {α:Type} {b:Bool} {f:F} {k:Er α} {P:α->Prop} {m:Nat} (hf:f.1<=m) (hk:b=true->k.all P m):(az b f k).all P m:=by
 cases b with
 | true=>exact hk rfl
 | false=>exact Er.all_no hf
structure RI (cl:Nat->Nat) (s:ByteArray) (σ:Rd):Prop where
 i:σ.i<=s.size
 n:σ.n<=1024
 ll:σ.labels.length=σ.n
 sl:σ.spots.length=σ.n
 el:σ.ends.length=2*σ.weights.length
 wl:σ.weights.length<=3072
 lp:∀l∈σ.labels,l.size<=256/\∀c∈l.data.toList,fN c.toNat=true
 sc:∀p∈σ.spots,cl p.1=p.1/\cl p.2=p.2
 wc:∀x∈σ.weights,cl x=x
 ids:∀p∈σ.ids,p.2<σ.n
 ea:∀t∈σ.ends,t.at_<=s.size
def LvI (σ:Rd):Lv->Prop
 | .node v _ _ _=>v<σ.n
 | _=>True
def TkI (σ:Rd):Tk->Prop
 | .id v=>v<σ.n
 | .list l=>LvI σ l
 | _=>True
theorem RI.at {cl:Nat->Nat} {s:ByteArray} {σ:Rd} (h:RI cl s σ) {i:Nat} (hi:i<=s.size):RI cl s {σ with i:=i}:=⟨hi,h.n,h.ll,h.sl,h.el,h.wl,h.lp,h.sc,h.wc,h.ids,h.ea⟩
theorem TkI.at {σ:Rd} {x:Tk} (h:TkI σ x) (i:Nat):TkI {σ with i:=i} x:=by
 cases x with
 | list l=>cases l<;>exact h
 | _=>exact h
structure ClOK (cl:Nat->Nat):Prop where
 c:∀x,cl (cl x)=cl x
 z:cl 0=0
 o:cl fk=fk
section
variable {cl:Nat->Nat} {s:ByteArray} {rd:ByteArray->Option (Nat × Nat)}
theorem rI (hc:ClOK cl) {l:Lv} {t:Tok} {σ:Rd} (h:RI cl s σ) (hl:LvI σ l) (ht:t.at_<=s.size):
  (key l t σ).all (fun x=>TkI x.2.2 x.1/\LvI x.2.2 x.2.1/\RI cl s x.2.2/\σ.n<=x.2.2.n/\x.2.2.i=σ.i) s.size:=by
 have ok0:∀{x:Tk} {l:Lv},TkI σ x->LvI σ l->(Er.ok (x,l,σ)).all (fun x=>TkI x.2.2 x.1/\LvI x.2.2 x.2.1/\RI cl s x.2.2/\σ.n<=x.2.2.n/\x.2.2.i=σ.i) s.size:=fun a b=>Er.all_ok ⟨a,b,h,Nat.le_refl _,rfl⟩
 cases l with
 | over=>exact ok0 trivial trivial
 | top=>
  simp only[key]
  split
  ·exact Er.all_must ht fun _=>Er.all_ok ⟨trivial,trivial,⟨h.i,h.n,h.ll,h.sl,h.el,h.wl,h.lp,h.sc,h.wc,h.ids,h.ea⟩,Nat.le_refl _,rfl⟩
  ·exact ok0 trivial trivial
 | graph d=>
  simp only[key]
  split
  ·exact Er.all_must ht fun _=>ok0 trivial trivial
  split
  ·refine Er.all_must ht fun hn=>Er.all_ok ⟨?_,trivial,?_,?_,rfl⟩
   ·show σ.n<σ.n+1
    omega
   ·have hn:=of_decide_eq_true hn
    refine⟨h.i,?_,?_,?_,h.el,h.wl,?_,?_,h.wc,?_,h.ea⟩
    ·grind
    ·show(σ.labels++[noB]).length=σ.n+1;simp[h.ll]
    ·show(σ.spots++[(0,0)]).length=σ.n+1;simp[h.sl]
    ·intro l hl
     have hl:l∈σ.labels++[noB]:=hl
     rw[List.mem_append]at hl
     rcases hl with hl | hl
     ·exact h.lp l hl
     ·simp at hl;subst hl;exact⟨by decide,fun c hc=>absurd hc (by decide+revert)⟩
    ·intro p hp
     have hp:p∈σ.spots++[(0,0)]:=hp
     rw[List.mem_append]at hp
     rcases hp with hp | hp
     ·exact h.sc p hp
     ·simp at hp;subst hp;exact⟨hc.z,hc.z⟩
    ·intro p hp
     have:=h.ids p hp
     grind
   grind
  split
  ·refine Er.all_must ht fun hn=>Er.all_ok ⟨trivial,trivial,?_,Nat.le_refl _,rfl⟩
   have hn:=of_decide_eq_true hn
   have he:=h.el
   refine⟨h.i,h.n,h.ll,h.sl,?_,?_,h.lp,h.sc,?_,h.ids,?_⟩
   ·grind
   ·grind
   ·intro x hx
    have hx:x∈σ.weights++[fk]:=hx
    rw[List.mem_append]at hx
    rcases hx with hx | hx
    ·exact h.wc x hx
    ·simp at hx;subst hx;exact hc.o
   ·intro t ht
    have ht:t∈σ.ends++[⟨0,0,noB,0⟩,⟨0,0,noB,0⟩]:=ht
    rw[List.mem_append]at ht
    rcases ht with ht | ht
    ·exact h.ea t ht
    grind
  ·exact ok0 trivial trivial
 | node v a b c=>
  simp only[key]
  split
  ·exact Er.all_must ht fun _=>ok0 hl hl
  split
  ·exact Er.all_must ht fun _=>ok0 trivial hl
  split
  ·exact Er.all_must ht fun _=>ok0 trivial hl
  ·exact ok0 trivial hl
 | spot v a b=>
  simp only[key]
  split
  ·exact Er.all_must ht fun _=>ok0 trivial trivial
  split
  ·exact Er.all_must ht fun _=>ok0 trivial trivial
  ·exact ok0 trivial trivial
 | edge k a b c=>
  simp only[key]
  split
  ·exact Er.all_must ht fun _=>ok0 trivial trivial
  split
  ·exact Er.all_must ht fun _=>ok0 trivial trivial
  split
  ·exact Er.all_must ht fun _=>ok0 trivial trivial
  ·exact ok0 trivial trivial
theorem vG {t:Tok} (h:t.at_<=s.size):(bw rd t).all (fun v=>v.at_<=s.size) s.size:=by
 grind [bw,Er.all_no,Er.all_ok,Er.all_un]
theorem zY (hc:ClOK cl) {x:Tk} {v:Tok} {σ:Rd} (h:RI cl s σ) (hx:TkI σ x) (ht:v.at_<=s.size):(bW cl x v σ).all (fun r=>RI cl s r/\σ.n<=r.n/\r.i=σ.i) s.size:=by
 cases x with
 | none=>exact Er.all_ok ⟨h,Nat.le_refl _,rfl⟩
 | list l=>exact Er.all_ok ⟨h,Nat.le_refl _,rfl⟩
 | dir=>exact Er.all_must ht fun _=>Er.all_ok ⟨⟨h.i,h.n,h.ll,h.sl,h.el,h.wl,h.lp,h.sc,h.wc,h.ids,h.ea⟩,Nat.le_refl _,rfl⟩
 | id k=>
  simp only[bW]
  split
  ·refine Er.all_must ht fun _=>Er.all_ok ⟨⟨h.i,h.n,h.ll,h.sl,h.el,h.wl,h.lp,h.sc,h.wc,?_,h.ea⟩,Nat.le_refl _,rfl⟩
   intro p hp
   have hp:p∈σ.ids++[_]:=hp
   rw[List.mem_append]at hp
   rcases hp with hp | hp
   ·exact h.ids p hp
   ·simp at hp;subst hp;exact hx
  ·exact Er.all_no ht
 | label k=>
  simp only[bW]
  refine Er.all_must ht fun h1=>Er.all_must ht fun h2=>Er.all_ok ⟨⟨h.i,h.n,?_,h.sl,h.el,h.wl,?_,h.sc,h.wc,h.ids,h.ea⟩,Nat.le_refl _,rfl⟩
  ·show(σ.labels.set k v.says).length=σ.n
   rw[List.length_set];exact h.ll
  ·intro l hl
   rcases List.mem_or_eq_of_mem_set hl with hl | rfl
   ·exact h.lp l hl
   ·exact⟨of_decide_eq_true h1,List.all_eq_true.1 h2⟩
 | spot k y=>
  refine Er.all_ok ⟨⟨h.i,h.n,h.ll,?_,h.el,h.wl,h.lp,?_,h.wc,h.ids,h.ea⟩,Nat.le_refl _,rfl⟩
  ·show(σ.spots.modify k _).length=σ.n
   rw[List.length_modify];exact h.sl
  ·intro p hp
   obtain⟨j,hj,hp⟩:=List.getElem_of_mem hp
   have hp:(σ.spots.modify k fun p=>if y=true then(p.1,cl v.num)else(cl v.num,p.2))[j]? =some p:=by grind
   rw[List.getElem?_modify]at hp
   cases q:σ.spots[j]? with
   | none=>grind
   | some p0=>
    have h0:=h.sc p0 (List.mem_of_getElem? q)
    rw[q]at hp
    obtain rfl:=Option.some.inj hp
    split
    ·split
     ·exact⟨h0.1,hc.c _⟩
     ·exact⟨hc.c _,h0.2⟩
    ·exact h0
 | fin k=>
  simp only[bW]
  split
  ·refine Er.all_ok ⟨⟨h.i,h.n,h.ll,h.sl,?_,h.wl,h.lp,h.sc,h.wc,h.ids,?_⟩,Nat.le_refl _,rfl⟩
   ·show(σ.ends.set k v).length=_
    rw[List.length_set];exact h.el
   ·intro t ht2
    rcases List.mem_or_eq_of_mem_set ht2 with q | rfl
    ·exact h.ea t q
    ·exact ht
  ·exact Er.all_no ht
 | weight k=>
  refine Er.all_ok ⟨⟨h.i,h.n,h.ll,h.sl,?_,?_,h.lp,h.sc,?_,h.ids,h.ea⟩,Nat.le_refl _,rfl⟩
  ·show σ.ends.length=2*(σ.weights.set _ _).length
   rw[List.length_set];exact h.el
  ·show(σ.weights.set _ _).length<=3072
   rw[List.length_set];exact h.wl
  ·intro x hx
   rcases List.mem_or_eq_of_mem_set hx with hx | rfl
   ·exact h.wc x hx
   ·exact hc.c _
theorem nM {l:Lv} {e:Nat} {σ:Rd} (h:RI cl s σ) (he:e<=s.size):(behind l e σ).all (fun r=>r=σ) s.size:=by
 cases l<;>simp only[behind]<;>first | exact Er.all_ok rfl | exact Er.all_must he fun _=>Er.all_ok rfl
theorem LvI.mono {l:Lv} {σ σ':Rd} (h:LvI σ l) (hn:σ.n<=σ'.n):LvI σ' l:=by
 cases l<;>simp only[LvI]at h ⊢
 omega
theorem lT (hc:ClOK cl) {L:Lv->Nat->Rd->Er (Nat × Lv × Rd)} (hL:∀l d σ,RI cl s σ->LvI σ l->(L l d σ).all (fun x=>x.1<=s.size/\LvI x.2.2 x.2.1/\RI cl s x.2.2/\σ.n<=x.2.2.n/\σ.i<=x.2.2.i) s.size)
  {x:Tk} {d:Nat} {σ:Rd} (h:RI cl s σ) (hx:TkI σ x):(value s rd cl L x d σ).all (fun r=>RI cl s r/\σ.n<=r.n/\σ.i<=r.i) s.size:=by
 unfold value
 obtain⟨n1,n2,n3⟩:=kC h.i
 refine Er.all_bind (P:=fun y=>σ.i<=y.2/\y.2<=s.size/\y.1.at_<=s.size) ⟨fun a q=>?_,n2⟩ ?_
 ·grind
 rintro⟨v0,i⟩ ⟨q1,q2,q3⟩
 simp only at q1 q2 q3
 refine Er.all_bind (vG q3) fun v q4=>?_
 refine Er.all_must q4 fun _=>Er.all_must q4 fun _=>?_
 have h':=h.at q2
 split
 ·split
  ·rename_i l _
   refine Er.all_bind (hL l (d+1) {σ with i:=i} h' hx) ?_
   rintro⟨e,l',r2⟩ ⟨p1,p2,p3,p4,p5⟩
   refine⟨fun a q=>?_,(nM p3 p1).2⟩
   have:=(nM p3 p1).1 a q
   grind
  ·refine Er.all_bind (hL .over (d+1) {σ with i:=i} h' trivial) ?_
   grind [Er.all_ok]
 ·have hx':=hx.at i
  obtain⟨a1,a2⟩:=zY (v:=v) hc h' hx' q4
  exact⟨fun a q=>let ⟨b1,b2,b3⟩:=a1 a q;⟨b1,b2,by grind⟩,a2⟩
theorem nN (hc:ClOK cl):∀(n:Nat) (l:Lv) (d:Nat) (σ:Rd),RI cl s σ->LvI σ l->(list s rd cl n l d σ).all (fun x=>x.1<=s.size/\LvI x.2.2 x.2.1/\RI cl s x.2.2/\σ.n<=x.2.2.n/\σ.i<=x.2.2.i) s.size:=by
 intro n
 induction n with
 | zero=>intro l d σ h hl;exact Er.all_un
 | succ n ih=>
  intro l d σ h hl
  rw[list]
  obtain⟨n1,n2,n3⟩:=kC h.i
  refine Er.all_bind (P:=fun y=>σ.i<=y.2/\y.2<=s.size/\y.1.at_<=s.size) ⟨fun a q=>?_,n2⟩ ?_
  ·grind
  rintro⟨t,i⟩ ⟨q1,q2,q3⟩
  simp only at q1 q2 q3 ⊢
  have h':=h.at q2
  have hl':LvI {σ with i:=i} l:=by cases l<;>exact hl
  split
  ·exact Er.all_ok ⟨q3,hl',h',Nat.le_refl _,q1⟩
  ·refine Er.all_must q3 fun _=>Er.all_bind (rI hc h' hl' q3) ?_
   rintro⟨x,l',r1⟩ ⟨p1,p2,p3,p4,p5⟩
   simp only at p1 p2 p3 p4 p5 ⊢
   refine Er.all_bind (lT hc (fun l d σ=>ih l d σ) p3 p1) ?_
   rintro r2 ⟨b1,b2,b3⟩
   obtain⟨a1,a2⟩:=ih l' d r2 b1 (p2.mono b2)
   refine⟨fun a q=>?_,a2⟩
   grind
theorem zZ :RI cl s start:=⟨Nat.zero_le _,by decide,rfl,rfl,rfl,by decide,by simp[start],by simp[start],by simp[start],by simp[start],by simp[start]⟩
end
section
variable {cl:Nat->Nat} {s:ByteArray} {rd:ByteArray->Option (Nat × Nat)}
end
end Go.Proofs.YtemclecmafjjfaaGreatDoor.G
