/- A symbolic heap: chunks that lie apart; what operations and calls make of them. Conditions: none. -/
import Derived.Test.YtmmmmjcfojhiaaaGreatDoorXU
import GoSem.PinnedTables
set_option linter.unusedVariables false
set_option linter.unusedSimpArgs false
set_option maxRecDepth 100000
set_option maxHeartbeats 2000000
open Go.IntKind (i64 u64 u8 i32)
namespace Go.X
structure En (α:Type) where
 sz:Nat
 enc:α->List Value
 pos:0<sz
 len:∀x,(enc x).length=sz
 one:∀x,∀v∈enc x,v.oneCell'=true
def En.l {α:Type} (E:En α):List α->List Value
 | []=>[]
 | x::r=>E.enc x++E.l r
section
variable {α:Type} {E:En α}
theorem En.l_append :∀(xs ys:List α),E.l (xs++ys)=E.l xs++E.l ys
 | [],ys=>rfl
 | x::xs,ys=>by simp[En.l,En.l_append xs ys]
theorem En.l_len :∀(xs:List α),(E.l xs).length=xs.length*E.sz
 | []=>by simp[En.l]
 | x::xs=>by simp[En.l,En.l_len xs,E.len,Qn];omega
theorem En.l_one :∀(xs:List α),∀v∈E.l xs,v.oneCell'=true
 | [],v,h=>by simp[En.l]at h
 | x::xs,v,h=>by
  simp only[En.l,Qe]at h
  rcases h with h | h
  ·exact E.one x v h
  ·exact En.l_one xs v h
theorem En.l_get :∀{xs:List α} {i t:Nat} {x:α} {v:Value},xs[i]? =some x->(E.enc x)[t]? =some v->(E.l xs)[i*E.sz+t]? =some v
 | [],i,t,x,v,h,_=>by simp at h
 | y::xs,0,t,x,v,h,hv=>by
  simp at h;subst h
  have ht:t<(E.enc y).length:=(List.getElem?_eq_some_iff.1 hv).1
  simp only[En.l,RL,Qu]
  grind
 | y::xs,i+1,t,x,v,h,hv=>by
  simp only[En.l]
  rw[List.getElem?_append_right (by rw[E.len,Qn];omega),E.len]
  have:=En.l_get (xs:=xs) (i:=i) (by simpa using h) hv
  rw[show(i+1)*E.sz+t-E.sz=i*E.sz+t by rw[Qn];omega]
  exact this
theorem En.l_set :∀{xs:List α} {i t:Nat} {x x':α} {v:Value},xs[i]? =some x->t<E.sz->E.enc x'=(E.enc x).set t v->(E.l xs).set (i*E.sz+t) v=E.l (xs.set i x')
 | [],i,t,x,x',v,h,_,_=>by simp at h
 | y::xs,0,t,x,x',v,h,ht,hv=>by
  simp at h;subst h
  simp only[En.l,RL,Qu,List.set_cons_zero]
  rw[List.set_append_left _ _ (by rw[E.len];exact ht),hv]
 | y::xs,i+1,t,x,x',v,h,ht,hv=>by
  simp only[En.l,List.set_cons_succ]
  rw[List.set_append_right _ _ (by rw[E.len,Qn];omega),E.len]
  have:=En.l_set (xs:=xs) (i:=i) (by simpa using h) ht hv
  rw[show(i+1)*E.sz+t-E.sz=i*E.sz+t by rw[Qn];omega,this]
theorem En.l_take :∀(xs:List α) (k:Nat),(E.l xs).take (k*E.sz)=E.l (xs.take k)
 | [],k=>by simp[En.l]
 | x::xs,0=>by simp[En.l]
 | x::xs,k+1=>by
  simp only[En.l,List.take_succ_cons]
  rw[List.take_append,E.len,show(k+1)*E.sz-E.sz=k*E.sz by rw[Qn];omega,En.l_take xs k,QF (by rw[E.len,Qn];omega)]
theorem En.l_drop :∀(xs:List α) (k:Nat),(E.l xs).drop (k*E.sz)=E.l (xs.drop k)
 | [],k=>by simp[En.l]
 | x::xs,0=>by simp[En.l]
 | x::xs,k+1=>by
  simp only[En.l,List.drop_succ_cons]
  rw[List.drop_append,E.len,show(k+1)*E.sz-E.sz=k*E.sz by rw[Qn];omega,En.l_drop xs k,List.drop_of_length_le (by rw[E.len,Qn];omega),Rq]
end
def eK (k:IntKind):En Int:=⟨1,fun x=>[.int k x],PB,fun _=>rfl,fun x v h=>by simp at h;subst h;rfl⟩
def eF :En Nat:=⟨1,fun x=>[.float .f64 x],PB,fun _=>rfl,fun x v h=>by simp at h;subst h;rfl⟩
def eS :En ByteArray:=⟨1,fun x=>[.string x],PB,fun _=>rfl,fun x v h=>by simp at h;subst h;rfl⟩
def eP :En (Int × Int):=⟨2,fun x=>[.int .i64 x.1,.int .i64 x.2],PB,fun _=>rfl,fun x v h=>by simp at h;rcases h with rfl | rfl<;>rfl⟩
def eFF :En (Nat × Nat):=⟨2,fun x=>[.float .f64 x.1,.float .f64 x.2],PB,fun _=>rfl,fun x v h=>by simp at h;rcases h with rfl | rfl<;>rfl⟩
structure Ck where
 own:List Nat
 rd:List Nat
 ok:ab->Prop
 lt:∀h,ok h->(∀b∈own,b<h.size)/\(∀b∈rd,b<h.size)
 fr:∀h h',(∀b∈own,h'[b]? =h[b]?)->(∀b∈rd,h'[b]? =h[b]?)->ok h->ok h'
def Ap (c d:Ck):Prop:=∀b∈c.own,b∉d.own/\b∉d.rd
structure Hp (h:ab) (cs:List Ck):Prop where
 ok:∀(k:Nat) (c:Ck),cs[k]? =some c->c.ok h
 ap:∀(i j:Nat) (c d:Ck),i≠j->cs[i]? =some c->cs[j]? =some d->Ap c d
structure Sy (h0:ab) (M:List Nat) (h:ab) (cs:List Ck):Prop where
 fr:Fr M h0 h
 hp:Hp h cs
 ow:∀(k:Nat) (c:Ck),cs[k]? =some c->∀b∈c.own,b∈M\/h0.size<=b
def ao (cs:List Ck):List Nat:=cs.flatMap Ck.own
theorem Hp.nil (h:ab):Hp h []:=⟨fun k c hk=>by simp at hk,fun i j c d _ hc=>by simp at hc⟩
theorem Hp.cons {h:ab} {c:Ck} {cs:List Ck} (hc:c.ok h) (ha:∀(k:Nat) (d:Ck),cs[k]? =some d->Ap c d/\Ap d c) (H:Hp h cs):Hp h (c::cs):=by
 refine⟨fun k d hk=>?_,fun i j d e hij hd he=>?_⟩
 ·cases k with
  | zero=>grind
  | succ k=>exact H.ok k d (by simpa using hk)
 ·cases i with
  | zero=>
   grind
  | succ i=>
   cases j with
   | zero=>grind
   | succ j=>exact H.ap i j d e PA (by simpa using hd) (by simpa using he)
theorem Hp.view {h:ab} {c:Ck} {cs:List Ck} (hc:c.ok h) (ho:c.own=[]) (H:Hp h cs) (hn:∀(k:Nat) (d:Ck),cs[k]? =some d->∀b∈d.own,b∉c.rd):Hp h (c::cs):=
 Hp.cons hc (fun k d hd=>⟨fun b hb=>by simp[ho]at hb,fun b hb=>⟨by simp[ho],hn k d hd b hb⟩⟩) H
theorem Hp.one {h:ab} {c:Ck} (hc:c.ok h):Hp h [c]:=Hp.cons hc (fun k d hd=>by simp at hd) (Hp.nil h)
theorem Ck.size_le {c:Ck} {h h':ab} (hc:c.ok h) (f:Fr [] h h'):c.ok h':=by
 obtain⟨l1,l2⟩:=c.lt h hc
 exact c.fr h h' (fun b hb=>f.blk b (l1 b hb) PC) (fun b hb=>f.blk b (l2 b hb) PC) hc
theorem Sy.start {h:ab} {cs:List Ck} (H:Hp h cs):Sy h (ao cs) h cs:=
 ⟨Fr.refl _ _,H,fun k c hk b hb=>.inl (by grind [ao])⟩
section
variable {h0 h h':ab} {M:List Nat} {cs:List Ck} {c d:Ck} {i j k:Nat}
theorem Sy.ok (Y:Sy h0 M h cs) (hk:cs[k]? =some c):c.ok h:=Y.hp.ok k c hk
theorem Sy.le (Y:Sy h0 M h cs):h0.size<=h.size:=Y.fr.size
theorem Sy.gr (Y:Sy h0 M h cs) (f:Fr [] h h'):Sy h0 M h' cs:=
 ⟨Y.fr.comp f PC,⟨fun k c hk=>Ck.size_le (Y.hp.ok k c hk) f,Y.hp.ap⟩,Y.ow⟩
theorem Sy.mut (Y:Sy h0 M h cs) (hk:cs[k]? =some c) (c':Ck) (hs:h.size<=h'.size) (hb:∀b,b<h.size->b∉c.own->h'[b]? =h[b]?) (hc:c'.ok h')
  (ho:∀b∈c'.own,b∈c.own\/h.size<=b) (hr:∀b∈c'.rd,b∈c.own\/b∈c.rd\/h.size<=b):Sy h0 M h' (cs.set k c'):=by
 have hkl:=(List.getElem?_eq_some_iff.1 hk).1
 have old:∀(i:Nat) (d:Ck),(cs.set k c')[i]? =some d->(i=k/\d=c')\/(i≠k/\cs[i]? =some d):=by
  grind
 refine⟨⟨Qg Y.le hs,fun b hb0 hbm=>?_⟩,⟨fun i d hd=>?_,fun i j d e hij hd he=>?_⟩,fun i d hd b hbo=>?_⟩
 ·rw[hb b (QT hb0 Y.le) fun hbo=>?_]
  ·exact Y.fr.blk b hb0 hbm
  ·rcases Y.ow k c hk b hbo with q | q
   ·exact hbm q
   ·omega
 ·rcases old i d hd with⟨rfl,rfl⟩ | ⟨hik,hd⟩
  ·exact hc
  ·have hok:=Y.hp.ok i d hd
   obtain⟨l1,l2⟩:=d.lt h hok
   exact d.fr h h' (fun b hbd=>hb b (l1 b hbd) fun q=>(Y.hp.ap k i c d (fun e=>hik e.symm) hk hd b q).1 hbd)
    (fun b hbd=>hb b (l2 b hbd) fun q=>(Y.hp.ap k i c d (fun e=>hik e.symm) hk hd b q).2 hbd) hok
 ·rcases old i d hd with⟨e1,e2⟩ | ⟨hik,hd1⟩
  ·rcases old j e he with⟨e3,_⟩ | ⟨hjk,he1⟩
   ·omega
   ·subst e1;subst e2
    intro b hbo
    have hok:=Y.hp.ok j e he1
    obtain⟨l1,l2⟩:=e.lt h hok
    rcases ho b hbo with q | q
    ·exact Y.hp.ap i j c e PA hk he1 b q
    grind
  ·rcases old j e he with⟨e1,e2⟩ | ⟨hjk,he1⟩
   ·subst e1;subst e2
    intro b hbo
    have hok:=Y.hp.ok i d hd1
    obtain⟨l1,l2⟩:=d.lt h hok
    have a:=Y.hp.ap i j d c PA hd1 hk b hbo
    grind
   ·exact Y.hp.ap i j d e hij hd1 he1
 ·rcases old i d hd with⟨rfl,rfl⟩ | ⟨hik,hd⟩
  ·rcases ho b hbo with q | q
   ·exact Y.ow i c hk b q
   ·have:=Y.le;omega
  ·exact Y.ow i d hd b hbo
def To (c c':Ck):Prop:=(∀h,c.ok h->c'.ok h)/\(∀b∈c'.own,b∈c.own)/\(∀b∈c'.rd,b∈c.own\/b∈c.rd)
theorem To.refl (c:Ck):To c c:=⟨fun _ h=>h,fun _ h=>h,fun _ h=>.inr h⟩
theorem Sy.turn (Y:Sy h0 M h cs) (k:Nat) (hk:cs[k]? =some c) {c':Ck} (t:To c c'):Sy h0 M h (cs.set k c'):=
 Y.mut hk c' (P3 _) (fun _ _ _=>rfl) (t.1 h (Y.ok hk)) (fun b hb=>.inl (t.2.1 b hb)) (fun b hb=>(t.2.2 b hb).imp id .inl)
theorem Sy.add (Y:Sy h0 M h cs) (f:Fr [] h h') (c:Ck) (hc:c.ok h') (ho:∀b∈c.own,h.size<=b) (hr:∀b∈c.rd,h.size<=b):Sy h0 M h' (cs++[c]):=by
 have Y':=Y.gr f
 have old:∀(i:Nat) (d:Ck),(cs++[c])[i]? =some d->(i=cs.length/\d=c)\/(i≠cs.length/\cs[i]? =some d):=by
  grind
 refine⟨Y'.fr,⟨fun i d hd=>?_,fun i j d e hij hd he=>?_⟩,fun i d hd b hbo=>?_⟩
 ·rcases old i d hd with⟨rfl,rfl⟩ | ⟨_,hd⟩
  ·exact hc
  ·exact Y'.hp.ok i d hd
 ·rcases old i d hd with⟨e1,e2⟩ | ⟨hi,hd1⟩
  ·rcases old j e he with⟨e3,_⟩ | ⟨hj,he1⟩
   ·omega
   ·subst e2
    intro b hbo
    obtain⟨l1,l2⟩:=e.lt h (Y.hp.ok j e he1)
    grind
  ·rcases old j e he with⟨e1,e2⟩ | ⟨hj,he1⟩
   ·subst e2
    intro b hbo
    obtain⟨l1,l2⟩:=d.lt h (Y.hp.ok i d hd1)
    grind
   ·exact Y'.hp.ap i j d e hij hd1 he1
 ·rcases old i d hd with⟨rfl,rfl⟩ | ⟨_,hd⟩
  ·have:=ho b hbo;have:=Y.le;omega
  ·exact Y.ow i d hd b hbo
theorem Sy.addN (Y:Sy h0 M h cs) (c:Ck) (hc:c.ok h) (ho:c.own=[]) (hr:c.rd=[]):Sy h0 M h (cs++[c]):=
 Y.add (Fr.refl _ _) c hc (by simp[ho]) (by simp[hr])
def pk (cs:List Ck):List Nat->List Ck
 | []=>[]
 | i::r=>match cs[i]? with
  | some c=>c::pk cs r
  | none=>pk cs r
def jR (n:Nat):List Nat->Bool
 | []=>true
 | i::r=>Nat.blt i n&& !(r.any (Nat.beq i))&&jR n r
theorem lf :∀{l:List Nat} {k:Nat} {c:Ck},jR cs.length l=true->(pk cs l)[k]? =some c->∃i,l[k]? =some i/\cs[i]? =some c
 | [],k,c,_,h=>by simp[pk]at h
 | i::r,k,c,hc,h=>by
  simp only[jR,P6]at hc
  have hi:i<cs.length:=by simp_all
  simp only[pk,List.getElem?_eq_getElem hi]at h
  cases k with
  | zero=>simp at h;subst h;exact⟨i,rfl,List.getElem?_eq_getElem hi⟩
  | succ k=>
   obtain⟨j,h1,h2⟩:=lf hc.2 (by simpa using h)
   exact⟨j,by simpa using h1,h2⟩
theorem zA :∀{l:List Nat} {n p q i:Nat},jR n l=true->l[p]? =some i->l[q]? =some i->p=q
 | [],_,_,_,_,_,h,_=>by simp at h
 | x::r,n,p,q,i,hc,hp,hq=>by
  simp only[jR,P6,Rc]at hc
  have nx:∀m,r[m]? ≠some x:=fun m hm=>by
   have:r.any (Nat.beq x)=true:=List.any_eq_true.2 ⟨x,Qa hm,PC⟩
   grind
  cases p with
  | zero=>
   grind
  | succ p=>
   cases q with
   | zero=>grind
   | succ q=>exact congrArg (· +1) (zA hc.2 (by simpa using hp) (by simpa using hq))
theorem Hp.pick (H:Hp h cs) (l:List Nat) (hc:jR cs.length l=true):Hp h (pk cs l):=by
 refine⟨fun k c hk=>?_,fun i j c d hij hi hj=>?_⟩
 ·obtain⟨i,_,h2⟩:=lf hc hk
  exact H.ok i c h2
 ·obtain⟨p,h1,h2⟩:=lf hc hi
  obtain⟨q,h3,h4⟩:=lf hc hj
  exact H.ap p q c d (fun e=>hij (by subst e;exact zA hc h1 h3)) h2 h4
theorem Sy.pick (Y:Sy h0 M h cs) (l:List Nat) (hc:jR cs.length l=true):Sy h0 M h (pk cs l):=
 ⟨Y.fr,Y.hp.pick l hc,fun k c hk b hb=>by obtain⟨i,_,h2⟩:=lf hc hk;exact Y.ow i c h2 b hb⟩
def Nv :List Ck->Prop
 | []=>True
 | c::cs=>c.rd=[]/\Nv cs
theorem Nv.get :∀{cs:List Ck} {k:Nat} {c:Ck},Nv cs->cs[k]? =some c->c.rd=[]
 | [],k,c,_,h=>by simp at h
 | d::cs,0,c,n,h=>by simp at h;subst h;exact n.1
 | d::cs,k+1,c,n,h=>Nv.get n.2 (by simpa using h)
theorem Sy.call {A B cs':List Ck} (Y:Sy h0 M h (A++B)) (P:Sy h (ao A) h' cs') (nv:Nv cs'):Sy h0 M h' (cs'++B):=by
 have inA:∀b∈ao A,∃(k:Nat) (c:Ck),(A++B)[k]? =some c/\k<A.length/\b∈c.own:=by
  intro b hb
  simp only[ao,List.mem_flatMap]at hb
  obtain⟨c,hc,hb⟩:=hb
  obtain⟨k,hk,rfl⟩:=List.getElem_of_mem hc
  exact⟨k,A[k],PE,hk,hb⟩
 have ofB:∀(k:Nat) (c:Ck),B[k]? =some c->(A++B)[A.length+k]? =some c:=by
  grind
 have okB:∀(k:Nat) (c:Ck),B[k]? =some c->c.ok h':=by
  intro k c hk
  have hk':=ofB k c hk
  have hok:=Y.hp.ok _ c hk'
  obtain⟨l1,l2⟩:=c.lt h hok
  refine c.fr h h' (fun b hb=>P.fr.blk b (l1 b hb) fun q=>?_) (fun b hb=>P.fr.blk b (l2 b hb) fun q=>?_) hok
  ·obtain⟨i,d,h1,h2,h3⟩:=inA b q
   exact(Y.hp.ap i (A.length+k) d c PA h1 hk' b h3).1 hb
  ·obtain⟨i,d,h1,h2,h3⟩:=inA b q
   exact(Y.hp.ap i (A.length+k) d c PA h1 hk' b h3).2 hb
 have parts:∀(k:Nat) (c:Ck),(cs'++B)[k]? =some c->(k<cs'.length/\cs'[k]? =some c)\/(cs'.length<=k/\B[k-cs'.length]? =some c):=by
  grind
 have own':∀(k:Nat) (c:Ck),cs'[k]? =some c->∀b∈c.own,b∈ao A\/h.size<=b:=P.ow
 refine⟨Y.fr.comp P.fr fun b hb=>?_,⟨fun k c hk=>?_,fun i j c d hij hi hj=>?_⟩,fun k c hk b hb=>?_⟩
 ·obtain⟨i,d,h1,_,h3⟩:=inA b hb
  exact Y.ow i d h1 b h3
 ·rcases parts k c hk with⟨_,hk⟩ | ⟨_,hk⟩
  ·exact P.hp.ok k c hk
  grind
 ·rcases parts i c hi with⟨hl,hi⟩ | ⟨hl,hi⟩
  ·rcases parts j d hj with⟨hl2,hj⟩ | ⟨hl2,hj⟩
   ·exact P.hp.ap i j c d hij hi hj
   ·intro b hb
    have hj':=ofB _ d hj
    obtain⟨l1,l2⟩:=d.lt h (Y.hp.ok _ d hj')
    rcases own' i c hi b hb with q | q
    ·obtain⟨p,e,h1,h2,h3⟩:=inA b q
     exact Y.hp.ap p _ e d PA h1 hj' b h3
    grind
  ·rcases parts j d hj with⟨hl2,hj⟩ | ⟨hl2,hj⟩
   ·intro b hb
    have hi':=ofB _ c hi
    obtain⟨l1,l2⟩:=c.lt h (Y.hp.ok _ c hi')
    have hbl:=l1 b hb
    refine⟨fun x=>?_,fun x=>?_⟩
    ·rcases own' j d hj b x with q | q
     ·obtain⟨p,e,h1,h2,h3⟩:=inA b q
      exact(Y.hp.ap p _ e c PA h1 hi' b h3).1 hb
     ·omega
    ·rw[nv.get hj]at x;simp at x
   ·exact Y.hp.ap _ _ c d PA (ofB _ c hi) (ofB _ d hj)
 ·rcases parts k c hk with⟨_,hk⟩ | ⟨_,hk⟩
  ·rcases own' k c hk b hb with q | q
   ·obtain⟨i,d,h1,_,h3⟩:=inA b q
    exact Y.ow i d h1 b h3
   ·have:=Y.le;omega
  ·exact Y.ow _ c (ofB _ c hk) b hb
end
end Go.X
/- The chunks: slices of one's own, views, slices of slices, blocks behind pointers; what reads and writes make of them. Conditions: none. -/
namespace Go.X
theorem wI {h h':ab} {b:Nat} (hb:b<h.size) (e:h'[b]? =h[b]?):b<h'.size:=by
 grind
def mB (a:PY):Nat->List Nat
 | 0=>[]
 | _+1=>ai a
theorem jS {a:PY} {n b:Nat} (h:b∈mB a n):b∈ai a:=by
 cases n<;>grind [mB]
theorem La {a:PY} {b o n:Nat} (e:a=some ⟨b,o,none⟩) (hn:0<n):b∈mB a n:=by
 cases n<;>grind [mB,ai]
theorem Reads.lt {h:ab} {sz n:Nat} {a:PY} {xs:List Value} (r:Reads h sz a n xs) (hs:0<sz):∀b∈mB a n,b<h.size:=by
 intro b hb
 cases n with
 | zero=>simp[mB]at hb
 | succ n=>
  rcases r.2 with⟨_,h0⟩ | ⟨b',o,e,hc⟩
  ·omega
  ·subst e
   simp[mB,ai]at hb;subst hb
   have hl:0<xs.length:=by rw[r.1];grind
   exact bJ (hc 0 _ (List.getElem?_eq_getElem hl))
theorem Reads.at2 {h h':ab} {sz n:Nat} {a:PY} {xs:List Value} (r:Reads h sz a n xs) (he:∀b∈mB a n,h'[b]? =h[b]?):Reads h' sz a n xs:=by
 obtain⟨h1,h2⟩:=r
 refine⟨h1,h2.imp id ?_⟩
 rintro⟨b,o,rfl,h3⟩
 refine⟨b,o,rfl,fun j v hj=>?_⟩
 rw[di (he b ?_)]
 ·exact h3 j v hj
 ·cases n with
  | zero=>grind
  | succ n=>simp[mB,ai]
def Ck.junk (b:Nat):Ck:=⟨[b],[],fun h=>b<h.size,fun h hb=>⟨by simpa using hb,PC⟩,fun h h' he _ hb=>wI hb (he b PC)⟩
def Ck.sl {α:Type} (E:En α) (ty:TypeId) (a:PY) (n c:Nat) (xs:List α):Ck:=
 ⟨ai a,[],fun h=>aw h ty E.sz a n c (E.l xs)/\xs.length=n,fun h o=>⟨o.1.lt,PC⟩,fun h h' he _ o=>⟨o.1.blk he,o.2⟩⟩
def Ck.vw {α:Type} (E:En α) (a:PY) (n c:Nat) (xs:List α):Ck:=
 ⟨[],mB a n,fun h=>Reads h E.sz a n (E.l xs)/\xs.length=n/\n<=c/\(a=none->c=0),fun h o=>⟨PC,o.1.lt E.pos⟩,fun h h' _ he o=>⟨o.1.at2 he,o.2⟩⟩
def Ck.ob (b:Nat) (ty:TypeId) (cells:List Value):Ck:=
 ⟨[b],[],fun h=>h[b]? =some (.cells cells.toArray ty (0,0)),fun h o=>⟨PE,PC⟩,fun h h' he _ o=>(he b PC).trans o⟩
def Ck.vob (b o:Nat) (cells:List Value):Ck:=
 ⟨[],[b],fun h=>b<h.size/\∀(j:Nat) (v:Value),cells[j]? =some v->ac h b (o+j)=some v,fun h o=>⟨PC,by simpa using o.1⟩,
  fun h h' _ he o=>⟨wI o.1 (he b PC),fun j v hj=>by grind [di]⟩⟩
section
variable {α:Type} {E:En α} {h0 h h':ab} {M:List Nat} {cs:List Ck} {ty t1 t2:TypeId} {a:PY} {n c:Nat} {xs ys:List α} {xss:List (List α)} {b o:Nat} {cells:List Value} {P:Nat->Bool}
theorem Sy.atS (Y:Sy h0 M h cs) (k:Nat) (hk:cs[k]? =some (Ck.sl E ty a n c xs)) {i:Int} (hi:0<=i) (hn:i<(n:Int)):
  ∃b,a=some ⟨b,0,none⟩/\b∈(Ck.sl E ty a n c xs).own/\∃x,xs[i.toNat]? =some x:=by
 obtain⟨ow,ln⟩:=Y.ok hk
 obtain⟨g,cur,e,_⟩:=ow.at PA
 exact⟨g,e,by show g∈ai a;simp[e,ai],_,List.getElem?_eq_getElem PA⟩
theorem Sy.cellS (Y:Sy h0 M h cs) (k:Nat) (hk:cs[k]? =some (Ck.sl E ty a n c xs)) (ha:a=some ⟨b,0,none⟩) {i t:Nat} {x:α} {v:Value} (hx:xs[i]? =some x) (hv:(E.enc x)[t]? =some v):
  ac h b (0+i*E.sz+t)=some v:=by
 subst ha
 rw[Qu]
 exact(Y.ok hk).1.cell (En.l_get hx hv)
theorem Sy.freeS (Y:Sy h0 M h cs) (k:Nat) (hk:cs[k]? =some (Ck.sl E ty a n c xs)) (ha:a=some ⟨b,0,none⟩) (o:Nat):aq h b o=true:=by
 subst ha
 exact(Y.ok hk).1.free o
theorem Sy.lenS (Y:Sy h0 M h cs) (k:Nat) (hk:cs[k]? =some (Ck.sl E ty a n c xs)):n=xs.length:=(Y.ok hk).2.symm
theorem Sy.ownS (Y:Sy h0 M h cs) (k:Nat) (hk:cs[k]? =some (Ck.sl E ty a n c xs)):aw h ty E.sz a n c (E.l xs):=(Y.ok hk).1
theorem Sy.readsS (Y:Sy h0 M h cs) (k:Nat) (hk:cs[k]? =some (Ck.sl E ty a n c xs)):Reads h E.sz a n (E.l xs):=(Y.ok hk).1.reads
theorem aw.nc {h:ab} {e sz n c:Nat} {a:PY} {xs:List Value} (o:aw h e sz a n c xs):a=none->c=0:=by
 rintro rfl
 rcases o.2 with⟨_,_,h⟩ | ⟨g,cur,h,_⟩
 ·exact h
 ·cases h
theorem Sy.capS (Y:Sy h0 M h cs) (k:Nat) (hk:cs[k]? =some (Ck.sl E ty a n c xs)):n<=c/\c<=maxLen/\(a=none->c=0):=⟨(Y.ok hk).1.cap.1,(Y.ok hk).1.cap.2,(Y.ok hk).1.nc⟩
theorem Sy.nilS (Y:Sy h0 M h cs) (E:En α) (ty:TypeId):Sy h0 M h (cs++[Ck.sl E ty none 0 0 []]):=
 Y.addN _ ⟨aw.nil _ _ _,rfl⟩ rfl rfl
theorem wJ (z:α) (n:Nat):(madeCells (E.enc z).toArray (n*E.sz)).toList=E.l (List.replicate n z):=by
 have hp:=E.pos
 apply Re
 intro j
 have hl:(E.l (List.replicate n z)).length=n*E.sz:=by rw[En.l_len];simp
 by_cases hj:j<n*E.sz
 ·have h1:(madeCells (E.enc z).toArray (n*E.sz)).toList[j]? =some (((E.enc z).toArray)[j % E.sz]!):=by
   simp[madeCells,hj,E.len]
  have hm:j % E.sz<E.sz:=QG _ hp
  have hm2:j % E.sz<(E.enc z).length:=by rw[E.len];exact hm
  have h2:(List.replicate n z)[j/E.sz]? =some z:=by
   rw[List.getElem?_replicate,if_pos ((Ru hp).2 hj)]
  grind [En.l_get,Nat.mul_comm,Nat.div_add_mod]
 grind [size_madeCells]
theorem Sy.mkS (Y:Sy h0 M h cs) (z:α) (m n:Nat) (hnm:n<=m) (hm:m<=maxLen):
  Sy h0 M (h.push (.cells (madeCells (E.enc z).toArray (m*E.sz)) ty)) (cs++[Ck.sl E ty (some ⟨h.size,0,none⟩) n m (List.replicate n z)]):=by
 refine Y.add (Fr.push h _) _ ⟨⟨by simp[En.l_len],.inr ⟨h.size,_,rfl,.of gy,hnm,hm,by simp[size_madeCells],?_⟩⟩,PC⟩ (by simp[Ck.sl,ai]) (by simp[Ck.sl])
 grind [wJ,En.l_take]
theorem Sy.stS (Y:Sy h0 M h cs) (k:Nat) (hk:cs[k]? =some (Ck.sl E ty a n c xs)) (ha:a=some ⟨b,0,none⟩) {i t:Nat} {x:α} (x':α) {v:Value} (hx:xs[i]? =some x) (ht:t<E.sz) (hv:E.enc x'=(E.enc x).set t v):
  Sy h0 M (aj h b (0+i*E.sz+t) v) (cs.set k (Ck.sl E ty a n c (xs.set i x'))):=by
 subst ha
 obtain⟨ow,ln⟩:=Y.ok hk
 refine Y.mut hk _ PC (fun d _ hd=>fI (by grind [Ck.sl,ai])) ⟨?_,by simpa using ln⟩ (fun d hd=>.inl hd) (fun d hd=>by simp[Ck.sl]at hd)
 have:=ow.set (0+i*E.sz+t) v
 rw[Qu,En.l_set hx ht hv]at this
 grind
theorem Sy.st1 (Y:Sy h0 M h cs) (k:Nat) (hk:cs[k]? =some (Ck.sl E ty a n c xs)) (ha:a=some ⟨b,0,none⟩) {i:Nat} (x':α) {v:Value} (hi:i<n) (hv:E.enc x'=[v]):
  Sy h0 M (aj h b (0+i*E.sz) v) (cs.set k (Ck.sl E ty a n c (xs.set i x'))):=by
 have hs:E.sz=1:=by have:=E.len x';grind
 have hl:=Y.lenS k hk
 have hx:xs[i]? =some xs[i]:=List.getElem?_eq_getElem PA
 have e:∀y,∃u,E.enc y=[u]:=fun y=>by
  have:=E.len y;rw[hs]at this
  exact List.length_eq_one_iff.1 this
 obtain⟨u,hu⟩:=e xs[i]
 have:=Y.stS k hk ha (t:=0) x' (v:=v) hx PA PE
 omega
theorem Sy.appS (Y:Sy h0 M h cs) (k:Nat) (hk:cs[k]? =some (Ck.sl E ty a n c xs)) {sA:PY} {sC m:Nat} {vs:List Value} (ys:List α) (ow:aw h' ty E.sz sA (n+m) sC (E.l xs++vs)) (f:Fr (ai a) h h')
  (g:(sA=a/\sC=c)\/∃g,sA=some ⟨g,0,none⟩/\h.size<=g) (hv:E.l ys=vs) (hm:ys.length=m):Sy h0 M h' (cs.set k (Ck.sl E ty sA (n+m) sC (xs++ys))):=by
 have hl:=Y.lenS k hk
 refine Y.mut hk _ f.size (fun d hd hn=>f.blk d hd hn) ⟨by rw[En.l_append,hv];exact ow,by simp[hm,hl]⟩ (fun d hd=>?_) (fun d hd=>by simp[Ck.sl]at hd)
 grind [Ck.sl,ai]
theorem Sy.atV (Y:Sy h0 M h cs) (k:Nat) (hk:cs[k]? =some (Ck.vw E a n c xs)) {i:Int} (hi:0<=i) (hn:i<(n:Int)):
  ∃b o,a=some ⟨b,o,none⟩/\b∈(Ck.vw E a n c xs).rd/\∃x,xs[i.toNat]? =some x:=by
 obtain⟨r,ln,_⟩:=Y.ok hk
 obtain⟨b,o,e,_⟩:=r.at PA
 exact⟨b,o,e,La e PA,_,List.getElem?_eq_getElem PA⟩
theorem Sy.cellV (Y:Sy h0 M h cs) (k:Nat) (hk:cs[k]? =some (Ck.vw E a n c xs)) (ha:a=some ⟨b,o,none⟩) {i t:Nat} {x:α} {v:Value} (hx:xs[i]? =some x) (hv:(E.enc x)[t]? =some v):
  ac h b (o+i*E.sz+t)=some v:=by
 obtain⟨r,ln,_⟩:=Y.ok hk
 rcases r.2 with⟨h1,h2⟩ | ⟨b',o',e,hc⟩
 ·grind
 ·rw[e]at ha;simp at ha;obtain⟨rfl,rfl⟩:=ha
  rw[Nat.add_assoc]
  exact hc _ _ (En.l_get hx hv)
theorem Sy.lenV (Y:Sy h0 M h cs) (k:Nat) (hk:cs[k]? =some (Ck.vw E a n c xs)):n=xs.length:=(Y.ok hk).2.1.symm
theorem Sy.readsV (Y:Sy h0 M h cs) (k:Nat) (hk:cs[k]? =some (Ck.vw E a n c xs)):Reads h E.sz a n (E.l xs):=(Y.ok hk).1
theorem Sy.capV (Y:Sy h0 M h cs) (k:Nat) (hk:cs[k]? =some (Ck.vw E a n c xs)):n<=c/\(a=none->c=0):=(Y.ok hk).2.2
theorem To.slvw :To (Ck.sl E ty a n c xs) (Ck.vw E a n c xs):=
 ⟨fun h o=>⟨o.1.reads,o.2,o.1.cap.1,o.1.nc⟩,by simp[Ck.vw],fun b hb=>.inl (jS hb)⟩
theorem To.sljunk {g:Nat}:To (Ck.ob g ty cells) (Ck.junk g):=⟨fun h o=>yp o,fun b hb=>hb,fun b hb=>by simp[Ck.junk]at hb⟩
theorem Sy.junk (Y:Sy h0 M h cs) (x:Obj):Sy h0 M (h.push x) (cs++[Ck.junk h.size]):=
 Y.add (Fr.push h x) _ (by simp[Ck.junk]) (by simp[Ck.junk]) (by simp[Ck.junk])
theorem Sy.stJ (Y:Sy h0 M h cs) (k:Nat) (hk:cs[k]? =some (Ck.junk b)) (o:Nat) (v:Value):Sy h0 M (aj h b o v) cs:=by
 have:=Y.mut (h':=aj h b o v) hk (Ck.junk b) PC (fun d _ hd=>fI (by rintro rfl;exact hd (by simp[Ck.junk]))) (by have:=Y.ok hk;simpa[Ck.junk]using this) (fun d hd=>.inl hd) (fun d hd=>by grind)
 have e:cs.set k (Ck.junk b)=cs:=by
  apply Re
  grind
 rwa[e]at this
theorem Sy.newO (Y:Sy h0 M h cs) (vs:List Value):Sy h0 M (h.push (.cells vs.toArray ty)) (cs++[Ck.ob h.size ty vs]):=
 Y.add (Fr.push h _) _ gy (by simp[Ck.ob]) (by simp[Ck.ob])
theorem Sy.cellO (Y:Sy h0 M h cs) (k:Nat) (hk:cs[k]? =some (Ck.ob b ty cells)) (j:Nat) {v:Value} (hv:cells[j]? =some v):ac h b j=some v:=by
 rw[bs (Y.ok hk)];simpa using hv
theorem Sy.freeO (Y:Sy h0 M h cs) (k:Nat) (hk:cs[k]? =some (Ck.ob b ty cells)) (j:Nat):aq h b j=true:=iQ (Y.ok hk) j
theorem Sy.stO (Y:Sy h0 M h cs) (k:Nat) (hk:cs[k]? =some (Ck.ob b ty cells)) (j:Nat) (v:Value):Sy h0 M (aj h b j v) (cs.set k (Ck.ob b ty (cells.set j v))):=
 Y.mut hk _ PC (fun d _ hd=>fI (by rintro rfl;exact hd (by simp[Ck.ob]))) (by
  have:=bO (o:=j) (v:=v) (Y.ok hk)
  simpa[Ck.ob]using this) (fun d hd=>.inl hd) (fun d hd=>by simp[Ck.ob]at hd)
theorem Sy.cellW (Y:Sy h0 M h cs) (k:Nat) (hk:cs[k]? =some (Ck.vob b o cells)) (j:Nat) {v:Value} (hv:cells[j]? =some v):ac h b (o+j)=some v:=(Y.ok hk).2 j v hv
theorem To.obvob :To (Ck.ob b ty cells) (Ck.vob b 0 cells):=
 ⟨fun h hb=>⟨yp hb,fun j v hv=>by rw[bs hb,Qu];simpa using hv⟩,by simp[Ck.vob],fun d hd=>.inl hd⟩
theorem Sy.ne (Y:Sy h0 M h cs) (i j:Nat) (hij:i≠j) {c d:Ck} (hi:cs[i]? =some c) (hj:cs[j]? =some d) {x y:Nat} (hx:x∈c.own) (hy:y∈d.own):x≠y:=by
 rintro rfl
 exact(Y.hp.ap i j c d hij hi hj x hx).1 hy
theorem Sy.neJ (Y:Sy h0 M h cs) (i j:Nat) (hij:Nat.beq i j=false) {c:Ck} {y:Nat} (hi:cs[i]? =some c) (hj:cs[j]? =some (Ck.junk y)) {x:Nat} (hx:x∈c.own):x≠y:=
 Y.ne i j (fun e=>by simp_all) hi hj hx (by simp[Ck.junk])
theorem Sy.nJ (Y:Sy h0 M h cs) (i j:Nat) (hij:Nat.beq i j=false) {c:Ck} {y:Nat} (hi:cs[i]? =some c) (hj:cs[j]? =some (Ck.junk y)):y∉c.own:=
 fun hx=>Y.neJ i j hij hi hj hx rfl
end
end Go.X
/- Rows in chunks; calls, loops over chunks. Conditions: none. -/
namespace Go.X
section
variable {α:Type} {E:En α} {h0 h h':ab} {M:List Nat} {cs:List Ck} {ty t1 t2:TypeId} {a:PY} {n c:Nat} {xs ys:List α} {xss:List (List α)} {b o:Nat} {cells:List Value} {P:Nat->Bool}
theorem Sy.startM (H:Hp h cs) (e:ao cs=M):Sy h M h cs:=e▸Sy.start H
theorem Sy.call2 {A B cs':List Ck} {MA:List Nat} (Y:Sy h0 M h cs) (l:List Nat) (hl:jR cs.length l=true) (e:pk cs l=A++B) (hM:ao A=MA) (P:Sy h MA h' cs') (nv:Nv cs'):Sy h0 M h' (cs'++B):=by
 subst hM
 exact Sy.call (e▸Y.pick l hl) P nv
theorem Sy.callV {cs':List Ck} (Y:Sy h0 M h cs) (P:Sy h [] h' cs') (nv:Nv cs'):Sy h0 M h' (cs++cs'):=by
 have Y1:Sy h0 M h' (cs'++cs):=Sy.call (A:=[]) Y P nv
 have g1:∀(i:Nat) (d:Ck),(cs++cs')[i]? =some d->∃j,(cs'++cs)[j]? =some d/\j=if i<cs.length then cs'.length+i else i-cs.length:=by
  grind
 refine⟨Y1.fr,⟨fun i d hd=>?_,fun i j d e hij hd he=>?_⟩,fun i d hd=>?_⟩
 ·obtain⟨p,h1,_⟩:=g1 i d hd;exact Y1.hp.ok p d h1
 ·obtain⟨p,h1,h2⟩:=g1 i d hd
  obtain⟨q,h3,h4⟩:=g1 j e he
  refine Y1.hp.ap p q d e ?_ h1 h3
  grind
 ·obtain⟨p,h1,_⟩:=g1 i d hd;exact Y1.ow p d h1
theorem am {Pr:Program} {f:FuncId} {args:Array Value} {H MA:List Nat} {R K:Value->ab->Prop} (c:af Pr f args h R) (hf:∀v h',R v h'->Fr MA h h') (hH:∀b∈H,b∉MA) (k:∀v h',R v h'->K v h'):ag Pr f args h H K:=
 ⟨MA,R,c.mono fun v h' r=>⟨hf v h' r,r⟩,hH,fun v h' _ r=>k v h' r⟩
theorem bf {P:Nat->Prop}:∀b∈([]:List Nat),P b:=fun _ h=>by cases h
theorem jT {P:Nat->Prop} {x:Nat} {l:List Nat} (h:P x) (t:∀b∈l,P b):∀b∈x::l,P b:=List.forall_mem_cons.2 ⟨h,t⟩
theorem ah {x:Bool} {A B A' B':Prop} (T:cnd x A B) (a:A->A') (b:B->B'):cnd x A' B':=⟨fun h=>a (T.1 h),fun h=>b (T.2 h)⟩
open Classical in
noncomputable def Lm (J : Nat -> List Value -> ab -> Prop) (l : List Value) (h : ab) : Nat := if e : ∃ k, J k l h then (least e).choose else 0
theorem fm {J:Nat->List Value->ab->Prop} {l:List Value} (e:∃k,J k l h):∃k,J k l h/\Lm J l h=k:=by
 refine⟨(least e).choose,(least e).choose_spec.1,?_⟩
 rw[Lm,dif_pos e]
theorem ck {J:Nat->List Value->ab->Prop} {l l':List Value} {k k':Nat} (hm:Lm J l h=k) (j:J k' l' h') (lt:k'<k):(∃k,J k l' h')/\Lm J l' h'<Lm J l h:=by
 refine⟨⟨k',j⟩,?_⟩
 have e:∃k,J k l' h':=⟨k',j⟩
 rw[hm,Lm,dif_pos e]
 grind
theorem Sy.cut (Y:Sy h0 M h cs) (v f:List Nat) (hc:jR cs.length (v++f)=true):∃B,B=pk cs f/\Sy h0 M h (pk cs v++B):=by
 refine⟨_,rfl,?_⟩
 have e:∀(v:List Nat),pk cs (v++f)=pk cs v++pk cs f:=by
  intro v
  induction v<;>grind [pk]
 rw[<-e]
 exact Y.pick _ hc
end
end Go.X
/- Two chunks at once: rows that come in, rows that are picked out. Conditions: none. -/
namespace Go.X
section
variable {α:Type} {E:En α} {h0 h h':ab} {M:List Nat} {cs:List Ck} {ty t1 t2:TypeId} {a:PY} {n c:Nat} {xs ys:List α} {xss:List (List α)} {b o:Nat} {A B:Ck} {k j:Nat}
theorem Lb {n k:Nat} (h:n<1000000000000) (hk:k<=140):n*k<=140737488355328:=Qg (RN (RV h) hk) PB
theorem Lc {n:Nat} (h:n<1000000000000):n<=maxLen:=by simp only[maxLen];omega
theorem sP {β:Type} {l:List β} (nd:l.Nodup) {p q:Nat} {x:β} (hp:l[p]? =some x) (hq:l[q]? =some x):p=q:=by
 obtain⟨l1,g1⟩:=List.getElem?_eq_some_iff.1 hp
 obtain⟨l2,g2⟩:=List.getElem?_eq_some_iff.1 hq
 rcases Nat.lt_trichotomy p q with h | h | h
 ·exact absurd (g1.trans g2.symm) (List.pairwise_iff_getElem.1 nd p q l1 l2 h)
 ·exact h
 ·exact absurd (g2.trans g1.symm) (List.pairwise_iff_getElem.1 nd q p l2 l1 h)
end
theorem Ld {N:List Nat} {g:Nat}:∀x∈ao [],x∈N\/g<=x:=fun x h=>by simp[ao]at h
theorem Le {N:List Nat} {g:Nat} {c:Ck} {cs:List Ck} (h:∀x∈c.own,x∈N\/g<=x) (t:∀x∈ao cs,x∈N\/g<=x):∀x∈ao (c::cs),x∈N\/g<=x:=by
 grind [ao]
def wH (x:Int × Int) (i:Int):Int:=if i=0 then x.1 else x.2
section
variable {α:Type} {E:En α} {h0 h h':ab} {M:List Nat} {cs:List Ck} {ty t1 t2:TypeId} {a:PY} {n c:Nat} {xs ys:List α} {xss:List (List α)} {b o:Nat} {cells:List Value} {P:Nat->Bool}
theorem Reads.takeR {h:ab} {a:PY} {n:Nat} {xs:List α} (r:Reads h E.sz a n (E.l xs)) (m:Nat) (hm:m<=n):Reads h E.sz a m (E.l (xs.take m)):=by
 have hl:=r.1
 rw[En.l_len]at hl
 have hl:xs.length=n:=QX E.pos hl
 refine⟨by grind [En.l_len],?_⟩
 rcases r.2 with⟨rfl,h0⟩ | ⟨b,o,e,hc⟩
 ·grind
 ·refine .inr ⟨b,o,e,fun j v hj=>hc j v ?_⟩
  rw[<-En.l_take,List.getElem?_take]at hj
  grind
theorem Reads.dropR {h:ab} {a:PY} {n c:Nat} {xs:List α} (r:Reads h E.sz a n (E.l xs)) (m:Nat) (hm:m<=n) (hc:n<=c) (hn:a=none->c=0) {n':Nat} (e:n'=n-m):
  Reads h E.sz (if c=m then a else Option.map (fun addr=>Addr.add addr (m*E.sz)) a) n' (E.l (xs.drop m)):=by
 subst e
 have hl:=r.1
 rw[En.l_len]at hl
 have hl:xs.length=n:=QX E.pos hl
 refine⟨by rw[En.l_len,Ry,hl],?_⟩
 rcases r.2 with⟨rfl,h0⟩ | ⟨b,o,e,hc2⟩
 ·grind
 ·subst e
  right
  split
  ·rename_i e
   have:xs.drop m=[]:=List.drop_of_length_le PA
   exact⟨b,o,rfl,fun j v hj=>by rw[this]at hj;simp[En.l]at hj⟩
  ·refine⟨b,o+m*E.sz,by simp[Addr.add],fun j v hj=>?_⟩
   rw[<-En.l_drop,List.getElem?_drop]at hj
   grind
theorem K8 {a:PY} {c m sz:Nat} (hn:a=none->c=0):(if c=m then a else Option.map (fun addr=>Addr.add addr (m*sz)) a)=none->c-m=0:=by
 intro e
 have:a=none:=by
  split at e
  ·exact e
  simp_all
 grind
def Mt (cs:List Ck) (l r:List Nat):List Nat:=ao (pk cs l)++(pk cs r).flatMap fun c=>c.own.tail
theorem Sy.mt (_:Sy h0 M h cs) (l r:List Nat):∃N,N=Mt cs l r:=⟨_,rfl⟩
theorem Sy.frM (_:Sy h0 M h cs) (l r:List Nat):Fr (Mt cs l r) h h:=Fr.refl _ _
theorem K9 {l:List Nat} {k:Nat} {d:Ck} (hk:cs[k]? =some d) (hl:k∈l):d∈pk cs l:=by
 induction l<;>grind [pk,List.mem_cons_self,List.mem_cons_of_mem]
theorem Sy.inMo (_:Sy h0 M h cs) (k:Nat) (l r:List Nat) (hl:l.any (Nat.beq k)=true) {d:Ck} (hk:cs[k]? =some d) {g:Nat}:∀x∈d.own,x∈Mt cs l r\/g<=x:=by
 intro x hx
 obtain⟨k',h1,h2⟩:=List.any_eq_true.1 hl
 have:=P4 h2
 subst this
 exact .inl (List.mem_append_left _ (by grind [ao,K9]))
end
structure GL where
 pb:Nat
 po:Nat
 pc:Nat
 fb:Nat
 fo:Nat
 fc:Nat
 lb:Nat
 lo:Nat
 lc:Nat
def tU :List Int:=[1,10,100,1000,10000,100000,1000000,10000000,100000000,1000000000,10000000000,100000000000,1000000000000,10000000000000,100000000000000,1000000000000000,10000000000000000,100000000000000000,1000000000000000000,10000000000000000000]
def tP :List Int:=[1,3,6,9,13,16,19,23,26]
def tF :List Nat:=[4607182418800017408,4621819117588971520,4636737291354636288,4652007308841189376,4666723172467343360,4681608360884174848,4696837146684686336,4711630319722168320,4726483295884279808,4741671816366391296,4756540486875873280,4771362005757984768,4786511204640096256,4801453603149578240,4816244402031689728,4831355200913801216,4846369599423283200,4861130398305394688,4876203697187506176,4891288408196988160,4906019910204099648,4921056587992461136,4936209963552724370]
def tT :List Int:=Go.Pinned.pow10Rows.flatMap fun x=>[(x.1:Int),(x.2:Int)]
def tL :List (Int × ByteArray):=Go.Pinned.cheatRows.map fun x=>((x.1:Int),⟨x.2.toArray⟩)
structure Gl (gl:GL) (h:ab):Prop where
 opt:ac h 2 0=some (.bool true)
 i0:ac h 13 0=some (.int .u64 52)
 i1:ac h 13 1=some (.int .u64 11)
 i2:ac h 13 2=some (.int .i64 (-1023))
 u:∀(i:Nat) (v:Int),tU[i]? =some v->ac h 1 (0+i)=some (.int .u64 v)
 t:∀(i:Nat) (v:Int),tT[i]? =some v->ac h 10 (0+i)=some (.int .u64 v)
 p0:ac h 15 0=some (.slice (some ⟨gl.pb,gl.po,none⟩) 9 gl.pc)
 p:∀(i:Nat) (v:Int),tP[i]? =some v->ac h gl.pb (gl.po+i)=some (.int .i64 v)
 f0:ac h 16 0=some (.slice (some ⟨gl.fb,gl.fo,none⟩) 23 gl.fc)
 f:∀(i:Nat) (v:Nat),tF[i]? =some v->ac h gl.fb (gl.fo+i)=some (.float .f64 v)
 l0:ac h 11 0=some (.slice (some ⟨gl.lb,gl.lo,none⟩) 61 gl.lc)
 l:∀(i:Nat) (v:Int × ByteArray),tL[i]? =some v->ac h gl.lb (gl.lo+i*2)=some (.int .i64 v.1)/\ac h gl.lb (gl.lo+i*2+1)=some (.string v.2)
 uu:∃e f,h[1]? =some (.cells (tU.map fun z=>Value.int .u64 z).toArray e f)
 e1:∃t v,ac h 3 0=some (.iface t v)
 e2:∃t v,ac h 4 0=some (.iface t v)
 ml:∃m,ac h 5 0=some (.int .i64 m)
def glB (gl:GL):List Nat:=[5,3,4,2,13,1,15,16,10,11,gl.pb,gl.fb,gl.lb]
theorem Gl.congr {gl:GL} {h h':ab} (g:Gl gl h) (hb:∀b∈glB gl,h'[b]? =h[b]?):Gl gl h':=by
 have c:∀{b o:Nat} {v:Value},b∈glB gl->ac h b o=some v->ac h' b o=some v:=fun m e=>(di (hb _ m) _).trans e
 refine⟨c (by simp[glB]) g.opt,c (by simp[glB]) g.i0,c (by simp[glB]) g.i1,c (by simp[glB]) g.i2,fun i v e=>c (by simp[glB]) (g.u i v e),fun i v e=>c (by simp[glB]) (g.t i v e),c (by simp[glB]) g.p0,
  fun i v e=>c (by simp[glB]) (g.p i v e),c (by simp[glB]) g.f0,fun i v e=>c (by simp[glB]) (g.f i v e),c (by simp[glB]) g.l0,fun i v e=>⟨c (by simp[glB]) (g.l i v e).1,c (by simp[glB]) (g.l i v e).2⟩,?_,?_,?_,?_⟩
 ·obtain⟨e,f,q⟩:=g.uu;grind [glB]
 ·obtain⟨t,v,e⟩:=g.e1;exact⟨t,v,c (by simp[glB]) e⟩
 ·obtain⟨t,v,e⟩:=g.e2;exact⟨t,v,c (by simp[glB]) e⟩
 ·obtain⟨m,e⟩:=g.ml;exact⟨m,c (by simp[glB]) e⟩
theorem tT0 :∃v,tT[0]? =some v:=⟨_,rfl⟩
theorem Gl.lt {gl:GL} {h:ab} (g:Gl gl h):∀b∈glB gl,b<h.size:=by
 intro b hb
 simp only[glB,Qd,Qh,or_false]at hb
 obtain⟨v0,e0⟩:=tT0
 obtain⟨_,_,a1⟩:=g.e1
 obtain⟨_,_,a2⟩:=g.e2
 obtain⟨_,a0⟩:=g.ml
 rcases hb with rfl | rfl | rfl | rfl | rfl | rfl | rfl | rfl | rfl | rfl | rfl | rfl | rfl
 ·exact bJ a0
 ·exact bJ a1
 ·exact bJ a2
 ·exact bJ g.opt
 ·exact bJ g.i0
 ·exact bJ (g.u 0 _ rfl)
 ·exact bJ g.p0
 ·exact bJ g.f0
 ·exact bJ (g.t 0 _ e0)
 ·exact bJ g.l0
 ·exact bJ (g.p 0 _ rfl)
 ·exact bJ (g.f 0 _ rfl)
 ·exact bJ (g.l 0 _ rfl).1
def Ck.glob (gl:GL):Ck:=⟨[],glB gl,Gl gl,fun _ g=>⟨fun b hb=>by simp at hb,g.lt⟩,fun _ _ _ hb g=>g.congr hb⟩
section
variable {h0 h:ab} {M:List Nat} {cs:List Ck} {gl:GL}
theorem Sy.glo (Y:Sy h0 M h cs) (k:Nat) (hk:cs[k]? =some (Ck.glob gl)):Gl gl h:=Y.ok hk
end
def qN (t:Nat):Option Int->Value
 | none=>.nilIface
 | some c=>.iface t (.int .i64 c)
theorem wG (xs:List Int):(eK .u8).l xs=List.map (Value.int IntKind.u8) xs:=by
 induction xs with
 | nil=>rfl
 | cons x xs ih=>simp only[En.l,ih];rfl
theorem K1 {h:ab} {a:PY} {n:Nat} {xs:List Int} (r:Reads h (eK .u8).sz a n ((eK .u8).l xs)):Reads h 1 a n (List.map (Value.int IntKind.u8) xs):=by
 rw[<-wG];exact r
def iy (w:P0):List Int:=w.data.toList.map fun b=>((b.toNat:Nat):Int)
theorem mA (w:P0):(eK .u8).l (iy w)=Lib.strCells w:=by
 rw[wG,iy,Lib.strCells,List.map_map];rfl
theorem kZ (w:P0):(iy w).length=w.size:=by
 rw[iy,Rg,Array.length_toList];rfl
theorem To.obsl {α:Type} {E:En α} {b ty n:Nat} {cells:List Value} (xs:List α) (hn:xs.length=n) (hm:n<=maxLen) (hc:E.l xs=cells):
  To (Ck.ob b ty cells) (Ck.sl E ty (some ⟨b,0,none⟩) n n xs):=by
 have hl:cells.length=n*E.sz:=by rw[<-hc,En.l_len,hn]
 refine⟨fun h hb=>⟨⟨PE,.inr ⟨b,cells.toArray,rfl,.of hb,P3 _,hm,by simp[hl],?_⟩⟩,hn⟩,fun d hd=>?_,fun d hd=>?_⟩
 ·grind
 ·simpa[Ck.sl,ai,Ck.ob]using hd
 ·simp[Ck.sl]at hd
theorem Oz {α:Type} {xs:List α} {hi:Nat} (lo:Nat) (h:hi<=xs.length):((xs.take hi).drop lo).length=hi-lo:=by grind
end Go.X
namespace Go.Proofs.YtmmmmjcfojhiaaaGreatDoor.N
open Go.Proofs.YtmmmmjcfojhiaaaGreatDoor
open Go.X
def S8 (a:Int) (aA:PY) (aL aC:Nat) (a2:Bool) (aA2:PY) (aL2 aC2:Nat) (aA3:PY) (aL3 aC3:Nat) (aA4:PY) (aL4 aC4:Nat) (b:Int) (bA:PY) (bL bC:Nat) (b2:Bool) (bA2:PY) (bL2 bC2:Nat) (bA3:PY) (bL3 bC3:Nat) (bA4:PY) (bL4 bC4:Nat) (h:ab) (R:VP):Prop:=let g:ab:=h.push (.cells #[PN a,PT aA aL aC,PV a2,PT aA2 aL2 aC2,PT aA3 aL3 aC3,PT aA4 aL4 aC4] 30);let B:ab:=g.push (.cells #[PN b,PT bA bL bC,PV b2,PT bA2 bL2 bC2,PT bA3 bL3 bC3,PT bA4 bL4 bC4] 30);PI 27 #[.agg #[PN a,PT aA aL aC,PV a2,PT aA2 aL2 aC2,PT aA3 aL3 aC3,PT aA4 aL4 aC4],.agg #[PN b,PT bA bL bC,PV b2,PT bA2 bL2 bC2,PT bA3 bL3 bC3,PT bA4 bL4 bC4]] B [g.size,h.size] fun C n=>∃r:Bool,C= PV r/\cnd (!r) (R (PV false) n) (∃(l:LP) (p:List Value->ab->Nat),l [PN 0] n/\∀c:Int,∀d,l [PN c] d->cnd (decide (c<(aL3:Int))) (∃b3 o,aA3=some ⟨b3,o,none⟩/\0<=c/\c<(aL3:Nat)/\∃v:Nat,ac d b3 (o+(Int.toNat c)*2)=some (PS v)/\∃b4 o2,bA3=some ⟨b4,o2,none⟩/\0<=c/\c<(bL3:Nat)/\∃w:Nat,ac d b4 (o2+(Int.toNat c)*2)=some (PS w)/\PI 28 #[PS v,PS w] d [h.size,g.size] fun D i=>∃s:Bool,D= PV s/\Fr [] d i/\cnd (!s) (Fr [] d i/\R (PV false) i) (∃b5 o3,aA3=some ⟨b5,o3,none⟩/\0<=c/\c<(aL3:Nat)/\∃x:Nat,ac d b5 ((o3+(Int.toNat c)*2)+1)=some (PS x)/\∃b6 o4,bA3=some ⟨b6,o4,none⟩/\0<=c/\c<(bL3:Nat)/\∃y:Nat,ac d b6 ((o4+(Int.toNat c)*2)+1)=some (PS y)/\PI 28 #[PS x,PS y] i [h.size,g.size] fun E j=>∃t:Bool,E= PV t/\Fr [] d j/\cnd (!t) (R (PV false) j) (l [PN (i64.wrap (c+1))] j/\p [PN (i64.wrap (c+1))] j<p [PN c] d))) (∃(m:LP) (q:List Value->ab->Nat),m [PN 0] d/\∀e:Int,∀f,m [PN e] f->cnd (decide (e<(aL4:Int))) (∃b7 o5,aA4=some ⟨b7,o5,none⟩/\0<=e/\e<(aL4:Nat)/\∃z:Nat,ac f b7 (o5+(Int.toNat e)*1)=some (PS z)/\∃b8 o6,bA4=some ⟨b8,o6,none⟩/\0<=e/\e<(bL4:Nat)/\∃A:Nat,ac f b8 (o6+(Int.toNat e)*1)=some (PS A)/\PI 28 #[PS z,PS A] f [h.size,g.size] fun F k=>∃u:Bool,F= PV u/\Fr [] f k/\cnd (!u) (R (PV false) k) (m [PN (i64.wrap (e+1))] k/\q [PN (i64.wrap (e+1))] k<q [PN e] f)) (R (PV true) f)))
theorem Ja {h:ab} {R:VP} (a:Int) (aA:PY) (aL aC:Nat) (a2:Bool) (aA2:PY) (aL2 aC2:Nat) (aA3:PY) (aL3 aC3:Nat) (aA4:PY) (aL4 aC4:Nat) (b:Int) (bA:PY) (bL bC:Nat) (b2:Bool) (bA2:PY) (bL2 bC2:Nat) (bA3:PY) (bL3 bC3:Nat) (bA4:PY) (bL4 bC4:Nat) (H:S8 a aA aL aC a2 aA2 aL2 aC2 aA3 aL3 aC3 aA4 aL4 aC4 b bA bL bC b2 bA2 bL2 bC2 bA3 bL3 bC3 bA4 bL4 bC4 h R):PJ 8 #[.agg #[PN a,PT aA aL aC,PV a2,PT aA2 aL2 aC2,PT aA3 aL3 aC3,PT aA4 aL4 aC4],.agg #[PN b,PT bA bL bC,PV b2,PT bA2 bL2 bC2,PT bA3 bL3 bC3,PT bA4 bL4 bC4]] h R:=ba [2,3] 67 [(0,⟨[2,3],[5],[2,3],[]⟩),(2,⟨[2,3],[6],[2,3],[]⟩)] [] [] [(6,⟨30,false⟩),(11,⟨12,false⟩)] Tryz.func8 PD PD H
end Go.Proofs.YtmmmmjcfojhiaaaGreatDoor.N
