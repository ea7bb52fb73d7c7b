/- A symbolic heap: chunks that lie apart; what operations and calls make of them. Conditions: none. -/
import Derived.Test.YtemphinmoihdaaaGreatDoorMLex
import GoSem.PinnedTables
import Derived.Lib.ParseIntB
import Derived.Lib.ItoaNum
import Derived.Test.YtemphinmoihdaaaGreatDoorWEnv
import Derived.Test.YtemphinmoihdaaaGreatDoorWShelf
import Derived.Test.YtemphinmoihdaaaGreatDoorMWr4
set_option linter.unusedVariables false
set_option linter.unusedSimpArgs false
namespace Go.X
structure En (α:Type) where
 sz:Nat
 enc:α->List Value
 pos:0<sz
 len:∀x,(enc x).length=sz
 one:∀x,∀v∈enc x,v.oneCell'=true
def En.l {α:Type} (E:En α):List α->List Value
 | []=>[]
 | x::r=>E.enc x++E.l r
section
variable {α:Type} {E:En α}
theorem En.l_append :∀(xs ys:List α),E.l (xs++ys)=E.l xs++E.l ys
 | [],ys=>rfl
 | x::xs,ys=>by simp[En.l,En.l_append xs ys]
theorem En.l_len :∀(xs:List α),(E.l xs).length=xs.length*E.sz
 | []=>by simp[En.l]
 | x::xs=>by simp[En.l,En.l_len xs,E.len,Nat.add_mul];omega
theorem En.l_one :∀(xs:List α),∀v∈E.l xs,v.oneCell'=true
 | [],v,h=>by simp[En.l]at h
 | x::xs,v,h=>by
  simp only[En.l,List.mem_append]at h
  rcases h with h | h
  ·exact E.one x v h
  ·exact En.l_one xs v h
theorem En.l_get :∀{xs:List α} {i t:Nat} {x:α} {v:Value},xs[i]? =some x->(E.enc x)[t]? =some v->(E.l xs)[i*E.sz+t]? =some v
 | [],i,t,x,v,h,_=>by simp at h
 | y::xs,0,t,x,v,h,hv=>by
  simp at h;subst h
  have ht:t<(E.enc y).length:=(List.getElem?_eq_some_iff.1 hv).1
  simp only[En.l,Nat.zero_mul,Nat.zero_add]
  grind
 | y::xs,i+1,t,x,v,h,hv=>by
  simp only[En.l]
  rw[List.getElem?_append_right (by rw[E.len,Nat.add_mul];omega),E.len]
  have:=En.l_get (xs:=xs) (i:=i) (by simpa using h) hv
  rw[show(i+1)*E.sz+t-E.sz=i*E.sz+t by rw[Nat.add_mul];omega]
  exact this
theorem En.l_set :∀{xs:List α} {i t:Nat} {x x':α} {v:Value},xs[i]? =some x->t<E.sz->E.enc x'=(E.enc x).set t v->(E.l xs).set (i*E.sz+t) v=E.l (xs.set i x')
 | [],i,t,x,x',v,h,_,_=>by simp at h
 | y::xs,0,t,x,x',v,h,ht,hv=>by
  simp at h;subst h
  simp only[En.l,Nat.zero_mul,Nat.zero_add,List.set_cons_zero]
  rw[List.set_append_left _ _ (by rw[E.len];exact ht),hv]
 | y::xs,i+1,t,x,x',v,h,ht,hv=>by
  simp only[En.l,List.set_cons_succ]
  rw[List.set_append_right _ _ (by rw[E.len,Nat.add_mul];omega),E.len]
  have:=En.l_set (xs:=xs) (i:=i) (by simpa using h) ht hv
  rw[show(i+1)*E.sz+t-E.sz=i*E.sz+t by rw[Nat.add_mul];omega,this]
theorem En.l_take :∀(xs:List α) (k:Nat),(E.l xs).take (k*E.sz)=E.l (xs.take k)
 | [],k=>by simp[En.l]
 | x::xs,0=>by simp[En.l]
 | x::xs,k+1=>by
  simp only[En.l,List.take_succ_cons]
  rw[List.take_append,E.len,show(k+1)*E.sz-E.sz=k*E.sz by rw[Nat.add_mul];omega,En.l_take xs k,List.take_of_length_le (by rw[E.len,Nat.add_mul];omega)]
theorem En.l_drop :∀(xs:List α) (k:Nat),(E.l xs).drop (k*E.sz)=E.l (xs.drop k)
 | [],k=>by simp[En.l]
 | x::xs,0=>by simp[En.l]
 | x::xs,k+1=>by
  simp only[En.l,List.drop_succ_cons]
  rw[List.drop_append,E.len,show(k+1)*E.sz-E.sz=k*E.sz by rw[Nat.add_mul];omega,En.l_drop xs k,List.drop_of_length_le (by rw[E.len,Nat.add_mul];omega),List.nil_append]
end
def eK (k:IntKind):En Int:=⟨1,fun x=>[.int k x],QA,fun _=>rfl,fun x v h=>by simp at h;subst h;rfl⟩
def eF :En Nat:=⟨1,fun x=>[.float .f64 x],QA,fun _=>rfl,fun x v h=>by simp at h;subst h;rfl⟩
def eS :En ByteArray:=⟨1,fun x=>[.string x],QA,fun _=>rfl,fun x v h=>by simp at h;subst h;rfl⟩
def eP :En (Int × Int):=⟨2,fun x=>[.int .i64 x.1,.int .i64 x.2],QA,fun _=>rfl,fun x v h=>by simp at h;rcases h with rfl | rfl<;>rfl⟩
def eFF :En (Nat × Nat):=⟨2,fun x=>[.float .f64 x.1,.float .f64 x.2],QA,fun _=>rfl,fun x v h=>by simp at h;rcases h with rfl | rfl<;>rfl⟩
structure Ck where
 own:List Nat
 rd:List Nat
 ok:ab->Prop
 lt:∀h,ok h->(∀b∈own,b<h.size)/\(∀b∈rd,b<h.size)
 fr:∀h h',(∀b∈own,h'[b]? =h[b]?)->(∀b∈rd,h'[b]? =h[b]?)->ok h->ok h'
def Ap (c d:Ck):Prop:=∀b∈c.own,b∉d.own/\b∉d.rd
structure Hp (h:ab) (cs:List Ck):Prop where
 ok:∀(k:Nat) (c:Ck),cs[k]? =some c->c.ok h
 ap:∀(i j:Nat) (c d:Ck),i≠j->cs[i]? =some c->cs[j]? =some d->Ap c d
structure Sy (h0:ab) (M:List Nat) (h:ab) (cs:List Ck):Prop where
 fr:Fr M h0 h
 hp:Hp h cs
 ow:∀(k:Nat) (c:Ck),cs[k]? =some c->∀b∈c.own,b∈M\/h0.size<=b
def aF (cs:List Ck):List Nat:=cs.flatMap Ck.own
theorem Hp.nil (h:ab):Hp h []:=⟨fun k c hk=>by simp at hk,fun i j c d _ hc=>by simp at hc⟩
theorem Hp.cons {h:ab} {c:Ck} {cs:List Ck} (hc:c.ok h) (ha:∀(k:Nat) (d:Ck),cs[k]? =some d->Ap c d/\Ap d c) (H:Hp h cs):Hp h (c::cs):=by
 refine⟨fun k d hk=>?_,fun i j d e hij hd he=>?_⟩
 ·cases k with
  | zero=>grind
  | succ k=>exact H.ok k d (by simpa using hk)
 ·cases i with
  | zero=>
   grind
  | succ i=>
   cases j with
   | zero=>grind
   | succ j=>exact H.ap i j d e Qz (by simpa using hd) (by simpa using he)
theorem Hp.view {h:ab} {c:Ck} {cs:List Ck} (hc:c.ok h) (ho:c.own=[]) (H:Hp h cs) (hn:∀(k:Nat) (d:Ck),cs[k]? =some d->∀b∈d.own,b∉c.rd):Hp h (c::cs):=
 Hp.cons hc (fun k d hd=>⟨fun b hb=>by simp[ho]at hb,fun b hb=>⟨by simp[ho],hn k d hd b hb⟩⟩) H
theorem Hp.one {h:ab} {c:Ck} (hc:c.ok h):Hp h [c]:=Hp.cons hc (fun k d hd=>by simp at hd) (Hp.nil h)
theorem Ck.size_le {c:Ck} {h h':ab} (hc:c.ok h) (f:Fr [] h h'):c.ok h':=by
 obtain⟨l1,l2⟩:=c.lt h hc
 exact c.fr h h' (fun b hb=>f.blk b (l1 b hb) QB) (fun b hb=>f.blk b (l2 b hb) QB) hc
theorem Sy.start {h:ab} {cs:List Ck} (H:Hp h cs):Sy h (aF cs) h cs:=
 ⟨Fr.refl _ _,H,fun k c hk b hb=>.inl (by grind [aF])⟩
section
variable {h0 h h':ab} {M:List Nat} {cs:List Ck} {c d:Ck} {i j k:Nat}
theorem Sy.ok (Y:Sy h0 M h cs) (hk:cs[k]? =some c):c.ok h:=Y.hp.ok k c hk
theorem Sy.le (Y:Sy h0 M h cs):h0.size<=h.size:=Y.fr.size
theorem Sy.gr (Y:Sy h0 M h cs) (f:Fr [] h h'):Sy h0 M h' cs:=
 ⟨Y.fr.comp f QB,⟨fun k c hk=>Ck.size_le (Y.hp.ok k c hk) f,Y.hp.ap⟩,Y.ow⟩
theorem Sy.mut (Y:Sy h0 M h cs) (hk:cs[k]? =some c) (c':Ck) (hs:h.size<=h'.size) (hb:∀b,b<h.size->b∉c.own->h'[b]? =h[b]?) (hc:c'.ok h')
  (ho:∀b∈c'.own,b∈c.own\/h.size<=b) (hr:∀b∈c'.rd,b∈c.own\/b∈c.rd\/h.size<=b):Sy h0 M h' (cs.set k c'):=by
 have hkl:=(List.getElem?_eq_some_iff.1 hk).1
 have old:∀(i:Nat) (d:Ck),(cs.set k c')[i]? =some d->(i=k/\d=c')\/(i≠k/\cs[i]? =some d):=by
  grind
 refine⟨⟨Nat.le_trans Y.le hs,fun b hb0 hbm=>?_⟩,⟨fun i d hd=>?_,fun i j d e hij hd he=>?_⟩,fun i d hd b hbo=>?_⟩
 ·rw[hb b (Nat.lt_of_lt_of_le hb0 Y.le) fun hbo=>?_]
  ·exact Y.fr.blk b hb0 hbm
  ·rcases Y.ow k c hk b hbo with q | q
   ·exact hbm q
   ·omega
 ·rcases old i d hd with⟨rfl,rfl⟩ | ⟨hik,hd⟩
  ·exact hc
  ·have hok:=Y.hp.ok i d hd
   obtain⟨l1,l2⟩:=d.lt h hok
   exact d.fr h h' (fun b hbd=>hb b (l1 b hbd) fun q=>(Y.hp.ap k i c d (fun e=>hik e.symm) hk hd b q).1 hbd)
    (fun b hbd=>hb b (l2 b hbd) fun q=>(Y.hp.ap k i c d (fun e=>hik e.symm) hk hd b q).2 hbd) hok
 ·rcases old i d hd with⟨e1,e2⟩ | ⟨hik,hd1⟩
  ·rcases old j e he with⟨e3,_⟩ | ⟨hjk,he1⟩
   ·omega
   ·subst e1;subst e2
    intro b hbo
    have hok:=Y.hp.ok j e he1
    obtain⟨l1,l2⟩:=e.lt h hok
    rcases ho b hbo with q | q
    ·exact Y.hp.ap i j c e Qz hk he1 b q
    grind
  ·rcases old j e he with⟨e1,e2⟩ | ⟨hjk,he1⟩
   ·subst e1;subst e2
    intro b hbo
    have hok:=Y.hp.ok i d hd1
    obtain⟨l1,l2⟩:=d.lt h hok
    have a:=Y.hp.ap i j d c Qz hd1 hk b hbo
    grind
   ·exact Y.hp.ap i j d e hij hd1 he1
 ·rcases old i d hd with⟨rfl,rfl⟩ | ⟨hik,hd⟩
  ·rcases ho b hbo with q | q
   ·exact Y.ow i c hk b q
   ·have:=Y.le;omega
  ·exact Y.ow i d hd b hbo
def To (c c':Ck):Prop:=(∀h,c.ok h->c'.ok h)/\(∀b∈c'.own,b∈c.own)/\(∀b∈c'.rd,b∈c.own\/b∈c.rd)
theorem To.refl (c:Ck):To c c:=⟨fun _ h=>h,fun _ h=>h,fun _ h=>.inr h⟩
theorem Sy.turn (Y:Sy h0 M h cs) (k:Nat) (hk:cs[k]? =some c) {c':Ck} (t:To c c'):Sy h0 M h (cs.set k c'):=
 Y.mut hk c' (Nat.le_refl _) (fun _ _ _=>rfl) (t.1 h (Y.ok hk)) (fun b hb=>.inl (t.2.1 b hb)) (fun b hb=>(t.2.2 b hb).imp id .inl)
theorem Sy.add (Y:Sy h0 M h cs) (f:Fr [] h h') (c:Ck) (hc:c.ok h') (ho:∀b∈c.own,h.size<=b) (hr:∀b∈c.rd,h.size<=b):Sy h0 M h' (cs++[c]):=by
 have Y':=Y.gr f
 have old:∀(i:Nat) (d:Ck),(cs++[c])[i]? =some d->(i=cs.length/\d=c)\/(i≠cs.length/\cs[i]? =some d):=by
  grind
 refine⟨Y'.fr,⟨fun i d hd=>?_,fun i j d e hij hd he=>?_⟩,fun i d hd b hbo=>?_⟩
 ·rcases old i d hd with⟨rfl,rfl⟩ | ⟨_,hd⟩
  ·exact hc
  ·exact Y'.hp.ok i d hd
 ·rcases old i d hd with⟨e1,e2⟩ | ⟨hi,hd1⟩
  ·rcases old j e he with⟨e3,_⟩ | ⟨hj,he1⟩
   ·omega
   ·subst e2
    intro b hbo
    obtain⟨l1,l2⟩:=e.lt h (Y.hp.ok j e he1)
    grind
  ·rcases old j e he with⟨e1,e2⟩ | ⟨hj,he1⟩
   ·subst e2
    intro b hbo
    obtain⟨l1,l2⟩:=d.lt h (Y.hp.ok i d hd1)
    grind
   ·exact Y'.hp.ap i j d e hij hd1 he1
 ·rcases old i d hd with⟨rfl,rfl⟩ | ⟨_,hd⟩
  ·have:=ho b hbo;have:=Y.le;omega
  ·exact Y.ow i d hd b hbo
theorem Sy.addN (Y:Sy h0 M h cs) (c:Ck) (hc:c.ok h) (ho:c.own=[]) (hr:c.rd=[]):Sy h0 M h (cs++[c]):=
 Y.add (Fr.refl _ _) c hc (by simp[ho]) (by simp[hr])
def pk (cs:List Ck):List Nat->List Ck
 | []=>[]
 | i::r=>match cs[i]? with
  | some c=>c::pk cs r
  | none=>pk cs r
def ib (n:Nat):List Nat->Bool
 | []=>true
 | i::r=>Nat.blt i n&& !(r.any (Nat.beq i))&&ib n r
theorem ja :∀{l:List Nat} {k:Nat} {c:Ck},ib cs.length l=true->(pk cs l)[k]? =some c->∃i,l[k]? =some i/\cs[i]? =some c
 | [],k,c,_,h=>by simp[pk]at h
 | i::r,k,c,hc,h=>by
  simp only[ib,Bool.and_eq_true]at hc
  have hi:i<cs.length:=by simp_all
  simp only[pk,List.getElem?_eq_getElem hi]at h
  cases k with
  | zero=>simp at h;subst h;exact⟨i,rfl,List.getElem?_eq_getElem hi⟩
  | succ k=>
   obtain⟨j,h1,h2⟩:=ja hc.2 (by simpa using h)
   exact⟨j,by simpa using h1,h2⟩
theorem vS :∀{l:List Nat} {n p q i:Nat},ib n l=true->l[p]? =some i->l[q]? =some i->p=q
 | [],_,_,_,_,_,h,_=>by simp at h
 | x::r,n,p,q,i,hc,hp,hq=>by
  simp only[ib,Bool.and_eq_true,Bool.not_eq_true']at hc
  have nx:∀m,r[m]? ≠some x:=fun m hm=>by
   have:r.any (Nat.beq x)=true:=List.any_eq_true.2 ⟨x,List.mem_of_getElem? hm,QB⟩
   grind
  cases p with
  | zero=>
   grind
  | succ p=>
   cases q with
   | zero=>grind
   | succ q=>exact congrArg (· +1) (vS hc.2 (by simpa using hp) (by simpa using hq))
theorem Hp.pick (H:Hp h cs) (l:List Nat) (hc:ib cs.length l=true):Hp h (pk cs l):=by
 refine⟨fun k c hk=>?_,fun i j c d hij hi hj=>?_⟩
 ·obtain⟨i,_,h2⟩:=ja hc hk
  exact H.ok i c h2
 ·obtain⟨p,h1,h2⟩:=ja hc hi
  obtain⟨q,h3,h4⟩:=ja hc hj
  exact H.ap p q c d (fun e=>hij (by subst e;exact vS hc h1 h3)) h2 h4
theorem Sy.pick (Y:Sy h0 M h cs) (l:List Nat) (hc:ib cs.length l=true):Sy h0 M h (pk cs l):=
 ⟨Y.fr,Y.hp.pick l hc,fun k c hk b hb=>by obtain⟨i,_,h2⟩:=ja hc hk;exact Y.ow i c h2 b hb⟩
def Nv :List Ck->Prop
 | []=>True
 | c::cs=>c.rd=[]/\Nv cs
theorem Nv.get :∀{cs:List Ck} {k:Nat} {c:Ck},Nv cs->cs[k]? =some c->c.rd=[]
 | [],k,c,_,h=>by simp at h
 | d::cs,0,c,n,h=>by simp at h;subst h;exact n.1
 | d::cs,k+1,c,n,h=>Nv.get n.2 (by simpa using h)
theorem Sy.call {A B cs':List Ck} (Y:Sy h0 M h (A++B)) (P:Sy h (aF A) h' cs') (nv:Nv cs'):Sy h0 M h' (cs'++B):=by
 have inA:∀b∈aF A,∃(k:Nat) (c:Ck),(A++B)[k]? =some c/\k<A.length/\b∈c.own:=by
  intro b hb
  simp only[aF,List.mem_flatMap]at hb
  obtain⟨c,hc,hb⟩:=hb
  obtain⟨k,hk,rfl⟩:=List.getElem_of_mem hc
  exact⟨k,A[k],QD,hk,hb⟩
 have ofB:∀(k:Nat) (c:Ck),B[k]? =some c->(A++B)[A.length+k]? =some c:=by
  grind
 have okB:∀(k:Nat) (c:Ck),B[k]? =some c->c.ok h':=by
  intro k c hk
  have hk':=ofB k c hk
  have hok:=Y.hp.ok _ c hk'
  obtain⟨l1,l2⟩:=c.lt h hok
  refine c.fr h h' (fun b hb=>P.fr.blk b (l1 b hb) fun q=>?_) (fun b hb=>P.fr.blk b (l2 b hb) fun q=>?_) hok
  ·obtain⟨i,d,h1,h2,h3⟩:=inA b q
   exact(Y.hp.ap i (A.length+k) d c Qz h1 hk' b h3).1 hb
  ·obtain⟨i,d,h1,h2,h3⟩:=inA b q
   exact(Y.hp.ap i (A.length+k) d c Qz h1 hk' b h3).2 hb
 have parts:∀(k:Nat) (c:Ck),(cs'++B)[k]? =some c->(k<cs'.length/\cs'[k]? =some c)\/(cs'.length<=k/\B[k-cs'.length]? =some c):=by
  grind
 have own':∀(k:Nat) (c:Ck),cs'[k]? =some c->∀b∈c.own,b∈aF A\/h.size<=b:=P.ow
 refine⟨Y.fr.comp P.fr fun b hb=>?_,⟨fun k c hk=>?_,fun i j c d hij hi hj=>?_⟩,fun k c hk b hb=>?_⟩
 ·obtain⟨i,d,h1,_,h3⟩:=inA b hb
  exact Y.ow i d h1 b h3
 ·rcases parts k c hk with⟨_,hk⟩ | ⟨_,hk⟩
  ·exact P.hp.ok k c hk
  grind
 ·rcases parts i c hi with⟨hl,hi⟩ | ⟨hl,hi⟩
  ·rcases parts j d hj with⟨hl2,hj⟩ | ⟨hl2,hj⟩
   ·exact P.hp.ap i j c d hij hi hj
   ·intro b hb
    have hj':=ofB _ d hj
    obtain⟨l1,l2⟩:=d.lt h (Y.hp.ok _ d hj')
    rcases own' i c hi b hb with q | q
    ·obtain⟨p,e,h1,h2,h3⟩:=inA b q
     exact Y.hp.ap p _ e d Qz h1 hj' b h3
    grind
  ·rcases parts j d hj with⟨hl2,hj⟩ | ⟨hl2,hj⟩
   ·intro b hb
    have hi':=ofB _ c hi
    obtain⟨l1,l2⟩:=c.lt h (Y.hp.ok _ c hi')
    have hbl:=l1 b hb
    refine⟨fun x=>?_,fun x=>?_⟩
    ·rcases own' j d hj b x with q | q
     ·obtain⟨p,e,h1,h2,h3⟩:=inA b q
      exact(Y.hp.ap p _ e c Qz h1 hi' b h3).1 hb
     ·omega
    ·rw[nv.get hj]at x;simp at x
   ·exact Y.hp.ap _ _ c d Qz (ofB _ c hi) (ofB _ d hj)
 ·rcases parts k c hk with⟨_,hk⟩ | ⟨_,hk⟩
  ·rcases own' k c hk b hb with q | q
   ·obtain⟨i,d,h1,_,h3⟩:=inA b q
    exact Y.ow i d h1 b h3
   ·have:=Y.le;omega
  ·exact Y.ow _ c (ofB _ c hk) b hb
end
end Go.X
/- The chunks: slices of one's own, views, slices of slices, blocks behind pointers; what reads and writes make of them. Conditions: none. -/
namespace Go.X
theorem yu {h h':ab} {b:Nat} (hb:b<h.size) (e:h'[b]? =h[b]?):b<h'.size:=by
 grind
def oA (a:QR):Nat->List Nat
 | 0=>[]
 | _+1=>ai a
theorem lP {a:QR} {n b:Nat} (h:b∈oA a n):b∈ai a:=by
 cases n<;>grind [oA]
theorem LX {a:QR} {b o n:Nat} (e:a=some ⟨b,o,none⟩) (hn:0<n):b∈oA a n:=by
 cases n<;>grind [oA,ai]
theorem Reads.lt {h:ab} {sz n:Nat} {a:QR} {xs:List Value} (r:Reads h sz a n xs) (hs:0<sz):∀b∈oA a n,b<h.size:=by
 intro b hb
 cases n with
 | zero=>simp[oA]at hb
 | succ n=>
  rcases r.2 with⟨_,h0⟩ | ⟨b',o,e,hc⟩
  ·omega
  ·subst e
   simp[oA,ai]at hb;subst hb
   have hl:0<xs.length:=by rw[r.1];grind
   exact bk (hc 0 _ (List.getElem?_eq_getElem hl))
theorem Reads.at2 {h h':ab} {sz n:Nat} {a:QR} {xs:List Value} (r:Reads h sz a n xs) (he:∀b∈oA a n,h'[b]? =h[b]?):Reads h' sz a n xs:=by
 obtain⟨h1,h2⟩:=r
 refine⟨h1,h2.imp id ?_⟩
 rintro⟨b,o,rfl,h3⟩
 refine⟨b,o,rfl,fun j v hj=>?_⟩
 rw[dW (he b ?_)]
 ·exact h3 j v hj
 ·cases n with
  | zero=>grind
  | succ n=>simp[oA,ai]
def Ck.junk (b:Nat):Ck:=⟨[b],[],fun h=>b<h.size,fun h hb=>⟨by simpa using hb,QB⟩,fun h h' he _ hb=>yu hb (he b QB)⟩
def Ck.sl {α:Type} (E:En α) (ty:TypeId) (a:QR) (n c:Nat) (xs:List α):Ck:=
 ⟨ai a,[],fun h=>ar h ty E.sz a n c (E.l xs)/\xs.length=n,fun h o=>⟨o.1.lt,QB⟩,fun h h' he _ o=>⟨o.1.blk he,o.2⟩⟩
def Ck.vw {α:Type} (E:En α) (a:QR) (n c:Nat) (xs:List α):Ck:=
 ⟨[],oA a n,fun h=>Reads h E.sz a n (E.l xs)/\xs.length=n/\n<=c/\(a=none->c=0),fun h o=>⟨QB,o.1.lt E.pos⟩,fun h h' _ he o=>⟨o.1.at2 he,o.2⟩⟩
def Ck.ob (b:Nat) (ty:TypeId) (cells:List Value):Ck:=
 ⟨[b],[],fun h=>h[b]? =some (.cells cells.toArray ty (0,0)),fun h o=>⟨QD,QB⟩,fun h h' he _ o=>(he b QB).trans o⟩
def Ck.vob (b o:Nat) (cells:List Value):Ck:=
 ⟨[],[b],fun h=>b<h.size/\∀(j:Nat) (v:Value),cells[j]? =some v->ac h b (o+j)=some v,fun h o=>⟨QB,by simpa using o.1⟩,
  fun h h' _ he o=>⟨yu o.1 (he b QB),fun j v hj=>by grind [dW]⟩⟩
section
variable {α:Type} {E:En α} {h0 h h':ab} {M:List Nat} {cs:List Ck} {ty t1 t2:TypeId} {a:QR} {n c:Nat} {xs ys:List α} {xss:List (List α)} {b o:Nat} {cells:List Value} {P:Nat->Bool}
theorem Sy.atS (Y:Sy h0 M h cs) (k:Nat) (hk:cs[k]? =some (Ck.sl E ty a n c xs)) {i:Int} (hi:0<=i) (hn:i<(n:Int)):
  ∃b,a=some ⟨b,0,none⟩/\b∈(Ck.sl E ty a n c xs).own/\∃x,xs[i.toNat]? =some x:=by
 obtain⟨ow,ln⟩:=Y.ok hk
 obtain⟨g,cur,e,_⟩:=ow.at Qz
 exact⟨g,e,by show g∈ai a;simp[e,ai],_,List.getElem?_eq_getElem Qz⟩
theorem Sy.cellS (Y:Sy h0 M h cs) (k:Nat) (hk:cs[k]? =some (Ck.sl E ty a n c xs)) (ha:a=some ⟨b,0,none⟩) {i t:Nat} {x:α} {v:Value} (hx:xs[i]? =some x) (hv:(E.enc x)[t]? =some v):
  ac h b (0+i*E.sz+t)=some v:=by
 subst ha
 rw[Nat.zero_add]
 exact(Y.ok hk).1.cell (En.l_get hx hv)
theorem Sy.freeS (Y:Sy h0 M h cs) (k:Nat) (hk:cs[k]? =some (Ck.sl E ty a n c xs)) (ha:a=some ⟨b,0,none⟩) (o:Nat):au h b o=true:=by
 subst ha
 exact(Y.ok hk).1.free o
theorem Sy.lenS (Y:Sy h0 M h cs) (k:Nat) (hk:cs[k]? =some (Ck.sl E ty a n c xs)):n=xs.length:=(Y.ok hk).2.symm
theorem Sy.ownS (Y:Sy h0 M h cs) (k:Nat) (hk:cs[k]? =some (Ck.sl E ty a n c xs)):ar h ty E.sz a n c (E.l xs):=(Y.ok hk).1
theorem Sy.readsS (Y:Sy h0 M h cs) (k:Nat) (hk:cs[k]? =some (Ck.sl E ty a n c xs)):Reads h E.sz a n (E.l xs):=(Y.ok hk).1.reads
theorem ar.nc {h:ab} {e sz n c:Nat} {a:QR} {xs:List Value} (o:ar h e sz a n c xs):a=none->c=0:=by
 rintro rfl
 rcases o.2 with⟨_,_,h⟩ | ⟨g,cur,h,_⟩
 ·exact h
 ·cases h
theorem Sy.capS (Y:Sy h0 M h cs) (k:Nat) (hk:cs[k]? =some (Ck.sl E ty a n c xs)):n<=c/\c<=maxLen/\(a=none->c=0):=⟨(Y.ok hk).1.cap.1,(Y.ok hk).1.cap.2,(Y.ok hk).1.nc⟩
theorem Sy.nilS (Y:Sy h0 M h cs) (E:En α) (ty:TypeId):Sy h0 M h (cs++[Ck.sl E ty none 0 0 []]):=
 Y.addN _ ⟨ar.nil _ _ _,rfl⟩ rfl rfl
theorem Sy.litS (Y:Sy h0 M h cs) {vs:Array Value} (ys:List α) (hv:(E.l ys).toArray=vs) (hn:ys.length<=maxLen):Sy h0 M (h.push (.cells vs ty)) (cs++[Ck.sl E ty (some ⟨h.size,0,none⟩) ys.length ys.length ys]):=by
 subst hv
 exact Y.add (Fr.push h _) _ ⟨IG (En.l_len ys) hn,rfl⟩ (by simp[Ck.sl,ai]) (by simp[Ck.sl])
theorem yw (z:α) (n:Nat):(madeCells (E.enc z).toArray (n*E.sz)).toList=E.l (List.replicate n z):=by
 have hp:=E.pos
 apply List.ext_getElem?
 intro j
 have hl:(E.l (List.replicate n z)).length=n*E.sz:=by rw[En.l_len];simp
 by_cases hj:j<n*E.sz
 ·have h1:(madeCells (E.enc z).toArray (n*E.sz)).toList[j]? =some (((E.enc z).toArray)[j % E.sz]!):=by
   simp[madeCells,hj,E.len]
  have hm:j % E.sz<E.sz:=Nat.mod_lt _ hp
  have hm2:j % E.sz<(E.enc z).length:=by rw[E.len];exact hm
  have h2:(List.replicate n z)[j/E.sz]? =some z:=by
   rw[List.getElem?_replicate,if_pos ((Nat.div_lt_iff_lt_mul hp).2 hj)]
  grind [En.l_get,Nat.mul_comm,Nat.div_add_mod]
 grind [size_madeCells]
theorem Sy.mkS (Y:Sy h0 M h cs) (z:α) (m n:Nat) (hnm:n<=m) (hm:m<=maxLen):
  Sy h0 M (h.push (.cells (madeCells (E.enc z).toArray (m*E.sz)) ty)) (cs++[Ck.sl E ty (some ⟨h.size,0,none⟩) n m (List.replicate n z)]):=by
 refine Y.add (Fr.push h _) _ ⟨⟨by simp[En.l_len],.inr ⟨h.size,_,rfl,.of bK,hnm,hm,by simp[size_madeCells],?_⟩⟩,QB⟩ (by simp[Ck.sl,ai]) (by simp[Ck.sl])
 grind [yw,En.l_take]
theorem Sy.stS (Y:Sy h0 M h cs) (k:Nat) (hk:cs[k]? =some (Ck.sl E ty a n c xs)) (ha:a=some ⟨b,0,none⟩) {i t:Nat} {x:α} (x':α) {v:Value} (hx:xs[i]? =some x) (ht:t<E.sz) (hv:E.enc x'=(E.enc x).set t v):
  Sy h0 M (am h b (0+i*E.sz+t) v) (cs.set k (Ck.sl E ty a n c (xs.set i x'))):=by
 subst ha
 obtain⟨ow,ln⟩:=Y.ok hk
 refine Y.mut hk _ QB (fun d _ hd=>gI (by grind [Ck.sl,ai])) ⟨?_,by simpa using ln⟩ (fun d hd=>.inl hd) (fun d hd=>by simp[Ck.sl]at hd)
 have:=ow.set (0+i*E.sz+t) v
 rw[Nat.zero_add,En.l_set hx ht hv]at this
 grind
theorem Sy.st1 (Y:Sy h0 M h cs) (k:Nat) (hk:cs[k]? =some (Ck.sl E ty a n c xs)) (ha:a=some ⟨b,0,none⟩) {i:Nat} (x':α) {v:Value} (hi:i<n) (hv:E.enc x'=[v]):
  Sy h0 M (am h b (0+i*E.sz) v) (cs.set k (Ck.sl E ty a n c (xs.set i x'))):=by
 have hs:E.sz=1:=by have:=E.len x';grind
 have hl:=Y.lenS k hk
 have hx:xs[i]? =some xs[i]:=List.getElem?_eq_getElem Qz
 have e:∀y,∃u,E.enc y=[u]:=fun y=>by
  have:=E.len y;rw[hs]at this
  exact List.length_eq_one_iff.1 this
 obtain⟨u,hu⟩:=e xs[i]
 have:=Y.stS k hk ha (t:=0) x' (v:=v) hx Qz QD
 omega
theorem Sy.appS (Y:Sy h0 M h cs) (k:Nat) (hk:cs[k]? =some (Ck.sl E ty a n c xs)) {sA:QR} {sC m:Nat} {vs:List Value} (ys:List α) (ow:ar h' ty E.sz sA (n+m) sC (E.l xs++vs)) (f:Fr (ai a) h h')
  (g:(sA=a/\sC=c)\/∃g,sA=some ⟨g,0,none⟩/\h.size<=g) (hv:E.l ys=vs) (hm:ys.length=m):Sy h0 M h' (cs.set k (Ck.sl E ty sA (n+m) sC (xs++ys))):=by
 have hl:=Y.lenS k hk
 refine Y.mut hk _ f.size (fun d hd hn=>f.blk d hd hn) ⟨by rw[En.l_append,hv];exact ow,by simp[hm,hl]⟩ (fun d hd=>?_) (fun d hd=>by simp[Ck.sl]at hd)
 grind [Ck.sl,ai]
theorem Sy.atV (Y:Sy h0 M h cs) (k:Nat) (hk:cs[k]? =some (Ck.vw E a n c xs)) {i:Int} (hi:0<=i) (hn:i<(n:Int)):
  ∃b o,a=some ⟨b,o,none⟩/\b∈(Ck.vw E a n c xs).rd/\∃x,xs[i.toNat]? =some x:=by
 obtain⟨r,ln,_⟩:=Y.ok hk
 obtain⟨b,o,e,_⟩:=r.at Qz
 exact⟨b,o,e,LX e Qz,_,List.getElem?_eq_getElem Qz⟩
theorem Sy.cellV (Y:Sy h0 M h cs) (k:Nat) (hk:cs[k]? =some (Ck.vw E a n c xs)) (ha:a=some ⟨b,o,none⟩) {i t:Nat} {x:α} {v:Value} (hx:xs[i]? =some x) (hv:(E.enc x)[t]? =some v):
  ac h b (o+i*E.sz+t)=some v:=by
 obtain⟨r,ln,_⟩:=Y.ok hk
 rcases r.2 with⟨h1,h2⟩ | ⟨b',o',e,hc⟩
 ·grind
 ·rw[e]at ha;simp at ha;obtain⟨rfl,rfl⟩:=ha
  rw[Nat.add_assoc]
  exact hc _ _ (En.l_get hx hv)
theorem Sy.lenV (Y:Sy h0 M h cs) (k:Nat) (hk:cs[k]? =some (Ck.vw E a n c xs)):n=xs.length:=(Y.ok hk).2.1.symm
theorem Sy.readsV (Y:Sy h0 M h cs) (k:Nat) (hk:cs[k]? =some (Ck.vw E a n c xs)):Reads h E.sz a n (E.l xs):=(Y.ok hk).1
theorem Sy.capV (Y:Sy h0 M h cs) (k:Nat) (hk:cs[k]? =some (Ck.vw E a n c xs)):n<=c/\(a=none->c=0):=(Y.ok hk).2.2
theorem To.slvw :To (Ck.sl E ty a n c xs) (Ck.vw E a n c xs):=
 ⟨fun h o=>⟨o.1.reads,o.2,o.1.cap.1,o.1.nc⟩,by simp[Ck.vw],fun b hb=>.inl (lP hb)⟩
theorem Sy.junk (Y:Sy h0 M h cs) (x:Obj):Sy h0 M (h.push x) (cs++[Ck.junk h.size]):=
 Y.add (Fr.push h x) _ (by simp[Ck.junk]) (by simp[Ck.junk]) (by simp[Ck.junk])
theorem Sy.stJ (Y:Sy h0 M h cs) (k:Nat) (hk:cs[k]? =some (Ck.junk b)) (o:Nat) (v:Value):Sy h0 M (am h b o v) cs:=by
 have:=Y.mut (h':=am h b o v) hk (Ck.junk b) QB (fun d _ hd=>gI (by rintro rfl;exact hd (by simp[Ck.junk]))) (by have:=Y.ok hk;simpa[Ck.junk]using this) (fun d hd=>.inl hd) (fun d hd=>by grind)
 have e:cs.set k (Ck.junk b)=cs:=by
  apply List.ext_getElem?
  grind
 rwa[e]at this
theorem Sy.newO (Y:Sy h0 M h cs) (vs:List Value):Sy h0 M (h.push (.cells vs.toArray ty)) (cs++[Ck.ob h.size ty vs]):=
 Y.add (Fr.push h _) _ bK (by simp[Ck.ob]) (by simp[Ck.ob])
theorem Sy.cellO (Y:Sy h0 M h cs) (k:Nat) (hk:cs[k]? =some (Ck.ob b ty cells)) (j:Nat) {v:Value} (hv:cells[j]? =some v):ac h b j=some v:=by
 rw[aQ (Y.ok hk)];simpa using hv
theorem Sy.freeO (Y:Sy h0 M h cs) (k:Nat) (hk:cs[k]? =some (Ck.ob b ty cells)) (j:Nat):au h b j=true:=lK (Y.ok hk) j
theorem Sy.stO (Y:Sy h0 M h cs) (k:Nat) (hk:cs[k]? =some (Ck.ob b ty cells)) (j:Nat) (v:Value):Sy h0 M (am h b j v) (cs.set k (Ck.ob b ty (cells.set j v))):=
 Y.mut hk _ QB (fun d _ hd=>gI (by rintro rfl;exact hd (by simp[Ck.ob]))) (by
  have:=cJ (o:=j) (v:=v) (Y.ok hk)
  simpa[Ck.ob]using this) (fun d hd=>.inl hd) (fun d hd=>by simp[Ck.ob]at hd)
theorem Sy.cellW (Y:Sy h0 M h cs) (k:Nat) (hk:cs[k]? =some (Ck.vob b o cells)) (j:Nat) {v:Value} (hv:cells[j]? =some v):ac h b (o+j)=some v:=(Y.ok hk).2 j v hv
theorem To.obvob :To (Ck.ob b ty cells) (Ck.vob b 0 cells):=
 ⟨fun h hb=>⟨Fy hb,fun j v hv=>by rw[aQ hb,Nat.zero_add];simpa using hv⟩,by simp[Ck.vob],fun d hd=>.inl hd⟩
theorem Sy.ne (Y:Sy h0 M h cs) (i j:Nat) (hij:i≠j) {c d:Ck} (hi:cs[i]? =some c) (hj:cs[j]? =some d) {x y:Nat} (hx:x∈c.own) (hy:y∈d.own):x≠y:=by
 rintro rfl
 exact(Y.hp.ap i j c d hij hi hj x hx).1 hy
theorem Sy.neJ (Y:Sy h0 M h cs) (i j:Nat) (hij:Nat.beq i j=false) {c:Ck} {y:Nat} (hi:cs[i]? =some c) (hj:cs[j]? =some (Ck.junk y)) {x:Nat} (hx:x∈c.own):x≠y:=
 Y.ne i j (fun e=>by simp_all) hi hj hx (by simp[Ck.junk])
theorem Sy.nJ (Y:Sy h0 M h cs) (i j:Nat) (hij:Nat.beq i j=false) {c:Ck} {y:Nat} (hi:cs[i]? =some c) (hj:cs[j]? =some (Ck.junk y)):y∉c.own:=
 fun hx=>Y.neJ i j hij hi hj hx rfl
theorem Sy.nO (Y:Sy h0 M h cs) (j:Nat) (l:List Nat) (hc:ib cs.length (j::l)=true) {y:Nat} (hj:cs[j]? =some (Ck.junk y)):y∉aF (pk cs l):=by
 intro hy
 simp only[aF,List.mem_flatMap]at hy
 obtain⟨d,h1,h2⟩:=hy
 obtain⟨p,hp,rfl⟩:=List.getElem_of_mem h1
 have hc':ib cs.length l=true:=by simp only[ib,Bool.and_eq_true]at hc;exact hc.2
 obtain⟨q,hq,hq2⟩:=ja hc' (List.getElem?_eq_getElem hp)
 have hne:j≠q:=fun e=>by
  subst e
  have h1:(j::l)[0]? =some j:=rfl
  have h2:(j::l)[p+1]? =some j:=by simpa using hq
  have:=vS hc h1 h2
  omega
 exact(Y.hp.ap j q _ _ hne hj hq2 y (by simp[Ck.junk])).1 h2
end
end Go.X
/- Rows in chunks; calls, loops over chunks. Conditions: none. -/
namespace Go.X
section
variable {α:Type} {E:En α} {h0 h h':ab} {M:List Nat} {cs:List Ck} {ty t1 t2:TypeId} {a:QR} {n c:Nat} {xs ys:List α} {xss:List (List α)} {b o:Nat} {cells:List Value} {P:Nat->Bool}
theorem Sy.startM (H:Hp h cs) (e:aF cs=M):Sy h M h cs:=e▸Sy.start H
theorem Sy.call2 {A B cs':List Ck} {MA:List Nat} (Y:Sy h0 M h cs) (l:List Nat) (hl:ib cs.length l=true) (e:pk cs l=A++B) (hM:aF A=MA) (P:Sy h MA h' cs') (nv:Nv cs'):Sy h0 M h' (cs'++B):=by
 subst hM
 exact Sy.call (e▸Y.pick l hl) P nv
theorem Sy.callV {cs':List Ck} (Y:Sy h0 M h cs) (P:Sy h [] h' cs') (nv:Nv cs'):Sy h0 M h' (cs++cs'):=by
 have Y1:Sy h0 M h' (cs'++cs):=Sy.call (A:=[]) Y P nv
 have g1:∀(i:Nat) (d:Ck),(cs++cs')[i]? =some d->∃j,(cs'++cs)[j]? =some d/\j=if i<cs.length then cs'.length+i else i-cs.length:=by
  grind
 refine⟨Y1.fr,⟨fun i d hd=>?_,fun i j d e hij hd he=>?_⟩,fun i d hd=>?_⟩
 ·obtain⟨p,h1,_⟩:=g1 i d hd;exact Y1.hp.ok p d h1
 ·obtain⟨p,h1,h2⟩:=g1 i d hd
  obtain⟨q,h3,h4⟩:=g1 j e he
  refine Y1.hp.ap p q d e ?_ h1 h3
  grind
 ·obtain⟨p,h1,_⟩:=g1 i d hd;exact Y1.ow p d h1
theorem ak {Pr:Program} {f:FuncId} {args:Array Value} {H MA:List Nat} {R K:Value->ab->Prop} (c:ae Pr f args h R) (hf:∀v h',R v h'->Fr MA h h') (hH:∀b∈H,b∉MA) (k:∀v h',R v h'->K v h'):aj Pr f args h H K:=
 ⟨MA,R,c.mono fun v h' r=>⟨hf v h' r,r⟩,hH,fun v h' _ r=>k v h' r⟩
theorem aI {P:Nat->Prop}:∀b∈([]:List Nat),P b:=fun _ h=>by cases h
theorem bQ {P:Nat->Prop} {x:Nat} {l:List Nat} (h:P x) (t:∀b∈l,P b):∀b∈x::l,P b:=List.forall_mem_cons.2 ⟨h,t⟩
theorem ag {x:Bool} {A B A' B':Prop} (T:cnd x A B) (a:A->A') (b:B->B'):cnd x A' B':=⟨fun h=>a (T.1 h),fun h=>b (T.2 h)⟩
open Classical in
noncomputable def Lm (J : Nat -> List Value -> ab -> Prop) (l : List Value) (h : ab) : Nat := if e : ∃ k, J k l h then (least e).choose else 0
theorem gd {J:Nat->List Value->ab->Prop} {l:List Value} (e:∃k,J k l h):∃k,J k l h/\Lm J l h=k:=by
 refine⟨(least e).choose,(least e).choose_spec.1,?_⟩
 rw[Lm,dif_pos e]
theorem cK {J:Nat->List Value->ab->Prop} {l l':List Value} {k k':Nat} (hm:Lm J l h=k) (j:J k' l' h') (lt:k'<k):(∃k,J k l' h')/\Lm J l' h'<Lm J l h:=by
 refine⟨⟨k',j⟩,?_⟩
 have e:∃k,J k l' h':=⟨k',j⟩
 rw[hm,Lm,dif_pos e]
 grind
theorem Sy.cut (Y:Sy h0 M h cs) (v f:List Nat) (hc:ib cs.length (v++f)=true):∃B,B=pk cs f/\Sy h0 M h (pk cs v++B):=by
 refine⟨_,rfl,?_⟩
 have e:∀(v:List Nat),pk cs (v++f)=pk cs v++pk cs f:=by
  intro v
  induction v<;>grind [pk]
 rw[<-e]
 exact Y.pick _ hc
end
end Go.X
/- Two chunks at once: rows that come in, rows that are picked out. Conditions: none. -/
namespace Go.X
section
variable {α:Type} {E:En α} {h0 h h':ab} {M:List Nat} {cs:List Ck} {ty t1 t2:TypeId} {a:QR} {n c:Nat} {xs ys:List α} {xss:List (List α)} {b o:Nat} {A B:Ck} {k j:Nat}
theorem vT {n k:Nat} (h:n<1000000000000) (hk:k<=140):n*k<=140737488355328:=Nat.le_trans (Nat.mul_le_mul (Nat.le_of_lt h) hk) QA
theorem vU {n:Nat} (h:n<1000000000000):n<=maxLen:=by simp only[maxLen];omega
theorem pv {β:Type} {l:List β} (nd:l.Nodup) {p q:Nat} {x:β} (hp:l[p]? =some x) (hq:l[q]? =some x):p=q:=by
 obtain⟨l1,g1⟩:=List.getElem?_eq_some_iff.1 hp
 obtain⟨l2,g2⟩:=List.getElem?_eq_some_iff.1 hq
 rcases Nat.lt_trichotomy p q with h | h | h
 ·exact absurd (g1.trans g2.symm) (List.pairwise_iff_getElem.1 nd p q l1 l2 h)
 ·exact h
 ·exact absurd (g2.trans g1.symm) (List.pairwise_iff_getElem.1 nd q p l2 l1 h)
end
theorem LY {N:List Nat} {g:Nat}:∀x∈aF [],x∈N\/g<=x:=fun x h=>by simp[aF]at h
theorem LZ {N:List Nat} {g:Nat} {c:Ck} {cs:List Ck} (h:∀x∈c.own,x∈N\/g<=x) (t:∀x∈aF cs,x∈N\/g<=x):∀x∈aF (c::cs),x∈N\/g<=x:=by
 grind [aF]
theorem az {P:Program} {f:FuncId} {args:Array Value} {h:ab} {H:List Nat} {K E R Rp:Value->ab->Prop} (M:List Nat) (c:aB P f args h R Rp) (hm:∀b∈H,b∉M)
  (f1:∀v h',R v h'->Fr M h h') (f2:∀v h',Rp v h'->Fr M h h') (k:∀v h',R v h'->K v h') (e:∀v h',Rp v h'->E v h'):aw P f args h H K E:=
 ⟨M,R,Rp,c.mono (fun v h' r=>⟨f1 v h' r,r⟩) (fun v h' r=>⟨f2 v h' r,r⟩),hm,fun v h' _ r=>k v h' r,fun v h' _ r=>e v h' r⟩
theorem ao {P:Program} {f:FuncId} {args:Array Value} {h:ab} {H:List Nat} {K R:Value->ab->Prop} (M:List Nat) (c:ae P f args h R) (hm:∀b∈H,b∉M)
  (f1:∀v h',R v h'->Fr M h h') (k:∀v h',R v h'->K v h'):aj P f args h H K:=
 ⟨M,R,c.mono (fun v h' r=>⟨f1 v h' r,r⟩),hm,fun v h' _ r=>k v h' r⟩
theorem bV {P:Program} {f:FuncId} {args:Array Value} {h:ab} {H:List Nat} {K:Value->ab->Prop} {v0:Value} (c:ae P f args h fun v h'=>v=v0/\h'=h) (k:K v0 h):aj P f args h H K:=
 ao [] c QB (fun _ _ r=>Fr.of_eq r.2) fun v h' r=>by grind
structure Lx (h:ab) (b:Nat) (s:ByteArray) (i:Nat):Prop where
 c0:ac h b 0=some (.string s)
 c1:ac h b 1=some (.int .i64 (i:Int))
 fr:au h b 1=true
structure Mv (b:Nat) (h h':ab) (j:Nat):Prop where
 lt:b<h.size
 fr:Fr [b] h h'
 at_:h'[b]? =(am h b 1 (.int .i64 (j:Int)))[b]?
theorem Lx.lt {h:ab} {b:Nat} {s:ByteArray} {i:Nat} (L:Lx h b s i):b<h.size:=bk L.c0
theorem oB {h:ab} {b o:Nat} {v:Value} (hc:ac h b o=some v):∃c e f,h[b]? =some (.cells c e f)/\c[o]? =some v:=by
 grind [ac]
theorem Ca {c:Array Value} {o:Nat} {v:Value} (h:c[o]? =some v):c.setIfInBounds o v=c:=by
 grind
theorem Mv.refl {h:ab} {b:Nat} {s:ByteArray} {i:Nat} (L:Lx h b s i):Mv b h h i:=by
 refine⟨L.lt,Fr.refl _ _,?_⟩
 obtain⟨c,e,f,h1,h2⟩:=oB L.c1
 rw[cJ h1,Ca h2,h1]
theorem Mv.to {h:ab} {b:Nat} {s:ByteArray} {i:Nat} (L:Lx h b s i) (j:Nat):Mv b h (am h b 1 (.int .i64 (j:Int))) j:=⟨L.lt,Fr.hset h b 1 _,rfl⟩
theorem Mv.trans {b:Nat} {h h1 h2:ab} {i j:Nat} (a:Mv b h h1 i) (k:Mv b h1 h2 j):Mv b h h2 j:=by
 refine⟨a.lt,a.fr.trans k.fr,?_⟩
 rw[k.at_]
 have e:=a.at_
 cases q:h[b]? with
 | none=>simp_all
 | some x=>
  cases x with
  | cells c t f=>
   rw[cJ q]at e
   rw[cJ e,cJ q]
   simp
  | _=>
   grind [am]
theorem Mv.ext {b:Nat} {h h1 h2:ab} {i:Nat} {N:List Nat} (a:Mv b h h1 i) (f:Fr N h1 h2) (hn:∀x∈N,h.size<=x):Mv b h h2 i:=by
 have hb:b∉N:=fun q=>by have:=hn b q;have:=a.lt;omega
 exact⟨a.lt,a.fr.comp f (fun x q=>.inr (hn x q)),(f.blk b (Nat.lt_of_lt_of_le a.lt a.fr.size) hb).trans a.at_⟩
theorem Mv.push {b:Nat} {h h1:ab} {i:Nat} (a:Mv b h h1 i) (x:Obj):Mv b h (h1.push x) i:=a.ext (Fr.push h1 x) QB
theorem Mv.hsetn {b:Nat} {h h1:ab} {i p o:Nat} {v:Value} (a:Mv b h h1 i) (hp:h.size<=p):Mv b h (am h1 p o v) i:=a.ext (Fr.hset h1 p o v) (by simpa using hp)
theorem Lx.mv {h h':ab} {b:Nat} {s:ByteArray} {i j:Nat} (L:Lx h b s i) (m:Mv b h h' j):Lx h' b s j:=by
 obtain⟨c,e,f,h1,h2⟩:=oB L.c1
 have e1:=m.at_
 rw[cJ h1]at e1
 have h0:=L.c0
 rw[aQ h1]at h0
 have hlt:=(Array.getElem?_eq_some_iff.1 h2).1
 refine⟨?_,?_,?_⟩
 ·rw[aQ e1,Array.getElem?_setIfInBounds_ne QA];exact h0
 ·rw[aQ e1,Array.getElem?_setIfInBounds_self_of_lt hlt]
 ·have hf:=L.fr
  grind [au]
theorem Lx.cell {h:ab} {b:Nat} {s:ByteArray} {i:Nat} (L:Lx h b s i):∃u,ac h b (0+1)=some u:=⟨_,L.c1⟩
theorem Sy.mv {h0 h h':ab} {M:List Nat} {cs:List Ck} {b j:Nat} {ty:TypeId} {cells:List Value} (Y:Sy h0 M h cs) (k:Nat) (hk:cs[k]? =some (Ck.ob b ty cells)) (m:Mv b h h' j):
  Sy h0 M h' (cs.set k (Ck.ob b ty (cells.set 1 (.int .i64 (j:Int))))):=
 Y.mut hk _ m.fr.size (fun d hd hn=>m.fr.blk d hd (by simpa[Ck.ob]using hn)) (by
  have:=m.at_
  rw[cJ (Y.ok hk)]at this
  simpa[Ck.ob]using this) (fun d hd=>.inl hd) (fun d hd=>by simp[Ck.ob]at hd)
theorem Sy.lx {h0 h:ab} {M:List Nat} {cs:List Ck} {b:Nat} {ty:TypeId} {s:ByteArray} {i:Nat} {cells:List Value} (Y:Sy h0 M h cs) (k:Nat) (hk:cs[k]? =some (Ck.ob b ty (.string s:: .int .i64 (i:Int)::cells))):Lx h b s i:=
 ⟨Y.cellO k hk 0 rfl,Y.cellO k hk 1 rfl,Y.freeO k hk 1⟩
def Ent (l:List (Value × Value)):Array MapEntry:=(l.mapIdx fun i p=>⟨p.1,p.2,i⟩).toArray
theorem jf (l:List (Value × Value)) (j:Nat):(Ent l)[j]? =(l[j]?).map fun p=>⟨p.1,p.2,j⟩:=by simp[Ent]
theorem Cb (l:List (Value × Value)):(Ent l).size=l.length:=by simp[Ent]
theorem fP {l:List (Value × Value)} {e:MapEntry} (h:e∈(Ent l).toList):∃j p,l[j]? =some p/\e=⟨p.1,p.2,j⟩:=by
 grind [Ent]
theorem iy (l:List (Value × Value)) (k v:Value):(Ent l).push ⟨k,v,l.length⟩=Ent (l++[(k,v)]):=by
 grind [Ent]
theorem FC {a:Array MapEntry} {l:List (Value × Value)} (h:∀j,a[j]? =(l[j]?).map fun p=>(⟨p.1,p.2,j⟩:MapEntry)):a=Ent l:=by
 apply Array.ext_getElem?
 intro j
 rw[h,jf]
def Ck.mp (m:Nat) (l:List (Value × Value)):Ck:=
 ⟨[m],[],fun h=>bG h m=some (Ent l,l.length),fun h o=>⟨by
  intro b hb
  simp only[List.mem_singleton]at hb
  subst hb
  exact(Array.getElem?_eq_some_iff.1 (bD o)).1,QB⟩,fun h h' he _ o=>by
  grind [bD,kq]⟩
section
variable {h0 h:ab} {M:List Nat} {cs:List Ck} {m:Nat} {l:List (Value × Value)}
theorem Sy.mapM (Y:Sy h0 M h cs) (k:Nat) (hk:cs[k]? =some (Ck.mp m l)):bG h m=some (Ent l,l.length):=Y.ok hk
theorem oD {h:ab} {m:Nat} (hm:m<h.size) (es:Array MapEntry) (c:Nat):bG (cb h m es c) m=some (es,c):=by
 apply kq
 simp[cb,hm]
theorem Sy.putM (Y:Sy h0 M h cs) (k:Nat) (hk:cs[k]? =some (Ck.mp m l)) (l':List (Value × Value)) {es:Array MapEntry} {c:Nat} (he:es=Ent l') (hc:c=l'.length):Sy h0 M (cb h m es c) (cs.set k (Ck.mp m l')):=by
 subst he;subst hc
 have hm:m<h.size:=(Array.getElem?_eq_some_iff.1 (bD (Y.mapM k hk))).1
 exact Y.mut hk _ QB (fun d hd hn=>(qm h m _ _).blk d hd (by simpa[Ck.mp]using hn)) (oD hm _ _) (fun d hd=>.inl hd) (fun d hd=>by simp[Ck.mp]at hd)
theorem Sy.newM (Y:Sy h0 M h cs):Sy h0 M (h.push (.map #[] 0)) (cs++[Ck.mp h.size []]):=
 Y.add (Fr.push h _) _ (by
  apply kq
  simp[Ent]) (by simp[Ck.mp]) (by simp[Ck.mp])
end
def kE (x:Int × Int) (i:Int):Int:=if i=0 then x.1 else x.2
theorem uH {h:ab} {b o i:Nat} {x:Int × Int} {j:Int} (h0:ac h b (o+i*2+0)=some (.int .i64 x.1)) (h1:ac h b (o+i*2+1)=some (.int .i64 x.2)) (j0:0<=j) (j1:j<((2:Nat):Int)):
  ac h b (o+i*2+j.toNat*1)=some (.int .i64 (kE x j)):=by
 grind [kE]
section
variable {α:Type} {E:En α} {h0 h h':ab} {M:List Nat} {cs:List Ck} {ty t1 t2:TypeId} {a:QR} {n c:Nat} {xs ys:List α} {xss:List (List α)} {b o:Nat} {cells:List Value} {P:Nat->Bool}
theorem Reads.takeR {h:ab} {a:QR} {n:Nat} {xs:List α} (r:Reads h E.sz a n (E.l xs)) (m:Nat) (hm:m<=n):Reads h E.sz a m (E.l (xs.take m)):=by
 have hl:=r.1
 rw[En.l_len]at hl
 have hl:xs.length=n:=Nat.eq_of_mul_eq_mul_right E.pos hl
 refine⟨by grind [En.l_len],?_⟩
 rcases r.2 with⟨rfl,h0⟩ | ⟨b,o,e,hc⟩
 ·grind
 ·refine .inr ⟨b,o,e,fun j v hj=>hc j v ?_⟩
  rw[<-En.l_take,List.getElem?_take]at hj
  grind
theorem Reads.dropR {h:ab} {a:QR} {n c:Nat} {xs:List α} (r:Reads h E.sz a n (E.l xs)) (m:Nat) (hm:m<=n) (hc:n<=c) (hn:a=none->c=0) {n':Nat} (e:n'=n-m):
  Reads h E.sz (if c=m then a else Option.map (fun addr=>Addr.add addr (m*E.sz)) a) n' (E.l (xs.drop m)):=by
 subst e
 have hl:=r.1
 rw[En.l_len]at hl
 have hl:xs.length=n:=Nat.eq_of_mul_eq_mul_right E.pos hl
 refine⟨by rw[En.l_len,List.length_drop,hl],?_⟩
 rcases r.2 with⟨rfl,h0⟩ | ⟨b,o,e,hc2⟩
 ·grind
 ·subst e
  right
  split
  ·rename_i e
   have:xs.drop m=[]:=List.drop_of_length_le Qz
   exact⟨b,o,rfl,fun j v hj=>by rw[this]at hj;simp[En.l]at hj⟩
  ·refine⟨b,o+m*E.sz,by simp[Addr.add],fun j v hj=>?_⟩
   rw[<-En.l_drop,List.getElem?_drop]at hj
   grind
theorem LR {a:QR} {c m sz:Nat} (hn:a=none->c=0):(if c=m then a else Option.map (fun addr=>Addr.add addr (m*sz)) a)=none->c-m=0:=by
 intro e
 have:a=none:=by
  split at e
  ·exact e
  simp_all
 grind
theorem LU {N:List Nat} {g:Nat} {a a2:QR} {c c2 s:Nat} (old:∀x∈ai a,x∈N\/g<=x) (ga:(a2=a/\c2=c)\/∃q,a2=some ⟨q,0,none⟩/\s<=q) (hs:g<=s):∀x∈ai a2,x∈N\/g<=x:=by
 grind [ai]
theorem Fr.appIn {N:List Nat} {h0 h1:ab} (_:Fr N h0 h1) {a a2:QR} {c c2 s:Nat} (old:∀x∈ai a,x∈N\/h0.size<=x) (ga:(a2=a/\c2=c)\/∃q,a2=some ⟨q,0,none⟩/\s<=q) (hs:h0.size<=s):∀x∈ai a2,x∈N\/h0.size<=x:=LU old ga hs
def Mt (cs:List Ck) (l r:List Nat):List Nat:=aF (pk cs l)++(pk cs r).flatMap fun c=>c.own.tail
theorem Sy.mt (_:Sy h0 M h cs) (l r:List Nat):∃N,N=Mt cs l r:=⟨_,rfl⟩
theorem Sy.frM (_:Sy h0 M h cs) (l r:List Nat):Fr (Mt cs l r) h h:=Fr.refl _ _
theorem yt {l:List Nat} (hc:ib cs.length l=true) {x:Nat} (h:x∈aF (pk cs l)):∃(k:Nat) (c:Ck),k∈l/\cs[k]? =some c/\x∈c.own:=by
 simp only[aF,List.mem_flatMap]at h
 obtain⟨d,h1,h2⟩:=h
 obtain⟨p,hp,rfl⟩:=List.getElem_of_mem h1
 obtain⟨q,hq,hq2⟩:=ja hc (List.getElem?_eq_getElem hp)
 grind
theorem LV {l r:List Nat} (hl:ib cs.length l=true) (hr:ib cs.length r=true) {x:Nat} (h:x∈Mt cs l r):∃(k:Nat) (c:Ck),(k∈l\/k∈r)/\cs[k]? =some c/\x∈c.own/\(k∈l\/x∈c.own.tail):=by
 simp only[Mt,List.mem_append]at h
 rcases h with h | h
 ·grind [yt]
 ·simp only[List.mem_flatMap]at h
  obtain⟨d,h1,h2⟩:=h
  obtain⟨p,hp,rfl⟩:=List.getElem_of_mem h1
  obtain⟨q,hq,hq2⟩:=ja hr (List.getElem?_eq_getElem hp)
  exact⟨q,_,.inr (List.mem_of_getElem? hq),hq2,List.mem_of_mem_tail h2,.inr h2⟩
def IH (n k:Nat) (l r:List Nat):Bool:=ib n l&&ib n r&& !(l.any (Nat.beq k))&& !(r.any (Nat.beq k))
theorem II {n k:Nat} {l r:List Nat} (h:IH n k l r=true):ib n l=true/\ib n r=true/\k∉l/\k∉r:=by
 simp only[IH,Bool.and_eq_true,Bool.not_eq_true']at h
 obtain⟨⟨⟨h1,h2⟩,h3⟩,h4⟩:=h
 refine⟨h1,h2,fun hk=>?_,fun hk=>?_⟩
 ·have:l.any (Nat.beq k)=true:=List.any_eq_true.2 ⟨k,hk,QB⟩
  grind
 ·have:r.any (Nat.beq k)=true:=List.any_eq_true.2 ⟨k,hk,QB⟩
  grind
theorem Sy.nMo (Y:Sy h0 M h cs) (k:Nat) (l r:List Nat) (hc:IH cs.length k l r=true) {d:Ck} (hk:cs[k]? =some d) {x:Nat} (hx:x∈d.own):x∉Mt cs l r:=by
 obtain⟨h1,h2,h3,h4⟩:=II hc
 intro hm
 obtain⟨q,e,q1,q2,q3,_⟩:=LV h1 h2 hm
 have hne:k≠q:=by grind
 exact(Y.hp.ap k q d e hne hk q2 x hx).1 q3
theorem Sy.nMJ (Y:Sy h0 M h cs) (k:Nat) (l r:List Nat) (hc:IH cs.length k l r=true) {y:Nat} (hk:cs[k]? =some (Ck.junk y)):y∉Mt cs l r:=Y.nMo k l r hc hk (by simp[Ck.junk])
theorem LW {l:List Nat} {k:Nat} {d:Ck} (hk:cs[k]? =some d) (hl:k∈l):d∈pk cs l:=by
 induction l<;>grind [pk,List.mem_cons_self,List.mem_cons_of_mem]
theorem Sy.inMo (_:Sy h0 M h cs) (k:Nat) (l r:List Nat) (hl:l.any (Nat.beq k)=true) {d:Ck} (hk:cs[k]? =some d) {g:Nat}:∀x∈d.own,x∈Mt cs l r\/g<=x:=by
 intro x hx
 obtain⟨k',h1,h2⟩:=List.any_eq_true.1 hl
 have:=Nat.eq_of_beq_eq_true h2
 subst this
 exact .inl (List.mem_append_left _ (by grind [aF,LW]))
theorem lO {N:List Nat} {g0:Nat}:∀x∈ai (none:QR),x∈N\/g0<=x:=by intro x hx;simp[ai]at hx
end
set_option maxRecDepth 100000
structure GL where
 pb:Nat
 po:Nat
 pc:Nat
 fb:Nat
 fo:Nat
 fc:Nat
 lb:Nat
 lo:Nat
 lc:Nat
def tU :List Int:=[1,10,100,1000,10000,100000,1000000,10000000,100000000,1000000000,10000000000,100000000000,1000000000000,10000000000000,100000000000000,1000000000000000,10000000000000000,100000000000000000,1000000000000000000,10000000000000000000]
def tP :List Int:=[1,3,6,9,13,16,19,23,26]
def tF :List Nat:=[4607182418800017408,4621819117588971520,4636737291354636288,4652007308841189376,4666723172467343360,4681608360884174848,4696837146684686336,4711630319722168320,4726483295884279808,4741671816366391296,4756540486875873280,4771362005757984768,4786511204640096256,4801453603149578240,4816244402031689728,4831355200913801216,4846369599423283200,4861130398305394688,4876203697187506176,4891288408196988160,4906019910204099648,4921056587992461136,4936209963552724370]
def tT :List Int:=Go.Pinned.pow10Rows.flatMap fun x=>[(x.1:Int),(x.2:Int)]
def tL :List (Int × ByteArray):=Go.Pinned.cheatRows.map fun x=>((x.1:Int),⟨x.2.toArray⟩)
structure Gl (gl:GL) (h:ab):Prop where
 opt:ac h 2 0=some (.bool true)
 i0:ac h 13 0=some (.int .u64 52)
 i1:ac h 13 1=some (.int .u64 11)
 i2:ac h 13 2=some (.int .i64 (-1023))
 u:∀(i:Nat) (v:Int),tU[i]? =some v->ac h 3 (0+i)=some (.int .u64 v)
 t:∀(i:Nat) (v:Int),tT[i]? =some v->ac h 4 (0+i)=some (.int .u64 v)
 p0:ac h 15 0=some (.slice (some ⟨gl.pb,gl.po,none⟩) 9 gl.pc)
 p:∀(i:Nat) (v:Int),tP[i]? =some v->ac h gl.pb (gl.po+i)=some (.int .i64 v)
 f0:ac h 16 0=some (.slice (some ⟨gl.fb,gl.fo,none⟩) 23 gl.fc)
 f:∀(i:Nat) (v:Nat),tF[i]? =some v->ac h gl.fb (gl.fo+i)=some (.float .f64 v)
 l0:ac h 5 0=some (.slice (some ⟨gl.lb,gl.lo,none⟩) 61 gl.lc)
 l:∀(i:Nat) (v:Int × ByteArray),tL[i]? =some v->ac h gl.lb (gl.lo+i*2)=some (.int .i64 v.1)/\ac h gl.lb (gl.lo+i*2+1)=some (.string v.2)
 uu:∃e f,h[3]? =some (.cells (tU.map fun z=>Value.int .u64 z).toArray e f)
 e1:∃t v,ac h 8 0=some (.iface t v)
 e2:∃t v,ac h 9 0=some (.iface t v)
 ml:∃m,ac h 1 0=some (.int .i64 m)
def glB (gl:GL):List Nat:=[1,8,9,2,13,3,15,16,4,5,gl.pb,gl.fb,gl.lb]
theorem Gl.congr {gl:GL} {h h':ab} (g:Gl gl h) (hb:∀b∈glB gl,h'[b]? =h[b]?):Gl gl h':=by
 have c:∀{b o:Nat} {v:Value},b∈glB gl->ac h b o=some v->ac h' b o=some v:=fun m e=>(dW (hb _ m) _).trans e
 refine⟨c (by simp[glB]) g.opt,c (by simp[glB]) g.i0,c (by simp[glB]) g.i1,c (by simp[glB]) g.i2,fun i v e=>c (by simp[glB]) (g.u i v e),fun i v e=>c (by simp[glB]) (g.t i v e),c (by simp[glB]) g.p0,
  fun i v e=>c (by simp[glB]) (g.p i v e),c (by simp[glB]) g.f0,fun i v e=>c (by simp[glB]) (g.f i v e),c (by simp[glB]) g.l0,fun i v e=>⟨c (by simp[glB]) (g.l i v e).1,c (by simp[glB]) (g.l i v e).2⟩,?_,?_,?_,?_⟩
 ·obtain⟨e,f,q⟩:=g.uu;grind [glB]
 ·obtain⟨t,v,e⟩:=g.e1;exact⟨t,v,c (by simp[glB]) e⟩
 ·obtain⟨t,v,e⟩:=g.e2;exact⟨t,v,c (by simp[glB]) e⟩
 ·obtain⟨m,e⟩:=g.ml;exact⟨m,c (by simp[glB]) e⟩
theorem tT0 :∃v,tT[0]? =some v:=⟨_,rfl⟩
theorem Gl.lt {gl:GL} {h:ab} (g:Gl gl h):∀b∈glB gl,b<h.size:=by
 intro b hb
 simp only[glB,List.mem_cons,List.not_mem_nil,or_false]at hb
 obtain⟨v0,e0⟩:=tT0
 obtain⟨_,_,a1⟩:=g.e1
 obtain⟨_,_,a2⟩:=g.e2
 obtain⟨_,a0⟩:=g.ml
 rcases hb with rfl | rfl | rfl | rfl | rfl | rfl | rfl | rfl | rfl | rfl | rfl | rfl | rfl
 ·exact bk a0
 ·exact bk a1
 ·exact bk a2
 ·exact bk g.opt
 ·exact bk g.i0
 ·exact bk (g.u 0 _ rfl)
 ·exact bk g.p0
 ·exact bk g.f0
 ·exact bk (g.t 0 _ e0)
 ·exact bk g.l0
 ·exact bk (g.p 0 _ rfl)
 ·exact bk (g.f 0 _ rfl)
 ·exact bk (g.l 0 _ rfl).1
def Ck.glob (gl:GL):Ck:=⟨[],glB gl,Gl gl,fun _ g=>⟨fun b hb=>by simp at hb,g.lt⟩,fun _ _ _ hb g=>g.congr hb⟩
section
variable {h0 h:ab} {M:List Nat} {cs:List Ck} {gl:GL}
theorem Sy.glo (Y:Sy h0 M h cs) (k:Nat) (hk:cs[k]? =some (Ck.glob gl)):Gl gl h:=Y.ok hk
end
def B8 (t:Nat):Option Int->Value
 | none=>.nilIface
 | some c=>.iface t (.int .i64 c)
theorem yq (xs:List Int):(eK .u8).l xs=List.map (Value.int IntKind.u8) xs:=by
 induction xs with
 | nil=>rfl
 | cons x xs ih=>simp only[En.l,ih];rfl
theorem vR {h:ab} {a:QR} {n:Nat} {xs:List Int} (r:Reads h (eK .u8).sz a n ((eK .u8).l xs)):Reads h 1 a n (List.map (Value.int IntKind.u8) xs):=by
 rw[<-yq];exact r
def iZ (w:ByteArray):List Int:=w.data.toList.map fun b=>((b.toNat:Nat):Int)
theorem jP (w:ByteArray):(eK .u8).l (iZ w)=Lib.strCells w:=by
 rw[yq,iZ,Lib.strCells,List.map_map];rfl
theorem mW (w:ByteArray):(iZ w).length=w.size:=by
 rw[iZ,List.length_map,Array.length_toList];rfl
theorem To.obsl {α:Type} {E:En α} {b ty n:Nat} {cells:List Value} (xs:List α) (hn:xs.length=n) (hm:n<=maxLen) (hc:E.l xs=cells):
  To (Ck.ob b ty cells) (Ck.sl E ty (some ⟨b,0,none⟩) n n xs):=by
 have hl:cells.length=n*E.sz:=by rw[<-hc,En.l_len,hn]
 refine⟨fun h hb=>⟨⟨QD,.inr ⟨b,cells.toArray,rfl,.of hb,Nat.le_refl _,hm,by simp[hl],?_⟩⟩,hn⟩,fun d hd=>?_,fun d hd=>?_⟩
 ·grind
 ·simpa[Ck.sl,ai,Ck.ob]using hd
 ·simp[Ck.sl]at hd
theorem Ps {α:Type} {xs:List α} {hi:Nat} (lo:Nat) (h:hi<=xs.length):((xs.take hi).drop lo).length=hi-lo:=by grind
end Go.X
namespace Go.Proofs.YtemphinmoihdaaaGreatDoor.G
theorem zQ (n:Nat):Lib.decDigits n=dec n:=by
 induction n using Nat.strongRecOn<;>grind [Lib.decDigits,dec,dg,Nat.mod_eq_of_lt]
theorem Ce (n:Int):Lib.itoa n=idt n:=by
 unfold Lib.itoa idt
 rw[zQ,zQ]
 grind
end Go.Proofs.YtemphinmoihdaaaGreatDoor.G
namespace Go.Proofs.YtemphinmoihdaaaGreatDoor.N
open Go.Proofs.YtemphinmoihdaaaGreatDoor
open Go.X
open Go.RowKit (Below)
set_option maxRecDepth 100000
theorem vV {w w':World} (b:Below w.heap.size w w'):Fr [] w.heap w'.heap:=⟨b.size,fun k hk _=>b.block k hk⟩
theorem qq {w w':World} (b:Below w.heap.size w w'):Go.X.Rest w w':=⟨b.os,b.tape,b.output,b.size⟩
theorem sy0 {h h':ab} (f:Fr [] h h'):Sy h [] h' []:=⟨f,Hp.nil _,fun k c hk=>by simp at hk⟩
theorem gJ {P:Program} {f:FuncId} {args:Array Value} {h:ab} {v:Value} {R:Value->ab->Prop} (c:∀w:World,Calls P f args w fun e w'=>e= .returned v/\w'=w) (r:R v h):ae P f args h R:=
 fun w hw=>(c w).mono fun e w' ⟨h1,h2⟩=>⟨v,h1,by rw[h2];exact Rest.refl w,by rw[h2,hw];exact r⟩
theorem jR {P:Program} {f:FuncId} {args:Array Value} {h:ab} {v:Value} {R:Value->ab->Prop} (c:∀w:World,w.heap=h->Calls P f args w fun e w'=>e= .returned v/\Below w.heap.size w w') (r:∀h',Fr [] h h'->R v h'):ae P f args h R:=
 fun w hw=>(c w hw).mono fun e w' ⟨h1,h2⟩=>⟨v,h1,qq h2,by subst hw;exact r _ (vV h2)⟩
theorem Mb {t:ByteArray} {c:Nat} (hc:c<256) {h:ab}:QH 138 #[.string t,QP (c:Int)] h fun v h'=>v= QM (Lib.indexByte t.data.toList (UInt8.ofNat c))/\h'=h:=
 gJ (fun w=>Go.Proofs.Tryz.strings_IndexByte t (c:Int) w) ⟨by rw[Int.toNat_natCast],rfl⟩
theorem Mc {t p:ByteArray} {h:ab}:QH 51 #[.string t,.string p] h fun v h'=>v= .bool (Lib.hasPrefix t.data.toList p.data.toList)/\h'=h:=
 gJ (fun w=>Go.Proofs.Tryz.strings_HasPrefix t p w) ⟨rfl,rfl⟩
set_option maxHeartbeats 2000000
def S48 (c:Int) (h:ab) (R:VP):Prop:=cnd (decide (c>=32)) (R (.bool (decide (c<=126))) h) (R (.bool false) h)
theorem Gv {h:ab} {R:VP} (c:Int) (H:S48 c h R):QH 48 #[QP c] h R:=aN [] 9 [] [] [] [] Tryz.func48 QC QC H
end Go.Proofs.YtemphinmoihdaaaGreatDoor.N
namespace Go.Proofs.YtemphinmoihdaaaGreatDoor.G
theorem yy (p:Nat->Bool) (s:ByteArray):∀n i,s.size-i=n->i<=s.size->run p s i<=s.size:=by
 intro n
 induction n with
 | zero=>intro i h1 h2;rw[run,if_neg Qz];exact h2
 | succ n ih=>
  intro i h1 h2
  rw[run]
  grind
theorem Jm {p:Nat->Bool} {s:ByteArray} {i:Nat} (h:i<s.size) (hp:p (bt s i)=true):i<run p s i:=by
 rw[run,if_pos ⟨h,hp⟩]
 exact uK p s (i+1)
theorem uI (s:ByteArray):∀k n i,i<=(jv s k n i).2
 | 0,n,i=>Nat.le_refl _
 | k+1,n,i=>by
  rw[jv]
  split
  ·have:=uI s k (10*n+(bt s i-48)) (i+1);omega
  omega
theorem mZ {s:ByteArray} {i:Nat} (h:bt s i≠256):i<s.size:=by
 grind [bt]
theorem pV {s:ByteArray} {i:Nat} {l:QS} (h:preB s i l=true):l.length<=s.size-i\/l=[]:=by
 unfold preB at h
 have h:=of_decide_eq_true h
 have h2:=congrArg List.length h
 grind [ByteArray.data_extract,qo]
theorem FB {s:ByteArray} {i c n:Nat} (hi:i<s.size) (h:part s i=some (c,n)):0<n/\i+n<=s.size:=by
 unfold part at h
 have pre:∀{l:QS} {m:Nat},preB s i l=true->l.length=m->0<m->i+m<=s.size:=by
  intro l m q e hm
  rcases pV q with q | q
  ·omega
  grind
 split at h
 ·rename_i q;cases h;exact⟨QA,pre q rfl QA⟩
 split at h
 ·rename_i q;cases h;exact⟨QA,pre q rfl QA⟩
 split at h
 ·rename_i q;cases h;exact⟨QA,pre q rfl QA⟩
 split at h
 ·rename_i q;cases h;exact⟨QA,pre q rfl QA⟩
 split at h
 ·rename_i q;cases h;exact⟨QA,pre q rfl QA⟩
 split at h
 ·cases h
 ·have hg:=uI s 3 0 (i+2)
  generalize jv s 3 0 (i+2)=y at h hg
  obtain⟨m,k⟩:=y
  simp only at h hg
  split at h
  ·cases h
  ·rename_i q
   simp only[not_or]at q
   simp only[Option.some.injEq,Prod.mk.injEq]at h
   have:=mZ (s:=s) (i:=k) Qz
   omega
section
variable {cl:Nat->Nat} {s:ByteArray} {rd:ByteArray->Option (Nat × Nat)}
end
section
variable {cl:Nat->Nat} {s:ByteArray} {rd:ByteArray->Option (Nat × Nat)}
end
end Go.Proofs.YtemphinmoihdaaaGreatDoor.G
