/- Words and lemmas for proofs over S terms: wrapped numbers, calls, heaps, slices of numbers and of pairs. Conditions: none. -/
import Derived.Test.YtlflalecmhgmjaaGreatDoorWEnv
import GoSem.PinnedTables
set_option linter.unusedVariables false
set_option linter.unusedSimpArgs false
namespace Go.X
theorem wr {x:Int} (h1: -9223372036854775808<=x) (h2:x<=9223372036854775807):IntKind.i64.wrap x=x:=by
 rw[IntKind.wrap_i64];omega
theorem cnd_dec {p:Prop} [Decidable p] {A B:Prop} (a:p->A) (b:¬p->B):cnd (decide p) A B:=
 ⟨fun h=>a (of_decide_eq_true h),fun h=>b (of_decide_eq_false h)⟩
theorem cnd_eq {x y:Int} {A B:Prop} (a:x=y->A) (b:x≠y->B):cnd (x==y) A B:=
 ⟨fun h=>a (by simpa using h),fun h=>b (by simpa using h)⟩
theorem cnd_ne {x y:Int} {A B:Prop} (a:x≠y->A) (b:x=y->B):cnd (x != y) A B:=
 ⟨fun h=>a (by simpa using h),fun h=>b (by simpa using h)⟩
theorem cnd_not {x:Bool} {A B:Prop} (a:x=false->A) (b:x=true->B):cnd (!x) A B:=
 ⟨fun h=>a (by simpa using h),fun h=>b (by simpa using h)⟩
theorem cnd_b {x:Bool} {A B:Prop} (a:x=true->A) (b:x=false->B):cnd x A B:=⟨a,b⟩
theorem cnd_t {c:Bool} {A B:Prop} (h:c=true) (a:A):cnd c A B:=⟨fun _=>a,fun g=>by simp[h]at g⟩
theorem cnd_f {c:Bool} {A B:Prop} (h:c=false) (b:B):cnd c A B:=⟨fun g=>by simp[h]at g,fun _=>b⟩
theorem callX_nil {P:Program} {f:FuncId} {args:Array Value} {h:Heap} {H:List Nat} {K R:Value->Heap->Prop}
  (c:CallsH P f args h fun v h'=>Fr [] h h'/\R v h') (k:∀v h',Fr [] h h'->R v h'->K v h'):callX P f args h H K:=
 ⟨[],R,c,by simp,k⟩
theorem blk_push_new {h:Heap} {x:Obj}:(h.push x)[h.size]? =some x:=by simp
theorem blk_lt {h:Heap} {b:Nat} {x:Obj} (hb:h[b]? =some x):b<h.size:=(Array.getElem?_eq_some_iff.1 hb).1
theorem Fr.pushr {M:List Nat} {a b:Heap} (h:Fr M a b) (x:Obj):Fr M a (b.push x):=h.trans (Fr.push b x).nil
theorem Fr.hsetr {M:List Nat} {a b:Heap} (h:Fr M a b) {g o:Nat} {v:Value} (hg:a.size<=g\/g∈M):Fr M a (X.hset b g o v):=
 ⟨by simpa using h.size,fun i hi hm=>by
  rw[hset_ne,h.blk i hi hm]
  rcases hg with hg | hg
  ·omega
  ·rintro rfl;exact hm hg⟩
theorem Fr.of_eq {M:List Nat} {h h':Heap} (e:h'=h):Fr M h h':=e▸Fr.refl M h
theorem Fr.comp {M N:List Nat} {a b c:Heap} (h:Fr M a b) (k:Fr N b c) (hn:∀x∈N,x∈M\/a.size<=x):Fr M a c:=
 ⟨Nat.le_trans h.size k.size,fun i hi hm=>(k.blk i (Nat.lt_of_lt_of_le hi h.size) fun hx=>(hn i hx).elim hm fun e=>by omega).trans (h.blk i hi hm)⟩
def mI (n:Int) (l:List Value) (_:Heap):Nat:=
 match l with
 | .int _ x::_=>(n-x).toNat
 | _=>0
theorem Ownd.nil (h:Heap) (e sz:Nat):Ownd h e sz none 0 0 []:=⟨by simp,.inl ⟨rfl,rfl,rfl⟩⟩
theorem Ownd.blk {h h':Heap} {e sz n c:Nat} {a:Option Addr} {xs:List Value} (o:Ownd h e sz a n c xs) (hb:∀b∈blkOf a,h'[b]? =h[b]?):Ownd h' e sz a n c xs:=by
 obtain⟨h1,h2⟩:=o
 refine⟨h1,h2.imp id ?_⟩
 rintro⟨g,cur,rfl,h3,h4⟩
 exact⟨g,cur,rfl,h3.congr (hb g (by simp[blkOf])),h4⟩
theorem Ownd.lt {h:Heap} {e sz n c:Nat} {a:Option Addr} {xs:List Value} (o:Ownd h e sz a n c xs):∀b∈blkOf a,b<h.size:=by
 obtain⟨h1,h2⟩:=o
 rcases h2 with⟨rfl,_⟩ | ⟨g,cur,rfl,h3,h4⟩
 ·simp [blkOf]
 ·simpa [blkOf]using h3.lt
theorem Ownd.fr {h h':Heap} {e sz n c:Nat} {a:Option Addr} {xs:List Value} {M:List Nat} (o:Ownd h e sz a n c xs) (f:Fr M h h') (hm:∀b∈blkOf a,b∉M):Ownd h' e sz a n c xs:=
 o.blk fun b hb=>f.blk b (o.lt b hb) (hm b hb)
theorem Ownd.cap {h:Heap} {e sz n c:Nat} {a:Option Addr} {xs:List Value} (o:Ownd h e sz a n c xs):n<=c/\c<=maxLen:=by
 obtain⟨h1,h2⟩:=o
 rcases h2 with⟨rfl,rfl,rfl⟩ | ⟨g,cur,rfl,h3,h4,h5,_⟩
 ·simp [maxLen]
 ·exact ⟨h4,h5⟩
theorem Ownd.reads {h:Heap} {e sz n c:Nat} {a:Option Addr} {xs:List Value} (o:Ownd h e sz a n c xs):Reads h sz a n xs:=by
 obtain⟨h1,h2⟩:=o
 refine⟨h1,?_⟩
 rcases h2 with⟨rfl,rfl,rfl⟩ | ⟨g,cur,rfl,h3,h4,h5,h6,h7⟩
 ·exact .inl ⟨rfl,rfl⟩
 ·refine .inr ⟨g,0,rfl,fun j v hj=>?_⟩
  rw[h3.cell,Nat.zero_add]
  rw[<-h7]at hj
  rw[List.getElem?_take]at hj
  split at hj
  ·simpa using hj
  ·simp at hj
theorem Reads.at {h:Heap} {sz n:Nat} {a:Option Addr} {xs:List Value} (r:Reads h sz a n xs) (hn:0<n):
  ∃b o,a=some ⟨b,o,none⟩/\∀j v,xs[j]? =some v->hcell h b (o+j)=some v:=by
 rcases r.2 with⟨_,rfl⟩ | h2
 ·omega
 ·exact h2
theorem Ownd.at {h:Heap} {e sz n c:Nat} {a:Option Addr} {xs:List Value} (o:Ownd h e sz a n c xs) (hn:0<n):
  ∃g cur,a=some ⟨g,0,none⟩/\Blk h g e cur/\c*sz<=cur.size/\cur.toList.take (n*sz)=xs:=by
 rcases o.2 with⟨_,rfl,_⟩ | ⟨g,cur,h1,h2,h3,h4,h5,h6⟩
 ·omega
 ·exact ⟨g,cur,h1,h2,h5,h6⟩
theorem Ownd.set {h:Heap} {e sz n c:Nat} {g:Nat} {xs:List Value} (o:Ownd h e sz (some ⟨g,0,none⟩) n c xs) (k:Nat) (v:Value):
  Ownd (hset h g k v) e sz (some ⟨g,0,none⟩) n c (xs.set k v):=by
 obtain⟨h1,h2⟩:=o
 refine⟨by simpa using h1,.inr ?_⟩
 rcases h2 with⟨h2,_⟩ | ⟨g',cur,h2,h3,h4,h5,h6,h7⟩
 ·simp at h2
 ·simp at h2;subst h2
  refine⟨g,_,rfl,h3.set k v,h4,h5,by simpa using h6,?_⟩
  rw[<-h7]
  simp[List.take_set]
theorem Ownd.cell {h:Heap} {e sz n c:Nat} {g:Nat} {xs:List Value} (o:Ownd h e sz (some ⟨g,0,none⟩) n c xs) {k:Nat} {v:Value} (hk:xs[k]? =some v):
  hcell h g k=some v:=by
 rcases o.reads.2 with⟨h2,_⟩ | ⟨b,o',h2,h3⟩
 ·simp at h2
 ·simp at h2;obtain⟨rfl,rfl⟩:=h2
  simpa using h3 k v hk
theorem Ownd.free {h:Heap} {e sz n c:Nat} {g:Nat} {xs:List Value} (o:Ownd h e sz (some ⟨g,0,none⟩) n c xs) (k:Nat):hfree h g k=true:=by
 rcases o.2 with⟨h2,_⟩ | ⟨g',cur,h2,h3,_⟩
 ·simp at h2
 ·simp at h2;subst h2
  exact h3.free k
theorem own_new {h:Heap} {e sz n:Nat} {xs:List Value} (hl:xs.length=n*sz) (hn:n<=maxLen):Ownd (h.push (.cells xs.toArray e)) e sz (some ⟨h.size,0,none⟩) n n xs:=
 ⟨hl,.inr ⟨h.size,_,rfl,.of blk_push_new,Nat.le_refl _,hn,by simp[hl],by simp[<-hl]⟩⟩
end Go.X
namespace Go.X
structure En (α:Type) where
 sz:Nat
 enc:α->List Value
 pos:0<sz
 len:∀x,(enc x).length=sz
 one:∀x,∀v∈enc x,v.oneCell'=true
def En.l {α:Type} (E:En α):List α->List Value
 | []=>[]
 | x::r=>E.enc x++E.l r
section
variable {α:Type} {E:En α}
theorem En.l_append :∀(xs ys:List α),E.l (xs++ys)=E.l xs++E.l ys
 | [],ys=>rfl
 | x::xs,ys=>by simp[En.l,En.l_append xs ys]
theorem En.l_len :∀(xs:List α),(E.l xs).length=xs.length*E.sz
 | []=>by simp[En.l]
 | x::xs=>by simp[En.l,En.l_len xs,E.len,Nat.add_mul];omega
theorem En.l_get :∀{xs:List α} {i t:Nat} {x:α} {v:Value},xs[i]? =some x->(E.enc x)[t]? =some v->(E.l xs)[i*E.sz+t]? =some v
 | [],i,t,x,v,h,_=>by simp at h
 | y::xs,0,t,x,v,h,hv=>by
  simp at h;subst h
  have ht:t<(E.enc y).length:=(List.getElem?_eq_some_iff.1 hv).1
  simp only[En.l,Nat.zero_mul,Nat.zero_add]
  rw[List.getElem?_append_left ht];exact hv
 | y::xs,i+1,t,x,v,h,hv=>by
  simp only[En.l]
  rw[List.getElem?_append_right (by rw[E.len,Nat.add_mul];omega),E.len]
  have:=En.l_get (xs:=xs) (i:=i) (by simpa using h) hv
  rw[show(i+1)*E.sz+t-E.sz=i*E.sz+t by rw[Nat.add_mul];omega]
  exact this
theorem En.l_set :∀{xs:List α} {i t:Nat} {x x':α} {v:Value},xs[i]? =some x->t<E.sz->E.enc x'=(E.enc x).set t v->(E.l xs).set (i*E.sz+t) v=E.l (xs.set i x')
 | [],i,t,x,x',v,h,_,_=>by simp at h
 | y::xs,0,t,x,x',v,h,ht,hv=>by
  simp at h;subst h
  simp only[En.l,Nat.zero_mul,Nat.zero_add,List.set_cons_zero]
  rw[List.set_append_left _ _ (by rw[E.len];exact ht),hv]
 | y::xs,i+1,t,x,x',v,h,ht,hv=>by
  simp only[En.l,List.set_cons_succ]
  rw[List.set_append_right _ _ (by rw[E.len,Nat.add_mul];omega),E.len]
  have:=En.l_set (xs:=xs) (i:=i) (by simpa using h) ht hv
  rw[show(i+1)*E.sz+t-E.sz=i*E.sz+t by rw[Nat.add_mul];omega,this]
end
def eK (k:IntKind):En Int:=⟨1,fun x=>[.int k x],by decide,fun _=>rfl,fun x v h=>by simp at h;subst h;rfl⟩
def eF :En Nat:=⟨1,fun x=>[.float .f64 x],by decide,fun _=>rfl,fun x v h=>by simp at h;subst h;rfl⟩
def eS :En ByteArray:=⟨1,fun x=>[.string x],by decide,fun _=>rfl,fun x v h=>by simp at h;subst h;rfl⟩
def eP :En (Int × Int):=⟨2,fun x=>[.int .i64 x.1,.int .i64 x.2],by decide,fun _=>rfl,fun x v h=>by simp at h;rcases h with rfl | rfl<;>rfl⟩
def eFF :En (Nat × Nat):=⟨2,fun x=>[.float .f64 x.1,.float .f64 x.2],by decide,fun _=>rfl,fun x v h=>by simp at h;rcases h with rfl | rfl<;>rfl⟩
structure Ck where
 own:List Nat
 rd:List Nat
 ok:Heap->Prop
 lt:∀h,ok h->(∀b∈own,b<h.size)/\(∀b∈rd,b<h.size)
 fr:∀h h',(∀b∈own,h'[b]? =h[b]?)->(∀b∈rd,h'[b]? =h[b]?)->ok h->ok h'
def Ap (c d:Ck):Prop:=∀b∈c.own,b∉d.own/\b∉d.rd
structure Hp (h:Heap) (cs:List Ck):Prop where
 ok:∀(k:Nat) (c:Ck),cs[k]? =some c->c.ok h
 ap:∀(i j:Nat) (c d:Ck),i≠j->cs[i]? =some c->cs[j]? =some d->Ap c d
structure Sy (h0:Heap) (M:List Nat) (h:Heap) (cs:List Ck):Prop where
 fr:Fr M h0 h
 hp:Hp h cs
 ow:∀(k:Nat) (c:Ck),cs[k]? =some c->∀b∈c.own,b∈M\/h0.size<=b
def owns (cs:List Ck):List Nat:=cs.flatMap Ck.own
theorem Hp.nil (h:Heap):Hp h []:=⟨fun k c hk=>by simp at hk,fun i j c d _ hc=>by simp at hc⟩
theorem Hp.cons {h:Heap} {c:Ck} {cs:List Ck} (hc:c.ok h) (ha:∀(k:Nat) (d:Ck),cs[k]? =some d->Ap c d/\Ap d c) (H:Hp h cs):Hp h (c::cs):=by
 refine⟨fun k d hk=>?_,fun i j d e hij hd he=>?_⟩
 ·cases k with
  | zero=>simp at hk;subst hk;exact hc
  | succ k=>exact H.ok k d (by simpa using hk)
 ·cases i with
  | zero=>
   simp at hd;subst hd
   cases j with
   | zero=>exact absurd rfl hij
   | succ j=>exact(ha j e (by simpa using he)).1
  | succ i=>
   cases j with
   | zero=>simp at he;subst he;exact(ha i d (by simpa using hd)).2
   | succ j=>exact H.ap i j d e (by omega) (by simpa using hd) (by simpa using he)
theorem Hp.view {h:Heap} {c:Ck} {cs:List Ck} (hc:c.ok h) (ho:c.own=[]) (H:Hp h cs) (hn:∀(k:Nat) (d:Ck),cs[k]? =some d->∀b∈d.own,b∉c.rd):Hp h (c::cs):=
 Hp.cons hc (fun k d hd=>⟨fun b hb=>by simp[ho]at hb,fun b hb=>⟨by simp[ho],hn k d hd b hb⟩⟩) H
theorem Hp.one {h:Heap} {c:Ck} (hc:c.ok h):Hp h [c]:=Hp.cons hc (fun k d hd=>by simp at hd) (Hp.nil h)
theorem Ck.size_le {c:Ck} {h h':Heap} (hc:c.ok h) (f:Fr [] h h'):c.ok h':=by
 obtain⟨l1,l2⟩:=c.lt h hc
 exact c.fr h h' (fun b hb=>f.blk b (l1 b hb) (by simp)) (fun b hb=>f.blk b (l2 b hb) (by simp)) hc
theorem Sy.start {h:Heap} {cs:List Ck} (H:Hp h cs):Sy h (owns cs) h cs:=
 ⟨Fr.refl _ _,H,fun k c hk b hb=>.inl (by simp only[owns,List.mem_flatMap];exact⟨c,List.mem_of_getElem? hk,hb⟩)⟩
section
variable {h0 h h':Heap} {M:List Nat} {cs:List Ck} {c d:Ck} {i j k:Nat}
theorem Sy.ok (Y:Sy h0 M h cs) (hk:cs[k]? =some c):c.ok h:=Y.hp.ok k c hk
theorem Sy.le (Y:Sy h0 M h cs):h0.size<=h.size:=Y.fr.size
theorem Sy.gr (Y:Sy h0 M h cs) (f:Fr [] h h'):Sy h0 M h' cs:=
 ⟨Y.fr.comp f (by simp),⟨fun k c hk=>Ck.size_le (Y.hp.ok k c hk) f,Y.hp.ap⟩,Y.ow⟩
theorem Sy.mut (Y:Sy h0 M h cs) (hk:cs[k]? =some c) (c':Ck) (hs:h.size<=h'.size) (hb:∀b,b<h.size->b∉c.own->h'[b]? =h[b]?) (hc:c'.ok h')
  (ho:∀b∈c'.own,b∈c.own\/h.size<=b) (hr:∀b∈c'.rd,b∈c.own\/b∈c.rd\/h.size<=b):Sy h0 M h' (cs.set k c'):=by
 have hkl:=(List.getElem?_eq_some_iff.1 hk).1
 have old:∀(i:Nat) (d:Ck),(cs.set k c')[i]? =some d->(i=k/\d=c')\/(i≠k/\cs[i]? =some d):=by
  intro i d hd
  rw[List.getElem?_set]at hd
  split at hd
  ·rename_i e;subst e;simp[hkl]at hd;exact .inl ⟨rfl,hd.symm⟩
  ·rename_i e;exact .inr ⟨fun x=>e x.symm,hd⟩
 refine⟨⟨Nat.le_trans Y.le hs,fun b hb0 hbm=>?_⟩,⟨fun i d hd=>?_,fun i j d e hij hd he=>?_⟩,fun i d hd b hbo=>?_⟩
 ·rw [hb b (Nat.lt_of_lt_of_le hb0 Y.le) fun hbo=>?_]
  ·exact Y.fr.blk b hb0 hbm
  ·rcases Y.ow k c hk b hbo with q | q
   ·exact hbm q
   ·omega
 ·rcases old i d hd with⟨rfl,rfl⟩ | ⟨hik,hd⟩
  ·exact hc
  ·have hok:=Y.hp.ok i d hd
   obtain⟨l1,l2⟩:=d.lt h hok
   exact d.fr h h' (fun b hbd=>hb b (l1 b hbd) fun q=>(Y.hp.ap k i c d (fun e=>hik e.symm) hk hd b q).1 hbd)
    (fun b hbd=>hb b (l2 b hbd) fun q=>(Y.hp.ap k i c d (fun e=>hik e.symm) hk hd b q).2 hbd) hok
 ·rcases old i d hd with⟨e1,e2⟩ | ⟨hik,hd1⟩
  ·rcases old j e he with⟨e3,_⟩ | ⟨hjk,he1⟩
   ·exact absurd (e1.trans e3.symm) hij
   ·subst e1;subst e2
    intro b hbo
    have hok:=Y.hp.ok j e he1
    obtain⟨l1,l2⟩:=e.lt h hok
    rcases ho b hbo with q | q
    ·exact Y.hp.ap i j c e (by omega) hk he1 b q
    ·exact ⟨fun q2=>by have:=l1 b q2;omega,fun q2=>by have:=l2 b q2;omega⟩
  ·rcases old j e he with⟨e1,e2⟩ | ⟨hjk,he1⟩
   ·subst e1;subst e2
    intro b hbo
    have hok:=Y.hp.ok i d hd1
    obtain⟨l1,l2⟩:=d.lt h hok
    have a:=Y.hp.ap i j d c (by omega) hd1 hk b hbo
    refine⟨fun q=>?_,fun q=>?_⟩
    ·rcases ho b q with q | q
     ·exact a.1 q
     ·have:=l1 b hbo;omega
    ·rcases hr b q with q | q | q
     ·exact a.1 q
     ·exact a.2 q
     ·have:=l1 b hbo;omega
   ·exact Y.hp.ap i j d e hij hd1 he1
 ·rcases old i d hd with⟨rfl,rfl⟩ | ⟨hik,hd⟩
  ·rcases ho b hbo with q | q
   ·exact Y.ow i c hk b q
   ·have:=Y.le;exact .inr (by omega)
  ·exact Y.ow i d hd b hbo
def To (c c':Ck):Prop:=(∀h,c.ok h->c'.ok h)/\(∀b∈c'.own,b∈c.own)/\(∀b∈c'.rd,b∈c.own\/b∈c.rd)
theorem To.refl (c:Ck):To c c:=⟨fun _ h=>h,fun _ h=>h,fun _ h=>.inr h⟩
theorem Sy.turn (Y:Sy h0 M h cs) (k:Nat) (hk:cs[k]? =some c) {c':Ck} (t:To c c'):Sy h0 M h (cs.set k c'):=
 Y.mut hk c' (Nat.le_refl _) (fun _ _ _=>rfl) (t.1 h (Y.ok hk)) (fun b hb=>.inl (t.2.1 b hb)) (fun b hb=>(t.2.2 b hb).imp id .inl)
theorem Sy.add (Y:Sy h0 M h cs) (f:Fr [] h h') (c:Ck) (hc:c.ok h') (ho:∀b∈c.own,h.size<=b) (hr:∀b∈c.rd,h.size<=b):Sy h0 M h' (cs++[c]):=by
 have Y':=Y.gr f
 have old:∀(i:Nat) (d:Ck),(cs++[c])[i]? =some d->(i=cs.length/\d=c)\/(i≠cs.length/\cs[i]? =some d):=by
  intro i d hd
  by_cases hi:i<cs.length
  ·rw [List.getElem?_append_left hi]at hd;exact .inr ⟨by omega,hd⟩
  ·rw [List.getElem?_append_right (by omega)]at hd
   have hlt:=(List.getElem?_eq_some_iff.1 hd).1
   simp at hlt
   have e0:i-cs.length=0:=by omega
   rw[e0]at hd;simp at hd
   exact .inl ⟨by omega,hd.symm⟩
 refine⟨Y'.fr,⟨fun i d hd=>?_,fun i j d e hij hd he=>?_⟩,fun i d hd b hbo=>?_⟩
 ·rcases old i d hd with⟨rfl,rfl⟩ | ⟨_,hd⟩
  ·exact hc
  ·exact Y'.hp.ok i d hd
 ·rcases old i d hd with⟨e1,e2⟩ | ⟨hi,hd1⟩
  ·rcases old j e he with⟨e3,_⟩ | ⟨hj,he1⟩
   ·exact absurd (e1.trans e3.symm) hij
   ·subst e2
    intro b hbo
    obtain⟨l1,l2⟩:=e.lt h (Y.hp.ok j e he1)
    have:=ho b hbo
    exact⟨fun q=>by have:=l1 b q;omega,fun q=>by have:=l2 b q;omega⟩
  ·rcases old j e he with⟨e1,e2⟩ | ⟨hj,he1⟩
   ·subst e2
    intro b hbo
    obtain⟨l1,l2⟩:=d.lt h (Y.hp.ok i d hd1)
    have:=l1 b hbo
    exact⟨fun q=>by have:=ho b q;omega,fun q=>by have:=hr b q;omega⟩
   ·exact Y'.hp.ap i j d e hij hd1 he1
 ·rcases old i d hd with⟨rfl,rfl⟩ | ⟨_,hd⟩
  ·have:=ho b hbo;have:=Y.le;exact .inr (by omega)
  ·exact Y.ow i d hd b hbo
theorem Sy.addN (Y:Sy h0 M h cs) (c:Ck) (hc:c.ok h) (ho:c.own=[]) (hr:c.rd=[]):Sy h0 M h (cs++[c]):=
 Y.add (Fr.refl _ _) c hc (by simp[ho]) (by simp[hr])
def pk (cs:List Ck):List Nat->List Ck
 | []=>[]
 | i::r=>match cs[i]? with
  | some c=>c::pk cs r
  | none=>pk cs r
def chkI (n:Nat):List Nat->Bool
 | []=>true
 | i::r=>Nat.blt i n&& !(r.any (Nat.beq i))&&chkI n r
theorem pk_get :∀{l:List Nat} {k:Nat} {c:Ck},chkI cs.length l=true->(pk cs l)[k]? =some c->∃i,l[k]? =some i/\cs[i]? =some c
 | [],k,c,_,h=>by simp[pk]at h
 | i::r,k,c,hc,h=>by
  simp only[chkI,Bool.and_eq_true]at hc
  have hi:i<cs.length:=by simpa using hc.1.1
  simp only[pk,List.getElem?_eq_getElem hi]at h
  cases k with
  | zero=>simp at h;subst h;exact⟨i,rfl,List.getElem?_eq_getElem hi⟩
  | succ k=>
   obtain⟨j,h1,h2⟩:=pk_get hc.2 (by simpa using h)
   exact⟨j,by simpa using h1,h2⟩
theorem chkI_nd :∀{l:List Nat} {n p q i:Nat},chkI n l=true->l[p]? =some i->l[q]? =some i->p=q
 | [],_,_,_,_,_,h,_=>by simp at h
 | x::r,n,p,q,i,hc,hp,hq=>by
  simp only[chkI,Bool.and_eq_true,Bool.not_eq_true']at hc
  have nx:∀m,r[m]? ≠some x:=fun m hm=>by
   have:r.any (Nat.beq x)=true:=List.any_eq_true.2 ⟨x,List.mem_of_getElem? hm,by simp⟩
   rw[hc.1.2]at this;cases this
  cases p with
  | zero=>
   simp at hp;subst hp
   cases q with
   | zero=>rfl
   | succ q=>exact absurd (by simpa using hq) (nx q)
  | succ p=>
   cases q with
   | zero=>simp at hq;subst hq;exact absurd (by simpa using hp) (nx p)
   | succ q=>exact congrArg (· +1) (chkI_nd hc.2 (by simpa using hp) (by simpa using hq))
theorem Hp.pick (H:Hp h cs) (l:List Nat) (hc:chkI cs.length l=true):Hp h (pk cs l):=by
 refine⟨fun k c hk=>?_,fun i j c d hij hi hj=>?_⟩
 ·obtain ⟨i,_,h2⟩:=pk_get hc hk
  exact H.ok i c h2
 ·obtain ⟨p,h1,h2⟩:=pk_get hc hi
  obtain⟨q,h3,h4⟩:=pk_get hc hj
  exact H.ap p q c d (fun e=>hij (by subst e;exact chkI_nd hc h1 h3)) h2 h4
theorem Sy.pick (Y:Sy h0 M h cs) (l:List Nat) (hc:chkI cs.length l=true):Sy h0 M h (pk cs l):=
 ⟨Y.fr,Y.hp.pick l hc,fun k c hk b hb=>by obtain⟨i,_,h2⟩:=pk_get hc hk;exact Y.ow i c h2 b hb⟩
end
end Go.X
/- The chunks: slices of one's own, views, slices of slices, blocks behind pointers; what reads and writes make of them. Conditions: none. -/
namespace Go.X
theorem some_blk {h h':Heap} {b:Nat} (hb:b<h.size) (e:h'[b]? =h[b]?):b<h'.size:=by
 rw[Array.getElem?_eq_getElem hb]at e
 exact(Array.getElem?_eq_some_iff.1 e).1
def rdOf (a:Option Addr):Nat->List Nat
 | 0=>[]
 | _+1=>blkOf a
theorem rdOf_sub {a:Option Addr} {n b:Nat} (h:b∈rdOf a n):b∈blkOf a:=by
 cases n with
 | zero=>simp[rdOf]at h
 | succ n=>exact h
theorem rd_mem {a:Option Addr} {b o n:Nat} (e:a=some ⟨b,o,none⟩) (hn:0<n):b∈rdOf a n:=by
 cases n with
 | zero=>omega
 | succ n=>simp[rdOf,e,blkOf]
theorem Reads.lt {h:Heap} {sz n:Nat} {a:Option Addr} {xs:List Value} (r:Reads h sz a n xs) (hs:0<sz):∀b∈rdOf a n,b<h.size:=by
 intro b hb
 cases n with
 | zero=>simp[rdOf]at hb
 | succ n=>
  rcases r.2 with⟨_,h0⟩ | ⟨b',o,e,hc⟩
  ·omega
  ·subst e
   simp[rdOf,blkOf]at hb;subst hb
   have hl:0<xs.length:=by rw[r.1];exact Nat.mul_pos (by omega) hs
   exact hcell_lt (hc 0 _ (List.getElem?_eq_getElem hl))
theorem Reads.at2 {h h':Heap} {sz n:Nat} {a:Option Addr} {xs:List Value} (r:Reads h sz a n xs) (he:∀b∈rdOf a n,h'[b]? =h[b]?):Reads h' sz a n xs:=by
 obtain⟨h1,h2⟩:=r
 refine⟨h1,h2.imp id ?_⟩
 rintro⟨b,o,rfl,h3⟩
 refine⟨b,o,rfl,fun j v hj=>?_⟩
 rw[hcell_congr (he b ?_)]
 ·exact h3 j v hj
 ·cases n with
  | zero=>simp at h1;subst h1;simp at hj
  | succ n=>simp[rdOf,blkOf]
def Ck.junk (b:Nat):Ck:=⟨[b],[],fun h=>b<h.size,fun h hb=>⟨by simpa using hb,by simp⟩,fun h h' he _ hb=>some_blk hb (he b (by simp))⟩
def Ck.sl {α:Type} (E:En α) (ty:TypeId) (a:Option Addr) (n c:Nat) (xs:List α):Ck:=
 ⟨blkOf a,[],fun h=>Ownd h ty E.sz a n c (E.l xs)/\xs.length=n,fun h o=>⟨o.1.lt,by simp⟩,fun h h' he _ o=>⟨o.1.blk he,o.2⟩⟩
def Ck.vw {α:Type} (E:En α) (a:Option Addr) (n c:Nat) (xs:List α):Ck:=
 ⟨[],rdOf a n,fun h=>Reads h E.sz a n (E.l xs)/\xs.length=n/\n<=c/\(a=none->c=0),fun h o=>⟨by simp,o.1.lt E.pos⟩,fun h h' _ he o=>⟨o.1.at2 he,o.2⟩⟩
def Ck.ob (b:Nat) (ty:TypeId) (cells:List Value):Ck:=
 ⟨[b],[],fun h=>h[b]? =some (.cells cells.toArray ty (0,0)),fun h o=>⟨by simpa using blk_lt o,by simp⟩,fun h h' he _ o=>(he b (by simp)).trans o⟩
section
variable {α:Type} {E:En α} {h0 h h':Heap} {M:List Nat} {cs:List Ck} {ty t1 t2:TypeId} {a:Option Addr} {n c:Nat} {xs ys:List α} {xss:List (List α)} {b o:Nat} {cells:List Value} {P:Nat->Bool}
theorem Sy.atS (Y:Sy h0 M h cs) (k:Nat) (hk:cs[k]? =some (Ck.sl E ty a n c xs)) {i:Int} (hi:0<=i) (hn:i<(n:Int)):
  ∃b,a=some ⟨b,0,none⟩/\b∈(Ck.sl E ty a n c xs).own/\∃x,xs[i.toNat]? =some x:=by
 obtain⟨ow,ln⟩:=Y.ok hk
 obtain⟨g,cur,e,_⟩:=ow.at (by omega)
 exact⟨g,e,by show g∈blkOf a;simp[e,blkOf],_,List.getElem?_eq_getElem (by omega)⟩
theorem Sy.cellS (Y:Sy h0 M h cs) (k:Nat) (hk:cs[k]? =some (Ck.sl E ty a n c xs)) (ha:a=some ⟨b,0,none⟩) {i t:Nat} {x:α} {v:Value} (hx:xs[i]? =some x) (hv:(E.enc x)[t]? =some v):
  hcell h b (0+i*E.sz+t)=some v:=by
 subst ha
 rw[Nat.zero_add]
 exact(Y.ok hk).1.cell (En.l_get hx hv)
theorem Sy.freeS (Y:Sy h0 M h cs) (k:Nat) (hk:cs[k]? =some (Ck.sl E ty a n c xs)) (ha:a=some ⟨b,0,none⟩) (o:Nat):hfree h b o=true:=by
 subst ha
 exact(Y.ok hk).1.free o
theorem Sy.lenS (Y:Sy h0 M h cs) (k:Nat) (hk:cs[k]? =some (Ck.sl E ty a n c xs)):n=xs.length:=(Y.ok hk).2.symm
theorem Sy.ownS (Y:Sy h0 M h cs) (k:Nat) (hk:cs[k]? =some (Ck.sl E ty a n c xs)):Ownd h ty E.sz a n c (E.l xs):=(Y.ok hk).1
theorem Sy.readsS (Y:Sy h0 M h cs) (k:Nat) (hk:cs[k]? =some (Ck.sl E ty a n c xs)):Reads h E.sz a n (E.l xs):=(Y.ok hk).1.reads
theorem Ownd.nc {h:Heap} {e sz n c:Nat} {a:Option Addr} {xs:List Value} (o:Ownd h e sz a n c xs):a=none->c=0:=by
 rintro rfl
 rcases o.2 with⟨_,_,h⟩ | ⟨g,cur,h,_⟩
 ·exact h
 ·cases h
theorem Sy.capS (Y:Sy h0 M h cs) (k:Nat) (hk:cs[k]? =some (Ck.sl E ty a n c xs)):n<=c/\c<=maxLen/\(a=none->c=0):=⟨(Y.ok hk).1.cap.1,(Y.ok hk).1.cap.2,(Y.ok hk).1.nc⟩
theorem Sy.nilS (Y:Sy h0 M h cs) (E:En α) (ty:TypeId):Sy h0 M h (cs++[Ck.sl E ty none 0 0 []]):=
 Y.addN _ ⟨Ownd.nil _ _ _,rfl⟩ rfl rfl
theorem Sy.litS (Y:Sy h0 M h cs) {vs:Array Value} (ys:List α) (hv:(E.l ys).toArray=vs) (hn:ys.length<=maxLen):Sy h0 M (h.push (.cells vs ty)) (cs++[Ck.sl E ty (some ⟨h.size,0,none⟩) ys.length ys.length ys]):=by
 subst hv
 exact Y.add (Fr.push h _) _ ⟨own_new (En.l_len ys) hn,rfl⟩ (by simp[Ck.sl,blkOf]) (by simp[Ck.sl])
theorem Sy.stS (Y:Sy h0 M h cs) (k:Nat) (hk:cs[k]? =some (Ck.sl E ty a n c xs)) (ha:a=some ⟨b,0,none⟩) {i t:Nat} {x:α} (x':α) {v:Value} (hx:xs[i]? =some x) (ht:t<E.sz) (hv:E.enc x'=(E.enc x).set t v):
  Sy h0 M (hset h b (0+i*E.sz+t) v) (cs.set k (Ck.sl E ty a n c (xs.set i x'))):=by
 subst ha
 obtain⟨ow,ln⟩:=Y.ok hk
 refine Y.mut hk _ (by simp) (fun d _ hd=>hset_ne (by rintro rfl;exact hd (by simp[Ck.sl,blkOf]))) ⟨?_,by simpa using ln⟩ (fun d hd=>.inl hd) (fun d hd=>by simp[Ck.sl]at hd)
 have:=ow.set (0+i*E.sz+t) v
 rw[Nat.zero_add,En.l_set hx ht hv]at this
 rw[Nat.zero_add];exact this
theorem Sy.st1 (Y:Sy h0 M h cs) (k:Nat) (hk:cs[k]? =some (Ck.sl E ty a n c xs)) (ha:a=some ⟨b,0,none⟩) {i:Nat} (x':α) {v:Value} (hi:i<n) (hv:E.enc x'=[v]):
  Sy h0 M (hset h b (0+i*E.sz) v) (cs.set k (Ck.sl E ty a n c (xs.set i x'))):=by
 have hs:E.sz=1:=by have:=E.len x';rw[hv]at this;exact this.symm
 have hl:=Y.lenS k hk
 have hx:xs[i]? =some xs[i]:=List.getElem?_eq_getElem (by omega)
 have e:∀y,∃u,E.enc y=[u]:=fun y=>by
  have:=E.len y;rw[hs]at this
  exact List.length_eq_one_iff.1 this
 obtain⟨u,hu⟩:=e xs[i]
 have:=Y.stS k hk ha (t:=0) x' (v:=v) hx (by omega) (by rw[hv,hu];rfl)
 simpa using this
theorem Sy.appS (Y:Sy h0 M h cs) (k:Nat) (hk:cs[k]? =some (Ck.sl E ty a n c xs)) {sA:Option Addr} {sC m:Nat} {vs:List Value} (ys:List α) (ow:Ownd h' ty E.sz sA (n+m) sC (E.l xs++vs)) (f:Fr (blkOf a) h h')
  (g:(sA=a/\sC=c)\/∃g,sA=some ⟨g,0,none⟩/\h.size<=g) (hv:E.l ys=vs) (hm:ys.length=m):Sy h0 M h' (cs.set k (Ck.sl E ty sA (n+m) sC (xs++ys))):=by
 have hl:=Y.lenS k hk
 refine Y.mut hk _ f.size (fun d hd hn=>f.blk d hd hn) ⟨by rw[En.l_append,hv];exact ow,by simp[hm,hl]⟩ (fun d hd=>?_) (fun d hd=>by simp[Ck.sl]at hd)
 rcases g with⟨rfl,_⟩ | ⟨g,rfl,hg⟩
 ·exact .inl hd
 ·simp [Ck.sl,blkOf]at hd;exact .inr (by omega)
theorem Sy.atV (Y:Sy h0 M h cs) (k:Nat) (hk:cs[k]? =some (Ck.vw E a n c xs)) {i:Int} (hi:0<=i) (hn:i<(n:Int)):
  ∃b o,a=some ⟨b,o,none⟩/\b∈(Ck.vw E a n c xs).rd/\∃x,xs[i.toNat]? =some x:=by
 obtain⟨r,ln,_⟩:=Y.ok hk
 obtain⟨b,o,e,_⟩:=r.at (by omega)
 exact⟨b,o,e,rd_mem e (by omega),_,List.getElem?_eq_getElem (by omega)⟩
theorem Sy.cellV (Y:Sy h0 M h cs) (k:Nat) (hk:cs[k]? =some (Ck.vw E a n c xs)) (ha:a=some ⟨b,o,none⟩) {i t:Nat} {x:α} {v:Value} (hx:xs[i]? =some x) (hv:(E.enc x)[t]? =some v):
  hcell h b (o+i*E.sz+t)=some v:=by
 obtain⟨r,ln,_⟩:=Y.ok hk
 rcases r.2 with⟨h1,h2⟩ | ⟨b',o',e,hc⟩
 ·subst h2;have:=(List.getElem?_eq_some_iff.1 hx).1;omega
 ·rw [e]at ha;simp at ha;obtain⟨rfl,rfl⟩:=ha
  rw[Nat.add_assoc]
  exact hc _ _ (En.l_get hx hv)
theorem Sy.lenV (Y:Sy h0 M h cs) (k:Nat) (hk:cs[k]? =some (Ck.vw E a n c xs)):n=xs.length:=(Y.ok hk).2.1.symm
theorem To.slvw :To (Ck.sl E ty a n c xs) (Ck.vw E a n c xs):=
 ⟨fun h o=>⟨o.1.reads,o.2,o.1.cap.1,o.1.nc⟩,by simp[Ck.vw],fun b hb=>.inl (rdOf_sub hb)⟩
theorem To.sljunk {g:Nat}:To (Ck.ob g ty cells) (Ck.junk g):=⟨fun h o=>blk_lt o,fun b hb=>hb,fun b hb=>by simp[Ck.junk]at hb⟩
theorem Sy.junk (Y:Sy h0 M h cs) (x:Obj):Sy h0 M (h.push x) (cs++[Ck.junk h.size]):=
 Y.add (Fr.push h x) _ (by simp[Ck.junk]) (by simp[Ck.junk]) (by simp[Ck.junk])
theorem Sy.stJ (Y:Sy h0 M h cs) (k:Nat) (hk:cs[k]? =some (Ck.junk b)) (o:Nat) (v:Value):Sy h0 M (hset h b o v) cs:=by
 have:=Y.mut (h':=hset h b o v) hk (Ck.junk b) (by simp) (fun d _ hd=>hset_ne (by rintro rfl;exact hd (by simp[Ck.junk]))) (by have:=Y.ok hk;simpa[Ck.junk]using this) (fun d hd=>.inl hd) (fun d hd=>by simp[Ck.junk]at hd)
 have e:cs.set k (Ck.junk b)=cs:=by
  apply List.ext_getElem?
  intro j
  rw[List.getElem?_set]
  split
  ·rename_i e;subst e;rw[hk];simp;exact(List.getElem?_eq_some_iff.1 hk).1
  ·rfl
 rwa[e]at this
theorem Sy.newO (Y:Sy h0 M h cs) (vs:List Value):Sy h0 M (h.push (.cells vs.toArray ty)) (cs++[Ck.ob h.size ty vs]):=
 Y.add (Fr.push h _) _ blk_push_new (by simp[Ck.ob]) (by simp[Ck.ob])
theorem Sy.cellO (Y:Sy h0 M h cs) (k:Nat) (hk:cs[k]? =some (Ck.ob b ty cells)) (j:Nat) {v:Value} (hv:cells[j]? =some v):hcell h b j=some v:=by
 rw[hcell_of (Y.ok hk)];simpa using hv
theorem Sy.freeO (Y:Sy h0 M h cs) (k:Nat) (hk:cs[k]? =some (Ck.ob b ty cells)) (j:Nat):hfree h b j=true:=hfree_of (Y.ok hk) j
theorem Sy.stO (Y:Sy h0 M h cs) (k:Nat) (hk:cs[k]? =some (Ck.ob b ty cells)) (j:Nat) (v:Value):Sy h0 M (hset h b j v) (cs.set k (Ck.ob b ty (cells.set j v))):=
 Y.mut hk _ (by simp) (fun d _ hd=>hset_ne (by rintro rfl;exact hd (by simp[Ck.ob]))) (by
  have:=hset_of (o:=j) (v:=v) (Y.ok hk)
  simpa[Ck.ob]using this) (fun d hd=>.inl hd) (fun d hd=>by simp[Ck.ob]at hd)
end
end Go.X
/- Rows in chunks; calls, loops over chunks. Conditions: none. -/
namespace Go.X
section
variable {α:Type} {E:En α} {h0 h h':Heap} {M:List Nat} {cs:List Ck} {ty t1 t2:TypeId} {a:Option Addr} {n c:Nat} {xs ys:List α} {xss:List (List α)} {b o:Nat} {cells:List Value} {P:Nat->Bool}
theorem Sy.startM (H:Hp h cs) (e:owns cs=M):Sy h M h cs:=e▸Sy.start H
theorem callX_sy {Pr:Program} {f:FuncId} {args:Array Value} {H MA:List Nat} {R K:Value->Heap->Prop} (c:CallsH Pr f args h R) (hf:∀v h',R v h'->Fr MA h h') (hH:∀b∈H,b∉MA) (k:∀v h',R v h'->K v h'):callX Pr f args h H K:=
 ⟨MA,R,c.mono fun v h' r=>⟨hf v h' r,r⟩,hH,fun v h' _ r=>k v h' r⟩
theorem alln {P:Nat->Prop}:∀b∈([]:List Nat),P b:=fun _ h=>by cases h
theorem allc {P:Nat->Prop} {x:Nat} {l:List Nat} (h:P x) (t:∀b∈l,P b):∀b∈x::l,P b:=List.forall_mem_cons.2 ⟨h,t⟩
theorem cnd_imp {x:Bool} {A B A' B':Prop} (T:cnd x A B) (a:A->A') (b:B->B'):cnd x A' B':=⟨fun h=>a (T.1 h),fun h=>b (T.2 h)⟩
open Classical in
noncomputable def Lm (J : Nat -> List Value -> Heap -> Prop) (l : List Value) (h : Heap) : Nat := if e : ∃ k, J k l h then (least e).choose else 0
theorem loopIn {J:Nat->List Value->Heap->Prop} {l:List Value} (e:∃k,J k l h):∃k,J k l h/\Lm J l h=k:=by
 refine⟨(least e).choose,(least e).choose_spec.1,?_⟩
 rw[Lm,dif_pos e]
theorem loopBack {J:Nat->List Value->Heap->Prop} {l l':List Value} {k k':Nat} (hm:Lm J l h=k) (j:J k' l' h') (lt:k'<k):(∃k,J k l' h')/\Lm J l' h'<Lm J l h:=by
 refine⟨⟨k',j⟩,?_⟩
 have e:∃k,J k l' h':=⟨k',j⟩
 rw[hm,Lm,dif_pos e]
 exact Nat.lt_of_le_of_lt ((least e).choose_spec.2 k' j) lt
theorem Sy.cut (Y:Sy h0 M h cs) (v f:List Nat) (hc:chkI cs.length (v++f)=true):∃B,B=pk cs f/\Sy h0 M h (pk cs v++B):=by
 refine⟨_,rfl,?_⟩
 have e:∀(v:List Nat),pk cs (v++f)=pk cs v++pk cs f:=by
  intro v
  induction v with
  | nil=>rfl
  | cons i v ih=>simp only[List.cons_append,pk];split<;>simp[ih]
 rw[<-e]
 exact Y.pick _ hc
end
end Go.X
/- Two chunks at once: rows that come in, rows that are picked out. Conditions: none. -/
namespace Go.X
section
variable {α:Type} {E:En α} {h0 h h':Heap} {M:List Nat} {cs:List Ck} {ty t1 t2:TypeId} {a:Option Addr} {n c:Nat} {xs ys:List α} {xss:List (List α)} {b o:Nat} {A B:Ck} {k j:Nat}
theorem nodup_inj {β:Type} {l:List β} (nd:l.Nodup) {p q:Nat} {x:β} (hp:l[p]? =some x) (hq:l[q]? =some x):p=q:=by
 obtain⟨l1,g1⟩:=List.getElem?_eq_some_iff.1 hp
 obtain⟨l2,g2⟩:=List.getElem?_eq_some_iff.1 hq
 rcases Nat.lt_trichotomy p q with h | h | h
 ·exact absurd (g1.trans g2.symm) (List.pairwise_iff_getElem.1 nd p q l1 l2 h)
 ·exact h
 ·exact absurd (g2.trans g1.symm) (List.pairwise_iff_getElem.1 nd q p l2 l1 h)
end
end Go.X
namespace Go.X
theorem callP_of {P:Program} {f:FuncId} {args:Array Value} {h:Heap} {H:List Nat} {K E R Rp:Value->Heap->Prop} (M:List Nat) (c:CallsP P f args h R Rp) (hm:∀b∈H,b∉M)
  (f1:∀v h',R v h'->Fr M h h') (f2:∀v h',Rp v h'->Fr M h h') (k:∀v h',R v h'->K v h') (e:∀v h',Rp v h'->E v h'):callP P f args h H K E:=
 ⟨M,R,Rp,c.mono (fun v h' r=>⟨f1 v h' r,r⟩) (fun v h' r=>⟨f2 v h' r,r⟩),hm,fun v h' _ r=>k v h' r,fun v h' _ r=>e v h' r⟩
theorem callX_ofR {P:Program} {f:FuncId} {args:Array Value} {h:Heap} {H:List Nat} {K R:Value->Heap->Prop} (M:List Nat) (c:CallsH P f args h R) (hm:∀b∈H,b∉M)
  (f1:∀v h',R v h'->Fr M h h') (k:∀v h',R v h'->K v h'):callX P f args h H K:=
 ⟨M,R,c.mono (fun v h' r=>⟨f1 v h' r,r⟩),hm,fun v h' _ r=>k v h' r⟩
theorem callX_same {P:Program} {f:FuncId} {args:Array Value} {h:Heap} {H:List Nat} {K:Value->Heap->Prop} {v0:Value} (c:CallsH P f args h fun v h'=>v=v0/\h'=h) (k:K v0 h):callX P f args h H K:=
 callX_ofR [] c (by simp) (fun _ _ r=>Fr.of_eq r.2) fun v h' r=>by obtain⟨rfl,rfl⟩:=r;exact k
structure Lx (h:Heap) (b:Nat) (s:ByteArray) (i:Nat):Prop where
 c0:hcell h b 0=some (.string s)
 c1:hcell h b 1=some (.int .i64 (i:Int))
 fr:hfree h b 1=true
structure Mv (b:Nat) (h h':Heap) (j:Nat):Prop where
 lt:b<h.size
 fr:Fr [b] h h'
 at_:h'[b]? =(hset h b 1 (.int .i64 (j:Int)))[b]?
theorem Lx.lt {h:Heap} {b:Nat} {s:ByteArray} {i:Nat} (L:Lx h b s i):b<h.size:=hcell_lt L.c0
theorem hcell_blk {h:Heap} {b o:Nat} {v:Value} (hc:hcell h b o=some v):∃c e f,h[b]? =some (.cells c e f)/\c[o]? =some v:=by
 unfold hcell at hc
 cases q:h[b]? with
 | none=>rw[q]at hc;cases hc
 | some x=>
  cases x with
  | cells c e f=>rw[q]at hc;exact⟨c,e,f,rfl,hc⟩
  | _=>rw[q]at hc;cases hc
theorem set_same {c:Array Value} {o:Nat} {v:Value} (h:c[o]? =some v):c.setIfInBounds o v=c:=by
 apply Array.ext_getElem?
 intro j
 by_cases e:o=j
 ·subst e
  rw[Array.getElem?_setIfInBounds_self_of_lt ((Array.getElem?_eq_some_iff.1 h).1),h]
 ·rw [Array.getElem?_setIfInBounds_ne e]
theorem Mv.refl {h:Heap} {b:Nat} {s:ByteArray} {i:Nat} (L:Lx h b s i):Mv b h h i:=by
 refine⟨L.lt,Fr.refl _ _,?_⟩
 obtain⟨c,e,f,h1,h2⟩:=hcell_blk L.c1
 rw[hset_of h1,set_same h2,h1]
theorem Mv.to {h:Heap} {b:Nat} {s:ByteArray} {i:Nat} (L:Lx h b s i) (j:Nat):Mv b h (hset h b 1 (.int .i64 (j:Int))) j:=⟨L.lt,Fr.hset h b 1 _,rfl⟩
theorem Mv.trans {b:Nat} {h h1 h2:Heap} {i j:Nat} (a:Mv b h h1 i) (k:Mv b h1 h2 j):Mv b h h2 j:=by
 refine⟨a.lt,a.fr.trans k.fr,?_⟩
 rw[k.at_]
 have e:=a.at_
 cases q:h[b]? with
 | none=>have:=Array.getElem?_eq_none_iff.1 q;have:=a.lt;omega
 | some x=>
  cases x with
  | cells c t f=>
   rw[hset_of q]at e
   rw[hset_of e,hset_of q]
   simp
  | _=>
   have e1:(hset h b 1 (.int .i64 (i:Int)))[b]? =h[b]? :=by simp[hset,Array.getElem?_modify,q]
   have e2:(hset h b 1 (.int .i64 (j:Int)))[b]? =h[b]? :=by simp[hset,Array.getElem?_modify,q]
   rw[e1]at e
   rw[e2]
   have:(hset h1 b 1 (.int .i64 (j:Int)))[b]? =h1[b]? :=by simp[hset,Array.getElem?_modify,e,q]
   rw[this,e]
theorem Mv.ext {b:Nat} {h h1 h2:Heap} {i:Nat} {N:List Nat} (a:Mv b h h1 i) (f:Fr N h1 h2) (hn:∀x∈N,h.size<=x):Mv b h h2 i:=by
 have hb:b∉N:=fun q=>by have:=hn b q;have:=a.lt;omega
 exact⟨a.lt,a.fr.comp f (fun x q=>.inr (hn x q)),(f.blk b (Nat.lt_of_lt_of_le a.lt a.fr.size) hb).trans a.at_⟩
theorem Mv.push {b:Nat} {h h1:Heap} {i:Nat} (a:Mv b h h1 i) (x:Obj):Mv b h (h1.push x) i:=a.ext (Fr.push h1 x) (by simp)
theorem Mv.hsetn {b:Nat} {h h1:Heap} {i p o:Nat} {v:Value} (a:Mv b h h1 i) (hp:h.size<=p):Mv b h (hset h1 p o v) i:=a.ext (Fr.hset h1 p o v) (by simpa using hp)
theorem Lx.mv {h h':Heap} {b:Nat} {s:ByteArray} {i j:Nat} (L:Lx h b s i) (m:Mv b h h' j):Lx h' b s j:=by
 obtain⟨c,e,f,h1,h2⟩:=hcell_blk L.c1
 have e1:=m.at_
 rw[hset_of h1]at e1
 have h0:=L.c0
 rw[hcell_of h1]at h0
 have hlt:=(Array.getElem?_eq_some_iff.1 h2).1
 refine⟨?_,?_,?_⟩
 ·rw [hcell_of e1,Array.getElem?_setIfInBounds_ne (by decide)];exact h0
 ·rw [hcell_of e1,Array.getElem?_setIfInBounds_self_of_lt hlt]
 ·have hf:=L.fr
  unfold hfree at hf ⊢
  rw[h1]at hf
  rw[e1]
  obtain⟨lo,hi⟩:=f
  simpa using hf
theorem Lx.cell {h:Heap} {b:Nat} {s:ByteArray} {i:Nat} (L:Lx h b s i):∃u,hcell h b (0+1)=some u:=⟨_,L.c1⟩
theorem Sy.mv {h0 h h':Heap} {M:List Nat} {cs:List Ck} {b j:Nat} {ty:TypeId} {cells:List Value} (Y:Sy h0 M h cs) (k:Nat) (hk:cs[k]? =some (Ck.ob b ty cells)) (m:Mv b h h' j):
  Sy h0 M h' (cs.set k (Ck.ob b ty (cells.set 1 (.int .i64 (j:Int))))):=
 Y.mut hk _ m.fr.size (fun d hd hn=>m.fr.blk d hd (by simpa[Ck.ob]using hn)) (by
  have:=m.at_
  rw[hset_of (Y.ok hk)]at this
  simpa[Ck.ob]using this) (fun d hd=>.inl hd) (fun d hd=>by simp[Ck.ob]at hd)
theorem Sy.lx {h0 h:Heap} {M:List Nat} {cs:List Ck} {b:Nat} {ty:TypeId} {s:ByteArray} {i:Nat} {cells:List Value} (Y:Sy h0 M h cs) (k:Nat) (hk:cs[k]? =some (Ck.ob b ty (.string s:: .int .i64 (i:Int)::cells))):Lx h b s i:=
 ⟨Y.cellO k hk 0 rfl,Y.cellO k hk 1 rfl,Y.freeO k hk 1⟩
def Ent (l:List (Value × Value)):Array MapEntry:=(l.mapIdx fun i p=>⟨p.1,p.2,i⟩).toArray
theorem Ent_get (l:List (Value × Value)) (j:Nat):(Ent l)[j]? =(l[j]?).map fun p=>⟨p.1,p.2,j⟩:=by simp[Ent]
theorem Ent_mem {l:List (Value × Value)} {e:MapEntry} (h:e∈(Ent l).toList):∃j p,l[j]? =some p/\e=⟨p.1,p.2,j⟩:=by
 obtain⟨j,hj,rfl⟩:=List.getElem_of_mem h
 have hj':j<l.length:=by simpa[Ent]using hj
 exact⟨j,l[j],List.getElem?_eq_getElem hj',by simp[Ent]⟩
theorem Ent_push (l:List (Value × Value)) (k v:Value):(Ent l).push ⟨k,v,l.length⟩=Ent (l++[(k,v)]):=by
 apply Array.ext'
 simp[Ent,List.mapIdx_append]
theorem Ent_ext {a:Array MapEntry} {l:List (Value × Value)} (h:∀j,a[j]? =(l[j]?).map fun p=>(⟨p.1,p.2,j⟩:MapEntry)):a=Ent l:=by
 apply Array.ext_getElem?
 intro j
 rw[h,Ent_get]
def Ck.mp (m:Nat) (l:List (Value × Value)):Ck:=
 ⟨[m],[],fun h=>hmap h m=some (Ent l,l.length),fun h o=>⟨by
  intro b hb
  simp only[List.mem_singleton]at hb
  subst hb
  exact(Array.getElem?_eq_some_iff.1 (hmap_some o)).1,by simp⟩,fun h h' he _ o=>by
  have:=hmap_some o
  exact hmap_of ((he m (by simp)).trans this)⟩
section
variable {h0 h:Heap} {M:List Nat} {cs:List Ck} {m:Nat} {l:List (Value × Value)}
theorem Sy.mapM (Y:Sy h0 M h cs) (k:Nat) (hk:cs[k]? =some (Ck.mp m l)):hmap h m=some (Ent l,l.length):=Y.ok hk
theorem hmap_hput {h:Heap} {m:Nat} (hm:m<h.size) (es:Array MapEntry) (c:Nat):hmap (hput h m es c) m=some (es,c):=by
 apply hmap_of
 simp[hput,hm]
theorem Sy.putM (Y:Sy h0 M h cs) (k:Nat) (hk:cs[k]? =some (Ck.mp m l)) (l':List (Value × Value)) {es:Array MapEntry} {c:Nat} (he:es=Ent l') (hc:c=l'.length):Sy h0 M (hput h m es c) (cs.set k (Ck.mp m l')):=by
 subst he;subst hc
 have hm:m<h.size:=(Array.getElem?_eq_some_iff.1 (hmap_some (Y.mapM k hk))).1
 exact Y.mut hk _ (by simp) (fun d hd hn=>(hput_fr h m _ _).blk d hd (by simpa[Ck.mp]using hn)) (hmap_hput hm _ _) (fun d hd=>.inl hd) (fun d hd=>by simp[Ck.mp]at hd)
theorem Sy.newM (Y:Sy h0 M h cs):Sy h0 M (h.push (.map #[] 0)) (cs++[Ck.mp h.size []]):=
 Y.add (Fr.push h _) _ (by
  apply hmap_of
  simp[Ent]) (by simp[Ck.mp]) (by simp[Ck.mp])
end
end Go.X
namespace Go.X
def nth2 (x:Int × Int) (i:Int):Int:=if i=0 then x.1 else x.2
theorem nth2_cell {h:Heap} {b o i:Nat} {x:Int × Int} {j:Int} (h0:hcell h b (o+i*2+0)=some (.int .i64 x.1)) (h1:hcell h b (o+i*2+1)=some (.int .i64 x.2)) (j0:0<=j) (j1:j<((2:Nat):Int)):
  hcell h b (o+i*2+j.toNat*1)=some (.int .i64 (nth2 x j)):=by
 by_cases hj:j=0
 ·subst hj;simpa[nth2]using h0
 ·have:j=1:=by omega
  subst this;simpa[nth2]using h1
section
variable {α:Type} {E:En α} {h0 h h':Heap} {M:List Nat} {cs:List Ck} {ty t1 t2:TypeId} {a:Option Addr} {n c:Nat} {xs ys:List α} {xss:List (List α)} {b o:Nat} {cells:List Value} {P:Nat->Bool}
end
end Go.X
namespace Go.X
set_option maxRecDepth 100000
structure GL where
 pb:Nat
 po:Nat
 pc:Nat
 fb:Nat
 fo:Nat
 fc:Nat
 lb:Nat
 lo:Nat
 lc:Nat
def tU :List Int:=[1,10,100,1000,10000,100000,1000000,10000000,100000000,1000000000,10000000000,100000000000,1000000000000,10000000000000,100000000000000,1000000000000000,10000000000000000,100000000000000000,1000000000000000000,10000000000000000000]
def tP :List Int:=[1,3,6,9,13,16,19,23,26]
def tF :List Nat:=[4607182418800017408,4621819117588971520,4636737291354636288,4652007308841189376,4666723172467343360,4681608360884174848,4696837146684686336,4711630319722168320,4726483295884279808,4741671816366391296,4756540486875873280,4771362005757984768,4786511204640096256,4801453603149578240,4816244402031689728,4831355200913801216,4846369599423283200,4861130398305394688,4876203697187506176,4891288408196988160,4906019910204099648,4921056587992461136,4936209963552724370]
def tT :List Int:=Go.Pinned.pow10Rows.flatMap fun x=>[(x.1:Int),(x.2:Int)]
def tL :List (Int × ByteArray):=Go.Pinned.cheatRows.map fun x=>((x.1:Int),⟨x.2.toArray⟩)
structure Gl (gl:GL) (h:Heap):Prop where
 opt:hcell h 3 0=some (.bool true)
 i0:hcell h 13 0=some (.int .u64 52)
 i1:hcell h 13 1=some (.int .u64 11)
 i2:hcell h 13 2=some (.int .i64 (-1023))
 u:∀(i:Nat) (v:Int),tU[i]? =some v->hcell h 2 (0+i)=some (.int .u64 v)
 t:∀(i:Nat) (v:Int),tT[i]? =some v->hcell h 10 (0+i)=some (.int .u64 v)
 p0:hcell h 15 0=some (.slice (some ⟨gl.pb,gl.po,none⟩) 9 gl.pc)
 p:∀(i:Nat) (v:Int),tP[i]? =some v->hcell h gl.pb (gl.po+i)=some (.int .i64 v)
 f0:hcell h 16 0=some (.slice (some ⟨gl.fb,gl.fo,none⟩) 23 gl.fc)
 f:∀(i:Nat) (v:Nat),tF[i]? =some v->hcell h gl.fb (gl.fo+i)=some (.float .f64 v)
 l0:hcell h 11 0=some (.slice (some ⟨gl.lb,gl.lo,none⟩) 61 gl.lc)
 l:∀(i:Nat) (v:Int × ByteArray),tL[i]? =some v->hcell h gl.lb (gl.lo+i*2)=some (.int .i64 v.1)/\hcell h gl.lb (gl.lo+i*2+1)=some (.string v.2)
 uu:∃e f,h[2]? =some (.cells (tU.map fun z=>Value.int .u64 z).toArray e f)
 e1:∃t v,hcell h 4 0=some (.iface t v)
 e2:∃t v,hcell h 5 0=some (.iface t v)
 ml:∃m,hcell h 1 0=some (.int .i64 m)
def glB (gl:GL):List Nat:=[1,4,5,3,13,2,15,16,10,11,gl.pb,gl.fb,gl.lb]
theorem Gl.congr {gl:GL} {h h':Heap} (g:Gl gl h) (hb:∀b∈glB gl,h'[b]? =h[b]?):Gl gl h':=by
 have c:∀{b o:Nat} {v:Value},b∈glB gl->hcell h b o=some v->hcell h' b o=some v:=fun m e=>(hcell_congr (hb _ m) _).trans e
 refine⟨c (by simp[glB]) g.opt,c (by simp[glB]) g.i0,c (by simp[glB]) g.i1,c (by simp[glB]) g.i2,fun i v e=>c (by simp[glB]) (g.u i v e),fun i v e=>c (by simp[glB]) (g.t i v e),c (by simp[glB]) g.p0,
  fun i v e=>c (by simp[glB]) (g.p i v e),c (by simp[glB]) g.f0,fun i v e=>c (by simp[glB]) (g.f i v e),c (by simp[glB]) g.l0,fun i v e=>⟨c (by simp[glB]) (g.l i v e).1,c (by simp[glB]) (g.l i v e).2⟩,?_,?_,?_,?_⟩
 ·obtain ⟨e,f,q⟩:=g.uu;exact⟨e,f,(hb 2 (by simp[glB])).trans q⟩
 ·obtain ⟨t,v,e⟩:=g.e1;exact⟨t,v,c (by simp[glB]) e⟩
 ·obtain ⟨t,v,e⟩:=g.e2;exact⟨t,v,c (by simp[glB]) e⟩
 ·obtain ⟨m,e⟩:=g.ml;exact⟨m,c (by simp[glB]) e⟩
theorem tT0 :∃v,tT[0]? =some v:=⟨_,rfl⟩
theorem Gl.lt {gl:GL} {h:Heap} (g:Gl gl h):∀b∈glB gl,b<h.size:=by
 intro b hb
 simp only[glB,List.mem_cons,List.not_mem_nil,or_false]at hb
 obtain⟨v0,e0⟩:=tT0
 obtain⟨_,_,a1⟩:=g.e1
 obtain⟨_,_,a2⟩:=g.e2
 obtain⟨_,a0⟩:=g.ml
 rcases hb with rfl | rfl | rfl | rfl | rfl | rfl | rfl | rfl | rfl | rfl | rfl | rfl | rfl
 ·exact hcell_lt a0
 ·exact hcell_lt a1
 ·exact hcell_lt a2
 ·exact hcell_lt g.opt
 ·exact hcell_lt g.i0
 ·exact hcell_lt (g.u 0 _ rfl)
 ·exact hcell_lt g.p0
 ·exact hcell_lt g.f0
 ·exact hcell_lt (g.t 0 _ e0)
 ·exact hcell_lt g.l0
 ·exact hcell_lt (g.p 0 _ rfl)
 ·exact hcell_lt (g.f 0 _ rfl)
 ·exact hcell_lt (g.l 0 _ rfl).1
def Ck.glob (gl:GL):Ck:=⟨[],glB gl,Gl gl,fun _ g=>⟨fun b hb=>by simp at hb,g.lt⟩,fun _ _ _ hb g=>g.congr hb⟩
section
variable {h0 h:Heap} {M:List Nat} {cs:List Ck} {gl:GL}
theorem Sy.glo (Y:Sy h0 M h cs) (k:Nat) (hk:cs[k]? =some (Ck.glob gl)):Gl gl h:=Y.ok hk
end
def errV (t:Nat):Option Int->Value
 | none=>.nilIface
 | some c=>.iface t (.int .i64 c)
theorem eK8_l (xs:List Int):(eK .u8).l xs=List.map (Value.int IntKind.u8) xs:=by
 induction xs with
 | nil=>rfl
 | cons x xs ih=>simp only[En.l,ih];rfl
theorem reads8 {h:Heap} {a:Option Addr} {n:Nat} {xs:List Int} (r:Reads h (eK .u8).sz a n ((eK .u8).l xs)):Reads h 1 a n (List.map (Value.int IntKind.u8) xs):=by
 rw[<-eK8_l];exact r
def bytesL (w:ByteArray):List Int:=w.data.toList.map fun b=>((b.toNat:Nat):Int)
theorem bytesL_l (w:ByteArray):(eK .u8).l (bytesL w)=Lib.strCells w:=by
 rw[eK8_l,bytesL,Lib.strCells,List.map_map];rfl
end Go.X
