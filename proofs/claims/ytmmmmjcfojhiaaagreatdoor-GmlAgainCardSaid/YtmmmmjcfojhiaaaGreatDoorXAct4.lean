/- The operations that make or write memory, and calls, over an abstract state; the model's operation does so. Conditions: the table of types is the program's. -/
import Derived.Test.YtmmmmjcfojhiaaaGreatDoorXDet3
import Derived.Lib.AppendStr
import Derived.Laws.BytesArg
import Derived.Laws.IdiomStrings
set_option linter.unusedVariables false
set_option linter.unusedSimpArgs false
namespace Go.X
def mem (l:List Nat) (x:Nat):Bool:=
 match l with
 | []=>false
 | y::r=>match Nat.beq y x with
  | true=>true
  | false=>mem r x
def pS (l:List (Nat × AVal)) (d:Nat):Bool:=
 match l with
 | []=>true
 | (k,v)::r=>match Nat.beq k d with
  | true=>pS r d
  | false=>match v with
   | .loc s _ | .row s _=>(match Nat.beq s d with
    | true=>false
    | false=>pS r d)
   | _=>pS r d
def sv (l:List Priv) (d:Nat):List Priv:=
 match l with
 | []=>[]
 | p::r=>match Nat.beq p.slot d with
  | true=>sv r d
  | false=>p::sv r d
theorem cz {a b:Nat} (h:Nat.beq a b=false):a≠b:=fun e=>by simp_all
theorem cr {l:List Priv} {d s:Nat} (h:s≠d):ar (sv l d) s=ar l s:=by
 induction l with
 | nil=>rfl
 | cons p r ih=>
  simp only[sv]
  cases hk:Nat.beq p.slot d with
  | true=>
   have:p.slot=d:=P4 hk
   have hn:Nat.beq p.slot s=false:=by rw[<-QK];grind [Nat.eq_of_beq_eq_true]
   simp[ih,ar,hn]
  | false=>simp only[ar,ih]
theorem xL {l:List (Nat × AVal)} {d:Nat} (h:pS l d=true):∀t x,t≠d->look l t=some x->∀s o,(x= .loc s o\/x= .row s o)->s≠d:=by
 induction l with
 | nil=>intro t x _ hx;simp[look]at hx
 | cons p r ih=>
  obtain⟨k,v⟩:=p
  intro t x htd hx s o hxs
  simp only[pS]at h
  simp only[look]at hx
  cases hkd:Nat.beq k d with
  | true=>
   simp only[hkd]at h
   have hkd':=P4 hkd
   have hkt:Nat.beq k t=false:=by rw[<-QK];grind [Nat.eq_of_beq_eq_true]
   grind
  | false=>
   grind [cz]
def hid (lc:List Priv):List Nat:=lc.map (·.blk)
def nin (b:Nat) (l:List Nat) (K:Prop):Prop:=
 match l with
 | []=>K
 | x::r=>b≠x/\nin b r K
theorem iL {b:Nat} {l:List Nat} {K:Prop} (h:nin b l K):b∉l/\K:=by
 induction l with
 | nil=>exact⟨PC,h⟩
 | cons x r ih=>obtain⟨h1,h2⟩:=h;grind
theorem Au {l:List Priv} {s:Nat} {p:Priv} (h:ar l s=some p):p∈l:=by
 induction l<;>grind [ar,List.mem_cons_of_mem]
theorem ua {l:List Priv} {s:Nat} {p:Priv} (h:ar l s=some p):p.blk∈hid l:=List.mem_map_of_mem (Au h)
theorem Rel.later {st:St} {a:Act} {w w':World} (r:Rel st a w) (hr:Rest w w') (hp:∀s p,ar st.lc s=some p->w'.heap[p.blk]? =w.heap[p.blk]?):Rel st a w':=
 ⟨r.fr,fun s p h=>(hp s p h).trans (r.pr s p h),r.ap,r.df⟩
theorem Rel.fr_later {st:St} {a:Act} {w w':World} {M:List Nat} (r:Rel st a w) (hr:Rest w w') (hf:Fr M w.heap w'.heap) (hM:∀b∈hid st.lc,b∉M):Rel st a w':=
 r.later hr fun s p h=>hf.blk p.blk (Array.getElem?_eq_some_iff.1 (r.pr s p h)).1 (hM _ (ua h))
theorem Rel.put {st:St} {a:Act} {w:World} (r:Rel st a w) {dst:Option Tmp} (hd:∀d,dst=some d->d<a.tmps.size) {x:AVal} {v:Value} (hx:x.conc st.lc=some v):
  Rel (st.put dst x) (a.put dst v) w:=by
 cases dst with
 | none=>exact r
 | some d=>
  refine⟨fun t y hy=>?_,r.pr,r.ap,r.df⟩
  simp only[St.put,look]at hy
  cases hk:Nat.beq d t with
  | true=>
   have:=P4 hk
   subst this
   simp only[hk,Option.some.injEq]at hy
   subst hy
   exact⟨v,hx,by simp[Act.put,hd d rfl]⟩
  | false=>
   simp only[hk]at hy
   obtain⟨u,h1,h2⟩:=r.fr t y hy
   exact⟨u,h1,by grind [Act.put,cz]⟩
theorem dK (a:Act) (dst:Option Tmp) (v:Value):(a.put dst v).tmps.size=a.tmps.size:=by cases dst<;>simp[Act.put]
structure RO where
 t:List Nat
 p:List Nat
 a:List Nat
def Priv.place (p:Priv):Nat × TypeId:=(p.blk,p.elem)
structure Keep (ro:RO) (st st':St):Prop where
 t:∀t,mem ro.t t=true->look st'.fr t=look st.fr t
 p:∀s,mem ro.p s=true->ar st'.lc s=ar st.lc s
 a:∀s,mem ro.a s=true->(ar st'.lc s).map Priv.place=(ar st.lc s).map Priv.place
theorem Keep.refl (ro:RO) (st:St):Keep ro st st:=⟨fun _ _=>rfl,fun _ _=>rfl,fun _ _=>rfl⟩
theorem Keep.trans {ro:RO} {a b c:St} (h:Keep ro a b) (k:Keep ro b c):Keep ro a c:=
 ⟨fun t ht=>(k.t t ht).trans (h.t t ht),fun s hs=>(k.p s hs).trans (h.p s hs),fun s hs=>(k.a s hs).trans (h.a s hs)⟩
def bR (ro:RO) (n:Nat) (dst:Option Nat):Bool:=
 match dst with
 | none=>true
 | some d=>match mem ro.t d with
  | true=>false
  | false=>Nat.blt d n
theorem gR {ro:RO} {n:Nat} {dst:Option Nat} (h:bR ro n dst=true):∀d,dst=some d->d<n:=by
 rintro d rfl
 simp only[bR]at h
 cases hm:mem ro.t d<;>simp only[hm]at h
 ·simp_all
 ·cases h
theorem vQ {ro:RO} {n:Nat} {d:Nat} (h:bR ro n (some d)=true) {t:Nat} (ht:mem ro.t t=true):Nat.beq d t=false:=by
 simp only[bR]at h
 cases hm:mem ro.t d with
 | true=>simp[hm]at h
 | false=>
  rw[<-QK]
  grind [Nat.eq_of_beq_eq_true]
theorem Keep.put {ro:RO} {n:Nat} {st:St} {dst:Option Tmp} (h:bR ro n dst=true) (x:AVal):Keep ro st (st.put dst x):=by
 cases dst with
 | none=>exact Keep.refl _ _
 | some d=>exact⟨fun t ht=>by simp[St.put,look,vQ h ht],fun _ _=>rfl,fun _ _=>rfl⟩
def Nx (ro:RO) (s0:St) (K:St->ab->Prop) (n:Nat) (w0:World) (a:Act) (w:World):Prop:=∃st,Rel st a w/\Rest w0 w/\a.tmps.size=n/\Keep ro s0 st/\K st w.heap
def pT (ro:RO) (privs:List Nat) (st:St) (dst:Option Nat) (h:ab) (e:Nat) (cells:List Value) (pub:AVal) (prv:Nat->AVal) (K:St->ab->Prop):Prop:=
 match dst with
 | some d=>match mem privs d with
  | true=>(match pS st.fr d&& !mem ro.p d&& !mem ro.a d with
   | true=>K ⟨(d,prv d)::st.fr,⟨d,h.size,e,cells⟩::sv st.lc d⟩ (h.push (.cells cells.toArray e))
   | false=>False)
  | false=>K (st.put dst pub) (h.push (.cells cells.toArray e))
 | none=>False
theorem jI {ro:RO} {privs:List Nat} {st:St} {dst:Option Nat} {e:Nat} {cells:List Value} {pub:AVal} {prv:Nat->AVal} {K:St->ab->Prop} {a:Act} {w:World} {v:Value}
  (h:pT ro privs st dst w.heap e cells pub prv K) (r:Rel st a w) (hok:bR ro a.tmps.size dst=true)
  (hpub:pub.conc st.lc=some v) (hprv:∀d l,(prv d).conc (⟨d,w.heap.size,e,cells⟩::l)=some v):
  Nx ro st K a.tmps.size w (a.put dst v) (w.alloc (.cells cells.toArray e)):=by
 have hd:=gR hok
 cases dst with
 | none=>exact h.elim
 | some d=>
  simp only[pT]at h
  have hlt:∀s p,ar st.lc s=some p->p.blk<w.heap.size:=fun s p hp=>(Array.getElem?_eq_some_iff.1 (r.pr s p hp)).1
  have hr:Rel st a (w.alloc (.cells cells.toArray e)):=r.later (Rest.alloc _ _) fun s p hp=>by
   show(w.heap.push _)[p.blk]? =_
   grind
  cases hm:mem privs d with
  | false=>
   simp only[hm]at h
   exact⟨_,hr.put hd hpub,Rest.alloc _ _,dK _ _ _,Keep.put hok _,h⟩
  | true=>
   simp only[hm]at h
   cases hn0:pS st.fr d&& !mem ro.p d&& !mem ro.a d with
   | false=>simp[hn0]at h
   | true=>
    simp only[hn0]at h
    simp only[P6,Rc]at hn0
    obtain⟨⟨hn,hnp⟩,hna⟩:=hn0
    have hkeep:∀x p,p.slot=d->Keep ro st ⟨(d,x)::st.fr,p::sv st.lc d⟩:=fun x p hp=>⟨fun t ht=>by simp[look,vQ hok ht],fun s hs=>by
     have hsd:s≠d:=fun e=>by grind
     have hb:Nat.beq p.slot s=false:=by rw[hp,<-QK];grind [Nat.eq_of_beq_eq_true]
     simp[ar,hb,cr hsd],fun s hs=>by
     have hsd:s≠d:=fun e=>by grind
     have hb:Nat.beq p.slot s=false:=by rw[hp,<-QK];grind [Nat.eq_of_beq_eq_true]
     simp[ar,hb,cr hsd]⟩
    refine⟨_,⟨fun t y hy=>?_,fun s p hp=>?_,fun s t p q hp hq hst=>?_,r.df⟩,Rest.alloc _ _,dK _ _ _,hkeep _ _ rfl,h⟩
    ·simp only[look]at hy
     cases hk:Nat.beq d t with
     | true=>
      grind [Nat.eq_of_beq_eq_true,Act.put]
     | false=>
      simp only[hk]at hy
      obtain⟨u,h1,h2⟩:=r.fr t y hy
      refine⟨u,?_,by grind [Act.put,cz]⟩
      have hl:=xL hn t y (fun e=>cz hk e.symm) hy
      cases y with
      | loc s o=>
       have hsd:=hl s o (.inl rfl)
       have:Nat.beq d s=false:=by rw[<-QK];grind [Nat.eq_of_beq_eq_true]
       grind [AVal.conc,ar,cr]
      | row s o=>
       have hsd:=hl s o (.inr rfl)
       have:Nat.beq d s=false:=by rw[<-QK];grind [Nat.eq_of_beq_eq_true]
       grind [AVal.conc,ar,cr]
      | _=>exact h1
    ·simp only[ar]at hp
     cases hk:Nat.beq d s with
     | true=>grind [heap_alloc_new]
     | false=>
      simp only[hk]at hp
      rw[cr (fun e=>cz hk e.symm)]at hp
      exact hr.pr s p hp
    ·simp only[ar]at hp hq
     cases hk:Nat.beq d s with
     | true=>
      have:=P4 hk
      subst this
      simp only[hk,Option.some.injEq]at hp
      have hk2:Nat.beq d t=false:=by rw[<-QK];simp_all
      grind [cr]
     | false=>
      simp only[hk]at hp
      rw[cr (fun e=>cz hk e.symm)]at hp
      cases hk2:Nat.beq d t with
      | true=>
       grind
      | false=>
       simp only[hk2]at hq
       rw[cr (fun e=>cz hk2 e.symm)]at hq
       exact r.ap s t p q hp hq hst
end Go.X
/- Stores, appends, calls over an abstract state; the model's operation does so. Conditions: the table of types is the program's; a called function has a body. -/
namespace Go.X
def HK (v:Value) (K:Prop):Prop:=
 match v.oneCell' with
 | true=>K
 | false=>False
def stW (h:ab) (b:Nat):Nat->List Value->Prop->Prop
 | _,[],K=>K
 | o,v::r,K=>HK v ((∃u,ac h b o=some u)/\aq h b o=true/\stW h b (o+1) r K)
def stP :List Value->Prop->Prop
 | [],K=>K
 | v::r,K=>HK v (stP r K)
def nG (h:ab) (b:Nat):Nat->List Value->ab
 | _,[]=>h
 | o,v::r=>nG (aj h b o v) b (o+1) r
def dD (v:Value):List Value:=
 match v with
 | .agg cs=>cs.toList
 | v=>[v]
theorem mU (v:Value):v.cells.toList=dD v:=by cases v<;>rfl
theorem sw {v:Value} {K:Prop} (h:HK v K):v.oneCell'=true/\K:=by
 grind [HK]
theorem vT {h:ab} {b:Nat}:∀{vs:List Value} {o:Nat} {K:Prop},stW h b o vs K->
  (∀v∈vs,v.oneCell'=true)/\(∀j,j<vs.length->(∃u,ac h b (o+j)=some u)/\aq h b (o+j)=true)/\K
 | [],_,_,hk=>⟨PC,PC,hk⟩
 | v::r,o,K,hk=>by
  obtain⟨h1,h2,h3,h4⟩:=sw hk
  obtain⟨q1,q2,q3⟩:=vT h4
  refine⟨by simpa using⟨h1,q1⟩,fun j hj=>?_,q3⟩
  cases j with
  | zero=>exact⟨h2,h3⟩
  | succ j=>have:=q2 j (by simpa using hj);rwa[show o+(j+1)=o+1+j by omega]
theorem pV :∀{vs:List Value} {K:Prop},stP vs K->(∀v∈vs,v.oneCell'=true)/\K
 | [],K,hk=>⟨PC,hk⟩
 | v::r,K,hk=>by
  obtain⟨h1,h2⟩:=sw hk
  obtain⟨q1,q2⟩:=pV h2
  exact⟨by simpa using⟨h1,q1⟩,q2⟩
theorem xN {h:ab} {b o:Nat} {v:Value} {b' o':Nat}:(∃u,ac h b' o'=some u)->∃u,ac (aj h b o v) b' o'=some u:=by
 rintro⟨u,hu⟩
 by_cases hb:b'=b
 ·subst hb
  unfold ac at*
  simp only[aj,Array.getElem?_modify,if_true]
  grind
 grind [di,fI]
theorem xO {h:ab} {b o:Nat} {v:Value} {b' o':Nat} (hf:aq h b' o'=true):aq (aj h b o v) b' o'=true:=by
 by_cases hb:b'=b
 ·subst hb
  unfold aq at*
  simp only[aj,Array.getElem?_modify,if_true]
  grind
 grind [nM,fI]
theorem co {P:Program} (b o:Nat):∀(vs:List Value) (i:Nat) (w:World),(∀v∈vs,v.oneCell'=true)->
  (∀j,j<vs.length->(∃u,ac w.heap b (o+i+j)=some u)/\aq w.heap b (o+i+j)=true)->
  ∃w',(storeCells ⟨b,o,none⟩ vs i).run P w= .ok () w'/\w'.heap=nG w.heap b (o+i) vs/\Rest w w'
 | [],i,w,_,_=>⟨w,by simp[storeCells],rfl,Rest.refl w⟩
 | v::r,i,w,h1,h2=>by
  obtain⟨⟨u,hu⟩,hf⟩:=h2 0 PC
  have hc:w.cell? ⟨b,o+i,none⟩=some u:=by rw[bz];exact hu
  have hfz:w.frozen? ⟨b,o+i,none⟩=false:=qD hu hf
  have hst:(store ((⟨b,o,none⟩:Addr).add i) v).run P w= .ok () (w.setCell ⟨b,o+i,none⟩ v):=by
   grind [dM,run_store]
  have h2':∀j,j<r.length->(∃u,ac (w.setCell ⟨b,o+i,none⟩ v).heap b (o+(i+1)+j)=some u)/\aq (w.setCell ⟨b,o+i,none⟩ v).heap b (o+(i+1)+j)=true:=by
   intro j hj
   obtain⟨q1,q2⟩:=h2 (j+1) (by simpa using hj)
   rw[heap_setCell,show o+(i+1)+j=o+i+(j+1) by omega]
   exact⟨xN q1,xO q2⟩
  obtain⟨w',e1,e2,e3⟩:=co (P:=P) b o r (i+1) (w.setCell ⟨b,o+i,none⟩ v) (fun x hx=>h1 x (by simp[hx])) h2'
  have e0:Rest w (w.setCell ⟨b,o+i,none⟩ v):=Rest.setCell _ _ _
  refine⟨w',?_,?_,e0.trans e3⟩
  ·grind [storeCells,Sem.run_bind,Result.andThen_ok]
  ·rw[e2,heap_setCell];rfl
theorem iM (b:Nat):∀(vs:List Value) (o:Nat) (h:ab),Fr [b] h (nG h b o vs)
 | [],_,h=>Fr.refl _ h
 | v::r,o,h=>(Fr.hset h b o v).trans (iM b r (o+1) _)
theorem kg {b:Nat} {t:TypeId} {f:Nat × Nat}:∀(vs:List Value) (o:Nat) (h:ab) (cs:List Value),h[b]? =some (.cells cs.toArray t f)->
  (nG h b o vs)[b]? =some (.cells (kr cs o vs).toArray t f)
 | [],_,_,_,hb=>hb
 | v::r,o,h,cs,hb=>by
  refine kg r (o+1) (aj h b o v) (cs.set o v) ?_
  rw[bO hb]
  simp
theorem jJ :∀(l:List Value) (o:Nat) (vs:List Value),(kr l o vs).length=l.length
 | l,o,[]=>rfl
 | l,o,v::r=>by rw[kr,jJ,Sd]
theorem mV :∀(l:List Value) (o:Nat) (vs:List Value),o+vs.length<=l.length->(kr l o vs).take (o+vs.length)=l.take o++vs
 | l,o,[],_=>by simp[kr]
 | l,o,v::r,h=>by
  rw[Qk]at h ⊢
  rw[kr,show o+(r.length+1)=o+1+r.length by omega,mV (l.set o v) (o+1) r PE]
  rw[Rf,List.getElem?_set_self PA,List.take_set_of_le (P3 _)]
  simp
def aw (h:ab) (e sz:Nat) (a:PY) (n c:Nat) (xs:List Value):Prop:=
 xs.length=n*sz/\((a=none/\n=0/\c=0)\/
  ∃g cur,a=some ⟨g,0,none⟩/\Blk h g e cur/\n<=c/\c<=maxLen/\c*sz<=cur.size/\cur.toList.take (n*sz)=xs)
def Reads (h:ab) (sz:Nat) (a:PY) (n:Nat) (xs:List Value):Prop:=
 xs.length=n*sz/\((a=none/\n=0)\/∃b o,a=some ⟨b,o,none⟩/\∀j v,xs[j]? =some v->ac h b (o+j)=some v)
def ai (a:PY):List Nat:=
 match a with
 | none=>[]
 | some a=>[a.block]
theorem xQ {P:Program} {t ty e:TypeId} {ei:TI} (hu:P.underlying t=some (.slice e)) (he:TyOK P e ei) (w:World)
  {a:PY} {n c:Nat} {old:List Value} (hown:aw w.heap e ei.shs.length a n c old)
  {xa:PY} {m xc:Nat} {xs:List Value} (hx:Reads w.heap ei.shs.length xa m xs) (hxc:xa=none->xc=0) (h1:∀v∈xs,v.oneCell'=true)
  (hb:(n+m)*ei.bytes<=140737488355328) (hm:n+m<=maxLen):
  ∃a' c' w',(Builtin.append_ #[t,t] ty #[.slice a n c,.slice xa m xc]).run P w= .ok (.slice a' (n+m) c') w'/\aw w'.heap e ei.shs.length a' (n+m) c' (old++xs)/\
   Fr (ai a) w.heap w'.heap/\Rest w w'/\((a'=a/\c'=c)\/∃g,a'=some ⟨g,0,none⟩/\w.heap.size<=g)/\(c<n+m->Fr [] w.heap w'.heap):=by
 obtain⟨dd,i,z,q1,q2,q3,q4,q5,q6,q7,q8,q9⟩:=he.ex
 have hzs:z.cells.size=ei.shs.length:=by rw[<-he.zl,<-q6];simp
 have h63:n+m<=9223372036854775807:=by simpa[maxLen]using hm
 have hlen:(old++xs).length=(n+m)*ei.shs.length:=by rw[P9,hown.1,hx.1,Qn]
 rw[<-q4]at hb
 have grown:∀(o:Nat),o<n+m->aw (w.drew.alloc (.cells (old.toArray++xs.toArray++Builtin.zeroCells z.cells (grownCap w (n+m) o e-(n+m))) e)).heap e ei.shs.length (some ⟨w.heap.size,0,none⟩) (n+m) (grownCap w (n+m) o e) (old++xs):=by
  intro o ho
  have hge:=grownCap_ge w (n+m) o e
  have hcm:grownCap w (n+m) o e<=maxLen:=grownCap_le_maxLen w (n+m) o e hm
  refine⟨hlen,.inr ⟨w.heap.size,_,rfl,.of (heap_alloc_new w.drew _),hge,hcm,?_,?_⟩⟩
  ·simp only[Array.size_append,List.size_toArray,size_zeroCells,hzs,hown.1,hx.1,<-Qn]
   grind
  grind
 have frAlloc:∀ob:Obj,Fr (ai a) w.heap (w.drew.alloc ob).heap:=fun ob=>(Fr.push w.heap ob).nil
 have hsource:∀j v,xs[j]? =some v->∀b o,xa=some ⟨b,o,none⟩->(∀j v,xs[j]? =some v->ac w.heap b (o+j)=some v)->w.cell? ((⟨b,o,none⟩:Addr).add j)=some v:=fun j v hv b o _ hr=>by grind [dM,bz]
 rcases hx.2 with⟨rfl,rfl⟩ | ⟨b,o,rfl,hr⟩
 ·--nothing to append,from nil
  have hxs:xs=[]:=Qb (by simpa using hx.1)
  subst hxs
  obtain rfl:=hxc rfl
  refine⟨a,c,w,?_,PE,Fr.refl _ _,Rest.refl w,.inl ⟨rfl,rfl⟩,fun _=>Fr.refl _ _⟩
  rcases hown.2 with⟨rfl,rfl,rfl⟩ | ⟨g,cur,rfl,hg,hnc,_⟩
  ·simp[Builtin.append_,run_underlying hu,sizeOf,typeInfo,q2,Builtin.lenOf,Builtin.firstCells]
  ·simp[Builtin.append_,run_underlying hu,sizeOf,typeInfo,q2,Builtin.lenOf,Builtin.firstCells,hnc,storeCells]
 ·have hnews:∀j v,xs[j]? =some v->w.cell? ((⟨b,o,none⟩:Addr).add j)=some v:=fun j v hv=>hsource j v hv b o rfl hr
  have hl:xs.length=m*i.size:=by rw[hx.1,q3]
  rcases hown.2 with⟨rfl,rfl,rfl⟩ | ⟨g,cur,rfl,hg,hnc,hcm,hcs,htake⟩
  ·have ho:old=[]:=Qb PE
   subst ho
   by_cases hm0:m=0
   ·subst hm0
    have hxs:xs=[]:=Qb PA
    subst hxs
    refine⟨none,0,w,?_,PE,Fr.refl _ _,Rest.refl w,.inl ⟨rfl,rfl⟩,fun _=>Fr.refl _ _⟩
    simp[Builtin.append_,run_underlying hu,sizeOf,typeInfo,q2,Builtin.lenOf,Builtin.firstCells,loadCells,loadCellsFrom]
   ·have hrun:=run_append_nil (P:=P) w t ty e i z hu q2 q5 ⟨b,o,none⟩ m xc xs hl hnews PA PA PE
    have hgr:=grown 0 PA
    simp only[Qu,Rq,Array.empty_append]at hgr ⊢
    exact⟨_,_,_,hrun,hgr,frAlloc _,(Rest.drew w).trans (Rest.alloc _ _),.inr ⟨_,rfl,P3 _⟩,fun _=>Fr.push w.heap _⟩
  ·by_cases hroom:n+m<=c
   ·have hfit:n*i.size+xs.length<=cur.size:=by rw[hx.1,q3,<-Qn];exact Qg (P1 _ hroom) hcs
    have hf:=run_firstCells_some (P:=P) w i.size m ⟨b,o,none⟩ m xc xs hl hnews
    obtain⟨w',r1,r2,r3⟩:=co (P:=P) g (n*i.size) xs 0 w h1 (fun j hj=>⟨⟨_,by rw[hg.cell];exact Array.getElem?_eq_getElem PA⟩,hg.free _⟩)
    rw[RU]at r2
    refine⟨some ⟨g,0,none⟩,c,w',?_,⟨hlen,.inr ⟨g,(kr cur.toList (n*i.size) xs).toArray,rfl,?_,hroom,hcm,?_,?_⟩⟩,r2▸iM g xs _ _,r3,.inl ⟨rfl,rfl⟩,fun q=>absurd hroom PA⟩
    ·simp[Builtin.append_,run_underlying hu,sizeOf,typeInfo,q2,Builtin.lenOf,hroom,hf,Addr.add_lit,r1]
    ·obtain⟨f,hb,hz⟩:=hg
     rw[r2]
     exact⟨f,kg xs _ _ _ (by simpa using hb),by simpa[jJ]using hz⟩
    ·simpa[jJ]using hcs
    grind [mV]
   ·have holds:∀j v,old[j]? =some v->w.cell? ((⟨g,0,none⟩:Addr).add j)=some v:=by
     intro j v hv
     rw[dM,bz,hg.cell]
     grind
    have hrun:=run_append_grow (P:=P) w t ty e i z hu q2 q5 ⟨g,0,none⟩ n c old (by rw[hown.1,q3]) holds ⟨b,o,none⟩ m xc xs hl hnews PA PA (growslice_fits PA hb)
    have hgr:=grown c PA
    exact⟨_,_,_,hrun,hgr,frAlloc _,(Rest.drew w).trans (Rest.alloc _ _),.inr ⟨_,rfl,P3 _⟩,fun _=>Fr.push w.heap _⟩
theorem pW {P:Program} {t u ty e:TypeId} {ei:TI} (hu:P.underlying t=some (.slice e)) (hst:P.underlying u=some .string) (he:TyOK P e ei) (hs1:ei.shs.length=1) (w:World)
  {a:PY} {n c:Nat} {old:List Value} (hown:aw w.heap e ei.shs.length a n c old) (s:P0)
  (hb:(n+s.size)*ei.bytes<=140737488355328) (hm:n+s.size<=maxLen):
  ∃a' c' w',(Builtin.append_ #[t,u] ty #[.slice a n c,.string s]).run P w= .ok (.slice a' (n+s.size) c') w'/\aw w'.heap e ei.shs.length a' (n+s.size) c' (old++Lib.strCells s)/\
   Fr (ai a) w.heap w'.heap/\Rest w w'/\((a'=a/\c'=c)\/∃g,a'=some ⟨g,0,none⟩/\w.heap.size<=g)/\(c<n+s.size->Fr [] w.heap w'.heap):=by
 obtain⟨dd,i,z,q1,q2,q3,q4,q5,q6,q7,q8,q9⟩:=he.ex
 have hzs:z.cells.size=ei.shs.length:=by rw[<-he.zl,<-q6];simp
 have h63:n+s.size<=9223372036854775807:=by simpa[maxLen]using hm
 have hsl:=Lib.strCells_length s
 have hlen:(old++Lib.strCells s).length=(n+s.size)*ei.shs.length:=by rw[P9,hown.1,hsl,hs1];omega
 rw[<-q4]at hb
 have grown:∀(o:Nat),o<n+s.size->aw (w.drew.alloc (.cells (old.toArray++(Lib.strCells s).toArray++Builtin.zeroCells z.cells (grownCap w (n+s.size) o e-(n+s.size))) e)).heap e ei.shs.length (some ⟨w.heap.size,0,none⟩) (n+s.size) (grownCap w (n+s.size) o e) (old++Lib.strCells s):=by
  intro o ho
  have hge:=grownCap_ge w (n+s.size) o e
  have hcm:grownCap w (n+s.size) o e<=maxLen:=grownCap_le_maxLen w (n+s.size) o e hm
  refine⟨hlen,.inr ⟨w.heap.size,_,rfl,.of (heap_alloc_new w.drew _),hge,hcm,?_,?_⟩⟩
  ·grind [size_zeroCells]
  grind
 have frAlloc:∀ob:Obj,Fr (ai a) w.heap (w.drew.alloc ob).heap:=fun ob=>(Fr.push w.heap ob).nil
 have i1:i.size=1:=by rw[q3,hs1]
 rcases hown.2 with⟨rfl,rfl,rfl⟩ | ⟨g,cur,rfl,hg,hnc,hcm,hcs,htake⟩
 ·have ho:old=[]:=Qb PE
  subst ho
  by_cases hm0:s.size=0
  ·have hxs:Lib.strCells s=[]:=Qb (by rw[hsl,hm0])
   refine⟨none,0,w,?_,PE,Fr.refl _ _,Rest.refl w,.inl ⟨rfl,rfl⟩,fun _=>Fr.refl _ _⟩
   have hf:=Lib.run_firstCells_string (P:=P) w 1 s
   rw[hm0]at hf
   simp[Builtin.append_,run_underlying hu,run_underlying hst,sizeOf,typeInfo,q2,i1,Builtin.lenOf,hm0,hf]
  ·have hrun:=run_append_nil_string (P:=P) w t u ty e i z hu hst q2 q5 s PA PA PE
   have hgr:=grown 0 PA
   simp only[Qu,Rq,Array.empty_append]at hgr ⊢
   have eA:(Lib.strCells s).toArray=s.data.map (fun b=>Value.int .u8 b.toNat):=by
    grind [Lib.strCells]
   rw[eA]at hgr
   exact⟨_,_,_,hrun,hgr,frAlloc _,(Rest.drew w).trans (Rest.alloc _ _),.inr ⟨_,rfl,P3 _⟩,fun _=>Fr.push w.heap _⟩
 ·by_cases hroom:n+s.size<=c
  ·have hfit:n+s.size<=cur.size:=by grind
   have hf:=Lib.run_firstCells_string (P:=P) w 1 s
   obtain⟨w',r1,r2,r3⟩:=co (P:=P) g n (Lib.strCells s) 0 w (Lib.strCells_oneCell s) (fun j hj=>⟨⟨_,by rw[hg.cell];exact Array.getElem?_eq_getElem PA⟩,hg.free _⟩)
   rw[RU]at r2
   refine⟨some ⟨g,0,none⟩,c,w',?_,⟨hlen,.inr ⟨g,(kr cur.toList n (Lib.strCells s)).toArray,rfl,?_,hroom,hcm,?_,?_⟩⟩,r2▸iM g _ _ _,r3,.inl ⟨rfl,rfl⟩,fun q=>absurd hroom PA⟩
   ·simp[Builtin.append_,run_underlying hu,run_underlying hst,sizeOf,typeInfo,q2,i1,Builtin.lenOf,hroom,hf,Addr.add_lit,r1]
   ·obtain⟨f,hb,hz⟩:=hg
    rw[r2]
    exact⟨f,kg _ _ _ _ (by simpa using hb),by simpa[jJ]using hz⟩
   ·simpa[jJ]using hcs
   ·rw[hs1,Qy]at htake ⊢
    grind [mV]
  ·have holds:∀j v,old[j]? =some v->w.cell? ((⟨g,0,none⟩:Addr).add j)=some v:=by
    intro j v hv
    rw[dM,bz,hg.cell]
    grind
   have hrun:=Lib.run_append_grow_string (P:=P) w t u ty e i z hu hst q2 q5 ⟨g,0,none⟩ n c old (by rw[hown.1,q3]) holds s PA PA (growslice_fits PA hb)
   have hgr:=grown c PA
   exact⟨_,_,_,hrun,hgr,frAlloc _,(Rest.drew w).trans (Rest.alloc _ _),.inr ⟨_,rfl,P3 _⟩,fun _=>Fr.push w.heap _⟩
end Go.X
/- All operations that make or write memory, draw, or call, over an abstract state; the model's operation does so. Conditions: the table of types is the program's; a called function has a body. -/
namespace Go.X
def ag (P:Program) (f:FuncId) (args:Array Value) (h:ab) (H:List Nat) (K:Value->ab->Prop):Prop:=
 ∃(M:List Nat) (R:Value->ab->Prop),af P f args h (fun v h'=>Fr M h h'/\R v h')/\(∀b∈H,b∉M)/\∀v h',Fr M h h'->R v h'->K v h'
def vU (P:Program) (f:FuncId) (args:Array Value) (R:Value->Prop):Prop:=
 ∀w:World,∃v w',(callFunc f args).run P w= .ok (.value v) w'/\w'.heap=w.heap/\Rest w w'/\R v
def bg (P:Program) (f:FuncId) (args:Array Value) (K:Value->Prop):Prop:=
 ∃R:Value->Prop,vU P f args R/\∀v,R v->K v
def cp (P:Program):List Nat->Prop
 | []=>True
 | f::r=>(match P.funcs[f]? with
  | some fn=>(fn.name== "runtime.NumGoroutine")=false/\fn.body.isSome=true
  | none=>False)/\cp P r
def KR (P:Program):List Nat->Bool
 | []=>true
 | f::r=>(match P.funcs[f]? with
  | some fn=>(match fn.name== "runtime.NumGoroutine" with
   | true=>false
   | false=>(match fn.body.isSome with
    | true=>KR P r
    | false=>false))
  | none=>false)
theorem cp.of {P:Program}:∀{l:List Nat},KR P l=true->cp P l
 | [],_=>trivial
 | f::r,h=>by
  unfold KR at h
  unfold cp
  cases q:P.funcs[f]? with
  | none=>rw[q]at h;cases h
  | some fn=>
   rw[q]at h
   simp only at h ⊢
   split at h
   ·cases h
   ·rename_i q1
    split at h
    ·rename_i q2;exact⟨⟨q1,q2⟩,cp.of h⟩
    ·cases h
theorem cp.mem {P:Program}:∀{l:List Nat},cp P l->∀{f:Nat},X.mem l f=true->∀(args:Array Value) (w:World),(callFunc f args).run P w= .ok (.enter f args) w
 | [],_,f,h,_,_=>by simp[X.mem]at h
 | g::r,hl,f,h,args,w=>by
  simp only[X.mem]at h
  cases hk:Nat.beq g f with
  | true=>
   have:=P4 hk
   subst this
   have h1:=hl.1
   cases hf:P.funcs[g]? with
   | none=>simp[hf]at h1
   | some fn=>
    simp only[hf]at h1
    obtain⟨h2,h3⟩:=h1
    have h4:fn.name≠ "runtime.NumGoroutine" :=by simpa using h2
    have h5:fn.body≠none:=by intro hh;simp[hh]at h3
    simp[callFunc,hf,h4,h5]
  | false=>simp only[hk]at h;exact cp.mem hl.2 h args w
def zm (ti:TI) (K:Value->Prop):Prop:=
 match ti.agg with
 | true=>exL ti.shs fun vs=>K (.agg vs.toArray)
 | false=>match ti.shs with
  | [.func]=>K .nilFunc\/Sh.func.ex K
  | [s]=>s.ex K
  | _=>False
def zo (T:TAB):List Nat->(List Value->Prop)->Prop
 | [],K=>K []
 | t::r,K=>match tl T t with
  | some ti=>zm ti fun v=>zo T r fun vs=>K (v::vs)
  | none=>False
def vV (T:TAB) (t:Nat) (K:Value->Prop):Prop:=
 match tl T t with
 | some ti=>(match ti.kids with
  | .tuple ts=>zo T ts fun vs=>K (.tuple vs.toArray)
  | _=>zm ti K)
 | none=>False
theorem pX {ti:TI} {K:Value->Prop} (h:zm ti K):∃v,K v:=by
 grind [zm,qE,Sh.ex_elim]
theorem pY {T:TAB}:∀{l:List Nat} {K:List Value->Prop},zo T l K->∃vs,K vs
 | [],_,h=>⟨[],h⟩
 | t::r,K,h=>by
  simp only[zo]at h
  split at h
  ·obtain⟨v,hv⟩:=pX h;obtain⟨vs,hk⟩:=pY hv;grind
  ·exact h.elim
theorem gS {T:TAB} {t:Nat} {K:Value->Prop} (h:vV T t K):∃v,K v:=by
 unfold vV at h
 split at h
 ·split at h
  ·obtain⟨vs,hk⟩:=pY h;grind
  ·exact pX h
 ·exact h.elim
def lU (k:FloatKind) (x y:Nat) (r? :Option Nat) (r:Nat):Prop:=
 match r? with
 | some s=>r=s
 | none=>∃n,r=(Question.nanBits k x y).cut n
def Em (op:BinOp) (k:FloatKind) (x y:Nat) (K:AVal->Prop):Prop:=
 match op with
 | .add=>∀r,lU k x y (k.format.add x y) r->K (.val (.float k r))
 | .sub=>∀r,lU k x y (k.format.sub x y) r->K (.val (.float k r))
 | .mul=>∀r,lU k x y (k.format.mul x y) r->K (.val (.float k r))
 | .quo=>∀r,lU k x y (k.format.div x y) r->K (.val (.float k r))
 | _=>False
def F2I (s:FloatKind) (b:Nat) (k:IntKind) (n:Int):Prop:=
 (∃m,(s.decode b).toInt .zero=some m/\k.min<=m/\m<=k.max/\n=m)\/
 ((∀m,(s.decode b).toInt .zero=some m->¬(k.min<=m/\m<=k.max))/\∃t,n=k.wrap ((Question.floatToInt s b k).cut t:Nat))
def Eo (l:List Priv) (s:Nat) (cs:List Value):List Priv:=
 match l with
 | []=>[]
 | p::r=>match Nat.beq p.slot s with
  | true=>⟨p.slot,p.blk,p.elem,cs⟩::r
  | false=>p::Eo r s cs
def HL (e:Nat) (ei:TI) (h:ab) (H:List Nat) (a:PY) (n c:Nat) (m:Nat) (xs:List Value) (K:AVal->ab->Prop):Prop:=
 ∃old,aw h e ei.shs.length a n c old/\(∀b∈H,b∉ai a)/\(n+m)*ei.bytes<=140737488355328/\n+m<=maxLen/\
  ∀a' c' h',aw h' e ei.shs.length a' (n+m) c' (old++xs)->Fr (ai a) h h'->((a'=a/\c'=c)\/∃g,a'=some ⟨g,0,none⟩/\h.size<=g)->(c<n+m->Fr [] h h')->K (.val (.slice a' (n+m) c')) h'
def lV (h:ab) (b:Nat):ab:=h.modify b fun
 | .cells c e (lo,hi)=>.cells c e (if lo==hi then(c.size,c.size+1)else(min lo c.size,max hi (c.size+1)))
 | o=>o
theorem Ep (h:ab) (b:Nat):Fr [b] h (lV h b):=⟨by simp[lV],fun i _ hm=>by
 have:i≠b:=by simpa using hm
 simp[lV,Array.getElem?_modify,Ne.symm this]⟩
def u8s :List Value->Option (List Int)
 | []=>some []
 | v::r=>match v with
  | .int k n=>(match k with
   | .u8=>(match u8s r with
    | some q=>some (n::q)
    | none=>none)
   | _=>none)
  | _=>none
def strOf (xs:List Int):P0:=xs.foldl (fun r n=>r.push (UInt8.ofNat n.toNat)) ByteArray.empty
def act (P:Program) (T:TAB) (F:List Nat) (privs:List Nat) (ro:RO) (st:St) (h:ab) (o:Oper) (K:St->ab->Prop):Prop:=
 match o.op with
 | .box e x=>(match evo st x with
  | some v=>pT ro privs st o.dst h e (dD v) (.ptr h.size 0) (fun d=>.loc d 0) K
  | none=>False)
 | .alloc e=>(match tl T e with
  | some ti=>pT ro privs st o.dst h e ti.zero (.ptr h.size 0) (fun d=>.loc d 0) K
  | none=>False)
 | .buildSlice t len parts=>(match tl T t with
  | some ti=>(match ti.kids with
   | .slice e=>(match tl T e with
    | some ei=>(match yo st parts.toList with
     | some ps=>(match Nat.ble (len*ei.shs.length) 16777216 with
      | true=>(match nQ (fun i=>some (i*ei.shs.length,ei.shs.length)) (AV ei.zero (len*ei.shs.length)) ps with
       | some cells=>pT ro privs st o.dst h e cells (.sl h.size 0 len len) (fun d=>.row d len) K
       | none=>False)
      | false=>False)
     | none=>False)
    | none=>False)
   | _=>False)
  | none=>False)
 | .makeSlice t l c=>(match tl T t with
  | some ti=>(match ti.kids with
   | .slice e=>(match tl T e with
    | some ei=>(match ev st l with
     | some (.val (.int _ n))=>(match ev st c with
      | some (.val (.int _ m))=>0<=n/\n<=m/\(ei.bytes:Int)*m<=281474976710656/\m<=9223372036854775807/\
        K (st.put o.dst (.sl h.size 0 n.toNat m.toNat)) (h.push (.cells (madeCells ei.zero.toArray (m.toNat*ei.shs.length)) e))
      | _=>False)
     | _=>False)
    | none=>False)
   | _=>False)
  | none=>False)
 | .store t a x=>(match o.dst with
  | none=>(match tl T t with
   | some ti=>(match evo st x with
    | some v=>(match Nat.beq (dD v).length ti.shs.length with
     | true=>(match ev st a with
      | some y=>deref y (fun b off=>nin b (hid st.lc) (stW h b off (dD v) (K st (nG h b off (dD v)))))
        (fun s off=>match ar st.lc s with
         | some p=>(match Nat.ble (off+(dD v).length) p.cells.length&& !mem ro.p s with
          | true=>stP (dD v) (K ⟨st.fr,Eo st.lc s (kr p.cells off (dD v))⟩ (nG h p.blk off (dD v)))
          | false=>False)
         | none=>False)
      | none=>False)
     | false=>False)
    | none=>False)
   | none=>False)
  | some _=>False)
 | .binOp op _ x y _=>(match ev st x with
  | some (.val (.float k a))=>(match ev st y with
   | some (.val (.float k' b))=>im k k' (Em op k a b fun v=>K (st.put o.dst v) h)
   | _=>False)
  | _=>False)
 | .convert s t x=>(match tl T s with
  | some si=>(match tl T t with
   | some ti=>(match ti.kids with
    | .int k=>(match ev st x with
     | some (.val (.float f b))=>∀n,F2I f b k n->K (st.put o.dst (.val (.int k n))) h
     | _=>False)
    | .slice e=>(match Nat.beq si.tag 5 with
     | true=>(match tl T e with
      | some ei=>(match ei.kids with
       | .int .u8=>(match ev st x with
        | some (.val (.string b))=>b.size<=maxLen/\∀(c:Nat) (h':ab),aw h' e 1 (some ⟨h.size,0,none⟩) b.size c (Lib.strCells b)->Fr [] h h'->K (st.put o.dst (.val (.slice (some ⟨h.size,0,none⟩) b.size c))) h'
        | _=>False)
       | _=>False)
      | none=>False)
     | false=>(match Nat.beq s t with
      | true=>(match tl T e with
       | some ei=>(match ei.kids with
        | .int .u8=>(match ev st x with
         | some y=>asSlice y fun a n c=>∃b q,a=some ⟨b,q,none⟩/\nin b (hid st.lc) (∃cs f,h[b]? =some (.cells cs e f)/\K (st.put o.dst (.val (.slice (some ⟨b,q,none⟩) n c))) (lV h b))
         | none=>False)
        | _=>False)
       | none=>False)
      | false=>False))
    | .none=>(match Nat.beq ti.tag 5 with
     | true=>(match si.kids with
      | .slice e=>(match tl T e with
       | some ei=>(match ei.kids with
        | .int .u8=>(match ev st x with
         | some (.row q m)=>(match ar st.lc q with
          | some p=>(match Nat.beq p.cells.length m with
           | true=>(match u8s p.cells with
            | some xs=>K (st.put o.dst (.val (.string (strOf xs)))) h
            | none=>False)
           | false=>False)
          | none=>False)
         | some y=>asSlice y fun a n _=>∃xs:List Int,Reads h 1 a n (xs.map (Value.int .u8))/\K (st.put o.dst (.val (.string (strOf xs)))) h
         | none=>False)
        | _=>False)
       | none=>False)
      | _=>False)
     | false=>False)
    | _=>False)
   | none=>False)
  | none=>False)
 | .call c=>(match c.callee with
  | .builtin .append=>(match c.args.toList with
   | [s,x]=>(match c.argTypes.toList with
    | [t,t']=>(match Nat.beq t t' with
     | true=>(match tl T t with
      | some ti=>(match ti.kids with
       | .slice e=>(match tl T e with
        | some ei=>(match ev st s with
         | some s=>asSlice s fun a n c=>(match ev st x with
          | some (.row q m)=>(match ar st.lc q with
           | some p=>(match Nat.beq p.cells.length (m*ei.shs.length)with
            | true=>stP p.cells (HL e ei h (hid st.lc) a n c m p.cells fun v h'=>K (st.put o.dst v) h')
            | false=>False)
           | none=>False)
          | some x=>asSlice x fun xa m xc=>∃xs,Reads h ei.shs.length xa m xs/\(xa=none->xc=0)/\(∀v∈xs,v.oneCell'=true)/\
            HL e ei h (hid st.lc) a n c m xs fun v h'=>K (st.put o.dst v) h'
          | none=>False)
         | none=>False)
        | none=>False)
       | _=>False)
      | none=>False)
     | false=>(match tl T t with
      | some ti=>(match ti.kids with
       | .slice e=>(match tl T e with
        | some ei=>(match Nat.beq ei.shs.length 1 with
         | true=>(match tl T t' with
          | some ti'=>(match Nat.beq ti'.tag 5 with
           | true=>(match ev st s with
            | some s=>asSlice s fun a n c=>(match ev st x with
             | some (.val (.string b))=>HL e ei h (hid st.lc) a n c b.size (Lib.strCells b) fun v h'=>K (st.put o.dst v) h'
             | _=>False)
            | none=>False)
           | false=>False)
          | none=>False)
         | false=>False)
        | none=>False)
       | _=>False)
      | none=>False))
    | _=>False)
   | _=>False)
  | .value f=>(match ev st f with
   | some (.val (.func (.func g) first captured))=>(match rj st c.args.toList with
    | some vs=>(match mem F g with
     | true=>ag P g (first.toList++(vs++captured.toList)).toArray h (hid st.lc) fun v h'=>vV T o.type fun v'=>v=v'/\K (st.put o.dst (.val v')) h'
     | false=>bg P g (first.toList++(vs++captured.toList)).toArray fun v=>vV T o.type fun v'=>v=v'/\K (st.put o.dst (.val v')) h)
    | none=>False)
   | _=>False)
  | _=>False)
 | _=>False
end Go.X
/- 'act' is sound. Conditions: the table of types is the program's; the called functions have bodies; the slots written are slots of the frame. -/
namespace Go.X
section
variable {P:Program} {T:TAB} {F:List Nat} {privs:List Nat} {ro:RO} {st:St} {a:Act} {w:World} {K:St->ab->Prop} {o:Oper} {Q:Exit->Act->World->Prop}
abbrev eG (P:Program) (ro:RO) (st:St) (o:Oper) (a:Act) (w:World) (K:St->ab->Prop) (Q:Exit->Act->World->Prop):Prop:=o.wp P a w (Nx ro st K a.tmps.size w) Q
theorem bi {v:Value} {w':World} (hr:(execOp a.eval o).run P w= .ok (.value v) w') (h:Nx ro st K a.tmps.size w (a.put o.dst v) w'):eG P ro st o a w K Q:=by
 unfold eG Oper.wp
 rw[hr]
 exact h
theorem bT {w':World} (hd:bR ro a.tmps.size o.dst=true) (hw:Rest w w') (hp:Rel st a w') {x:AVal} {v:Value} (hx:x.conc st.lc=some v)
  (hk:K (st.put o.dst x) w'.heap):Nx ro st K a.tmps.size w (a.put o.dst v) w':=
 ⟨_,hp.put (gR hd) hx,hw,dK _ _ _,Keep.put hd _,hk⟩
theorem HM {e:Nat} {x:Operand} (r:Rel st a w) (hd:bR ro a.tmps.size o.dst=true) (ho:o.op= .box e x) (d:act P T F privs ro st w.heap o K):eG P ro st o a w K Q:=by
 unfold act at d
 simp only[ho]at d
 split at d
 ·rename_i v h1
  have e1:=bu r.fr h1
  have hc:v.cells=(dD v).toArray:=by rw[<-mU]
  refine bi (v:=.pointer (some ⟨w.heap.size,0,none⟩)) (w':=w.alloc (.cells (dD v).toArray e)) ?_ (jI d r hd rfl (fun d l=>by simp[AVal.conc,ar]))
  simp[execOp,ho,e1,Instr.box,newVar,newRow,hc]
 ·exact d.elim
theorem Av {e:Nat} (hT:bq P T) (r:Rel st a w) (hd:bR ro a.tmps.size o.dst=true) (ho:o.op= .alloc e) (d:act P T F privs ro st w.heap o K):eG P ro st o a w K Q:=by
 unfold act at d
 simp only[ho]at d
 split at d
 ·rename_i ti h1
  obtain⟨z,hz,hzc⟩:=ix (hT.tl h1) w
  refine bi (v:=.pointer (some ⟨w.heap.size,0,none⟩)) (w':=w.alloc (.cells ti.zero.toArray e)) ?_ (jI d r hd rfl (fun d l=>by simp[AVal.conc,ar]))
  simp[execOp,ho,Instr.alloc,newVar,newRow,hz,hzc]
 ·exact d.elim
theorem HN (zero:List Value) (n:Nat) (hz:0<zero.length\/n=0):((Array.range n).map (zero.toArray[· % zero.toArray.size]!))=(AV zero n).toArray:=by
 grind [AV,Nat.mod_lt]
theorem pZ {t e len:Nat} {ei:TI} {parts:Array (Nat × Value)} {cells:List Value} (hu:P.underlying t=some (.slice e)) (he:TyOK P e ei) (hle:len*ei.shs.length<=16777216)
  (hf:nQ (fun i=>some (i*ei.shs.length,ei.shs.length)) (AV ei.zero (len*ei.shs.length)) parts.toList=some cells):
  (Instr.buildSlice t len parts).run P w= .ok (.slice (some ⟨w.heap.size,0,none⟩) len len) (w.alloc (.cells cells.toArray e)):=by
 have hf:=oB hf
 have hle':¬(len*ei.shs.length>2^24):=by omega
 obtain⟨z,hz,hzc⟩:=ix he w
 unfold Instr.buildSlice
 rw[bU (run_underlying hu w)]
 simp only[]
 rw[bU (run_sizeOf he w)]
 rw[if_neg hle']
 by_cases hn:len*ei.shs.length=0
 ·rw[if_pos hn,bU (v:=#[]) PF]
  have hrep:(Array.range (len*ei.shs.length)).map ((#[]:Array Value)[· % (#[]:Array Value).size]!)=(AV ei.zero (len*ei.shs.length)).toArray:=by
   rw[hn];simp[AV]
  rw[hrep,hf]
  simp[newRow]
 ·have hrep:=HN ei.zero (len*ei.shs.length) (.inl (by rw[he.zl];grind))
  rw[if_neg hn,bU hz,bU (v:=z.cells) PF,hzc,hrep,hf]
  simp[newRow]
theorem qa {t len:Nat} {parts:Array (Nat × Operand)} (hT:bq P T) (r:Rel st a w) (hd:bR ro a.tmps.size o.dst=true) (ho:o.op= .buildSlice t len parts)
  (d:act P T F privs ro st w.heap o K):eG P ro st o a w K Q:=by
 unfold act at d
 simp only[ho]at d
 split at d
 ·rename_i ti h1
  split at d
  ·rename_i e hk
   have hu:=bQ (hT.tl h1) hk
   split at d
   ·rename_i ei h3
    have he:=hT.tl h3
    split at d
    ·rename_i ps h4
     have hps:=nj r.fr h4
     split at d
     ·rename_i hb
      have hle:=Qr hb
      split at d
      ·rename_i cells h5
       have hps':(parts.map fun x=>(x.1,a.eval x.2)).toList=ps:=by simp_all
       have hrun:=pZ (P:=P) (w:=w) (parts:=parts.map fun x=>(x.1,a.eval x.2)) hu he hle (by rw[hps'];exact h5)
       refine bi (v:=.slice (some ⟨w.heap.size,0,none⟩) len len) (w':=w.alloc (.cells cells.toArray e)) ?_ (jI d r hd rfl (fun d l=>by simp[AVal.conc,ar]))
       simp only[execOp,ho]
       simp_all
      ·exact d.elim
     ·exact d.elim
    ·exact d.elim
   ·exact d.elim
  ·exact d.elim
 ·exact d.elim
theorem qU {t:Nat} {l c:Operand} (hT:bq P T) (r:Rel st a w) (hd:bR ro a.tmps.size o.dst=true) (ho:o.op= .makeSlice t l c)
  (d:act P T F privs ro st w.heap o K):eG P ro st o a w K Q:=by
 unfold act at d
 simp only[ho]at d
 split at d
 ·rename_i ti h1
  split at d
  ·rename_i e hk
   have hu:=bQ (hT.tl h1) hk
   split at d
   ·rename_i ei h3
    have he:=hT.tl h3
    split at d
    ·rename_i kn n h4
     split at d
     ·rename_i km m h5
      obtain⟨d0,d1,d2,d3,d⟩:=d
      obtain⟨dd,i,z,q1,q2,q3,q4,q5,q6,q7,q8,q9⟩:=he.ex
      have hrun:=run_make (P:=P) w t e i z hu q2 q5 kn km n m d0 d1 PE d3
      have hz:z.cells=ei.zero.toArray:=by rw[<-q6]
      rw[q3,hz]at hrun
      have hf:Fr [] w.heap (w.alloc (.cells (madeCells ei.zero.toArray (m.toNat*ei.shs.length)) e)).heap:=Fr.push _ _
      refine bi (v:=.slice (some ⟨w.heap.size,0,none⟩) n.toNat m.toNat) (w':=w.alloc (.cells (madeCells ei.zero.toArray (m.toNat*ei.shs.length)) e)) ?_ (bT (w:=w) (w':=w.alloc (.cells (madeCells ei.zero.toArray (m.toNat*ei.shs.length)) e)) hd (Rest.alloc _ _) (r.fr_later (Rest.alloc _ _) (M:=[]) hf (fun _ _=>by simp)) (x:=.sl w.heap.size 0 n.toNat m.toNat) rfl d)
      simp only[execOp,ho,bo r.toL h4,bo r.toL h5]
      simp_all
     ·exact d.elim
    ·exact d.elim
   ·exact d.elim
  ·exact d.elim
 ·exact d.elim
theorem gT {l:List Priv} {s:Nat} {p:Priv} {cs:List Value} (h:ar l s=some p) (t:Nat):
  ar (Eo l s cs) t=if t=s then some ⟨p.slot,p.blk,p.elem,cs⟩else ar l t:=by
 induction l with
 | nil=>simp[ar]at h
 | cons q r ih=>
  simp only[ar]at h
  simp only[Eo]
  cases hk:Nat.beq q.slot s with
  | true=>
   have hk':=P4 hk
   simp only[hk,Option.some.injEq]at h
   subst h
   simp only[ar]
   by_cases hts:t=s
   ·grind
   ·have:Nat.beq q.slot t=false:=by rw[<-QK];grind [Nat.eq_of_beq_eq_true]
    grind
  | false=>
   grind [ar]
theorem Aw {t:Nat} {x y:Operand} (hT:bq P T) (r:Rel st a w) (ho:o.op= .store t x y)
  (d:act P T F privs ro st w.heap o K):eG P ro st o a w K Q:=by
 unfold act at d
 simp only[ho]at d
 split at d
 ·rename_i hdst
  split at d
  ·rename_i ti h1
   have ht:=hT.tl h1
   split at d
   ·rename_i v h2
    have e2:=bu r.fr h2
    split at d
    ·rename_i hb
     have hlen:=P4 hb
     have hcs:v.cells.size=ti.shs.length:=by rw[<-hlen,<-mU];simp
     split at d
     ·rename_i ya h3
      obtain⟨u,hcu,hu⟩:=aQ r.fr h3
      have run:∀b off,(∀v'∈dD v,v'.oneCell'=true)->(∀j,j<(dD v).length->(∃u,ac w.heap b (off+j)=some u)/\aq w.heap b (off+j)=true)->
        u= .pointer (some ⟨b,off,none⟩)->∃w',(execOp a.eval o).run P w= .ok .skip w'/\w'.heap=nG w.heap b off (dD v)/\Rest w w':=by
       intro b off g1 g2 hub
       obtain⟨w',f1,f2,f3⟩:=co (P:=P) b off (dD v) 0 w g1 (by simpa using g2)
       refine⟨w',?_,by simpa using f2,f3⟩
       simp[execOp,ho,hu,hub,e2,Instr.storeAt,Instr.sureAddr,storeVar,run_sizeOf ht,hcs,mU,f1]
      have fin:∀w',(execOp a.eval o).run P w= .ok .skip w'->Nx ro st K a.tmps.size w (a.put o.dst undef) w'->eG P ro st o a w K Q:=by
       intro w' hr hn
       unfold eG Oper.wp
       rw[hr]
       exact hn
      rcases fG d hcu with⟨b,off,hub,_,hk⟩ | ⟨s,off,p,hp,rfl,hub,hk⟩
      ·obtain⟨hni,hk⟩:=iL hk
       obtain⟨g1,g2,hk⟩:=vT hk
       obtain⟨w',f1,f2,f3⟩:=run b off g1 g2 hub
       refine fin w' f1 ?_
       have hf:Fr [b] w.heap w'.heap:=by rw[f2];exact iM b _ off _
       rw[hdst]
       exact⟨st,r.fr_later f3 hf (fun x hx=>by grind),f3,rfl,Keep.refl _ _,PE⟩
      ·simp only[hp]at hk
       split at hk
       ·rename_i hle0
        simp only[P6,Rc]at hle0
        obtain⟨hle,hnp⟩:=hle0
        have hle':=Qr hle
        obtain⟨g1,hk⟩:=pV hk
        have hblk:=r.pr s p hp
        obtain⟨w',f1,f2,f3⟩:=run p.blk off g1 (fun j hj=>⟨⟨p.cells[off+j]' PA,by rw[bs hblk];simp⟩,iQ hblk _⟩) hub
        refine fin w' f1 ?_
        rw[hdst]
        have hf:Fr [p.blk] w.heap w'.heap:=by rw[f2];exact iM _ _ off _
        refine⟨⟨st.fr,Eo st.lc s (kr p.cells off (dD v))⟩,⟨fun t' x' hx'=>?_,fun s' p' hp'=>?_,fun s1 s2 p1 p2 hp1 hp2 hne=>?_,r.df⟩,f3,rfl,⟨fun _ _=>rfl,fun s' hs'=>?_,fun s' _=>?_⟩,PE⟩
        ·obtain⟨u',k1,k2⟩:=r.fr t' x' hx'
         refine⟨u',?_,k2⟩
         rw[<-k1]
         cases x'<;>simp only[AVal.conc]<;>rename_i s' o'<;>simp only[gT hp]<;>by_cases hs':s'=s<;>simp[hs',hp]
        ·simp only[gT hp]at hp'
         by_cases hs':s'=s
         ·simp only[hs',if_true,Option.some.injEq]at hp'
          grind [kg]
         ·simp only[hs',if_false]at hp'
          rw[hf.blk p'.blk (Array.getElem?_eq_some_iff.1 (r.pr s' p' hp')).1 (by simpa using r.ap s' s p' p hp' hp hs')]
          exact r.pr s' p' hp'
        ·simp only[gT hp]at hp1 hp2
         by_cases e1:s1=s
         ·have e2:s2≠s:=fun e=>hne (e1.trans e.symm)
          simp only[e1,e2,if_true,if_false,Option.some.injEq]at hp1 hp2
          subst hp1
          exact r.ap s s2 p p2 hp hp2 (fun e=>e2 e.symm)
         ·by_cases e2:s2=s
          ·simp only[e1,e2,if_true,if_false,Option.some.injEq]at hp1 hp2
           subst hp2
           exact r.ap s1 s p1 p hp1 hp e1
          ·simp only[e1,e2,if_false]at hp1 hp2
           exact r.ap s1 s2 p1 p2 hp1 hp2 hne
        ·have hss:s'≠s:=fun e=>by grind
         simp[gT hp,hss]
        ·by_cases hss:s'=s<;>simp[gT hp,hss,hp,Priv.place]
       grind
     ·exact d.elim
    ·exact d.elim
   ·exact d.elim
  ·exact d.elim
 ·exact d.elim
theorem Ax {op:BinOp} {t u:Nat} {x y:Operand} (r:Rel st a w) (hd:bR ro a.tmps.size o.dst=true) (ho:o.op= .binOp op t x y u)
  (d:act P T F privs ro st w.heap o K):eG P ro st o a w K Q:=by
 unfold act at d
 simp only[ho]at d
 split at d
 ·rename_i k xa h1
  split at d
  ·rename_i k' ya h2
   have h0:=je d
   clear d
   obtain⟨he,d⟩:=h0
   subst he
   have fin:∀(res:Option Nat),(∀r,lU k xa ya res r->K (st.put o.dst (.val (.float k r))) w.heap)->
     (binOp op t (.float k xa) (.float k ya)).run P w=(match res with | some r=>.ok (.float k r) w | none=>((choose (.nanBits k xa ya)).run P w).andThen fun n w'=>.ok (.float k n) w')->eG P ro st o a w K Q:=by
    intro res hk hrun
    cases res with
    | some s=>
     refine bi (v:=.float k s) (w':=w) ?_ (bT hd (Rest.refl w) r (x:=.val (.float k s)) rfl (hk s rfl))
     simp only[execOp,ho,bo r.toL h1,bo r.toL h2,mW op t x y (.float k xa) (.float k ya) trivial]
     simp[hrun]
    | none=>
     have hf:(Question.nanBits k xa ya).forced=false:=by cases k<;>rfl
     refine bi (v:=.float k ((Question.nanBits k xa ya).cut (w.tape w.drawn (.nanBits k xa ya)))) (w':=w.drew) ?_
      (bT (w:=w) (w':=w.drew) hd (Rest.drew _) (r.later (Rest.drew _) fun _ _ _=>rfl) (x:=.val (.float k ((Question.nanBits k xa ya).cut (w.tape w.drawn (.nanBits k xa ya))))) rfl (hk _ ⟨_,rfl⟩))
     simp only[execOp,ho,bo r.toL h1,bo r.toL h2,mW op t x y (.float k xa) (.float k ya) trivial]
     simp[hrun,hf]
   cases op<;>simp only[Em]at d<;>try exact d.elim
   ·refine fin _ d ?_
    simp only[binOp,Op.floatArith]
    cases k.format.add xa ya<;>simp
   ·refine fin _ d ?_
    simp only[binOp,Op.floatArith]
    cases k.format.sub xa ya<;>simp
   ·refine fin _ d ?_
    simp only[binOp,Op.floatArith]
    cases k.format.mul xa ya<;>simp
   ·refine fin _ d ?_
    simp only[binOp,Op.floatArith]
    cases k.format.div xa ya<;>simp
  ·exact d.elim
 ·exact d.elim
theorem zp :∀{l:List Value} {xs:List Int},u8s l=some xs->l.length=xs.length
 | [],xs,h=>by simp[u8s]at h;subst h;rfl
 | v::r,xs,h=>by
  unfold u8s at h
  split at h
  ·split at h
   ·split at h
    ·rename_i q hq
     simp only[Option.some.injEq]at h
     subst h
     simp[zp hq]
    ·cases h
   ·cases h
  ·cases h
theorem zq :∀{l:List Value} {xs:List Int},u8s l=some xs->xs.map (Value.int .u8)=l
 | [],xs,h=>by simp[u8s]at h;subst h;rfl
 | v::r,xs,h=>by
  unfold u8s at h
  split at h
  ·split at h
   ·split at h
    ·rename_i q hq
     simp only[Option.some.injEq]at h
     subst h
     simp[zq hq]
    ·cases h
   ·cases h
  ·cases h
theorem kA {s t e:Nat} {x:Operand} {sa:PY} {n cc:Nat} {xs:List Int} (hs:P.underlying s=some (.slice e)) (he:P.underlying e=some (.int .u8)) (hd:P.underlying t=some .string)
  (hx:a.eval x= .slice sa n cc) (hr:Reads w.heap 1 sa n (xs.map (Value.int .u8))):(convert s t (a.eval x)).run P w= .ok (.string (strOf xs)) w:=by
 rw[hx]
 obtain⟨hlen,h⟩:=hr
 rw[Rg,Qy]at hlen
 rw[run_convert_bytes_string w s t e sa n cc hs he hd]
 rcases h with⟨rfl,h0⟩ | ⟨b,off,rfl,hc⟩
 ·have:xs=[]:=Qb PA
  subst this
  simp[Conv.bytesToString,strOf]
 ·rw[run_bytesToString w _ n cc xs]
  ·rfl
  ·have:=run_loadCells_list (P:=P) w ⟨b,off,none⟩ (xs.map (Value.int .u8)) (fun j v hj=>by
    have hplain:(⟨b,off,none⟩:Addr).add j=⟨b,off+j,none⟩:=by unfold Addr.add;grind
    rw[hplain]
    exact hc j v hj)
   grind
theorem vW {s t:Nat} {x:Operand} (hT:bq P T) (r:Rel st a w) (hd:bR ro a.tmps.size o.dst=true) (ho:o.op= .convert s t x)
  (d:act P T F privs ro st w.heap o K):eG P ro st o a w K Q:=by
 unfold act at d
 simp only[ho]at d
 split at d
 ·rename_i si h0
  obtain⟨ds,_,_,hds,_⟩:=(hT.tl h0).ex
  split at d
  ·rename_i ti h1
   obtain⟨dd,i,z,q1,q2,q3,q4,q5,q6,q7,q8,q9⟩:=(hT.tl h1).ex
   split at d
   ·rename_i k hk
    rw[hk]at q8
    have hdd:dd= .int k:=by cases dd<;>simp[cM]at q8;rw[q8]
    subst hdd
    split at d
    ·rename_i f b h2
     have e1:=bo r.toL h2
     have hf:(Question.floatToInt f b k).forced=false:=rfl
     have hconv:(convert s t (.float f b)).run P w=(Conv.floatToInt f b k).run P w:=by
      simp[convert,run_underlying hds,run_underlying q1]
     have any:∀n:Int,n=k.wrap ((Question.floatToInt f b k).cut (w.tape w.drawn (.floatToInt f b k)):Nat)->F2I f b k n->
       (Conv.floatToInt f b k).run P w= .ok (.int k n) w.drew->eG P ro st o a w K Q:=by
      intro n _ hn hr
      refine bi (v:=.int k n) (w':=w.drew) ?_ (bT (w:=w) (w':=w.drew) hd (Rest.drew _) (r.later (Rest.drew _) fun _ _ _=>rfl) (x:=.val (.int k n)) rfl (d n hn))
      simp only[execOp,ho,e1]
      simp_all
     cases hm:(f.decode b).toInt .zero with
     | none=>
      refine any _ rfl (.inr ⟨by simp[hm],_,rfl⟩) ?_
      simp[Conv.floatToInt,hm,hf]
     | some m=>
      by_cases hr:k.min<=m/\m<=k.max
      ·refine bi (v:=.int k m) (w':=w) ?_ (bT hd (Rest.refl w) r (x:=.val (.int k m)) rfl (d m (.inl ⟨m,hm,hr.1,hr.2,rfl⟩)))
       simp only[execOp,ho,e1]
       rw[bU (hconv.trans (by simp only[Conv.floatToInt,hm];rw[if_pos hr];rfl))]
       rfl
      ·refine any _ rfl (.inr ⟨fun m' hm'=>by grind,_,rfl⟩) ?_
       simp only[Conv.floatToInt,hm]
       rw[if_neg hr]
       simp[hf]
    ·exact d.elim
   ·rename_i e hk
    have hu:=bQ (hT.tl h1) hk
    split at d
    ·rename_i htag
     have hus:=eH (hT.tl h0) htag
     split at d
     ·rename_i ei h3
      obtain⟨de,_,_,p1,_,_,_,_,_,_,p8,_⟩:=(hT.tl h3).ex
      split at d
      ·rename_i hek
       rw[hek]at p8
       have hde:de= .int .u8:=by cases de<;>simp[cM]at p8;rw[p8]
       subst hde
       split at d
       ·rename_i b h5
        obtain⟨hsz,d⟩:=d
        have e1:=bo r.toL h5
        have hr:=run_bytes_of_string (P:=P) w s t e b hus hu p1
        have hge:=grownCap_ge w b.size 0 e
        have hcm:=grownCap_le_maxLen w b.size 0 e hsz
        have hfr:Fr [] w.heap (w.drew.alloc (.cells (bytesRow b (grownCap w b.size 0 e)) e ((bytesRow b (grownCap w b.size 0 e)).size,(bytesRow b (grownCap w b.size 0 e)).size+1))).heap:=Fr.push w.heap _
        have hrest:Rest w (w.drew.alloc (.cells (bytesRow b (grownCap w b.size 0 e)) e ((bytesRow b (grownCap w b.size 0 e)).size,(bytesRow b (grownCap w b.size 0 e)).size+1))):=(Rest.drew w).trans (Rest.alloc _ _)
        have own:aw (w.drew.alloc (.cells (bytesRow b (grownCap w b.size 0 e)) e ((bytesRow b (grownCap w b.size 0 e)).size,(bytesRow b (grownCap w b.size 0 e)).size+1))).heap e 1 (some ⟨w.heap.size,0,none⟩) b.size (grownCap w b.size 0 e) (Lib.strCells b):=by
         refine⟨by rw[Lib.strCells_length,Qy],.inr ⟨w.heap.size,_,rfl,⟨_,heap_alloc_new w.drew _,.inr (P3 _)⟩,hge,hcm,?_,?_⟩⟩
         ·simp only[bytesRow,Array.size_append,Array.size_map,Array.size_replicate]
          simp_all
         ·rw[Qy]
          simp only[bytesRow,Array.toList_append,Array.toList_map]
          have:(b.data.toList.map fun b=>Value.int .u8 b.toNat).length=b.size:=by simp_all
          rw[<-this,List.take_left]
          rfl
        refine bi (v:=.slice (some ⟨w.heap.size,0,none⟩) b.size (grownCap w b.size 0 e)) (w':=w.drew.alloc (.cells (bytesRow b (grownCap w b.size 0 e)) e ((bytesRow b (grownCap w b.size 0 e)).size,(bytesRow b (grownCap w b.size 0 e)).size+1))) ?_ (bT hd hrest (r.fr_later hrest hfr fun _ _ h=>by cases h) (x:=.val (.slice (some ⟨w.heap.size,0,none⟩) b.size (grownCap w b.size 0 e))) rfl (d _ _ own hfr))
        simp only[execOp,ho,e1]
        simp_all
       ·exact d.elim
      ·exact d.elim
     ·exact d.elim
    ·split at d
     ·rename_i hst
      have hst:=P4 hst
      subst hst
      split at d
      ·rename_i ei h3
       obtain⟨de,_,_,p1,_,_,_,_,_,_,p8,_⟩:=(hT.tl h3).ex
       split at d
       ·rename_i hek
        rw[hek]at p8
        have hde:de= .int .u8:=by cases de<;>simp[cM]at p8;rw[p8]
        subst hde
        split at d
        ·rename_i y h5
         obtain⟨vx,hcx,hvx⟩:=aQ r.fr h5
         obtain⟨xa,m,xc,rfl,b,q,rfl,d⟩:=cj d hcx
         obtain⟨hni,cs,⟨lo,hi⟩,hb,d⟩:=iL d
         have hsh:w.shape? b=some (e,cs.size):=by unfold World.shape?;rw[hb]
         have hfz:w.freeze ⟨b,cs.size,none⟩ 1={w with heap:=lV w.heap b}:=by
          unfold World.freeze
          rw[if_neg PB]
          congr 1
          grind [lV]
         have hrest:Rest w {w with heap:=lV w.heap b}:=⟨rfl,rfl,rfl,by simp[lV]⟩
         refine bi (v:=.slice (some ⟨b,q,none⟩) m xc) (w':={w with heap:=lV w.heap b}) ?_ (bT hd hrest (r.fr_later hrest (Ep w.heap b) fun x hx=>by grind) (x:=.val (.slice (some ⟨b,q,none⟩) m xc)) rfl d)
         simp only[execOp,ho,hvx]
         simp[convert,run_underlying hu,run_underlying p1,markStringish,hsh,hfz]
        ·exact d.elim
       ·exact d.elim
      ·exact d.elim
     ·exact d.elim
   ·rename_i hkn
    split at d
    ·rename_i htag
     have hus:=eH (hT.tl h1) htag
     split at d
     ·rename_i e hk
      have hu:=bQ (hT.tl h0) hk
      split at d
      ·rename_i ei h3
       obtain⟨de,_,_,p1,_,_,_,_,_,_,p8,_⟩:=(hT.tl h3).ex
       split at d
       ·rename_i hek
        rw[hek]at p8
        have hde:de= .int .u8:=by cases de<;>simp[cM]at p8;rw[p8]
        subst hde
        split at d
        ·rename_i q m h5
         obtain⟨vx,hcx,hvx⟩:=aQ r.fr h5
         split at d
         ·rename_i p hp
          split at d
          ·rename_i hl
           have hl':=P4 hl
           split at d
           ·rename_i xs hxs
            simp only[AVal.conc,hp,QL,Option.some.injEq]at hcx
            refine bi (v:=.string (strOf xs)) (w':=w) ?_ (bT hd (Rest.refl w) r (x:=.val (.string (strOf xs))) rfl d)
            simp only[execOp,ho]
            rw[bU (kA hu p1 hus (hvx.trans hcx.symm) ⟨by rw[Rg,<-zp hxs,hl'];simp,.inr ⟨p.blk,0,rfl,fun j v hv=>by
             rw[bs (r.pr q p hp)];rw[zq hxs]at hv;simpa using hv⟩⟩)]
            rfl
           ·exact d.elim
          ·exact d.elim
         ·exact d.elim
        ·rename_i yx _ h5
         obtain⟨vx,hcx,hvx⟩:=aQ r.fr h5
         obtain⟨xa,m,xc,rfl,xs,hr,d⟩:=cj d hcx
         refine bi (v:=.string (strOf xs)) (w':=w) ?_ (bT hd (Rest.refl w) r (x:=.val (.string (strOf xs))) rfl d)
         simp only[execOp,ho]
         rw[bU (kA hu p1 hus hvx hr)]
         rfl
        ·exact d.elim
       ·exact d.elim
      ·exact d.elim
     ·exact d.elim
    ·exact d.elim
   ·exact d.elim
  ·exact d.elim
 ·exact d.elim
theorem pair {α:Type} {l:Array α} {x y:α} (h:l.toList=[x,y]):l=#[x,y]:=by grind
theorem sD {c:Call} {t e:Nat} {ei:TI} {s x:Operand} (r:Rel st a w) (hd:bR ro a.tmps.size o.dst=true) (ho:o.op= .call c) (hc:c.callee= .builtin .append)
  (hargs:c.args.toList=[s,x]) (hts:c.argTypes.toList=[t,t]) (hu:P.underlying t=some (.slice e)) (he:TyOK P e ei) {sa xa:PY} {n cc m xc:Nat}
  (hs:a.eval s= .slice sa n cc) (hx:a.eval x= .slice xa m xc) {xs:List Value} (hr:Reads w.heap ei.shs.length xa m xs) (hxc:xa=none->xc=0) (h1:∀v∈xs,v.oneCell'=true)
  (d:HL e ei w.heap (hid st.lc) sa n cc m xs fun v h'=>K (st.put o.dst v) h'):eG P ro st o a w K Q:=by
 obtain⟨old,hown,hH,hb,hm,hk⟩:=d
 obtain⟨a',c',w',hrun,hown',hfr,hrest,hfresh,hgrow⟩:=xQ (P:=P) (t:=t) (ty:=o.type) hu he w hown hr hxc h1 hb hm
 refine bi (v:=.slice a' (n+m) c') (w':=w') ?_ (bT hd hrest (r.fr_later hrest hfr hH) (x:=.val (.slice a' (n+m) c')) rfl (hk a' c' w'.heap hown' hfr hfresh hgrow))
 simp[execOp,ho,resolve,hc,pair hargs,pair hts,hs,hx,invoke,builtin,hrun]
theorem vX {c:Call} (hT:bq P T) (hF:cp P F) (r:Rel st a w) (hd:bR ro a.tmps.size o.dst=true) (ho:o.op= .call c)
  (d:act P T F privs ro st w.heap o K):eG P ro st o a w K Q:=by
 unfold act at d
 simp only[ho]at d
 split at d
 ·rename_i hc
  split at d
  ·rename_i s x hargs
   split at d
   ·rename_i t t' hts
    split at d
    ·rename_i htt
     have:=P4 htt
     subst this
     split at d
     ·rename_i ti h1
      split at d
      ·rename_i e hk
       have hu:=bQ (hT.tl h1) hk
       split at d
       ·rename_i ei h3
        have he:=hT.tl h3
        split at d
        ·rename_i ys h4
         obtain⟨vs,hcs,hvs⟩:=aQ r.fr h4
         obtain⟨sa,n,cc,rfl,d⟩:=cj d hcs
         split at d
         ·rename_i q m h5
          obtain⟨vx,hcx,hvx⟩:=aQ r.fr h5
          split at d
          ·rename_i p hp
           split at d
           ·rename_i hl
            have hl':=P4 hl
            obtain⟨g1,d⟩:=pV d
            simp only[AVal.conc,hp,QL,Option.some.injEq]at hcx
            refine sD r hd ho hc hargs hts hu he hvs (hvx.trans hcx.symm) ⟨hl',.inr ⟨p.blk,0,rfl,fun j v hv=>?_⟩⟩ (fun h=>by cases h) g1 d
            rw[bs (r.pr q p hp)]
            simpa using hv
           ·exact d.elim
          ·exact d.elim
         ·rename_i yx _ h5
          obtain⟨vx,hcx,hvx⟩:=aQ r.fr h5
          grind [cj,sD]
         ·exact d.elim
        ·exact d.elim
       ·exact d.elim
      ·exact d.elim
     ·exact d.elim
    ·split at d
     ·rename_i ti h1
      split at d
      ·rename_i e hk
       have hu:=bQ (hT.tl h1) hk
       split at d
       ·rename_i ei h3
        have he:=hT.tl h3
        split at d
        ·rename_i hl
         have hl':=P4 hl
         split at d
         ·rename_i ti' h6
          split at d
          ·rename_i htag
           have hus:=eH (hT.tl h6) htag
           split at d
           ·rename_i ys h4
            obtain⟨vs,hcs,hvs⟩:=aQ r.fr h4
            obtain⟨sa,n,cc,rfl,d⟩:=cj d hcs
            split at d
            ·rename_i b h5
             have hvx:=bo r.toL h5
             obtain⟨old,hown,hH,hb,hm,hk⟩:=d
             obtain⟨a',c',w',hrun,hown',hfr,hrest,hfresh,hgrow⟩:=pW (P:=P) (t:=t) (u:=t') (ty:=o.type) hu hus he hl' w hown b hb hm
             refine bi (v:=.slice a' (n+b.size) c') (w':=w') ?_ (bT hd hrest (r.fr_later hrest hfr hH) (x:=.val (.slice a' (n+b.size) c')) rfl (hk a' c' w'.heap hown' hfr hfresh hgrow))
             simp[execOp,ho,resolve,hc,pair hargs,pair hts,hvs,hvx,invoke,builtin,hrun]
            ·exact d.elim
           ·exact d.elim
          ·exact d.elim
         ·exact d.elim
        ·exact d.elim
       ·exact d.elim
      ·exact d.elim
     ·exact d.elim
   ·exact d.elim
  ·exact d.elim
 ·rename_i f hc
  split at d
  ·rename_i g first captured h1
   have e1:=bo r.toL h1
   split at d
   ·rename_i vs h2
    have e2:=lZ r.toL h2
    have hres:(resolve a.eval c o.type).run P w= .ok {target:=.fn (.func g) captured,args:=first++vs.toArray} w:=by
     simp[resolve,hc,e1,Deferred.ofValue,e2]
    have hargs:(first++vs.toArray)++captured=(first.toList++(vs++captured.toList)).toArray:=by
     simp_all
    split at d
    ·rename_i hm
     obtain⟨M,R,hcall,hH,hk⟩:=d
     have hcf:=cp.mem hF hm (first.toList++(vs++captured.toList)).toArray w
     unfold eG Oper.wp
     have hrun:(execOp a.eval o).run P w= .ok (.enter g (first.toList++(vs++captured.toList)).toArray) w:=by
      grind [execOp,bU,invoke]
     rw[hrun]
     refine(hcall w rfl).mono ?_
     rintro e w' ⟨v,rfl,hrest,hfr,hR⟩
     obtain⟨v',rfl,hK⟩:=gS (hk v w'.heap hfr hR)
     exact bT hd hrest (r.fr_later hrest hfr hH) (x:=.val v) rfl hK
    ·obtain⟨R,hext,hk⟩:=d
     obtain⟨v,w',hcf,hheap,hrest,hR⟩:=hext w
     obtain⟨v',rfl,hK⟩:=gS (hk v hR)
     refine bi (v:=v) (w':=w') ?_ (bT hd hrest (r.later hrest fun _ _ _=>by rw[hheap]) (x:=.val v) rfl PE)
     grind [execOp,bU,invoke]
   ·exact d.elim
  ·exact d.elim
 ·exact d.elim
theorem gz (hT:bq P T) (hF:cp P F) (r:Rel st a w) (hd:bR ro a.tmps.size o.dst=true) (d:act P T F privs ro st w.heap o K):eG P ro st o a w K Q:=by
 cases ho:o.op
 case box=>exact HM r hd ho d
 case alloc=>exact Av hT r hd ho d
 case buildSlice=>exact qa hT r hd ho d
 case makeSlice=>exact qU hT r hd ho d
 case store=>exact Aw hT r ho d
 case binOp=>exact Ax r hd ho d
 case convert=>exact vW hT r hd ho d
 case call=>exact vX hT hF r hd ho d
 all_goals (unfold act at d;simp only[ho]at d)
end
end Go.X
