/- A region whose order is drawn: what only reads is taken first, what makes memory comes as it may, what writes stands last. Conditions: as for regions. -/
import Derived.Test.YtlflalecmhgmjaaGreatDoorXLoop
import Derived.Test.YtlflalecmhgmjaaGreatDoorXDetU
import Derived.OrdersHeld
import Derived.StillTail
set_option linter.unusedVariables false
set_option linter.unusedSimpArgs false
namespace Go.X
section
variable {P:Program} {ops:Array Oper} {Q:Exit->Act->World->Prop} {md:Region.Mode} {S:Array Bool->World->Prop} {n:Nat} {L:Array Bool->Act->World->Prop}
def wpT (P:Program) (md:Region.Mode) (ops:Array Oper) (Q:Exit->Act->World->Prop) (S:Array Bool->World->Prop) (n:Nat) (L:Array Bool->Act->World->Prop):Nat->Array Bool->Act->World->Prop
 | 0,listed,a,w=>L listed a w
 | f+1,listed,a,w=>Region.ready md ops listed≠[]/\∀i∈Region.ready md ops listed,i<n/\wpOp P ops Q i (fun a' w'=>S (listed.setIfInBounds i true) w'/\wpT P md ops Q S n L f (listed.setIfInBounds i true) a' w') a w
theorem wpAny_of_T {g:Nat} (hL:∀listed a w,L listed a w->wpAny P md ops Q g listed a w):∀(f:Nat) (listed:Array Bool) (a:Act) (w:World),wpT P md ops Q S n L f listed a w->wpAny P md ops Q (f+g) listed a w
 | 0,listed,a,w,h=>by rw[Nat.zero_add];exact hL _ _ _ h
 | f+1,listed,a,w,h=>by
  rw[show f+1+g=(f+g)+1 by omega]
  exact⟨fun h0=>absurd h0 h.1,fun i hi=>wpOp_mono (fun a' w' h'=>wpAny_of_T hL f _ a' w' h'.2) (h.2 i hi).2⟩
def tailOK (md:Region.Mode) (ops:Array Oper) (n:Nat):Bool:=
 match Nat.beq n ops.size with
 | true=>true
 | false=>Nat.blt n ops.size&&Region.sinkB md ops n&&Region.chainB md ops n
theorem no_tail (h:tailOK md ops n=true) {listed:Array Bool} (inv:HeadInv md ops n listed) {i:Nat} (hin:i<n) (hun:listed.getD i true=false):∀j∈Region.ready md ops listed,j<n:=by
 intro j hj
 unfold tailOK at h
 cases hb:Nat.beq n ops.size with
 | true=>
  have:=Nat.eq_of_beq_eq_true hb
  obtain⟨_,oj,hoj,_⟩:=mem_ready.1 hj
  have:=(Array.getElem?_eq_some_iff.1 hoj).1
  omega
 | false=>
  simp only[hb,Bool.and_eq_true]at h
  rcases Nat.lt_or_ge j n with h' | h'
  ·exact h'
  ·exact absurd hj (tail_waits h.1.2 h.2 (Nat.le_of_ble_eq_true h.1.1) inv _ i rfl hin hun j h')
theorem wpT_first {i:Nat} {oi:Oper} {v:Value} {Z:World->Prop} (hZ:∀listed w,HeadInv md ops n listed->listed.getD i true=false->S listed w->Z w) (hSi:∀listed w,S (listed.setIfInBounds i true) w ↔ S listed w) (hi:ops[i]? =some oi) (hsel:∀(j:Nat) (o:Oper) cs b,ops[j]? =some o->o.op≠ .select cs b) (hQ:∀c a w,Q (.panic c) (a.put oi.dst v) w->Q (.panic c) a w)
  (hT:tailOK md ops n=true) (hin:i<n) (hdone:∀listed a w,L listed a w->∀j∈Region.ready md ops listed,n<=j):
  ∀(f:Nat) (listed:Array Bool) (a:Act) (w:World),HeadInv md ops n listed->
   (∀j oj,ops[j]? =some oj->j≠i->listed.getD j true=false->(∀e∈oj.after,Region.binds md e=true->e.on≠i)->oi.apart ops oj=true)->
   i∈Region.ready md ops listed->YieldsIf P ops Z oi v a->S listed w->
   wpT P md ops Q S n L f (listed.setIfInBounds i true) (a.put oi.dst v) w->wpT P md ops Q S n L (f+1) listed a w:=by
 intro f
 induction f with
 | zero=>
  intro listed a w inv _ hr hy hS H
  have hun:=(mem_ready.1 hr).1
  refine⟨fun h=>(by rw[h]at hr;cases hr),fun j hj=>⟨no_tail hT inv hin hun j hj,?_⟩⟩
  by_cases hji:j=i
  ·subst hji;exact hy.wpOp hi (hZ _ _ inv hun hS) ⟨(hSi _ _).2 hS,H⟩
  ·have h1:=hdone _ _ _ H j (ready_mono hj hji)
   have h2:=no_tail hT inv hin hun j hj
   omega
 | succ f ih=>
  intro listed a w inv hfree hr hy hS H
  have hun:=(mem_ready.1 hr).1
  refine⟨fun h=>(by rw[h]at hr;cases hr),fun j hj=>⟨no_tail hT inv hin hun j hj,?_⟩⟩
  by_cases hji:j=i
  ·subst hji;exact hy.wpOp hi (hZ _ _ inv hun hS) ⟨(hSi _ _).2 hS,H⟩
  ·have hjn:=no_tail hT inv hin hun j hj
   have h1:=(H.2 j (ready_mono hj hji)).2
   obtain⟨hjun,oj,hoj,hall⟩:=mem_ready.1 hj
   have hnot:∀e∈oj.after,Region.binds md e=true->e.on≠i:=fun e he hb heq=>by
    have h1:=hall e he hb
    rw[heq,getD_both hun]at h1
    cases h1
   have h2:=wpOp_putIf hoj (hfree j oj hoj hji hjun hnot) (fun cs b=>hsel i oi cs b hi) (fun cs b=>hsel j oj cs b hoj) hQ hy h1
   have hfree':∀k ok,ops[k]? =some ok->k≠i->(listed.setIfInBounds j true).getD k true=false->
     (∀e∈ok.after,Region.binds md e=true->e.on≠i)->oi.apart ops ok=true:=fun k ok hk hki hun' hno=>by
    refine hfree k ok hk hki ?_ hno
    by_cases hjk:j=k
    ·subst hjk;exact hjun
    ·rw [getD_set_ne true hjk]at hun';exact hun'
   refine wpOp_mono (fun a' w' h3=>?_) h2
   have h4:S (listed.setIfInBounds j true) w':=(hSi _ _).1 (by rw[Array.setIfInBounds_comm _ _ hji];exact h3.2.1)
   refine⟨h4,ih (listed.setIfInBounds j true) a' w' (inv.set hj hjn) hfree' (ready_mono hr (Ne.symm hji)) h3.1 h4 ?_⟩
   rw[Array.setIfInBounds_comm _ _ hji]
   exact h3.2.2
end
structure DD where
 n:Nat
 m:Bool
def pickX (T:TAB) (ops:Array Oper) (opsL:List Oper) (listed:Array Bool):List Nat->Option (Nat × Oper)
 | []=>none
 | i::r=>match opsL[i]? with
  | some o=>(match isAct T o.op with
   | false=>(match Region.free .any ops listed i with
    | true=>some (i,o)
    | false=>pickX T ops opsL listed r)
   | true=>pickX T ops opsL listed r)
  | none=>pickX T ops opsL listed r
theorem pickX_ok {T:TAB} {ops:Array Oper} {listed:Array Bool}:∀{l:List Nat} {i:Nat} {o:Oper},pickX T ops ops.toList listed l=some (i,o)->i∈l/\ops[i]? =some o/\Region.free .any ops listed i=true/\isAct T o.op=false
 | [],_,_,h=>by simp[pickX]at h
 | j::r,i,o,h=>by
  unfold pickX at h
  split at h
  ·rename_i o' ho
   split at h
   ·rename_i hna
    split at h
    ·rename_i hf
     simp only[Option.some.injEq,Prod.mk.injEq]at h
     obtain⟨rfl,rfl⟩:=h
     exact⟨by simp,by simpa using ho,hf,hna⟩
    ·obtain ⟨h1,h2⟩:=pickX_ok h;exact⟨List.mem_cons_of_mem _ h1,h2⟩
   ·obtain ⟨h1,h2⟩:=pickX_ok h;exact⟨List.mem_cons_of_mem _ h1,h2⟩
  ·obtain ⟨h1,h2⟩:=pickX_ok h;exact⟨List.mem_cons_of_mem _ h1,h2⟩
def takeX (E:Env) (ro:RO) (ops:List Oper) (L:List Priv) (mo:Option (List Nat)) (i:Nat) (o:Oper) (st:St) (h0:Heap) (K:St->Prop):Prop:=
 match dstOK ro E.n o.dst with
 | false=>False
 | true=>match wantX ops st o with
  | some true=>det E.T L mo st h0 o.op fun x=>afterX (isGuard ops i) o.dst (st.put o.dst x) K
  | some false=>K (st.put o.dst (.val undef))
  | none=>False
def allX (F:Nat->Prop):List Nat->Prop
 | []=>False
 | [i]=>F i
 | i::r=>F i/\allX F r
theorem allX_elim {F:Nat->Prop}:∀{l:List Nat},allX F l->l≠[]/\∀i∈l,F i
 | [],h=>h.elim
 | [i],h=>⟨by simp,fun k hk=>by simp at hk;subst hk;exact h⟩
 | i::j::r,h=>by
  obtain⟨h1,h2⟩:=h
  obtain⟨_,h3⟩:=allX_elim h2
  exact⟨by simp,fun k hk=>by
   rcases List.mem_cons.1 hk with rfl | hk
   ·exact h1
   ·exact h3 k hk⟩
def aT (T:TAB) (o:Oper):Bool:=isAct T o.op
def sT (T:TAB) (o:Oper):Bool:=
 match o.op with
 | .store .. =>isAct T o.op
 | _=>false
theorem sT_aT {T:TAB} {o:Oper} (h:isAct T o.op=false):sT T o=false:=by
 unfold sT
 split
 ·exact h
 ·rfl
def anyAct (p:Oper->Bool) (listed:Array Bool):List Oper->Nat->Bool
 | [],_=>false
 | o::r,k=>match p o with
  | false=>anyAct p listed r (k+1)
  | true=>match listed.getD k false with
   | true=>true
   | false=>anyAct p listed r (k+1)
def early (p:Oper->Bool) (i:Nat):List Oper->Bool
 | []=>true
 | o::r=>match p o with
  | false=>early p i r
  | true=>match o.after.any fun e=>Region.binds .any e&&Nat.beq e.on i with
   | true=>early p i r
   | false=>false
theorem anyAct_true {p:Oper->Bool} {listed:Array Bool}:∀{l:List Oper} {k:Nat},anyAct p listed l k=true->∃(j:Nat) (o:Oper),l[j]? =some o/\p o=true/\listed.getD (k+j) false=true
 | [],_,h=>by simp[anyAct]at h
 | o::r,k,h=>by
  unfold anyAct at h
  split at h
  ·obtain ⟨j,o',h1,h2,h3⟩:=anyAct_true h
   exact⟨j+1,o',by simpa using h1,h2,by rw[show k+(j+1)=k+1+j by omega];exact h3⟩
  ·rename_i ha
   split at h
   ·rename_i hl;exact⟨0,o,rfl,ha,hl⟩
   ·obtain ⟨j,o',h1,h2,h3⟩:=anyAct_true h
    exact⟨j+1,o',by simpa using h1,h2,by rw[show k+(j+1)=k+1+j by omega];exact h3⟩
theorem anyAct_of {p:Oper->Bool} {listed:Array Bool}:∀{l:List Oper} {k j:Nat} {o:Oper},l[j]? =some o->p o=true->listed.getD (k+j) false=true->anyAct p listed l k=true
 | [],_,_,_,h,_,_=>by simp at h
 | o::r,k,0,o',h,ha,hl=>by
  have:o=o':=by simpa using h
  subst this
  unfold anyAct
  rw[ha]
  simp only
  rw[Nat.add_zero]at hl
  rw[hl]
 | o::r,k,j+1,o',h,ha,hl=>by
  have ih:=anyAct_of (l:=r) (k:=k+1) (j:=j) (by simpa using h) ha (by rw[show k+1+j=k+(j+1) by omega];exact hl)
  unfold anyAct
  split
  ·exact ih
  ·split
   ·rfl
   ·exact ih
theorem early_spec {p:Oper->Bool} {i:Nat}:∀{l:List Oper},early p i l=true->∀(j:Nat) (o:Oper),l[j]? =some o->p o=true->∃e∈o.after,Region.binds .any e=true/\e.on=i
 | [],_,j,o,h,_=>by simp at h
 | o::r,h,j,o',hj,ha=>by
  unfold early at h
  split at h
  ·rename_i hf
   cases j with
   | zero=>
    have:o=o':=by simpa using hj
    subst this
    rw[hf]at ha;cases ha
   | succ j=>exact early_spec h j o' (by simpa using hj) ha
  ·split at h
   ·rename_i hany
    cases j with
    | zero=>
     have:o=o':=by simpa using hj
     subst this
     rw[Array.any_eq_true']at hany
     obtain⟨e,he,hb⟩:=hany
     rw[Bool.and_eq_true]at hb
     exact⟨e,he,hb.1,Nat.eq_of_beq_eq_true hb.2⟩
    | succ j=>exact early_spec h j o' (by simpa using hj) ha
   ·cases h
def SX (T:TAB) (opsL:List Oper) (m1 mo:Option (List Nat)) (h0:Heap) (listed:Array Bool) (w:World):Prop:=
 Fr (mo.getD []) h0 w.heap/\(anyAct (aT T) listed opsL 0=false->Fr [] h0 w.heap)/\(anyAct (sT T) listed opsL 0=false->Fr (m1.getD []) h0 w.heap)
def moE (T:TAB) (opsL:List Oper) (m1 mo:Option (List Nat)) (i:Nat):Option (List Nat):=
 match early (aT T) i opsL with
 | true=>none
 | false=>(match early (sT T) i opsL with
  | true=>m1
  | false=>mo)
theorem moE_sub {T:TAB} {opsL:List Oper} {m1 mo:Option (List Nat)} {i b:Nat} (h1:b∉m1.getD []) (h:b∉mo.getD []):b∉(moE T opsL m1 mo i).getD []:=by
 unfold moE
 split
 ·simp
 ·split
  ·exact h1
  ·exact h
theorem early_none {p:Oper->Bool} {opsL:List Oper} {i n:Nat} {listed:Array Bool} (hi:HeadInv .any opsL.toArray n listed) (hun:listed.getD i true=false) (he:early p i opsL=true):anyAct p listed opsL 0=false:=by
 rw[<-Bool.not_eq_true]
 intro ha
 obtain⟨j,o,h1,h2,h3⟩:=anyAct_true ha
 rw[Nat.zero_add]at h3
 obtain⟨e,he1,hb,rfl⟩:=early_spec he j o h1 h2
 have:=hi.closed j o (by simpa using h1) h3 e he1 hb
 rw[getD_both hun]at this
 cases this
theorem SX_moE {T:TAB} {opsL:List Oper} {m1 mo:Option (List Nat)} {h0:Heap} {i n:Nat} {listed:Array Bool} {w:World} (hi:HeadInv .any opsL.toArray n listed) (hun:listed.getD i true=false) (hs:SX T opsL m1 mo h0 listed w):Fr ((moE T opsL m1 mo i).getD []) h0 w.heap:=by
 unfold moE
 split
 ·rename_i he
  exact hs.2.1 (early_none hi hun he)
 ·split
  ·rename_i he
   exact hs.2.2 (early_none hi hun he)
  ·exact hs.1
theorem any_set {p:Oper->Bool} {opsL:List Oper} {i:Nat} {o:Oper} (ho:opsL[i]? =some o) (ha:p o=false) (listed:Array Bool):anyAct p (listed.setIfInBounds i true) opsL 0=anyAct p listed opsL 0:=by
 rw[Bool.eq_iff_iff]
 constructor
 ·intro h
  obtain⟨j,o',h1,h2,h3⟩:=anyAct_true h
  have hij:i≠j:=fun e=>by
   subst e
   rw[ho]at h1
   rw[Option.some.inj h1,h2]at ha;cases ha
  refine anyAct_of h1 h2 ?_
  rw[Nat.zero_add]at h3 ⊢
  rwa[getD_set_ne false hij]at h3
 ·intro h
  obtain⟨j,o',h1,h2,h3⟩:=anyAct_true h
  have hij:i≠j:=fun e=>by
   subst e
   rw[ho]at h1
   rw[Option.some.inj h1,h2]at ha;cases ha
  refine anyAct_of h1 h2 ?_
  rw[Nat.zero_add]at h3 ⊢
  rwa[getD_set_ne false hij]
theorem SX_set {T:TAB} {opsL:List Oper} {m1 mo:Option (List Nat)} {h0:Heap} {i:Nat} {o:Oper} (ho:opsL[i]? =some o) (ha:isAct T o.op=false) (listed:Array Bool) (w:World):SX T opsL m1 mo h0 (listed.setIfInBounds i true) w ↔ SX T opsL m1 mo h0 listed w:=by
 unfold SX
 rw[any_set (p:=aT T) ho ha,any_set (p:=sT T) ho (sT_aT ha)]
def frX (T:TAB) (opsL:List Oper) (m1 mo:Option (List Nat)) (listed:Array Bool):List Nat:=
 match anyAct (aT T) listed opsL 0 with
 | true=>(match anyAct (sT T) listed opsL 0 with
  | true=>mo.getD []
  | false=>m1.getD [])
 | false=>[]
def XH (E:Env) (ro:RO) (ops:Array Oper) (opsL:List Oper) (n:Nat) (L:List Priv) (m1 mo:Option (List Nat)) (h0:Heap):Nat->Array Bool->St->Heap->(St->Heap->Prop)->Prop
 | 0,listed,st,h,K=>(match Region.seqB .any ops (ops.size-n) n listed with
  | true=>K st h
  | false=>False)
 | f+1,listed,st,h,K=>match pickX E.T ops opsL listed (Region.ready .any ops listed)with
  | some (i,o)=>(match Nat.blt i n with
   | true=>takeX E ro opsL L (moE E.T opsL m1 mo i) i o st h0 fun st'=>XH E ro ops opsL n L m1 mo h0 f (listed.setIfInBounds i true) st' h K
   | false=>False)
  | none=>allX (fun i=>match Nat.blt i n with
   | false=>False
   | true=>match opsL[i]? with
    | some o=>stepX E ro opsL i o st h fun st' h'=>Fr (frX E.T opsL m1 mo (listed.setIfInBounds i true)) h0 h'/\XH E ro ops opsL n L m1 mo h0 f (listed.setIfInBounds i true) st' h' K
    | none=>False) (Region.ready .any ops listed)
def XD0 (E:Env) (ro:RO) (d:DD) (ops:Array Oper) (st:St) (h:Heap) (K:St->Heap->Prop):Prop:=
 match Region.noSelect ops&&tailOK .any ops d.n with
 | false=>False
 | true=>match d.m with
  | false=>XH E ⟨ro.t,st.lc.map (·.slot)++ro.p,ro.a⟩ ops ops.toList d.n st.lc none none h d.n (Array.replicate ops.size false) st h fun st' h'=>XR E ro ops.toList (ops.toList.drop d.n) d.n st' h' K
  | true=>∃M:List Nat,(∀b∈hid st.lc,b∉M)/\
    XH E ⟨ro.t,st.lc.map (·.slot)++ro.p,ro.a⟩ ops ops.toList d.n st.lc (some M) (some M) h d.n (Array.replicate ops.size false) st h fun st' h'=>XR E ro ops.toList (ops.toList.drop d.n) d.n st' h' K
theorem plook_slot {l:List Priv} {s:Nat} {p:Priv} (h:plook l s=some p):mem (l.map (·.slot)) s=true:=by
 induction l with
 | nil=>simp[plook]at h
 | cons q r ih=>
  simp only[plook]at h
  simp only[List.map_cons,mem]
  cases hb:Nat.beq q.slot s with
  | true=>rfl
  | false=>simp only[hb]at h;exact ih h
theorem Keep.weaken {ro ro':RO} {st st':St} (h:Keep ro' st st') (ht:∀t,mem ro.t t=true->mem ro'.t t=true) (hp:∀t,mem ro.p t=true->mem ro'.p t=true) (ha:∀t,mem ro.a t=true->mem ro'.a t=true):Keep ro st st':=
 ⟨fun t h1=>h.t t (ht t h1),fun s h1=>h.p s (hp s h1),fun s h1=>h.a s (ha s h1)⟩
theorem PQ.put {pn:Option (Value->Heap->Prop)} {w0:World} {c:List PanicEntry} {a:Act} {d:Option Tmp} {v:Value} {w:World} (h:PQ pn w0 c (a.put d v) w):PQ pn w0 c a w:=by
 obtain⟨E,v',a1,a2,a3,a4,a5⟩:=h
 refine⟨E,v',a1,a2,?_,a4,a5⟩
 cases d<;>exact a3
def QN (K:Act->World->Prop) (Pn:List PanicEntry->Act->World->Prop):Exit->Act->World->Prop
 | .normal,a,w=>K a w
 | .panic ch,a,w=>Pn ch a w
 | _,_,_=>False
structure HInv (E:Env) (ro:RO) (L:List Priv) (mo:Option (List Nat)) (h0:Heap) (s0:St) (w0:World) (st:St) (a:Act) (w:World):Prop where
 r:Rel st a w
 n:a.tmps.size=E.n
 rest:Rest w0 w
 fr:Fr (mo.getD []) h0 w.heap
 keep:Keep ro s0 st
 pl:∀s p,plook L s=some p->plook st.lc s=some p
theorem XH_sound {E:Env} (hE:E.OK) {ro:RO} {opsL:List Oper} {n:Nat} {L:List Priv} {m1 mo:Option (List Nat)} {h0:Heap} {s0:St} {w0:World} {K:St->Heap->Prop} {Q:Exit->Act->World->Prop}
  (hsel:Region.noSelect opsL.toArray=true) (hT:tailOK .any opsL.toArray n=true) (hQ:∀c (a:Act) (d:Option Tmp) (v:Value) w,Q (.panic c) (a.put d v) w->Q (.panic c) a w) (hP:∀ch a' w',PQ E.pn w0 ch a' w'->Q (.panic ch) a' w')
  (hL:∀s p,plook L s=some p->h0[p.blk]? =some (.cells p.cells.toArray p.elem (0,0))/\p.blk∉m1.getD []/\p.blk∉mo.getD []/\mem ro.p s=true) (hmm:∀b∈m1.getD [],b∈mo.getD []):
  ∀(f:Nat) (listed:Array Bool) (st:St) (a:Act) (w:World),XH E ro opsL.toArray opsL n L m1 mo h0 f listed st w.heap K->HInv E ro L mo h0 s0 w0 st a w->HeadInv .any opsL.toArray n listed->SX E.T opsL m1 mo h0 listed w->
   wpT E.P .any opsL.toArray Q (SX E.T opsL m1 mo h0) n (fun listed a w=>Region.seqB .any opsL.toArray (opsL.toArray.size-n) n listed=true/\∃st,HInv E ro L mo h0 s0 w0 st a w/\K st w.heap) f listed a w
 | 0,listed,st,a,w,d,iv,hi,hs=>by
  unfold XH at d
  split at d
  ·rename_i hb;exact⟨hb,st,iv,d⟩
  ·exact d.elim
 | f+1,listed,st,a,w,d,iv,hi,hs=>by
  unfold XH at d
  split at d
  ·--one is taken first
   rename_i i o hp
   obtain⟨hr,ho,hf,hna⟩:=pickX_ok (ops:=opsL.toArray) hp
   split at d
   ·rename_i hlt
    have hlt':=Nat.le_of_ble_eq_true hlt
    unfold takeX at d
    split at d
    ·exact d.elim
    ·rename_i hok
     have hok':dstOK ro a.tmps.size o.dst=true:=by rw[iv.n];exact hok
     have hdone:∀(listed:Array Bool) (a:Act) (w:World),(Region.seqB .any opsL.toArray (opsL.toArray.size-n) n listed=true/\∃st,HInv E ro L mo h0 s0 w0 st a w/\K st w.heap)->∀j∈Region.ready .any opsL.toArray listed,n<=j:=
      fun _ _ _ h=>seqB_ready h.1
     have hoL:opsL[i]? =some o:=by simpa using ho
     have hun:=(mem_ready.1 hr).1
     have hz:Fr ((moE E.T opsL m1 mo i).getD []) h0 w.heap:=SX_moE hi hun hs
     have fin:∀(v:Value) (st':St),YieldsIf E.P opsL.toArray (fun w=>Fr ((moE E.T opsL m1 mo i).getD []) h0 w.heap) o v a->HInv E ro L mo h0 s0 w0 st' (a.put o.dst v) w->
       XH E ro opsL.toArray opsL n L m1 mo h0 f (listed.setIfInBounds i true) st' w.heap K->
       wpT E.P .any opsL.toArray Q (SX E.T opsL m1 mo h0) n (fun listed a w=>Region.seqB .any opsL.toArray (opsL.toArray.size-n) n listed=true/\∃st,HInv E ro L mo h0 s0 w0 st a w/\K st w.heap) (f+1) listed a w:=
      fun v st' hy iv' hk=>wpT_first (Z:=fun w=>Fr ((moE E.T opsL m1 mo i).getD []) h0 w.heap) (fun listed w q1 q2 q3=>SX_moE q1 q2 q3) (SX_set hoL hna) ho (Region.noSelect_spec hsel) (fun c a w h=>hQ c a _ _ w h) hT hlt' hdone f listed a w hi (Region.free_spec ho hf) hr hy hs
       (XH_sound hE hsel hT hQ hP hL hmm f _ st' _ w hk iv' (hi.set hr hlt') ((SX_set hoL hna _ _).2 hs))
     split at d
     ·rename_i hw
      have hrl:∀w',Fr ((moE E.T opsL m1 mo i).getD []) h0 w'.heap->RelL L st a w':=fun w' hw'=>⟨iv.r.fr,fun s p hp=>by
       obtain⟨e1,e2,e3,_⟩:=hL s p hp
       exact⟨iv.pl s p hp,hw'.blk_some e1 (moE_sub e2 e3)⟩⟩
      obtain⟨x,hk,hone⟩:=det_one d
      obtain⟨x',v,hc,hrun,rfl⟩:=det_sound hE.T (hrl w hz) hz (hone (fun y=>y=x) rfl)
      have hr':=iv.r.put (dstOK_lt hok') hc
      obtain⟨st'',r'',k1,k2⟩:=afterX_elim hk hr' (show dstOK ro (a.put o.dst v).tmps.size o.dst=true by rw[size_put];exact hok')
      have hkeep:=(Keep.put hok' x').trans k1
      refine fin v st'' (.inl ⟨wantX_ok iv.r.fr hw,fun w' hw'=>?_⟩) ⟨r'',(size_put _ _ _).trans iv.n,iv.rest,iv.fr,iv.keep.trans hkeep,fun s p hp=>(hkeep.p s (hL s p hp).2.2.2).trans (iv.pl s p hp)⟩ k2
      obtain⟨x2,v2,hc2,hrun2,rfl⟩:=det_sound hE.T (hrl w' hw') hw' (hone (fun y=>y=x') rfl)
      rw[hrun2,Option.some.inj (hc2.symm.trans hc)]
     ·rename_i hw
      have hkeep:Keep ro st (st.put o.dst (.val undef)):=Keep.put hok' _
      exact fin undef _ (.inr ⟨wantX_ok iv.r.fr hw,rfl⟩) ⟨iv.r.put (dstOK_lt hok') rfl,(size_put _ _ _).trans iv.n,iv.rest,iv.fr,iv.keep.trans hkeep,fun s p hp=>(hkeep.p s (hL s p hp).2.2.2).trans (iv.pl s p hp)⟩ d
     ·exact d.elim
   ·exact d.elim
  ·obtain ⟨hne,hall⟩:=allX_elim d
   refine⟨hne,fun i hir=>?_⟩
   have d:=hall i hir
   split at d
   ·exact d.elim
   ·rename_i hlt
    have hlt':=Nat.le_of_ble_eq_true hlt
    refine⟨hlt',?_⟩
    split at d
    ·rename_i o ho
     have hstep:=stepX_sound hE (Q:=Q) (fun ch a' w' q=>hP ch a' w' (q.back iv.rest)) d iv.r iv.n
     obtain⟨FM,hFM⟩:∃FM,FM=frX E.T opsL m1 mo (listed.setIfInBounds i true):=⟨_,rfl⟩
     rw[<-hFM]at hstep
     have hSX:∀w':World,Fr FM h0 w'.heap->SX E.T opsL m1 mo h0 (listed.setIfInBounds i true) w':=fun w' hf=>by
      unfold frX at hFM
      split at hFM
      ·rename_i q
       split at hFM
       ·rename_i q2;subst hFM;exact⟨hf,(fun q3=>by rw[q]at q3;cases q3),(fun q3=>by rw[q2]at q3;cases q3)⟩
       ·subst hFM;exact⟨hf.mono hmm,(fun q3=>by rw[q]at q3;cases q3),fun _=>hf⟩
      ·subst hFM;exact⟨hf.nil,fun _=>hf,fun _=>hf.nil⟩
     have hnext:∀a' w',Nx ro st (fun st' h'=>Fr FM h0 h'/\XH E ro opsL.toArray opsL n L m1 mo h0 f (listed.setIfInBounds i true) st' h' K) a.tmps.size w a' w'->
       SX E.T opsL m1 mo h0 (listed.setIfInBounds i true) w'/\wpT E.P .any opsL.toArray Q (SX E.T opsL m1 mo h0) n (fun listed a w=>Region.seqB .any opsL.toArray (opsL.toArray.size-n) n listed=true/\∃st,HInv E ro L mo h0 s0 w0 st a w/\K st w.heap) f (listed.setIfInBounds i true) a' w':=by
      rintro a' w' ⟨st',r',h1,h2,h3,h4,h5⟩
      have h6:=hSX w' h4
      exact⟨h6,XH_sound hE hsel hT hQ hP hL hmm f _ st' a' w' h5 ⟨r',h2.trans iv.n,iv.rest.trans h1,h6.1,iv.keep.trans h3,fun s p hp=>(h3.p s (hL s p hp).2.2.2).trans (iv.pl s p hp)⟩ (hi.set hir hlt') h6⟩
     unfold wpOp
     have ho':opsL.toArray[i]? =some o:=by simpa using ho
     simp only[ho']
     split
     ·rename_i hw
      rw[if_pos hw]at hstep
      exact .inl (Oper.wp_mono hnext hstep)
     ·rename_i hw
      rw[if_neg hw]at hstep
      exact hnext _ _ hstep
    ·exact d.elim
theorem XD_any {E:Env} (hE:E.OK) {ro:RO} {n f:Nat} {opsL:List Oper} {s0 st:St} (hk0:Keep ro s0 st) {K:St->Heap->Prop} {a:Act} {w:World} {m1 mo:Option (List Nat)} {listed:Array Bool} (hsel:Region.noSelect opsL.toArray=true) (hT:tailOK .any opsL.toArray n=true) (hmm:∀b∈m1.getD [],b∈mo.getD []) (hmo:∀b∈hid st.lc,b∉mo.getD [])
  (hx:XH E ⟨ro.t,st.lc.map (·.slot)++ro.p,ro.a⟩ opsL.toArray opsL n st.lc m1 mo w.heap f listed st w.heap (fun st' h'=>XR E ro opsL (opsL.drop n) n st' h' K)) (inv0:HeadInv .any opsL.toArray n listed)
  (r:Rel st a w) (hn:a.tmps.size=E.n):wpAny E.P .any opsL.toArray (QN (Nx ro s0 K E.n w) (PQ E.pn w)) (f+(opsL.toArray.size-n)) listed a {w with drawn:=w.drawn+1}:=by
 have hw:w.heap=({w with drawn:=w.drawn+1}:World).heap:=rfl
 have H:=XH_sound hE (ro:=⟨ro.t,st.lc.map (·.slot)++ro.p,ro.a⟩) (s0:=st) (w0:=w) (Q:=QN (Nx ro s0 K E.n w) (PQ E.pn w)) hsel hT (fun c a d v w h=>PQ.put h) (fun ch a' w' q=>q)
  (fun s p hp=>⟨r.pr s p hp,fun q=>hmo _ (hid_mem hp) (hmm _ q),hmo _ (hid_mem hp),by rw[mem_append,plook_slot hp];rfl⟩) hmm f _ st a {w with drawn:=w.drawn+1} hx
  ⟨r.later (Rest.drew _) fun _ _ _=>rfl,hn,Rest.drew _,Fr.refl _ _,Keep.refl _ _,fun s p hp=>hp⟩ inv0 ⟨Fr.refl _ _,fun _=>Fr.refl _ _,fun _=>Fr.refl _ _⟩
 exact wpAny_of_T (g:=opsL.toArray.size-n) (fun listed a' w' hL=>by
  obtain⟨hsq,st',iv,hk⟩:=hL
  have hkeep:Keep ro st st':=iv.keep.weaken (fun _ h=>h) (fun t h=>by rw[mem_append,h,Bool.or_true]) (fun _ h=>h)
  have hlist:=XR_sound hE (ro:=ro) (ops:=opsL) (K:=K) (Q:=QN (Nx ro s0 K E.n w) (PQ E.pn w)) (s0:=s0) (w0:=w) (fun a w h=>h) (fun ch a' w' q=>q) (opsL.drop n) n st' a' w' hk iv.r iv.n iv.rest (hk0.trans hkeep)
  have hdl:(opsL.drop n).length=opsL.toArray.size-n:=by simp
  have:=wpAny_of_seq (md:=.any) (Q':=QN (Nx ro s0 K E.n w) (PQ E.pn w)) (opsL.drop n) n listed a' w' (fun j=>by simp[List.getElem?_drop]) (by rw[hdl];exact hsq) hlist
  rwa[hdl]at this) _ _ _ _ H
theorem XD0_sound {E:Env} (hE:E.OK) {ro:RO} {d:DD} {opsL:List Oper} {st:St} {K:St->Heap->Prop} {a:Act} {w:World} {id:Nat} (D:XD0 E ro d opsL.toArray st w.heap K)
  (r:Rel st a w) (hn:a.tmps.size=E.n):(Code.region id opsL.toArray true).wp E.P (QN (Nx ro st K E.n w) (PQ E.pn w)) a w:=by
 unfold XD0 at D
 split at D
 ·exact D.elim
 ·rename_i hb
  simp only[Bool.and_eq_true]at hb
  obtain⟨hsel,hT⟩:=hb
  have main:∀mo:Option (List Nat),(∀b∈hid st.lc,b∉mo.getD [])->
    XH E ⟨ro.t,st.lc.map (·.slot)++ro.p,ro.a⟩ opsL.toArray opsL d.n st.lc mo mo w.heap d.n (Array.replicate opsL.toArray.size false) st w.heap (fun st' h'=>XR E ro opsL (opsL.drop d.n) d.n st' h' K)->
    (Code.region id opsL.toArray true).wp E.P (QN (Nx ro st K E.n w) (PQ E.pn w)) a w:=by
   intro mo hmo hx
   have inv0:HeadInv .any opsL.toArray d.n (Array.replicate opsL.toArray.size false):=
    ⟨by simp,fun j oj _ hl=>(by rw[getD_replicate_false]at hl;cases hl),fun t _ ht=>getD_in (by simpa using ht) (getD_replicate_false _ _)⟩
   have hle:d.n<=opsL.toArray.size:=by
    unfold tailOK at hT
    cases hb:Nat.beq d.n opsL.toArray.size with
    | true=>exact Nat.le_of_eq (Nat.eq_of_beq_eq_true hb)
    | false=>simp only[hb,Bool.and_eq_true]at hT;exact Nat.le_of_lt (Nat.le_of_ble_eq_true hT.1.1)
   refine wp_region_any hE.m ?_
   have:=XD_any hE (Keep.refl ro st) hsel hT (fun _ q=>q) hmo hx inv0 r hn
   rwa[show d.n+(opsL.toArray.size-d.n)=opsL.toArray.size by omega]at this
  split at D
  ·exact main none (by simp) D
  ·obtain ⟨M,hM,D⟩:=D
   exact main (some M) hM D
theorem if_neg_map {α β:Type} {x:α} {f g:α->β} {p:Prop} [Decidable p] (h:¬p):((some x).map fun o=>if p then f o else g o)=some (g x):=by simp[h]
def addE (ops:Array Oper) (n i:Nat):Array Oper:=ops.modify n fun o=>{o with after:=o.after.push ⟨i,.data⟩}
theorem addE_size (ops:Array Oper) (n i:Nat):(addE ops n i).size=ops.size:=by simp[addE]
theorem addE_get {ops:Array Oper} {n i j:Nat}:(addE ops n i)[j]? =(ops[j]?).map fun o=>if n=j then{o with after:=o.after.push ⟨i,.data⟩}else o:=by
 unfold addE
 rw[Array.getElem?_modify]
 split<;>cases ops[j]? <;>rfl
theorem addE_yielded (ops:Array Oper) (n i:Nat) (tmps:Array Value):yielded (addE ops n i) tmps=yielded ops tmps:=by
 funext j
 unfold yielded
 rw[addE_get]
 cases ops[j]? with
 | none=>rfl
 | some o=>
  have e:(if n=j then{o with after:=o.after.push ⟨i,.data⟩}else o).dst=o.dst:=by split<;>rfl
  simp only[Option.map_some,Option.bind_some,e]
theorem addE_wpOp {P:Program} {ops:Array Oper} {Q:Exit->Act->World->Prop} {n i j:Nat} {K:Act->World->Prop} {a:Act} {w:World} (h:wpOp P (addE ops n i) Q j K a w):wpOp P ops Q j K a w:=by
 unfold wpOp at h ⊢
 rw[addE_get,addE_yielded]at h
 cases ho:ops[j]? with
 | none=>rw[ho]at h;exact h
 | some o=>
  rw[ho]at h
  simp only[Option.map_some]at h
  split at h
  ·exact h
  ·exact h
theorem addE_ready {md:Region.Mode} {ops:Array Oper} {n i j:Nat} {listed:Array Bool} (hl:listed.getD i false=true):j∈Region.ready md (addE ops n i) listed ↔ j∈Region.ready md ops listed:=by
 rw[mem_ready,mem_ready,addE_get]
 constructor
 ·rintro ⟨h0,o,ho,h⟩
  cases hj:ops[j]? with
  | none=>rw[hj]at ho;cases ho
  | some o'=>
   rw[hj]at ho
   refine⟨h0,o',rfl,fun e he hb=>?_⟩
   simp only[Option.map_some,Option.some.injEq]at ho
   subst ho
   refine h e ?_ hb
   split
   ·exact Array.mem_push_of_mem _ he
   ·exact he
 ·rintro ⟨h0,o,ho,h⟩
  rw[ho]
  refine⟨h0,_,rfl,fun e he hb=>?_⟩
  split at he
  ·rcases Array.mem_push.1 he with he | rfl
   ·exact h e he hb
   ·exact hl
  ·exact h e he hb
theorem addE_any {P:Program} {md:Region.Mode} {ops:Array Oper} {Q:Exit->Act->World->Prop} {n i:Nat}:∀(f:Nat) (listed:Array Bool) (a:Act) (w:World),listed.getD i false=true->wpAny P md (addE ops n i) Q f listed a w->wpAny P md ops Q f listed a w:=by
 intro f
 have em:∀{listed:Array Bool},listed.getD i false=true->(Region.ready md ops listed=[] ↔ Region.ready md (addE ops n i) listed=[]):=fun hl=>by
  rw[List.eq_nil_iff_forall_not_mem,List.eq_nil_iff_forall_not_mem]
  exact⟨fun h j hj=>h j ((addE_ready hl).1 hj),fun h j hj=>h j ((addE_ready hl).2 hj)⟩
 induction f with
 | zero=>
  intro listed a w hl h
  exact⟨(em hl).2 h.1,h.2⟩
 | succ f ih=>
  intro listed a w hl h
  refine⟨fun q=>h.1 ((em hl).1 q),fun j hj=>?_⟩
  refine wpOp_mono (fun a' w' h'=>ih _ a' w' (getD_set_true hl) h') (addE_wpOp (h.2 j ((addE_ready hl).2 hj)))
def XDq (E:Env) (ro:RO) (i n:Nat) (m:Bool) (ops:Array Oper) (st:St) (h:Heap) (K:St->Heap->Prop):Prop:=
 match ops[i]? with
 | some o=>(match o.op with
  | .move x=>(match o.guard with
   | none=>(match dstOK ro E.n o.dst&&Region.noSelect ops&&Region.free .any ops (Array.replicate ops.size false) i&&(Region.ready .any ops (Array.replicate ops.size false)).contains i&&Region.noSelect (addE ops n i)&&tailOK .any (addE ops n i) n&&Nat.blt i n with
    | true=>(match ev st x with
     | some y=>(match m with
      | false=>XH E ⟨ro.t,(st.put o.dst y).lc.map (·.slot)++ro.p,ro.a⟩ (addE ops n i) (addE ops n i).toList n (st.put o.dst y).lc none none h (n-1) ((Array.replicate ops.size false).setIfInBounds i true) (st.put o.dst y) h fun st' h'=>XR E ro (addE ops n i).toList ((addE ops n i).toList.drop n) n st' h' K
      | true=>∃M:List Nat,(∀b∈hid (st.put o.dst y).lc,b∉M)/\
        XH E ⟨ro.t,(st.put o.dst y).lc.map (·.slot)++ro.p,ro.a⟩ (addE ops n i) (addE ops n i).toList n (st.put o.dst y).lc (some M) (some M) h (n-1) ((Array.replicate ops.size false).setIfInBounds i true) (st.put o.dst y) h fun st' h'=>XR E ro (addE ops n i).toList ((addE ops n i).toList.drop n) n st' h' K)
     | none=>False)
    | false=>False)
   | some _=>False)
  | _=>False)
 | none=>False
theorem XDq_sound {E:Env} (hE:E.OK) {ro:RO} {i n:Nat} {m:Bool} {ops:Array Oper} {st:St} {K:St->Heap->Prop} {a:Act} {w:World} {id:Nat} (D:XDq E ro i n m ops st w.heap K)
  (r:Rel st a w) (hn:a.tmps.size=E.n):(Code.region id ops true).wp E.P (QN (Nx ro st K E.n w) (PQ E.pn w)) a w:=by
 unfold XDq at D
 split at D
 ·rename_i o ho
  split at D
  ·rename_i x hx
   split at D
   ·rename_i hg
    split at D
    ·rename_i hb
     simp only[Bool.and_eq_true]at hb
     obtain⟨⟨⟨⟨⟨⟨hdst,hsel⟩,hfree⟩,hready⟩,hsel'⟩,hT⟩,hin⟩:=hb
     have hin':=Nat.le_of_ble_eq_true hin
     have hdst':dstOK ro a.tmps.size o.dst=true:=by rw[hn];exact hdst
     split at D
     ·rename_i y hy
      obtain⟨v,hc,hv⟩:=ev_eval r.fr hy
      have r1:Rel (st.put o.dst y) (a.put o.dst v) w:=r.put (dstOK_lt hdst') hc
      have hk:Keep ro st (st.put o.dst y):=Keep.put hdst' y
      have hi:i<ops.size:=(Array.getElem?_eq_some_iff.1 ho).1
      have hle:n<=ops.size:=by
       have:=hT
       unfold tailOK at this
       rw[addE_size]at this
       cases hb:Nat.beq n ops.size with
       | true=>exact Nat.le_of_eq (Nat.eq_of_beq_eq_true hb)
       | false=>simp only[hb,Bool.and_eq_true]at this;exact Nat.le_of_lt (Nat.le_of_ble_eq_true this.1.1)
      have hr0:i∈Region.ready .any ops (Array.replicate ops.size false):=by simpa using hready
      have hl1:((Array.replicate ops.size false).setIfInBounds i true).getD i false=true:=by simp[hi]
      have inv:HeadInv .any (addE ops n i).toList.toArray n ((Array.replicate ops.size false).setIfInBounds i true):=by
       refine⟨by simp[addE_size],fun j oj hj hl e he hb=>?_,fun t h1 h2=>?_⟩
       ·have hji:j=i:=by
         by_cases q:i=j
         ·exact q.symm
         ·rw [getD_set_ne false q,getD_replicate_false]at hl;cases hl
        subst hji
        obtain⟨_,o',ho',hall⟩:=mem_ready.1 hr0
        have hj':(addE ops n j)[j]? =some oj:=by simpa using hj
        rw[addE_get,ho',if_neg_map (by omega)]at hj'
        obtain rfl:=Option.some.inj hj'
        have:=hall e he hb
        rw[getD_replicate_false]at this;cases this
       ·have h2':t<ops.size:=by simpa[addE_size]using h2
        rw[getD_set_ne true (by omega)]
        exact getD_in (by simpa using h2') (getD_replicate_false _ _)
      have main:∀mo:Option (List Nat),(∀b∈hid (st.put o.dst y).lc,b∉mo.getD [])->
        XH E ⟨ro.t,(st.put o.dst y).lc.map (·.slot)++ro.p,ro.a⟩ (addE ops n i) (addE ops n i).toList n (st.put o.dst y).lc mo mo w.heap (n-1) ((Array.replicate ops.size false).setIfInBounds i true) (st.put o.dst y) w.heap (fun st' h'=>XR E ro (addE ops n i).toList ((addE ops n i).toList.drop n) n st' h' K)->
        (Code.region id ops true).wp E.P (QN (Nx ro st K E.n w) (PQ E.pn w)) a w:=by
       intro mo hmo hX
       refine wp_region_any hE.m ?_
       have A:=XD_any hE hk (opsL:=(addE ops n i).toList) (by simpa using hsel') (by simpa using hT) (fun _ q=>q) hmo (by simpa using hX) inv r1 ((size_put _ _ _).trans hn)
       simp only[Array.toArray_toList,addE_size]at A
       have A2:=addE_any _ _ _ _ hl1 A
       have A4:=wpAny_take (Q:=QN (Nx ro st K E.n w) (PQ E.pn w)) ho hsel hfree hready (fun c a w h=>PQ.put h) (v:=v) (a:=a) (w:={w with drawn:=w.drawn+1}) (.inl ⟨by unfold Region.wanted;rw[hg],fun w'=>by simp[execOp,hx,hv]⟩) A2
       rwa[show n-1+(ops.size-n)+1=ops.size by omega]at A4
      split at D
      ·exact main none (by simp) D
      ·obtain ⟨M,hM,D⟩:=D
       exact main (some M) hM D
     ·exact D.elim
    ·exact D.elim
   ·exact D.elim
  ·exact D.elim
 ·exact D.elim
def XD2 (E:Env) (ro:RO) (n:Nat) (ops:Array Oper) (st:St) (h:Heap) (K:St->Heap->Prop):Prop:=
 match Region.noSelect ops&&tailOK .any ops n with
 | false=>False
 | true=>∃M1 M:List Nat,(∀b∈M1,b∈M)/\(∀b∈hid st.lc,b∉M)/\
   XH E ⟨ro.t,st.lc.map (·.slot)++ro.p,ro.a⟩ ops ops.toList n st.lc (some M1) (some M) h n (Array.replicate ops.size false) st h fun st' h'=>XR E ro ops.toList (ops.toList.drop n) n st' h' K
theorem XD2_sound {E:Env} (hE:E.OK) {ro:RO} {n:Nat} {opsL:List Oper} {st:St} {K:St->Heap->Prop} {a:Act} {w:World} {id:Nat} (D:XD2 E ro n opsL.toArray st w.heap K)
  (r:Rel st a w) (hn:a.tmps.size=E.n):(Code.region id opsL.toArray true).wp E.P (QN (Nx ro st K E.n w) (PQ E.pn w)) a w:=by
 unfold XD2 at D
 split at D
 ·exact D.elim
 ·rename_i hb
  simp only[Bool.and_eq_true]at hb
  obtain⟨hsel,hT⟩:=hb
  obtain⟨M1,M,hmm,hmo,hx⟩:=D
  have inv0:HeadInv .any opsL.toArray n (Array.replicate opsL.toArray.size false):=
   ⟨by simp,fun j oj _ hl=>(by rw[getD_replicate_false]at hl;cases hl),fun t _ ht=>getD_in (by simpa using ht) (getD_replicate_false _ _)⟩
  have hle:n<=opsL.toArray.size:=by
   unfold tailOK at hT
   cases hb:Nat.beq n opsL.toArray.size with
   | true=>exact Nat.le_of_eq (Nat.eq_of_beq_eq_true hb)
   | false=>simp only[hb,Bool.and_eq_true]at hT;exact Nat.le_of_lt (Nat.le_of_ble_eq_true hT.1.1)
  refine wp_region_any hE.m ?_
  have:=XD_any hE (Keep.refl ro st) (m1:=some M1) (mo:=some M) hsel hT hmm hmo hx inv0 r hn
  rwa[show n+(opsL.toArray.size-n)=opsL.toArray.size by omega]at this
def XD (E:Env) (ro:RO) (d:DD) (ops:Array Oper) (st:St) (h:Heap) (K:St->Heap->Prop):Prop:=
 match Nat.blt d.n 1000 with
 | true=>XD0 E ro d ops st h K
 | false=>(match Nat.blt d.n 1000000 with
  | true=>XDq E ro (d.n/1000-1) (d.n % 1000) d.m ops st h K
  | false=>XD2 E ro (d.n-1000000) ops st h K)
theorem XD_sound {E:Env} (hE:E.OK) {ro:RO} {d:DD} {opsL:List Oper} {st:St} {K:St->Heap->Prop} {a:Act} {w:World} {id:Nat} (D:XD E ro d opsL.toArray st w.heap K)
  (r:Rel st a w) (hn:a.tmps.size=E.n):(Code.region id opsL.toArray true).wp E.P (QN (Nx ro st K E.n w) (PQ E.pn w)) a w:=by
 unfold XD at D
 split at D
 ·exact XD0_sound hE D r hn
 ·split at D
  ·exact XDq_sound hE D r hn
  ·exact XD2_sound hE D r hn
end Go.X
