/- A function's whole code over abstract states: what is left to be shown of it; that this suffices. Conditions: the table of types is the program's; the called functions have bodies. -/
import Derived.Test.YtlflalecmhgmjaaGreatDoorXDraw
import Derived.Scope
import Derived.Test.YtlflalecmhgmjaaGreatDoorProg
set_option linter.unusedVariables false
set_option linter.unusedSimpArgs false
namespace Go.X
structure Desc where
 loops:List (Nat × LD)
 joins:List (Nat × LD)
 blocks:List (Nat × LD)
 draws:List (Nat × DD)
 cut:List Nat:=[]
def qi {α:Type} (l:List (Nat × α)) (k:Nat):Option α:=
 match l with
 | []=>none
 | (i,v)::r=>match Nat.beq i k with
  | true=>some v
  | false=>qi r k
def XC (E:Env):Desc->Code->RO->Nat->St->ab->(St->ab->Prop)->(Nat->St->ab->Prop)->(St->ab->Prop)->Prop
 | _,.skip,_,_,st,h,k,_,_=>k st h
 | D,.region id ops draw,ro,_,st,h,k,_,_=>(match draw with
  | false=>(match mem D.cut id with
   | true=>False
   | false=>XR E ro ops.toList ops.toList 0 st h k)
  | true=>match qi D.draws id with
   | some d=>XD E ro d ops st h k
   | none=>False)
 | D,.seq a b,ro,cur,st,h,k,ex,rt=>XC E D a ro cur st h (fun st' h'=>XC E D b ro cur st' h' k ex rt) ex rt
 | D,.cond c t e,ro,cur,st,h,k,ex,rt=>(match ev st c with
  | some (.lit true)=>XC E D t ro cur st h k ex rt
  | some (.lit false)=>XC E D e ro cur st h k ex rt
  | some (.val (.bool b))=>(match c with
   | .tmp s=>(match qi D.joins s with
    | some d=>Aq ro d st (fun ro' K=>cnd b (XC E D t ro' cur st h K ex rt) (XC E D e ro' cur st h K ex rt)) k
    | none=>cnd b (XC E D t ro cur st h k ex rt) (XC E D e ro cur st h k ex rt))
   | _=>False)
  | _=>False)
 | D,.block id c,ro,_,st,h,k,ex,rt=>(match qi D.blocks id with
  | some d=>Aq ro d st (fun ro' K=>XC E D c ro' id st h K (fun j st' h'=>match Nat.beq j id with
   | true=>K st' h'
   | false=>ex j st' h') rt) k
  | none=>XC E D c ro id st h k (fun j st' h'=>match Nat.beq j id with
   | true=>k st' h'
   | false=>ex j st' h') rt)
 | D,.loop c,ro,cur,st,h,_,ex,rt=>(match qi D.loops cur with
  | some d=>EN ro d st h fun ro' st' h' K=>XC E D c ro' cur st' h' K ex rt
  | none=>False)
 | D,.scope c,ro,cur,st,h,k,ex,rt=>XC E D c ro cur st h k ex rt
 | _,.label _,_,_,st,h,k,_,_=>k st h
 | D,.exit id,_,_,st,h,_,ex,_=>ex id st h
 | D,.ret,_,_,st,h,_,_,rt=>rt st h
 | _,_,_,_,_,_,_,_,_=>False
def PX (pn:Option (Value->ab->Prop)) (ro:RO) (n:Nat) (s0:St) (w0:World) (k:St->ab->Prop) (ex:Nat->St->ab->Prop) (rt:St->ab->Prop):Exit->Act->World->Prop
 | .normal,a,w=>Nx ro s0 k n w0 a w
 | .exit j,a,w=>Nx ro s0 (ex j) n w0 a w
 | .ret,a,w=>Nx ro s0 rt n w0 a w
 | .panic ch,a,w=>PQ pn w0 ch a w
 | _,_,_=>False
theorem Nx.mono {ro ro':RO} {s0 s1:St} {K K':St->ab->Prop} {n:Nat} {w0 w1:World} {a:Act} {w:World} (h:Nx ro s0 K n w0 a w) (hk:∀st,Keep ro s0 st->Keep ro' s1 st) (hw:Rest w1 w0) (hK:∀st h,K st h->K' st h):Nx ro' s1 K' n w1 a w:=by
 obtain⟨st,r,h1,h2,h3,h4⟩:=h
 exact⟨st,r,hw.trans h1,h2,hk st h3,hK _ _ h4⟩
theorem LD.ok_weaken {ro:RO} {d:LD} (hok:d.ok ro=true) {st st':St} (h:Keep d.ro st st'):Keep ro st st':=by
 simp only[LD.ok,Bool.and_eq_true]at hok
 obtain⟨⟨⟨⟨h1,h2⟩,h3⟩,_⟩,_⟩:=hok
 exact h.weaken (fun t ht=>mG h1 ht) (fun t ht=>mG h2 ht) (fun t ht=>mG h3 ht)
theorem pe {ro:RO} {d:LD} {st:St} {kf:List (Nat × AVal)} {kl:List Priv} (hok:d.ok ro=true) (hkf:fu st (d.keepP++d.varP) d.keepT=some kf) (hkl:fT st.lc d.keepP=some kl)
  {q0:List (List (Sh × Value))} (h0:iK st.lc d.varP=some q0) (v:List Value) (vp:List (List Value)) (hvp:vp.length=q0.length):Keep d.ro st (kF d st kf kl v vp):=by
 simp only[LD.ok,Bool.and_eq_true]at hok
 obtain⟨⟨⟨⟨_,_⟩,_⟩,hdT⟩,hdP⟩:=hok
 have slot:∀{l:List Priv} {s:Nat} {p:Priv},ar l s=some p->p.slot=s:=by
  intro l s p h
  induction l<;>grind [ar,Option.some.injEq,Nat.eq_of_beq_eq_true]
 obtain⟨_,l2⟩:=iL hkl
 have hp:∀s,mem d.keepP s=true->ar (kF d st kf kl v vp).lc s=ar st.lc s:=by
  intro s hs
  have hv:mem d.varP s=false:=jU hdP hs
  show ar (jr st.lc d.varP vp kl) s=_
  rw[js hv (fun u hu=>mJ h0 u hu)]
  obtain⟨p,p',g1,g2,g3,g4,g5⟩:=l2 s hs
  rw[g1,g2]
  have e1:=slot g1
  have e2:=slot g2
  cases p;cases p'
  simp_all
 refine⟨fun t ht=>?_,hp,fun s hs=>?_⟩
 ·show look (nB d.varT v kf) t=_
  rw[mH (jU hdT ht)]
  exact mL hkf t ht
 ·have hs':mem (d.keepP++d.varP) s=true:=hs
  rw[fw,Bool.or_eq_true]at hs'
  rcases hs' with hs' | hs'
  ·rw[hp s hs']
  ·show(ar (jr st.lc d.varP vp kl) s).map Priv.place=_
   have gen:∀{l:List Nat} {q:List (List (Sh × Value))} {vp:List (List Value)},iK st.lc l=some q->vp.length=q.length->mem l s=true->(ar (jr st.lc l vp kl) s).map Priv.place=(ar st.lc s).map Priv.place:=by
    intro l
    induction l with
    | nil=>intro q vp _ _ h;simp[mem]at h
    | cons t r ih=>
     intro q vp hq hl hm
     unfold iK at hq
     split at hq
     ·rename_i p hp
      split at hq
      ·rename_i q' hq'
       simp only[Option.some.injEq]at hq
       subst hq
       cases vp<;>grind [jr,ar,Nat.eq_of_beq_eq_true,Priv.place,mem]
      ·cases hq
     ·cases hq
   grind
theorem og (l:List (List (Sh × Value))):(eh l).length=l.length:=by simp[eh]
theorem oh :∀{l q:List (List (Sh × Value))} {K:List (List Value)->Prop},qD l q K->q.length=l.length
 | [],[],_,_=>rfl
 | l::r,m::q,K,h=>by obtain⟨h1,_⟩:=fv h;simp[oh h1]
 | [],_::_,_,h=>h.elim
 | _::_,[],_,h=>h.elim
theorem jm {ro:RO} {d:LD} {st:St} {K:List (Nat × AVal)->List Priv->List (Sh × Value)->List (List (Sh × Value))->Prop} (h:th ro d st K):
  d.ok ro=true/\∃kf kl v1 v2,fu st (d.keepP++d.varP) d.keepT=some kf/\fT st.lc d.keepP=some kl/\qB st d.varT=some v1/\iK st.lc d.varP=some v2/\
   (∀L:List Value->Prop,mD v1 L->L (jp v1))/\(∀L:List (List Value)->Prop,nA v2 L->L (eh v2))/\K kf kl v1 v2:=by
 unfold th at h
 split at h
 ·exact h.elim
 ·rename_i hok
  split at h
  ·exact h.elim
  ·rename_i kf h1
   split at h
   ·exact h.elim
   ·rename_i kl h2
    split at h
    ·exact h.elim
    ·rename_i v1 h3
     split at h
     ·exact h.elim
     ·rename_i v2 h4
      obtain⟨e1,e2⟩:=fv h
      obtain⟨e3,e4⟩:=jq e1
      grind
theorem mu {ro:RO} {d:LD} {st:St} {kf:List (Nat × AVal)} {kl:List Priv} {v1:List (Sh × Value)} {v2:List (List (Sh × Value))} (hok:d.ok ro=true) (hkf:fu st (d.keepP++d.varP) d.keepT=some kf)
  (hkl:fT st.lc d.keepP=some kl) (h2:iK st.lc d.varP=some v2) {st':St} (hk:Keep d.ro st st') {K:List Value->List (List Value)->Prop} (hb:mE d v1 v2 st' K) {a:Act} {w:World} (r:Rel st' a w):
  ∃u up,Rel (kF d st kf kl u up) a w/\up.length=v2.length/\K u up/\(∀L:List Value->Prop,mD v1 L->L u)/\(∀L:List (List Value)->Prop,nA v2 L->L up):=by
 unfold mE at hb
 split at hb
 ·rename_i u1 hu1
  split at hb
  ·rename_i u2 hu2
   obtain⟨e1,e2⟩:=fv hb
   have el:=oh e1
   obtain⟨e3,e4⟩:=jq e1
   exact⟨jp u1,eh u2,xB hok hkf hkl h2 hk.t hk.p hk.a hu1 hu2 r,by rw[og,el],e3,e2,e4⟩
  grind
 grind
theorem least {p:Nat->Prop} (h:∃m,p m):∃m,p m/\∀k,p k->m<=k:=by
 obtain⟨m,hm⟩:=h
 induction m using Nat.strongRecOn<;>grind
theorem qj {E:Env} (hE:E.OK) (c:Code):∀(D:Desc) (ro:RO) (cur:Nat) (st:St) (k:St->ab->Prop) (ex:Nat->St->ab->Prop) (rt:St->ab->Prop) (a:Act) (w:World),
  XC E D c ro cur st w.heap k ex rt->Rel st a w->a.tmps.size=E.n->c.wp E.P (PX E.pn ro E.n st w k ex rt) a w:=by
 induction c with
 | skip=>exact fun D ro cur st k ex rt a w d r hn=>wp_skip ⟨st,r,Rest.refl w,hn,Keep.refl _ _,d⟩
 | region id ops draw=>
  intro D ro cur st k ex rt a w d r hn
  unfold XC at d
  cases draw with
  | false=>
   simp only at d
   split at d
   ·exact d.elim
   refine wp_region_list ?_
   have:=nh hE (ro:=ro) (ops:=ops.toList) (K:=k) (Q:=PX E.pn ro E.n st w k ex rt) (s0:=st) (w0:=w) (fun a w h=>h) (fun ch a w h=>h) ops.toList 0 st a w d r hn (Rest.refl w) (Keep.refl _ _)
   omega
  | true=>
   simp only at d
   split at d
   ·rename_i dd _
    have hops:ops=ops.toList.toArray:=by simp
    rw[hops]at d ⊢
    exact Code.wp_mono (fun e a w h=>by cases e<;>first | exact h | exact h.elim) (qy hE (id:=id) d r hn)
   ·exact d.elim
 | seq x y ihx ihy=>
  intro D ro cur st k ex rt a w d r hn
  unfold XC at d
  refine wp_seq (Code.wp_mono (fun e a' w' h=>?_) (ihx D ro cur st _ ex rt a w d r hn))
  cases e with
  | normal=>
   obtain⟨st',r',h1,h2,h3,h4⟩:=h
   refine Code.wp_mono (fun e a'' w'' h'=>?_) (ihy D ro cur st' k ex rt a' w' h4 r' h2)
   cases e<;>first | exact Nx.mono h' (fun _ q=>h3.trans q) h1 (fun _ _ q=>q) | exact PQ.back h' h1 | exact h'.elim
  | exit j=>exact h
  | ret=>exact h
  | panic ch=>exact h
  | _=>exact h.elim
 | cond c t e iht ihe=>
  intro D ro cur st k ex rt a w d r hn
  unfold XC at d
  split at d
  ·rename_i h1
   obtain⟨v,hc,hv⟩:=aG r.fr h1
   grind [AVal.conc,wp_cond_true]
  ·rename_i h1
   obtain⟨v,hc,hv⟩:=aG r.fr h1
   grind [AVal.conc,wp_cond_false]
  ·rename_i b h1
   obtain⟨v,hc,hv⟩:=aG r.fr h1
   simp only[AVal.conc,Option.some.injEq]at hc
   refine wp_cond (hv.trans hc.symm) ?_
   split at d
   ·rename_i s
    split at d
    ·rename_i dl _
     obtain⟨hok,kf,kl,v1,v2,h1,h2,h3,h4,_,_,J,hways,hk⟩:=jm d
     have hk':∀u up,(∀L:List Value->Prop,mD v1 L->L u)->(∀L:List (List Value)->Prop,nA v2 L->L up)->∀h',J (u++up.flatten) h'->k (kF dl st kf kl u up) h':=fun u up hu hup h' hj=>hup _ (hu _ hk) h' hj
     have fin:∀e (a':Act) (w':World),PX E.pn dl.ro E.n st w (fun st'' h''=>mE dl v1 v2 st'' fun u up=>J (u++up.flatten) h'') ex rt e a' w'->PX E.pn ro E.n st w k ex rt e a' w':=by
      intro e a' w' h
      cases e with
      | normal=>
       obtain⟨st',r',g1,g2,g3,g4⟩:=h
       obtain⟨u,up,r'',hlen,hj,hu,hup⟩:=mu hok h1 h2 h4 g3 g4 r'
       exact⟨_,r'',g1,g2,LD.ok_weaken hok (pe hok h1 h2 h4 u up hlen),hk' u up hu hup _ hj⟩
      | exit j=>exact Nx.mono h (fun _ q=>LD.ok_weaken hok q) (Rest.refl w) (fun _ _ q=>q)
      | ret=>exact Nx.mono h (fun _ q=>LD.ok_weaken hok q) (Rest.refl w) (fun _ _ q=>q)
      | panic ch=>exact h
      | _=>exact h.elim
     cases b with
     | true=>exact Code.wp_mono fin (iht D dl.ro cur st _ ex rt a w (hways.1 rfl) r hn)
     | false=>exact Code.wp_mono fin (ihe D dl.ro cur st _ ex rt a w (hways.2 rfl) r hn)
    ·cases b with
     | true=>exact iht D ro cur st k ex rt a w (d.1 rfl) r hn
     | false=>exact ihe D ro cur st k ex rt a w (d.2 rfl) r hn
   ·exact d.elim
  ·exact d.elim
 | block id c ih=>
  intro D ro cur st k ex rt a w d r hn
  unfold XC at d
  have fin:∀(ro':RO) (k':St->ab->Prop) e (a':Act) (w':World),PX E.pn ro' E.n st w k' (fun j st' h'=>match Nat.beq j id with | true=>k' st' h' | false=>ex j st' h') rt e a' w'->Exit.inBlock id (PX E.pn ro' E.n st w k' ex rt) e a' w':=by
   intro ro' k' e a' w' h
   cases e with
   | normal=>exact h
   | exit j=>
    simp only[Exit.inBlock]
    obtain⟨st',r',h1,h2,h3,h4⟩:=h
    by_cases hj:j=id
    ·subst hj
     rw[if_pos rfl]
     simp only[show Nat.beq j j=true by simp]at h4
     exact⟨st',r',h1,h2,h3,h4⟩
    ·rw[if_neg hj]
     have:Nat.beq j id=false:=by rw[<-Bool.not_eq_true];simp_all
     simp only[this]at h4
     exact⟨st',r',h1,h2,h3,h4⟩
   | ret=>exact h
   | panic ch=>exact h
   | _=>exact h.elim
  split at d
  ·rename_i dl _
   obtain⟨hok,kf,kl,v1,v2,h1,h2,h3,h4,_,_,J,hways,hk⟩:=jm d
   have hk':∀u up,(∀L:List Value->Prop,mD v1 L->L u)->(∀L:List (List Value)->Prop,nA v2 L->L up)->∀h',J (u++up.flatten) h'->k (kF dl st kf kl u up) h':=fun u up hu hup h' hj=>hup _ (hu _ hk) h' hj
   have fin2:∀e (a':Act) (w':World),PX E.pn dl.ro E.n st w (fun st'' h''=>mE dl v1 v2 st'' fun u up=>J (u++up.flatten) h'') ex rt e a' w'->PX E.pn ro E.n st w k ex rt e a' w':=by
    intro e a' w' h
    cases e with
    | normal=>
     obtain⟨st',r',g1,g2,g3,g4⟩:=h
     obtain⟨u,up,r'',hlen,hj,hu,hup⟩:=mu hok h1 h2 h4 g3 g4 r'
     exact⟨_,r'',g1,g2,LD.ok_weaken hok (pe hok h1 h2 h4 u up hlen),hk' u up hu hup _ hj⟩
    | exit j=>exact Nx.mono h (fun _ q=>LD.ok_weaken hok q) (Rest.refl w) (fun _ _ q=>q)
    | ret=>exact Nx.mono h (fun _ q=>LD.ok_weaken hok q) (Rest.refl w) (fun _ _ q=>q)
    | panic ch=>exact h
    | _=>exact h.elim
   exact Code.wp_mono fin2 (wp_block (Code.wp_mono (fin dl.ro _) (ih D dl.ro id st _ _ rt a w hways r hn)))
  grind [wp_block,Code.wp_mono]
 | loop c ih=>
  intro D ro cur st k ex rt a w d r hn
  unfold XC at d
  split at d
  ·rename_i dl _
   obtain⟨hok,kf,kl,v1,v2,h1,h2,h3,h4,hs1,hs2,I,μ,hI,hbody⟩:=jm d
   have hb:∀u up,(∀L:List Value->Prop,mD v1 L->L u)->(∀L:List (List Value)->Prop,nA v2 L->L up)->∀h',I (u++up.flatten) h'->
     XC E D c dl.ro cur (kF dl st kf kl u up) h' (fun st'' h''=>mE dl v1 v2 st'' fun u' up'=>I (u'++up'.flatten) h''/\μ (u'++up'.flatten) h''<μ (u++up.flatten) h') ex rt:=
    fun u up hu hup h' hi=>hup _ (hu _ hbody) h' hi
   let Inv:Act->World->Nat->Prop:=fun a' w' m=>∃u up,Rel (kF dl st kf kl u up) a' w'/\up.length=v2.length/\(∀L:List Value->Prop,mD v1 L->L u)/\(∀L:List (List Value)->Prop,nA v2 L->L up)/\
     I (u++up.flatten) w'.heap/\a'.tmps.size=E.n/\Rest w w'/\μ (u++up.flatten) w'.heap=m
   have start:Inv a w (μ (jp v1++(eh v2).flatten) w.heap):=
    ⟨jp v1,eh v2,xB hok h1 h2 h4 (fun _ _=>rfl) (fun _ _=>rfl) (fun _ _=>rfl) h3 h4 r,og _,hs1,hs2,hI,hn,Rest.refl w,rfl⟩
   have round:∀a' w' m,Inv a' w' m->c.wp E.P (Exit.then (fun a'' w''=>∃m',Inv a'' w'' m'/\m'<m) (PX E.pn ro E.n st w k ex rt)) a' w':=by
    rintro a' w' m ⟨u,up,r',hlen,hu,hup,hi,hn',hrest,rfl⟩
    have hmk:Keep dl.ro st (kF dl st kf kl u up):=pe hok h1 h2 h4 u up hlen
    refine Code.wp_mono (fun e a'' w'' h=>?_) (ih D dl.ro cur _ _ ex rt a' w' (hb u up hu hup w'.heap hi) r' hn')
    cases e with
    | normal=>
     obtain⟨st'',r'',g1,g2,g3,g4⟩:=h
     obtain⟨u',up',r3,hlen',⟨hi',hlt⟩,hu',hup'⟩:=mu hok h1 h2 h4 (hmk.trans g3) g4 r''
     exact⟨_,⟨u',up',r3,hlen',hu',hup',hi',g2,hrest.trans g1,rfl⟩,hlt⟩
    | exit j=>exact Nx.mono h (fun _ q=>LD.ok_weaken hok (hmk.trans q)) hrest (fun _ _ q=>q)
    | ret=>exact Nx.mono h (fun _ q=>LD.ok_weaken hok (hmk.trans q)) hrest (fun _ _ q=>q)
    | panic ch=>exact PQ.back h hrest
    | _=>exact h.elim
   classical
   refine wp_loop (fun a' w'=>∃m,Inv a' w' m) (fun a' w'=>if h:∃m,Inv a' w' m then Classical.choose (least h)else 0) ⟨_,start⟩ ?_
   intro a' w' hex
   have hmin:=(Classical.choose_spec (least hex)).1
   refine Code.wp_mono (fun e a'' w'' h=>?_) (round a' w' _ hmin)
   cases e with
   | normal=>
    obtain⟨m',hm',hlt⟩:=h
    refine⟨⟨m',hm'⟩,?_⟩
    have hex':∃m,Inv a'' w'' m:=⟨m',hm'⟩
    rw[dif_pos hex,dif_pos hex']
    exact Nat.lt_of_le_of_lt ((Classical.choose_spec (least hex')).2 _ hm') hlt
   | _=>exact h
  ·exact d.elim
 | exit id=>exact fun D ro cur st k ex rt a w d r hn=>wp_exit ⟨st,r,Rest.refl w,hn,Keep.refl _ _,d⟩
 | ret=>exact fun D ro cur st k ex rt a w d r hn=>wp_ret ⟨st,r,Rest.refl w,hn,Keep.refl _ _,d⟩
 | label l=>exact fun D ro cur st k ex rt a w d r hn=>wp_label ⟨st,r,Rest.refl w,hn,Keep.refl _ _,d⟩
 | scope c ih=>
  intro D ro cur st k ex rt a w d r hn
  unfold XC at d
  exact wp_scope_straight (Code.wp_mono (fun e a' w' h=>by cases e<;>first | exact h | exact h.elim) (ih D ro cur st k ex rt a w d r hn))
 | _=>intro D ro cur st k ex rt a w d;exact d.elim
def ot :List Value->Nat->List (Nat × AVal)
 | [],_=>[]
 | v::r,i=>(i,.val v)::ot r (i+1)
def px (T:TAB) (st:St) (h:ab):List ResultVar->(List Value->Prop)->Prop
 | [],K=>K []
 | .tmp t::r,K=>(match evo st (.tmp t)with
  | some v=>px T st h r fun vs=>K (v::vs)
  | none=>False)
 | .cell a t::r,K=>det T st.lc none st h (.load t (.tmp a)) fun x=>match x.out with
  | some v=>px T st h r fun vs=>K (v::vs)
  | none=>False
def one (vs:List Value):Value:=
 match vs with
 | [v]=>v
 | vs=>.tuple vs.toArray
def tf (tmps:Array Value):ResultVar->Sem Value
 | .tmp t=>pure (tmps.getD t undef)
 | .cell a t=>do loadVar t (<-asAddr (tmps.getD a undef))
theorem xy {P:Program} {T:TAB} {st:St} {a:Act} {w:World} {t s:Nat} {K:AVal->Prop} (hT:aQ P T) (r:Rel st a w) (d:det T st.lc none st w.heap (.load t (.tmp s)) K):
  ∃x v,x.conc st.lc=some v/\(do loadVar t (<-asAddr (a.tmps.getD s undef)):Sem Value).run P w= .ok v w/\K x:=by
 let o:Oper:={dst:=none,op:=.load t (.tmp s),type:=0,pos:= "",after:=#[],guard:=none}
 obtain⟨x,v,h1,h2,h3⟩:=ql (o:=o) hT r.toL (Fr.refl _ _) rfl d
 refine⟨x,v,h1,?_,h3⟩
 have h2':((Instr.loadAt t (a.eval (.tmp s))).run P w).andThen (fun v w=>.ok (Next.value v) w)= .ok (.value v) w:=by
  have:(execOp a.eval o)=(do pure (Next.value (<-Instr.loadAt t (a.eval (.tmp s))))):=rfl
  simp_all
 show Sem.run P (asAddr (a.eval (.tmp s))>>=fun y=>loadVar t y) w=_
 have e:(Instr.loadAt t (a.eval (.tmp s)))=(Instr.sureAddr (a.eval (.tmp s))>>=fun y=>loadVar t y):=rfl
 rw[e]at h2'
 cases hv:a.eval (.tmp s)with
 | pointer pa=>
  cases pa with
  | none=>rw[hv]at h2';simp[Instr.sureAddr]at h2'
  | some ad=>
   rw[hv]at h2'
   simp only[Instr.sureAddr,asAddr,Sem.run_bind,Sem.run_pure,Result.andThen_ok]at h2' ⊢
   cases hr:(loadVar t ad).run P w with
   | ok u w'=>simp_all
   | halt x w'=>simp_all
 | _=>rw[hv]at h2';simp[Instr.sureAddr]at h2'
theorem mB {P:Program} {T:TAB} {st:St} {a:Act} {w:World} (hT:aQ P T) (r:Rel st a w):∀{l:List ResultVar} {K:List Value->Prop},px T st w.heap l K->
  ∃vs:List Value,(l.mapM (tf a.tmps)).run P w= .ok vs w/\vs.length=l.length/\K vs
 | [],_,h=>⟨[],by simp,rfl,h⟩
 | .tmp t::l,K,h=>by
  simp only[px]at h
  split at h
  ·rename_i v hv
   obtain⟨vs,h1,h2,h3⟩:=mB hT r h
   have e:=aP r.fr hv
   simp only[Act.eval]at e
   exact⟨v::vs,by simp[List.mapM_cons,tf,e,h1],by simp[h2],h3⟩
  ·exact h.elim
 | .cell s t::l,K,h=>by
  simp only[px]at h
  obtain⟨x,v,h1,h2,h3⟩:=xy hT r h
  split at h3
  ·rename_i u hu
   obtain⟨vs,g1,g2,g3⟩:=mB hT r h3
   have:=AVal.conc_out hu st.lc
   rw[this]at h1
   obtain rfl:=Option.some.inj h1
   refine⟨u::vs,?_,by simp[g2],g3⟩
   simp only[List.mapM_cons]
   rw[bs (show(tf a.tmps (.cell s t)).run P w= .ok u w from h2),bs g1]
   rfl
  ·exact h3.elim
theorem dZ {P:Program} {T:TAB} {st:St} {a:Act} {w:World} {fn:Func} {R:Value->Prop} (hT:aQ P T) (r:Rel st a w) (h:px T st w.heap fn.results.toList fun vs=>R (one vs)):
  ∃v,(results fn a.tmps).run P w= .ok v w/\R v:=by
 obtain⟨vs,h1,h2,h3⟩:=mB hT r h
 refine⟨one vs,?_,h3⟩
 have e:results fn a.tmps=(fn.results.mapM (tf a.tmps)>>=fun vs=>pure (if h:vs.size=1 then vs[0]else .tuple vs)):=rfl
 rw[e,Array.mapM_eq_mapM_toList]
 simp only[Sem.run_bind,Sem.run_map,h1,Result.andThen_ok,Sem.run_pure]
 congr 1
 cases vs with
 | nil=>rfl
 | cons v l=>cases l<;>simp[one]
theorem mC :∀{l:List Value} {i t:Nat} {x:AVal},look (ot l i) t=some x->∃v,x= .val v/\i<=t/\l[t-i]? =some v
 | [],_,_,_,h=>by simp[ot,look]at h
 | v::r,i,t,x,h=>by
  simp only[ot,look]at h
  cases hb:Nat.beq i t with
  | true=>
   simp_all
  | false=>
   simp only[hb]at h
   obtain⟨u,h1,h2,h3⟩:=mC h
   exact⟨u,h1,by omega,by rw[show t-i=(t-(i+1))+1 by omega];simpa using h3⟩
def FX (E:Env) (D:Desc) (fn:Func) (c:Code) (args:List Value) (h:ab) (R:Value->ab->Prop):Prop:=
 XC E D c ⟨[],[],[]⟩ 0 ⟨ot args 0,[]⟩ h (fun st h'=>px E.T st h' fn.results.toList fun vs=>R (one vs) h') (fun _ _ _=>False) (fun st h'=>px E.T st h' fn.results.toList fun vs=>R (one vs) h')
theorem qz {E:Env} {f:Func} {args:List Value} (w:World) (hn':f.ntmps=E.n) (hl':args.length<=E.n):
  Rel ⟨ot args 0,[]⟩ {tmps:=args.toArray++Array.replicate (f.ntmps-args.toArray.size) undef,defers:=[]} w/\(args.toArray++Array.replicate (f.ntmps-args.toArray.size) undef).size=E.n:=by
 refine⟨⟨fun t x hx=>?_,fun s p hp=>by simp[ar]at hp,fun s t p q hp=>by simp[ar]at hp,rfl⟩,by simp;omega⟩
 obtain⟨v,rfl,_,h3⟩:=mC hx
 refine⟨v,rfl,?_⟩
 grind
theorem py {E:Env} (hE:E.OK) {D:Desc} {f:FuncId} {fn:Func} {c:Code} (hf:E.P.funcs[f]? =some fn) (hb:fn.body=some c) (hn:Nat.beq fn.ntmps E.n=true) {args:List Value} (hl:Nat.ble args.length E.n=true)
  {h:ab} {R Rp:Value->ab->Prop} (hp:E.pn=some Rp) (H:FX E D fn c args h R):az E.P f args.toArray h R Rp:=by
 intro w hw
 subst hw
 have hn':=Nat.eq_of_beq_eq_true hn
 have hl':=Nat.le_of_ble_eq_true hl
 refine calls_of_wp hf hb ?_
 obtain⟨hr,hsize⟩:=qz (f:=fn) w hn' hl'
 refine Code.wp_mono (fun e a' w' hq=>?_) (qj hE c D _ _ _ _ _ _ _ w H hr hsize)
 cases e with
 | normal=>
  obtain⟨st,r,h1,h2,_,h4⟩:=hq
  obtain⟨v,e1,e2⟩:=dZ (fn:=fn) (R:=fun v=>R v w'.heap) hE.T r h4
  exact⟨r.df,v,e1,h1,.inl ⟨v,rfl,e2⟩⟩
 | ret=>
  obtain⟨st,r,h1,h2,_,h4⟩:=hq
  obtain⟨v,e1,e2⟩:=dZ (fn:=fn) (R:=fun v=>R v w'.heap) hE.T r h4
  exact⟨r.df,v,e1,h1,.inl ⟨v,rfl,e2⟩⟩
 | exit j=>obtain⟨_,_,_,_,_,h⟩:=hq;exact h.elim
 | panic ch=>
  obtain⟨E',v,q1,rfl,q2,q3,q4⟩:=hq
  rw[hp]at q1
  obtain rfl:=Option.some.inj q1
  exact⟨q2,q3,.inr ⟨v,rfl,q4⟩⟩
 | _=>exact hq.elim
theorem iJ {E:Env} (hE:E.OK) {D:Desc} {f:FuncId} {fn:Func} {c:Code} (hf:E.P.funcs[f]? =some fn) (hb:fn.body=some c) (hn:Nat.beq fn.ntmps E.n=true) {args:List Value} (hl:Nat.ble args.length E.n=true)
  {h:ab} {R:Value->ab->Prop} (H:FX E D fn c args h R) (hp:E.pn=none:=by rfl):ae E.P f args.toArray h R:=by
 intro w hw
 subst hw
 have hn':=Nat.eq_of_beq_eq_true hn
 have hl':=Nat.le_of_ble_eq_true hl
 refine calls_of_wp hf hb ?_
 obtain⟨hr,hsize⟩:=qz (f:=fn) w hn' hl'
 refine Code.wp_mono (fun e a' w' hq=>?_) (qj hE c D _ _ _ _ _ _ _ w H hr hsize)
 cases e with
 | normal=>
  obtain⟨st,r,h1,h2,_,h4⟩:=hq
  obtain⟨v,e1,e2⟩:=dZ (fn:=fn) (R:=fun v=>R v w'.heap) hE.T r h4
  exact⟨r.df,v,e1,v,rfl,h1,e2⟩
 | ret=>
  obtain⟨st,r,h1,h2,_,h4⟩:=hq
  obtain⟨v,e1,e2⟩:=dZ (fn:=fn) (R:=fun v=>R v w'.heap) hE.T r h4
  exact⟨r.df,v,e1,v,rfl,h1,e2⟩
 | exit j=>obtain⟨_,_,_,_,_,h⟩:=hq;exact h.elim
 | panic ch=>
  obtain⟨E',v,q1,_⟩:=hq
  grind
 | _=>exact hq.elim
end Go.X
namespace Go.Proofs.YtlflalecmhgmjaaGreatDoor
open Go.X
set_option maxRecDepth 100000
def Bm :TAB:=[
 (0,⟨[.func],false,0,[.tuple #[]],.tuple [],0⟩),
 (1,⟨[.func],false,8,[.nilFunc],.none,4⟩),
 (2,⟨[.int .i64],false,8,[.int .i64 0],.int .i64,6⟩),
 (3,⟨[.int .i64],false,8,[.int .i64 0],.int .i64,6⟩),
 (4,⟨[.bool],false,1,[.bool false],.none,1⟩),
 (5,⟨[.int .u8],false,1,[.int .u8 0],.int .u8,6⟩),
 (9,⟨[.str],false,16,[.string ByteArray.empty],.none,5⟩),
 (12,⟨[.int .u64],false,8,[.int .u64 0],.int .u64,6⟩),
 (21,⟨[.int .i32],false,4,[.int .i32 0],.int .i32,6⟩),
 (22,⟨[.slice],false,24,[.slice none 0 0],.slice 48,2⟩),
 (24,⟨[.int .i64,.slice],true,32,[.int .i64 0,.slice none 0 0],.struct [(0,3),(1,22)],9⟩),
 (25,⟨[.slice],false,24,[.slice none 0 0],.slice 9,2⟩),
 (26,⟨[.slice],false,24,[.slice none 0 0],.slice 78,2⟩),
 (27,⟨[.slice],false,24,[.slice none 0 0],.slice 76,2⟩),
 (29,⟨[.int .i64,.slice,.bool,.slice,.slice,.slice],true,112,[.int .i64 0,.slice none 0 0,.bool false,.slice none 0 0,.slice none 0 0,.slice none 0 0],.struct [(0,24),(2,4),(3,25),(4,26),(5,27)],0⟩),
 (32,⟨[.int .i64],false,8,[.int .i64 0],.int .i64,6⟩),
 (33,⟨[.func],false,0,[.tuple #[.string ByteArray.empty,.int .i64 0]],.tuple [9,32],0⟩),
 (35,⟨[.func],false,0,[.tuple #[.agg #[.int .i64 0,.slice none 0 0,.bool false,.slice none 0 0,.slice none 0 0,.slice none 0 0],.int .i64 0,.int .i64 0]],.tuple [29,3,32],0⟩),
 (42,⟨[.slice],false,24,[.slice none 0 0],.slice 5,2⟩),
 (46,⟨[.int .i64,.bool],true,16,[.int .i64 0,.bool false],.struct [(0,3),(1,4)],9⟩),
 (48,⟨[.int .i64,.int .i64],true,16,[.int .i64 0,.int .i64 0],.array 2 3,0⟩),
 (53,⟨[.ptr],false,8,[.pointer none],.none,3⟩),
 (54,⟨[.ptr],false,8,[.pointer none],.none,3⟩),
 (56,⟨[.ptr,.slice],true,32,[.pointer none,.slice none 0 0],.struct [(0,54),(1,42)],9⟩),
 (58,⟨[.ptr,.slice,.int .i64],true,40,[.pointer none,.slice none 0 0,.int .i64 0],.struct [(0,56),(2,3)],9⟩),
 (63,⟨[.int .i64,.int .i64],true,16,[.int .i64 0,.int .i64 0],.struct [(0,3),(1,32)],9⟩),
 (65,⟨[.ptr],false,8,[.pointer none],.none,3⟩),
 (67,⟨[.str,.int .i64],true,24,[.string ByteArray.empty,.int .i64 0],.struct [(0,9),(1,3)],9⟩),
 (68,⟨[.map],false,8,[.map none],.map 9 236,0⟩),
 (69,⟨[.map],false,8,[.map none],.map 9 3,0⟩),
 (70,⟨[.slice],false,24,[.slice none 0 0],.slice 183,2⟩),
 (71,⟨[.bool,.bool,.bool],true,3,[.bool false,.bool false,.bool false],.array 3 4,0⟩),
 (73,⟨[.str,.int .i64,.int .i64,.slice,.bool,.slice,.slice,.slice,.bool,.map,.map,.slice,.slice,.slice,.slice,.bool,.bool,.bool],true,264,[.string ByteArray.empty,.int .i64 0,.int .i64 0,.slice none 0 0,.bool false,.slice none 0 0,.slice none 0 0,.slice none 0 0,.bool false,.map none,.map none,.slice none 0 0,.slice none 0 0,.slice none 0 0,.slice none 0 0,.bool false,.bool false,.bool false],.struct [(0,67),(2,29),(8,4),(9,68),(10,69),(11,70),(12,25),(13,26),(14,27),(15,71)],0⟩),
 (75,⟨[.func],false,8,[.nilFunc],.none,4⟩),
 (76,⟨[.float .f64],false,8,[.float .f64 0],.float .f64,7⟩),
 (78,⟨[.float .f64,.float .f64],true,16,[.float .f64 0,.float .f64 0],.struct [(0,76),(1,76)],9⟩),
 (81,⟨[.ptr],false,8,[.pointer none],.none,3⟩),
 (83,⟨[.ptr,.slice,.int .i64],true,40,[.pointer none,.slice none 0 0,.int .i64 0],.struct [(0,56),(2,3)],9⟩),
 (88,⟨[.int .i64,.int .i64],true,16,[.int .i64 0,.int .i64 0],.struct [(0,3),(1,32)],9⟩),
 (89,⟨[.ptr],false,8,[.pointer none],.none,3⟩),
 (91,⟨[.str,.int .i64],true,24,[.string ByteArray.empty,.int .i64 0],.struct [(0,9),(1,3)],9⟩),
 (92,⟨[.map],false,8,[.map none],.map 3 3,0⟩),
 (93,⟨[.slice],false,24,[.slice none 0 0],.slice 156,2⟩),
 (95,⟨[.str,.int .i64,.int .i64,.int .i64,.slice,.bool,.slice,.slice,.slice,.bool,.map,.slice,.slice,.slice,.bool,.bool,.bool,.slice],true,264,[.string ByteArray.empty,.int .i64 0,.int .i64 0,.int .i64 0,.slice none 0 0,.bool false,.slice none 0 0,.slice none 0 0,.slice none 0 0,.bool false,.map none,.slice none 0 0,.slice none 0 0,.slice none 0 0,.bool false,.bool false,.bool false,.slice none 0 0],.struct [(0,91),(2,3),(3,29),(9,4),(10,92),(11,25),(12,26),(13,27),(14,71),(17,93)],0⟩),
 (96,⟨[.func],false,8,[.nilFunc],.none,4⟩),
 (101,⟨[.ptr],false,8,[.pointer none],.none,3⟩),
 (103,⟨[.str,.int .i64,.int .i64,.int .i64],true,40,[.string ByteArray.empty,.int .i64 0,.int .i64 0,.int .i64 0],.struct [(0,9),(1,3),(2,32),(3,3)],0⟩),
 (104,⟨[.slice],false,24,[.slice none 0 0],.slice 3,2⟩),
 (105,⟨[.slice],false,24,[.slice none 0 0],.slice 109,2⟩),
 (107,⟨[.str,.int .i64,.int .i64,.int .i64,.int .i64,.slice,.bool,.slice,.slice,.slice,.slice,.slice,.slice,.bool,.bool,.bool],true,232,[.string ByteArray.empty,.int .i64 0,.int .i64 0,.int .i64 0,.int .i64 0,.slice none 0 0,.bool false,.slice none 0 0,.slice none 0 0,.slice none 0 0,.slice none 0 0,.slice none 0 0,.slice none 0 0,.bool false,.bool false,.bool false],.struct [(0,103),(4,29),(10,104),(11,105),(12,105),(13,4),(14,4),(15,4)],0⟩),
 (109,⟨[.int .i64,.int .i64,.str],true,32,[.int .i64 0,.int .i64 0,.string ByteArray.empty],.struct [(0,3),(1,3),(2,9)],0⟩),
 (111,⟨[.str,.int .i64,.bool,.int .i64,.int .i64,.str,.bool],true,72,[.string ByteArray.empty,.int .i64 0,.bool false,.int .i64 0,.int .i64 0,.string ByteArray.empty,.bool false],.struct [(0,9),(1,3),(2,4),(3,109),(6,4)],0⟩),
 (112,⟨[.slice],false,24,[.slice none 0 0],.slice 111,2⟩),
 (118,⟨[.ptr],false,8,[.pointer none],.none,3⟩),
 (119,⟨[.slice],false,24,[.slice none 0 0],.slice 204,2⟩),
 (120,⟨[.slice],false,24,[.slice none 0 0],.slice 130,2⟩),
 (122,⟨[.str,.int .i64,.int .i64,.int .i64,.int .i64,.slice,.bool,.slice,.slice,.slice,.slice,.slice,.slice,.slice,.bool,.bool,.bool,.int .i64],true,264,[.string ByteArray.empty,.int .i64 0,.int .i64 0,.int .i64 0,.int .i64 0,.slice none 0 0,.bool false,.slice none 0 0,.slice none 0 0,.slice none 0 0,.slice none 0 0,.slice none 0 0,.slice none 0 0,.slice none 0 0,.bool false,.bool false,.bool false,.int .i64 0],.struct [(0,9),(1,3),(2,32),(3,3),(4,29),(10,119),(11,25),(12,120),(13,120),(14,4),(15,4),(16,4),(17,3)],0⟩),
 (123,⟨[.func],false,8,[.nilFunc],.none,4⟩),
 (125,⟨[.str,.int .i64,.slice,.bool],true,56,[.string ByteArray.empty,.int .i64 0,.slice none 0 0,.bool false],.struct [(0,9),(1,3),(2,120),(3,4)],0⟩),
 (130,⟨[.str,.str,.int .i64],true,40,[.string ByteArray.empty,.string ByteArray.empty,.int .i64 0],.struct [(0,9),(1,9),(2,3)],0⟩),
 (132,⟨[.ifc],false,16,[.nilIface],.none,8⟩),
 (133,⟨[.func],false,0,[.tuple #[.int .i64 0,.nilIface]],.tuple [3,132],0⟩),
 (141,⟨[.func],false,8,[.nilFunc],.none,4⟩),
 (142,⟨[.func],false,8,[.nilFunc],.none,4⟩),
 (143,⟨[.ptr],false,8,[.pointer none],.none,3⟩),
 (145,⟨[.func],false,8,[.nilFunc],.none,4⟩),
 (146,⟨[.int .u64],false,8,[.int .u64 0],.int .u64,6⟩),
 (154,⟨[.func],false,8,[.nilFunc],.none,4⟩),
 (156,⟨[.int .i64,.int .i64,.str,.float .f64],true,40,[.int .i64 0,.int .i64 0,.string ByteArray.empty,.float .f64 0],.struct [(0,3),(1,3),(2,9),(3,76)],0⟩),
 (157,⟨[.func],false,0,[.tuple #[.int .i64 0,.bool false]],.tuple [3,4],0⟩),
 (160,⟨[.func],false,8,[.nilFunc],.none,4⟩),
 (163,⟨[.ptr],false,8,[.pointer none],.none,3⟩),
 (167,⟨[.ptr],false,8,[.pointer none],.none,3⟩),
 (170,⟨[.int .u64],false,8,[.int .u64 0],.int .u64,6⟩),
 (171,⟨[.func],false,0,[.tuple #[.int .u64 0,.int .u64 0]],.tuple [170,170],0⟩),
 (173,⟨[.func],false,8,[.nilFunc],.none,4⟩),
 (174,⟨[.ptr],false,8,[.pointer none],.none,3⟩),
 (177,⟨[.ptr],false,8,[.pointer none],.none,3⟩),
 (179,⟨[.slice],false,24,[.slice none 0 0],.slice 230,2⟩),
 (181,⟨[.str,.int .i64,.int .i64,.slice,.bool],true,64,[.string ByteArray.empty,.int .i64 0,.int .i64 0,.slice none 0 0,.bool false],.struct [(0,9),(1,3),(2,3),(3,179),(4,4)],0⟩),
 (183,⟨[.str,.int .i64],true,24,[.string ByteArray.empty,.int .i64 0],.struct [(0,9),(1,3)],9⟩),
 (188,⟨[.ptr],false,8,[.pointer none],.none,3⟩),
 (191,⟨[.func],false,8,[.nilFunc],.none,4⟩),
 (193,⟨[.int .i64,.func,.func,.func],true,32,[.int .i64 0,.nilFunc,.nilFunc,.nilFunc],.struct [(0,3),(1,191),(2,154),(3,173)],0⟩),
 (194,⟨[.func],false,0,[.tuple #[.int .i64 0,.nilIface]],.tuple [2,132],0⟩),
 (199,⟨[.func],false,0,[.tuple #[.int .u8 0,.int .i64 0]],.tuple [5,3],0⟩),
 (204,⟨[.str,.str,.str],true,48,[.string ByteArray.empty,.string ByteArray.empty,.string ByteArray.empty],.struct [(0,9),(1,9),(2,9)],0⟩),
 (208,⟨[.int .u32],false,4,[.int .u32 0],.int .u32,6⟩),
 (209,⟨[.func],false,0,[.tuple #[.int .u32 0,.int .u32 0]],.tuple [208,208],0⟩),
 (211,⟨[.func],false,0,[.tuple #[.int .u64 0,.int .u64 0]],.tuple [146,146],0⟩),
 (214,⟨[],true,0,[],.struct [],0⟩),
 (215,⟨[],true,0,[],.struct [],0⟩),
 (217,⟨[.int .u32],true,4,[.int .u32 0],.struct [(0,215),(0,208)],0⟩),
 (219,⟨[.int .i32,.int .u32],true,8,[.int .i32 0,.int .u32 0],.struct [(0,21),(1,208)],9⟩),
 (221,⟨[.int .i32,.int .u32],true,8,[.int .i32 0,.int .u32 0],.struct [(0,214),(0,219)],0⟩),
 (223,⟨[.int .u32,.int .i32,.int .u32],true,12,[.int .u32 0,.int .i32 0,.int .u32 0],.struct [(0,214),(0,217),(1,221)],0⟩),
 (225,⟨[.ifc],false,16,[.nilIface],.none,8⟩),
 (227,⟨[.int .u32,.int .i32,.int .u32,.ifc,.slice],true,56,[.int .u32 0,.int .i32 0,.int .u32 0,.nilIface,.slice none 0 0],.struct [(0,223),(3,225),(4,25)],0⟩),
 (230,⟨[.str,.str,.int .i64],true,40,[.string ByteArray.empty,.string ByteArray.empty,.int .i64 0],.struct [(0,9),(1,9),(2,3)],0⟩),
 (233,⟨[.ptr],false,8,[.pointer none],.none,3⟩),
 (236,⟨[.str,.str],true,32,[.string ByteArray.empty,.string ByteArray.empty],.struct [(0,9),(1,9)],9⟩),
 (239,⟨(List.replicate 24 (.int .u8)),true,24,(List.replicate 24 (.int .u8 0)),.array 24 5,0⟩),
 (242,⟨[.func],false,0,[.tuple #[.slice none 0 0,.string ByteArray.empty]],.tuple [42,9],0⟩),
 (245,⟨[.float .f32],false,4,[.float .f32 0],.float .f32,7⟩),
 (250,⟨(List.replicate 256 (.bool)),true,256,(List.replicate 256 (.bool false)),.array 256 4,0⟩),
 (251,⟨[.func],false,0,[.tuple #[.agg #[.bool false,.bool false,.bool false,.bool false,.bool false,.bool false,.bool false,.bool false,.bool false,.bool false,.bool false,.bool false,.bool false,.bool false,.bool false,.bool false,.bool false,.bool false,.bool false,.bool false,.bool false,.bool false,.bool false,.bool false,.bool false,.bool false,.bool false,.bool false,.bool false,.bool false,.bool false,.bool false,.bool false,.bool false,.bool false,.bool false,.bool false,.bool false,.bool false,.bool false,.bool false,.bool false,.bool false,.bool false,.bool false,.bool false,.bool false,.bool false,.bool false,.bool false,.bool false,.bool false,.bool false,.bool false,.bool false,.bool false,.bool false,.bool false,.bool false,.bool false,.bool false,.bool false,.bool false,.bool false,.bool false,.bool false,.bool false,.bool false,.bool false,.bool false,.bool false,.bool false,.bool false,.bool false,.bool false,.bool false,.bool false,.bool false,.bool false,.bool false,.bool false,.bool false,.bool false,.bool false,.bool false,.bool false,.bool false,.bool false,.bool false,.bool false,.bool false,.bool false,.bool false,.bool false,.bool false,.bool false,.bool false,.bool false,.bool false,.bool false,.bool false,.bool false,.bool false,.bool false,.bool false,.bool false,.bool false,.bool false,.bool false,.bool false,.bool false,.bool false,.bool false,.bool false,.bool false,.bool false,.bool false,.bool false,.bool false,.bool false,.bool false,.bool false,.bool false,.bool false,.bool false,.bool false,.bool false,.bool false,.bool false,.bool false,.bool false,.bool false,.bool false,.bool false,.bool false,.bool false,.bool false,.bool false,.bool false,.bool false,.bool false,.bool false,.bool false,.bool false,.bool false,.bool false,.bool false,.bool false,.bool false,.bool false,.bool false,.bool false,.bool false,.bool false,.bool false,.bool false,.bool false,.bool false,.bool false,.bool false,.bool false,.bool false,.bool false,.bool false,.bool false,.bool false,.bool false,.bool false,.bool false,.bool false,.bool false,.bool false,.bool false,.bool false,.bool false,.bool false,.bool false,.bool false,.bool false,.bool false,.bool false,.bool false,.bool false,.bool false,.bool false,.bool false,.bool false,.bool false,.bool false,.bool false,.bool false,.bool false,.bool false,.bool false,.bool false,.bool false,.bool false,.bool false,.bool false,.bool false,.bool false,.bool false,.bool false,.bool false,.bool false,.bool false,.bool false,.bool false,.bool false,.bool false,.bool false,.bool false,.bool false,.bool false,.bool false,.bool false,.bool false,.bool false,.bool false,.bool false,.bool false,.bool false,.bool false,.bool false,.bool false,.bool false,.bool false,.bool false,.bool false,.bool false,.bool false,.bool false,.bool false,.bool false,.bool false,.bool false,.bool false,.bool false,.bool false,.bool false,.bool false,.bool false,.bool false,.bool false,.bool false,.bool false,.bool false,.bool false,.bool false,.bool false,.bool false,.bool false,.bool false,.bool false,.bool false,.bool false],.bool false]],.tuple [250,4],0⟩),
 (253,⟨[.ptr],false,8,[.pointer none],.none,3⟩),
 (259,⟨[.func],false,0,[.tuple #[.float .f64 0,.int .i64 0]],.tuple [76,32],0⟩),
 (263,⟨[.ptr],false,8,[.pointer none],.none,3⟩),
 (267,⟨[.func],false,0,[.tuple #[.string ByteArray.empty,.bool false]],.tuple [9,4],0⟩),
 (271,⟨[.map],false,8,[.map none],.map 9 123,0⟩),
 (272,⟨[.func],false,0,[.tuple #[.int .i32 0,.int .i64 0]],.tuple [21,3],0⟩),
 (275,⟨(List.replicate 20 (.int .u64)),true,160,(List.replicate 20 (.int .u64 0)),.array 20 146,0⟩),
 (276,⟨(List.replicate 65 (.int .u8)),true,65,(List.replicate 65 (.int .u8 0)),.array 65 5,0⟩),
 (282,⟨(List.replicate 32 (.int .u8)),true,32,(List.replicate 32 (.int .u8 0)),.array 32 5,0⟩),
 (283,⟨[.func],false,0,[.tuple #[.int .u64 0,.int .i64 0]],.tuple [146,3],0⟩),
 (285,⟨[.func],false,0,[.tuple #[.int .i64 0,.int .i64 0]],.tuple [3,3],0⟩),
 (288,⟨[.ptr],false,8,[.pointer none],.none,3⟩),
 (289,⟨(List.replicate 800 (.int .u8)),true,800,(List.replicate 800 (.int .u8 0)),.array 800 5,0⟩),
 (291,⟨(List.replicate 800 (.int .u8)++[.int .i64,.int .i64,.bool,.bool]),true,824,(List.replicate 800 (.int .u8 0)++[.int .i64 0,.int .i64 0,.bool false,.bool false]),.struct [(0,289),(800,3),(801,3),(802,4),(803,4)],0⟩),
 (294,⟨[.ptr],false,8,[.pointer none],.none,3⟩),
 (297,⟨[.int .i64],false,8,[.int .i64 0],.int .i64,6⟩),
 (298,⟨[.func],false,0,[.tuple #[.int .u64 0,.nilIface]],.tuple [146,132],0⟩),
 (300,⟨[.ptr],false,8,[.pointer none],.none,3⟩),
 (304,⟨[.func],false,0,[.tuple #[.float .f64 0,.nilIface]],.tuple [76,132],0⟩),
 (306,⟨[.ptr],false,8,[.pointer none],.none,3⟩),
 (308,⟨[.ptr],false,8,[.pointer none],.none,3⟩),
 (310,⟨[.ptr],false,8,[.pointer none],.none,3⟩),
 (312,⟨[.ptr],false,8,[.pointer none],.none,3⟩),
 (314,⟨(List.replicate 256 (.int .u8)),true,256,(List.replicate 256 (.int .u8 0)),.array 256 5,0⟩),
 (315,⟨(List.replicate 256 (.int .u8)),true,256,(List.replicate 256 (.int .u8 0)),.array 256 5,0⟩),
 (316,⟨[.ptr],false,8,[.pointer none],.none,3⟩),
 (317,⟨(List.replicate 256 (.slice)),true,6144,(List.replicate 256 (.slice none 0 0)),.array 256 42,0⟩),
 (319,⟨(List.replicate 257 (.slice)),true,6168,(List.replicate 257 (.slice none 0 0)),.struct [(0,317),(256,25)],9⟩),
 (320,⟨[.ptr],false,8,[.pointer none],.none,3⟩),
 (322,⟨[.func],false,0,[.tuple #[.string ByteArray.empty,.int .i64 0]],.tuple [9,3],0⟩),
 (329,⟨[.int .u64,.int .u64,.int .i64],true,24,[.int .u64 0,.int .u64 0,.int .i64 0],.struct [(0,146),(1,146),(2,3)],0⟩),
 (331,⟨[.ptr],false,8,[.pointer none],.none,3⟩),
 (332,⟨[.int .u64],false,8,[.int .u64 0],.int .u64,6⟩),
 (340,⟨[.ptr],false,8,[.pointer none],.none,3⟩),
 (342,⟨[.str,.str,.ifc],true,48,[.string ByteArray.empty,.string ByteArray.empty,.nilIface],.struct [(0,9),(1,9),(2,132)],0⟩),
 (345,⟨[.ptr],false,8,[.pointer none],.none,3⟩),
 (348,⟨[.ptr],false,8,[.pointer none],.none,3⟩),
 (351,⟨[.ptr,.str],true,24,[.pointer none,.string ByteArray.empty],.struct [(0,348),(1,9)],9⟩),
 (352,⟨[.ptr],false,8,[.pointer none],.none,3⟩),
 (353,⟨[.slice],false,24,[.slice none 0 0],.slice 352,2⟩),
 (355,⟨[.str,.int .i64,.str,.ptr,.slice],true,72,[.string ByteArray.empty,.int .i64 0,.string ByteArray.empty,.pointer none,.slice none 0 0],.struct [(0,9),(1,3),(2,9),(3,352),(4,353)],0⟩),
 (357,⟨([.str,.int .i64,.str,.ptr,.slice,.int .i64]++List.replicate 256 (.int .u8)),true,336,([.string ByteArray.empty,.int .i64 0,.string ByteArray.empty,.pointer none,.slice none 0 0,.int .i64 0]++List.replicate 256 (.int .u8 0)),.struct [(0,355),(5,3),(6,314)],0⟩),
 (362,⟨[.int .u8,.int .u8],true,2,[.int .u8 0,.int .u8 0],.struct [(0,5),(1,5)],9⟩),
 (363,⟨(List.replicate 32 (.int .u8)),true,32,(List.replicate 32 (.int .u8 0)),.array 16 362,0⟩),
 (364,⟨(List.replicate 64 (.int .u8)),true,64,(List.replicate 64 (.int .u8 0)),.array 64 5,0⟩),
 (366,⟨[.int .u64,.int .u64],true,16,[.int .u64 0,.int .u64 0],.struct [(0,146),(1,146)],9⟩),
 (367,⟨(List.replicate 1392 (.int .u64)),true,11136,(List.replicate 1392 (.int .u64 0)),.array 696 366,0⟩),
 (371,⟨[.int .i64,.str],true,24,[.int .i64 0,.string ByteArray.empty],.struct [(0,3),(1,9)],9⟩),
 (372,⟨[.slice],false,24,[.slice none 0 0],.slice 371,2⟩),
 (374,⟨[.ptr],false,8,[.pointer none],.none,3⟩),
 (376,⟨[.str],true,16,[.string ByteArray.empty],.struct [(0,9)],0⟩),
 (377,⟨[.func],false,0,[.tuple #[.float .f64 0,.int .i64 0,.nilIface]],.tuple [76,3,132],0⟩),
 (379,⟨[.ptr],false,8,[.pointer none],.none,3⟩),
 (381,⟨[.ptr],false,8,[.pointer none],.none,3⟩),
 (385,⟨(List.replicate 256 (.int .i64)),true,2048,(List.replicate 256 (.int .i64 0)),.array 256 3,0⟩),
 (387,⟨([.str]++List.replicate 256 (.int .i64)++[.slice]),true,2088,([.string ByteArray.empty]++List.replicate 256 (.int .i64 0)++[.slice none 0 0]),.struct [(0,9),(1,385),(257,104)],0⟩),
 (389,⟨[.func],false,0,[.tuple #[.float .f32 0,.int .i64 0,.nilIface]],.tuple [245,3,132],0⟩),
 (394,⟨[.func],false,0,[.tuple #[.float .f64 0,.int .i64 0,.bool false]],.tuple [76,3,4],0⟩),
 (396,⟨[.func],false,0,[.tuple #[.int .u64 0,.int .i64 0,.bool false,.bool false,.bool false,.int .i64 0,.bool false]],.tuple [146,3,4,4,4,3,4],0⟩),
 (399,⟨[.ptr],false,8,[.pointer none],.none,3⟩),
 (401,⟨[.int .u64,.int .u64,.int .i64],true,24,[.int .u64 0,.int .u64 0,.int .i64 0],.struct [(0,170),(1,170),(2,3)],0⟩),
 (403,⟨[.func],false,0,[.tuple #[.float .f32 0,.bool false]],.tuple [245,4],0⟩),
 (405,⟨[.func],false,0,[.tuple #[.float .f32 0,.nilIface]],.tuple [245,132],0⟩),
 (407,⟨[.func],false,0,[.tuple #[.int .u64 0,.bool false]],.tuple [146,4],0⟩),
 (409,⟨[.func],false,0,[.tuple #[.float .f64 0,.bool false]],.tuple [76,4],0⟩),
 (412,⟨[.slice],false,24,[.slice none 0 0],.slice 245,2⟩)]
theorem sS :aQ Tryz.prog Bm:=aQ.of (by kernel_rfl)
def lR :List Nat:=[3,4,5,6,7,8,9,10,11,12,13,14,15,16,17,18,19,20,21,22,23,24,25,26,27,28,29,30,31,32,33,34,35,36,37,38,39,40,41,42,43,44,45,46,47,48,49,50,51,52,53,54,55,56,57,58,59,60,61,62,63,64,65,66,67,68,69,70,71,72,73,74,75,76,77,78,79,80,81,82,83,84,85,86,87,88,89,90,91,92,93,94,95,96,97,98,99,100,102,103,104,105,106,107,108,109,110,111,112,113,114,115,116,117,118,119,120,121,122,123,124,125,126,127,128,129,130,131,132,133,134,135,136,137,138,139,140,141,142,144,145,146,147,148,149,150,151,152,153,154,155,156,157,158,159,160,161,162,163,164,165,166,167,168,169,170,171,173,174,175,176,177,178,179,180,181,182,183,184,185,186,187,188,189,190,191,192,193,194,195,196,197,198,199,200,201,202,203,204,205,206,207,208,209,210,211,212,213,214,215,216,217,218,219,221,222,223,224,226,227,228,229,230,231,232,233,234,235,236,237,238,239,240,241,242,243,246,247,248,249,250,251,252,253,254,255,256,257,258,259,260,261,262,263,264,265,266,267,268,269,270,271,272,273,274,275,276,277,278,280,281,282,283,284,286,287,288,289,290,291,292,294,295,296,297,298,299,300,301,302,303,304,305,306,307,308,309,310,311,312,313,314,315,316,317,318,319,320,321,322,323,324,325,327,328,329,330,331,332,333,334,335,336,337,338,339,340,341,342,347,350,351,352,353,354,355,363,364,365,366,367,369,370,371,372,374,375,376,377,378,379,380,381]
theorem sU :bV Tryz.prog lR:=bV.of (by kernel_rfl)
noncomputable def oS (privs : List Nat) (n : Nat) : Env := { P := Tryz.prog, T := Bm, F := lR, privs := privs, n := n }
theorem jK (privs:List Nat) (n:Nat):(oS privs n).OK:=⟨sS,sU,trivial,by kernel_rfl⟩
def lU :List Nat:=[46,47,58,59,92,93,94,96,97,98,100,109,110,111,112,136,138,139,140,141,142,149,150,152,153,183,184,187,188,189,202,208,209,210,228,231,232,233,234,235,236,261,262,263,265,266,267,270,288,289,317]
theorem zb :bV Tryz.prog lU:=bV.of (by kernel_rfl)
noncomputable def Bn (privs : List Nat) (n : Nat) (Rp : Value -> ab -> Prop) : Env := { P := Tryz.prog, T := Bm, F := lR, privs := privs, n := n, FP := lU, pn := some Rp }
theorem zc (privs:List Nat) (n:Nat) (Rp:Value->ab->Prop):(Bn privs n Rp).OK:=⟨sS,sU,zb,by kernel_rfl⟩
abbrev fD (ty:TypeId) (z y:Nat) (H:List Nat) (h:ab) (A:Option Addr) (n c m:Nat) (xs:List Value) (K:Option Addr->Nat->ab->Prop):Prop:=∃old,aC h ty z A n c old/\(∀b∈H,b∉ag A)/\(n+m)*y<=140737488355328/\(n+m)<=maxLen/\∀sA sC h',aC h' ty z sA (n+m) sC (old++xs)->Fr (ag A) h h'->((sA=A/\sC=c)\/∃g,sA=some ⟨g,0,none⟩/\h.size<=g)->(c<(n+m)->Fr [] h h')->K sA sC h'
abbrev VP :=Value->ab->Prop
abbrev LP :=List Value->ab->Prop
abbrev ia (ty:TypeId) (z y:Nat) (H:List Nat) (h:ab) (A:Option Addr) (n c m:Nat) (xs:List Value) (K:Option Addr->Nat->ab->Prop):Prop:=fD ty z y (h.size::H) (h.push (.cells xs.toArray ty)) A n c m xs K
theorem aR {S:Prop} {f:FuncId} {fn:Func} {args:List Value} {h:ab} {R:Value->ab->Prop} (p:List Nat) (n:Nat) (l j b:List (Nat × LD)) (d:List (Nat × DD)) (hf:Tryz.prog.funcs[f]? =some fn) (k:(Nat.beq fn.ntmps n&&(fn.body.isSome&&Nat.ble args.length n))=true) (e:S=FX (oS p n) {loops:=l,joins:=j,blocks:=b,draws:=d} fn (fn.body.getD .skip) args h R) (H:S):ae Tryz.prog f args.toArray h R:=by
 simp only[Bool.and_eq_true]at k
 obtain⟨k1,k2,k3⟩:=k
 obtain⟨c,hc⟩:=Option.isSome_iff_exists.1 k2
 rw[hc]at e
 exact iJ (E:=oS p n) (jK _ _) hf hc k1 k3 (e▸H)
theorem dw {S:Prop} {f:FuncId} {fn:Func} {args:List Value} {h:ab} {R Rp:Value->ab->Prop} (p:List Nat) (n:Nat) (l j b:List (Nat × LD)) (d:List (Nat × DD)) (hf:Tryz.prog.funcs[f]? =some fn) (k:(Nat.beq fn.ntmps n&&(fn.body.isSome&&Nat.ble args.length n))=true) (e:S=FX (Bn p n Rp) {loops:=l,joins:=j,blocks:=b,draws:=d} fn (fn.body.getD .skip) args h R) (H:S):az Tryz.prog f args.toArray h R Rp:=by
 simp only[Bool.and_eq_true]at k
 obtain⟨k1,k2,k3⟩:=k
 obtain⟨c,hc⟩:=Option.isSome_iff_exists.1 k2
 rw[hc]at e
 exact py (E:=Bn p n Rp) (zc _ _ _) hf hc k1 k3 rfl (e▸H)
end Go.Proofs.YtlflalecmhgmjaaGreatDoor
