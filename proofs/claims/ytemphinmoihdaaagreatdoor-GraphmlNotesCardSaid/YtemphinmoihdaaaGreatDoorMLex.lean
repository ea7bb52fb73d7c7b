/- A function's whole code over abstract states: what is left to be shown of it; that this suffices. Conditions: the table of types is the program's; the called functions have bodies. -/
import Derived.Test.YtemphinmoihdaaaGreatDoorXDraw
import Derived.Scope
set_option linter.unusedVariables false
set_option linter.unusedSimpArgs false
open Go.IntKind (i64 u64 u8 i32)
namespace Go.X
structure Desc where
 loops:List (Nat × LD)
 joins:List (Nat × LD)
 blocks:List (Nat × LD)
 draws:List (Nat × DD)
 cut:List Nat:=[]
def xH {α:Type} (l:List (Nat × α)) (k:Nat):Option α:=
 match l with
 | []=>none
 | (i,v)::r=>match Nat.beq i k with
  | true=>some v
  | false=>xH r k
def XC (E:Env):Desc->Code->RO->Nat->St->ab->(St->ab->Prop)->(Nat->St->ab->Prop)->(St->ab->Prop)->Prop
 | _,.skip,_,_,st,h,k,_,_=>k st h
 | D,.region id ops draw,ro,_,st,h,k,_,_=>(match draw with
  | false=>(match mem D.cut id with
   | true=>False
   | false=>XR E ro ops.toList ops.toList 0 st h k)
  | true=>match xH D.draws id with
   | some d=>XD E ro d ops st h k
   | none=>False)
 | D,.seq a b,ro,cur,st,h,k,ex,rt=>XC E D a ro cur st h (fun st' h'=>XC E D b ro cur st' h' k ex rt) ex rt
 | D,.cond c t e,ro,cur,st,h,k,ex,rt=>(match ev st c with
  | some (.lit true)=>XC E D t ro cur st h k ex rt
  | some (.lit false)=>XC E D e ro cur st h k ex rt
  | some (.val (.bool b))=>(match c with
   | .tmp s=>(match xH D.joins s with
    | some d=>Jl ro d st (fun ro' K=>cnd b (XC E D t ro' cur st h K ex rt) (XC E D e ro' cur st h K ex rt)) k
    | none=>cnd b (XC E D t ro cur st h k ex rt) (XC E D e ro cur st h k ex rt))
   | _=>False)
  | _=>False)
 | D,.block id c,ro,_,st,h,k,ex,rt=>(match xH D.blocks id with
  | some d=>Jl ro d st (fun ro' K=>XC E D c ro' id st h K (fun j st' h'=>match Nat.beq j id with
   | true=>K st' h'
   | false=>ex j st' h') rt) k
  | none=>XC E D c ro id st h k (fun j st' h'=>match Nat.beq j id with
   | true=>k st' h'
   | false=>ex j st' h') rt)
 | D,.loop c,ro,cur,st,h,_,ex,rt=>(match xH D.loops cur with
  | some d=>Po ro d st h fun ro' st' h' K=>XC E D c ro' cur st' h' K ex rt
  | none=>False)
 | D,.scope c,ro,cur,st,h,k,ex,rt=>XC E D c ro cur st h k ex rt
 | _,.label _,_,_,st,h,k,_,_=>k st h
 | D,.exit id,_,_,st,h,_,ex,_=>ex id st h
 | D,.ret,_,_,st,h,_,_,rt=>rt st h
 | _,_,_,_,_,_,_,_,_=>False
def PX (pn:Option (Value->ab->Prop)) (ro:RO) (n:Nat) (s0:St) (w0:World) (k:St->ab->Prop) (ex:Nat->St->ab->Prop) (rt:St->ab->Prop):Exit->Act->World->Prop
 | .normal,a,w=>Nx ro s0 k n w0 a w
 | .exit j,a,w=>Nx ro s0 (ex j) n w0 a w
 | .ret,a,w=>Nx ro s0 rt n w0 a w
 | .panic ch,a,w=>PQ pn w0 ch a w
 | _,_,_=>False
theorem Nx.mono {ro ro':RO} {s0 s1:St} {K K':St->ab->Prop} {n:Nat} {w0 w1:World} {a:Act} {w:World} (h:Nx ro s0 K n w0 a w) (hk:∀st,Keep ro s0 st->Keep ro' s1 st) (hw:Rest w1 w0) (hK:∀st h,K st h->K' st h):Nx ro' s1 K' n w1 a w:=by
 obtain⟨st,r,h1,h2,h3,h4⟩:=h
 exact⟨st,r,hw.trans h1,h2,hk st h3,hK _ _ h4⟩
theorem LD.ok_weaken {ro:RO} {d:LD} (hok:d.ok ro=true) {st st':St} (h:Keep d.ro st st'):Keep ro st st':=by
 simp only[LD.ok,Bool.and_eq_true]at hok
 obtain⟨⟨⟨⟨h1,h2⟩,h3⟩,_⟩,_⟩:=hok
 exact h.weaken (fun t ht=>se h1 ht) (fun t ht=>se h2 ht) (fun t ht=>se h3 ht)
theorem vD {ro:RO} {d:LD} {st:St} {kf:List (Nat × AVal)} {kl:List Priv} (hok:d.ok ro=true) (hkf:iW st (d.keepP++d.varP) d.keepT=some kf) (hkl:js st.lc d.keepP=some kl)
  {q0:List (List (Sh × Value))} (h0:lI st.lc d.varP=some q0) (v:List Value) (vp:List (List Value)) (hvp:vp.length=q0.length):Keep d.ro st (ph d st kf kl v vp):=by
 simp only[LD.ok,Bool.and_eq_true]at hok
 obtain⟨⟨⟨⟨_,_⟩,_⟩,hdT⟩,hdP⟩:=hok
 have slot:∀{l:List Priv} {s:Nat} {p:Priv},av l s=some p->p.slot=s:=by
  intro l s p h
  induction l<;>grind [av,Option.some.injEq,Nat.eq_of_beq_eq_true]
 obtain⟨_,l2⟩:=lJ hkl
 have hp:∀s,mem d.keepP s=true->av (ph d st kf kl v vp).lc s=av st.lc s:=by
  intro s hs
  have hv:mem d.varP s=false:=om hdP hs
  show av (mR st.lc d.varP vp kl) s=_
  rw[mT hv (fun u hu=>sj h0 u hu)]
  obtain⟨p,p',g1,g2,g3,g4,g5⟩:=l2 s hs
  rw[g1,g2]
  have e1:=slot g1
  have e2:=slot g2
  cases p;cases p'
  simp_all
 refine⟨fun t ht=>?_,hp,fun s hs=>?_⟩
 ·show look (th d.varT v kf) t=_
  rw[sf (om hdT ht)]
  exact so hkf t ht
 ·have hs':mem (d.keepP++d.varP) s=true:=hs
  rw[iY,Bool.or_eq_true]at hs'
  rcases hs' with hs' | hs'
  ·rw[hp s hs']
  ·show(av (mR st.lc d.varP vp kl) s).map Priv.place=_
   have gen:∀{l:List Nat} {q:List (List (Sh × Value))} {vp:List (List Value)},lI st.lc l=some q->vp.length=q.length->mem l s=true->(av (mR st.lc l vp kl) s).map Priv.place=(av st.lc s).map Priv.place:=by
    intro l
    induction l with
    | nil=>intro q vp _ _ h;simp[mem]at h
    | cons t r ih=>
     intro q vp hq hl hm
     unfold lI at hq
     split at hq
     ·rename_i p hp
      split at hq
      ·rename_i q' hq'
       simp only[Option.some.injEq]at hq
       subst hq
       cases vp<;>grind [mR,av,Nat.eq_of_beq_eq_true,Priv.place,mem]
      ·cases hq
     ·cases hq
   grind
theorem uv (l:List (List (Sh × Value))):(gZ l).length=l.length:=by simp[gZ]
theorem uw :∀{l q:List (List (Sh × Value))} {K:List (List Value)->Prop},yi l q K->q.length=l.length
 | [],[],_,_=>rfl
 | l::r,m::q,K,h=>by obtain⟨h1,_⟩:=iX h;simp[uw h1]
 | [],_::_,_,h=>h.elim
 | _::_,[],_,h=>h.elim
theorem mJ {ro:RO} {d:LD} {st:St} {K:List (Nat × AVal)->List Priv->List (Sh × Value)->List (List (Sh × Value))->Prop} (h:AV ro d st K):
  d.ok ro=true/\∃kf kl v1 v2,iW st (d.keepP++d.varP) d.keepT=some kf/\js st.lc d.keepP=some kl/\yg st d.varT=some v1/\lI st.lc d.varP=some v2/\
   (∀L:List Value->Prop,sb v1 L->L (mP v1))/\(∀L:List (List Value)->Prop,tf v2 L->L (gZ v2))/\K kf kl v1 v2:=by
 unfold AV at h
 split at h
 ·exact h.elim
 ·rename_i hok
  split at h
  ·exact h.elim
  ·rename_i kf h1
   split at h
   ·exact h.elim
   ·rename_i kl h2
    split at h
    ·exact h.elim
    ·rename_i v1 h3
     split at h
     ·exact h.elim
     ·rename_i v2 h4
      obtain⟨e1,e2⟩:=iX h
      obtain⟨e3,e4⟩:=mQ e1
      grind
theorem rR {ro:RO} {d:LD} {st:St} {kf:List (Nat × AVal)} {kl:List Priv} {v1:List (Sh × Value)} {v2:List (List (Sh × Value))} (hok:d.ok ro=true) (hkf:iW st (d.keepP++d.varP) d.keepT=some kf)
  (hkl:js st.lc d.keepP=some kl) (h2:lI st.lc d.varP=some v2) {st':St} (hk:Keep d.ro st st') {K:List Value->List (List Value)->Prop} (hb:sd d v1 v2 st' K) {a:Act} {w:World} (r:Rel st' a w):
  ∃u up,Rel (ph d st kf kl u up) a w/\up.length=v2.length/\K u up/\(∀L:List Value->Prop,sb v1 L->L u)/\(∀L:List (List Value)->Prop,tf v2 L->L up):=by
 unfold sd at hb
 split at hb
 ·rename_i u1 hu1
  split at hb
  ·rename_i u2 hu2
   obtain⟨e1,e2⟩:=iX hb
   have el:=uw e1
   obtain⟨e3,e4⟩:=mQ e1
   exact⟨mP u1,gZ u2,Fm hok hkf hkl h2 hk.t hk.p hk.a hu1 hu2 r,by rw[uv,el],e3,e2,e4⟩
  grind
 grind
theorem least {p:Nat->Prop} (h:∃m,p m):∃m,p m/\∀k,p k->m<=k:=by
 obtain⟨m,hm⟩:=h
 induction m using Nat.strongRecOn<;>grind
theorem xI {E:Env} (hE:E.OK) (c:Code):∀(D:Desc) (ro:RO) (cur:Nat) (st:St) (k:St->ab->Prop) (ex:Nat->St->ab->Prop) (rt:St->ab->Prop) (a:Act) (w:World),
  XC E D c ro cur st w.heap k ex rt->Rel st a w->a.tmps.size=E.n->c.wp E.P (PX E.pn ro E.n st w k ex rt) a w:=by
 induction c with
 | skip=>exact fun D ro cur st k ex rt a w d r hn=>wp_skip ⟨st,r,Rest.refl w,hn,Keep.refl _ _,d⟩
 | region id ops draw=>
  intro D ro cur st k ex rt a w d r hn
  unfold XC at d
  cases draw with
  | false=>
   simp only at d
   split at d
   ·exact d.elim
   refine wp_region_list ?_
   have:=sJ hE (ro:=ro) (ops:=ops.toList) (K:=k) (Q:=PX E.pn ro E.n st w k ex rt) (s0:=st) (w0:=w) (fun a w h=>h) (fun ch a w h=>h) ops.toList 0 st a w d r hn (Rest.refl w) (Keep.refl _ _)
   omega
  | true=>
   simp only at d
   split at d
   ·rename_i dd _
    have hops:ops=ops.toList.toArray:=by simp
    rw[hops]at d ⊢
    exact Code.wp_mono (fun e a w h=>by cases e<;>first | exact h | exact h.elim) (ye hE (id:=id) d r hn)
   ·exact d.elim
 | seq x y ihx ihy=>
  intro D ro cur st k ex rt a w d r hn
  unfold XC at d
  refine wp_seq (Code.wp_mono (fun e a' w' h=>?_) (ihx D ro cur st _ ex rt a w d r hn))
  cases e with
  | normal=>
   obtain⟨st',r',h1,h2,h3,h4⟩:=h
   refine Code.wp_mono (fun e a'' w'' h'=>?_) (ihy D ro cur st' k ex rt a' w' h4 r' h2)
   cases e<;>first | exact Nx.mono h' (fun _ q=>h3.trans q) h1 (fun _ _ q=>q) | exact PQ.back h' h1 | exact h'.elim
  | exit j=>exact h
  | ret=>exact h
  | panic ch=>exact h
  | _=>exact h.elim
 | cond c t e iht ihe=>
  intro D ro cur st k ex rt a w d r hn
  unfold XC at d
  split at d
  ·rename_i h1
   obtain⟨v,hc,hv⟩:=aM r.fr h1
   grind [AVal.conc,wp_cond_true]
  ·rename_i h1
   obtain⟨v,hc,hv⟩:=aM r.fr h1
   grind [AVal.conc,wp_cond_false]
  ·rename_i b h1
   obtain⟨v,hc,hv⟩:=aM r.fr h1
   simp only[AVal.conc,Option.some.injEq]at hc
   refine wp_cond (hv.trans hc.symm) ?_
   split at d
   ·rename_i s
    split at d
    ·rename_i dl _
     obtain⟨hok,kf,kl,v1,v2,h1,h2,h3,h4,_,_,J,hways,hk⟩:=mJ d
     have hk':∀u up,(∀L:List Value->Prop,sb v1 L->L u)->(∀L:List (List Value)->Prop,tf v2 L->L up)->∀h',J (u++up.flatten) h'->k (ph dl st kf kl u up) h':=fun u up hu hup h' hj=>hup _ (hu _ hk) h' hj
     have fin:∀e (a':Act) (w':World),PX E.pn dl.ro E.n st w (fun st'' h''=>sd dl v1 v2 st'' fun u up=>J (u++up.flatten) h'') ex rt e a' w'->PX E.pn ro E.n st w k ex rt e a' w':=by
      intro e a' w' h
      cases e with
      | normal=>
       obtain⟨st',r',g1,g2,g3,g4⟩:=h
       obtain⟨u,up,r'',hlen,hj,hu,hup⟩:=rR hok h1 h2 h4 g3 g4 r'
       exact⟨_,r'',g1,g2,LD.ok_weaken hok (vD hok h1 h2 h4 u up hlen),hk' u up hu hup _ hj⟩
      | exit j=>exact Nx.mono h (fun _ q=>LD.ok_weaken hok q) (Rest.refl w) (fun _ _ q=>q)
      | ret=>exact Nx.mono h (fun _ q=>LD.ok_weaken hok q) (Rest.refl w) (fun _ _ q=>q)
      | panic ch=>exact h
      | _=>exact h.elim
     cases b with
     | true=>exact Code.wp_mono fin (iht D dl.ro cur st _ ex rt a w (hways.1 rfl) r hn)
     | false=>exact Code.wp_mono fin (ihe D dl.ro cur st _ ex rt a w (hways.2 rfl) r hn)
    ·cases b with
     | true=>exact iht D ro cur st k ex rt a w (d.1 rfl) r hn
     | false=>exact ihe D ro cur st k ex rt a w (d.2 rfl) r hn
   ·exact d.elim
  ·exact d.elim
 | block id c ih=>
  intro D ro cur st k ex rt a w d r hn
  unfold XC at d
  have fin:∀(ro':RO) (k':St->ab->Prop) e (a':Act) (w':World),PX E.pn ro' E.n st w k' (fun j st' h'=>match Nat.beq j id with | true=>k' st' h' | false=>ex j st' h') rt e a' w'->Exit.inBlock id (PX E.pn ro' E.n st w k' ex rt) e a' w':=by
   intro ro' k' e a' w' h
   cases e with
   | normal=>exact h
   | exit j=>
    simp only[Exit.inBlock]
    obtain⟨st',r',h1,h2,h3,h4⟩:=h
    by_cases hj:j=id
    ·subst hj
     rw[if_pos rfl]
     simp only[show Nat.beq j j=true by simp]at h4
     exact⟨st',r',h1,h2,h3,h4⟩
    ·rw[if_neg hj]
     have:Nat.beq j id=false:=by rw[<-Bool.not_eq_true];simp_all
     simp only[this]at h4
     exact⟨st',r',h1,h2,h3,h4⟩
   | ret=>exact h
   | panic ch=>exact h
   | _=>exact h.elim
  split at d
  ·rename_i dl _
   obtain⟨hok,kf,kl,v1,v2,h1,h2,h3,h4,_,_,J,hways,hk⟩:=mJ d
   have hk':∀u up,(∀L:List Value->Prop,sb v1 L->L u)->(∀L:List (List Value)->Prop,tf v2 L->L up)->∀h',J (u++up.flatten) h'->k (ph dl st kf kl u up) h':=fun u up hu hup h' hj=>hup _ (hu _ hk) h' hj
   have fin2:∀e (a':Act) (w':World),PX E.pn dl.ro E.n st w (fun st'' h''=>sd dl v1 v2 st'' fun u up=>J (u++up.flatten) h'') ex rt e a' w'->PX E.pn ro E.n st w k ex rt e a' w':=by
    intro e a' w' h
    cases e with
    | normal=>
     obtain⟨st',r',g1,g2,g3,g4⟩:=h
     obtain⟨u,up,r'',hlen,hj,hu,hup⟩:=rR hok h1 h2 h4 g3 g4 r'
     exact⟨_,r'',g1,g2,LD.ok_weaken hok (vD hok h1 h2 h4 u up hlen),hk' u up hu hup _ hj⟩
    | exit j=>exact Nx.mono h (fun _ q=>LD.ok_weaken hok q) (Rest.refl w) (fun _ _ q=>q)
    | ret=>exact Nx.mono h (fun _ q=>LD.ok_weaken hok q) (Rest.refl w) (fun _ _ q=>q)
    | panic ch=>exact h
    | _=>exact h.elim
   exact Code.wp_mono fin2 (wp_block (Code.wp_mono (fin dl.ro _) (ih D dl.ro id st _ _ rt a w hways r hn)))
  grind [wp_block,Code.wp_mono]
 | loop c ih=>
  intro D ro cur st k ex rt a w d r hn
  unfold XC at d
  split at d
  ·rename_i dl _
   obtain⟨hok,kf,kl,v1,v2,h1,h2,h3,h4,hs1,hs2,I,μ,hI,hbody⟩:=mJ d
   have hb:∀u up,(∀L:List Value->Prop,sb v1 L->L u)->(∀L:List (List Value)->Prop,tf v2 L->L up)->∀h',I (u++up.flatten) h'->
     XC E D c dl.ro cur (ph dl st kf kl u up) h' (fun st'' h''=>sd dl v1 v2 st'' fun u' up'=>I (u'++up'.flatten) h''/\μ (u'++up'.flatten) h''<μ (u++up.flatten) h') ex rt:=
    fun u up hu hup h' hi=>hup _ (hu _ hbody) h' hi
   let Inv:Act->World->Nat->Prop:=fun a' w' m=>∃u up,Rel (ph dl st kf kl u up) a' w'/\up.length=v2.length/\(∀L:List Value->Prop,sb v1 L->L u)/\(∀L:List (List Value)->Prop,tf v2 L->L up)/\
     I (u++up.flatten) w'.heap/\a'.tmps.size=E.n/\Rest w w'/\μ (u++up.flatten) w'.heap=m
   have start:Inv a w (μ (mP v1++(gZ v2).flatten) w.heap):=
    ⟨mP v1,gZ v2,Fm hok h1 h2 h4 (fun _ _=>rfl) (fun _ _=>rfl) (fun _ _=>rfl) h3 h4 r,uv _,hs1,hs2,hI,hn,Rest.refl w,rfl⟩
   have round:∀a' w' m,Inv a' w' m->c.wp E.P (Exit.then (fun a'' w''=>∃m',Inv a'' w'' m'/\m'<m) (PX E.pn ro E.n st w k ex rt)) a' w':=by
    rintro a' w' m ⟨u,up,r',hlen,hu,hup,hi,hn',hrest,rfl⟩
    have hmk:Keep dl.ro st (ph dl st kf kl u up):=vD hok h1 h2 h4 u up hlen
    refine Code.wp_mono (fun e a'' w'' h=>?_) (ih D dl.ro cur _ _ ex rt a' w' (hb u up hu hup w'.heap hi) r' hn')
    cases e with
    | normal=>
     obtain⟨st'',r'',g1,g2,g3,g4⟩:=h
     obtain⟨u',up',r3,hlen',⟨hi',hlt⟩,hu',hup'⟩:=rR hok h1 h2 h4 (hmk.trans g3) g4 r''
     exact⟨_,⟨u',up',r3,hlen',hu',hup',hi',g2,hrest.trans g1,rfl⟩,hlt⟩
    | exit j=>exact Nx.mono h (fun _ q=>LD.ok_weaken hok (hmk.trans q)) hrest (fun _ _ q=>q)
    | ret=>exact Nx.mono h (fun _ q=>LD.ok_weaken hok (hmk.trans q)) hrest (fun _ _ q=>q)
    | panic ch=>exact PQ.back h hrest
    | _=>exact h.elim
   classical
   refine wp_loop (fun a' w'=>∃m,Inv a' w' m) (fun a' w'=>if h:∃m,Inv a' w' m then Classical.choose (least h)else 0) ⟨_,start⟩ ?_
   intro a' w' hex
   have hmin:=(Classical.choose_spec (least hex)).1
   refine Code.wp_mono (fun e a'' w'' h=>?_) (round a' w' _ hmin)
   cases e with
   | normal=>
    obtain⟨m',hm',hlt⟩:=h
    refine⟨⟨m',hm'⟩,?_⟩
    have hex':∃m,Inv a'' w'' m:=⟨m',hm'⟩
    rw[dif_pos hex,dif_pos hex']
    exact Nat.lt_of_le_of_lt ((Classical.choose_spec (least hex')).2 _ hm') hlt
   | _=>exact h
  ·exact d.elim
 | exit id=>exact fun D ro cur st k ex rt a w d r hn=>wp_exit ⟨st,r,Rest.refl w,hn,Keep.refl _ _,d⟩
 | ret=>exact fun D ro cur st k ex rt a w d r hn=>wp_ret ⟨st,r,Rest.refl w,hn,Keep.refl _ _,d⟩
 | label l=>exact fun D ro cur st k ex rt a w d r hn=>wp_label ⟨st,r,Rest.refl w,hn,Keep.refl _ _,d⟩
 | scope c ih=>
  intro D ro cur st k ex rt a w d r hn
  unfold XC at d
  exact wp_scope_straight (Code.wp_mono (fun e a' w' h=>by cases e<;>first | exact h | exact h.elim) (ih D ro cur st k ex rt a w d r hn))
 | _=>intro D ro cur st k ex rt a w d;exact d.elim
def uC :List Value->Nat->List (Nat × AVal)
 | [],_=>[]
 | v::r,i=>(i,.val v)::uC r (i+1)
def vO (T:TAB) (st:St) (h:ab):List ResultVar->(List Value->Prop)->Prop
 | [],K=>K []
 | .tmp t::r,K=>(match evo st (.tmp t)with
  | some v=>vO T st h r fun vs=>K (v::vs)
  | none=>False)
 | .cell a t::r,K=>det T st.lc none st h (.load t (.tmp a)) fun x=>match x.out with
  | some v=>vO T st h r fun vs=>K (v::vs)
  | none=>False
def one (vs:List Value):Value:=
 match vs with
 | [v]=>v
 | vs=>.tuple vs.toArray
def AU (tmps:Array Value):ResultVar->Sem Value
 | .tmp t=>pure (tmps.getD t undef)
 | .cell a t=>do loadVar t (<-asAddr (tmps.getD a undef))
theorem Fk {P:Program} {T:TAB} {st:St} {a:Act} {w:World} {t s:Nat} {K:AVal->Prop} (hT:bn P T) (r:Rel st a w) (d:det T st.lc none st w.heap (.load t (.tmp s)) K):
  ∃x v,x.conc st.lc=some v/\(do loadVar t (<-asAddr (a.tmps.getD s undef)):Sem Value).run P w= .ok v w/\K x:=by
 let o:Oper:={dst:=none,op:=.load t (.tmp s),type:=0,pos:= "",after:=#[],guard:=none}
 obtain⟨x,v,h1,h2,h3⟩:=xK (o:=o) hT r.toL (Fr.refl _ _) rfl d
 refine⟨x,v,h1,?_,h3⟩
 have h2':((Instr.loadAt t (a.eval (.tmp s))).run P w).andThen (fun v w=>.ok (Next.value v) w)= .ok (.value v) w:=by
  have:(execOp a.eval o)=(do pure (Next.value (<-Instr.loadAt t (a.eval (.tmp s))))):=rfl
  simp_all
 show Sem.run P (asAddr (a.eval (.tmp s))>>=fun y=>loadVar t y) w=_
 have e:(Instr.loadAt t (a.eval (.tmp s)))=(Instr.sureAddr (a.eval (.tmp s))>>=fun y=>loadVar t y):=rfl
 rw[e]at h2'
 cases hv:a.eval (.tmp s)with
 | pointer pa=>
  cases pa with
  | none=>rw[hv]at h2';simp[Instr.sureAddr]at h2'
  | some ad=>
   rw[hv]at h2'
   simp only[Instr.sureAddr,asAddr,Sem.run_bind,Sem.run_pure,Result.andThen_ok]at h2' ⊢
   cases hr:(loadVar t ad).run P w with
   | ok u w'=>simp_all
   | halt x w'=>simp_all
 | _=>rw[hv]at h2';simp[Instr.sureAddr]at h2'
theorem rY {P:Program} {T:TAB} {st:St} {a:Act} {w:World} (hT:bn P T) (r:Rel st a w):∀{l:List ResultVar} {K:List Value->Prop},vO T st w.heap l K->
  ∃vs:List Value,(l.mapM (AU a.tmps)).run P w= .ok vs w/\vs.length=l.length/\K vs
 | [],_,h=>⟨[],QB,rfl,h⟩
 | .tmp t::l,K,h=>by
  simp only[vO]at h
  split at h
  ·rename_i v hv
   obtain⟨vs,h1,h2,h3⟩:=rY hT r h
   have e:=bm r.fr hv
   simp only[Act.eval]at e
   exact⟨v::vs,by simp[List.mapM_cons,AU,e,h1],by simp[h2],h3⟩
  ·exact h.elim
 | .cell s t::l,K,h=>by
  simp only[vO]at h
  obtain⟨x,v,h1,h2,h3⟩:=Fk hT r h
  split at h3
  ·rename_i u hu
   obtain⟨vs,g1,g2,g3⟩:=rY hT r h3
   have:=AVal.conc_out hu st.lc
   rw[this]at h1
   obtain rfl:=Option.some.inj h1
   refine⟨u::vs,?_,by simp[g2],g3⟩
   simp only[List.mapM_cons]
   rw[ci (show(AU a.tmps (.cell s t)).run P w= .ok u w from h2),ci g1]
   rfl
  ·exact h3.elim
theorem gY {P:Program} {T:TAB} {st:St} {a:Act} {w:World} {fn:Func} {R:Value->Prop} (hT:bn P T) (r:Rel st a w) (h:vO T st w.heap fn.results.toList fun vs=>R (one vs)):
  ∃v,(results fn a.tmps).run P w= .ok v w/\R v:=by
 obtain⟨vs,h1,h2,h3⟩:=rY hT r h
 refine⟨one vs,?_,h3⟩
 have e:results fn a.tmps=(fn.results.mapM (AU a.tmps)>>=fun vs=>pure (if h:vs.size=1 then vs[0]else .tuple vs)):=rfl
 rw[e,Array.mapM_eq_mapM_toList]
 simp only[Sem.run_bind,Sem.run_map,h1,Result.andThen_ok,Sem.run_pure]
 congr 1
 cases vs with
 | nil=>rfl
 | cons v l=>cases l<;>simp[one]
theorem rZ :∀{l:List Value} {i t:Nat} {x:AVal},look (uC l i) t=some x->∃v,x= .val v/\i<=t/\l[t-i]? =some v
 | [],_,_,_,h=>by simp[uC,look]at h
 | v::r,i,t,x,h=>by
  simp only[uC,look]at h
  cases hb:Nat.beq i t with
  | true=>
   simp_all
  | false=>
   simp only[hb]at h
   obtain⟨u,h1,h2,h3⟩:=rZ h
   exact⟨u,h1,Qz,by rw[show t-i=(t-(i+1))+1 by omega];simpa using h3⟩
def FX (E:Env) (D:Desc) (fn:Func) (c:Code) (args:List Value) (h:ab) (R:Value->ab->Prop):Prop:=
 XC E D c ⟨[],[],[]⟩ 0 ⟨uC args 0,[]⟩ h (fun st h'=>vO E.T st h' fn.results.toList fun vs=>R (one vs) h') (fun _ _ _=>False) (fun st h'=>vO E.T st h' fn.results.toList fun vs=>R (one vs) h')
theorem yf {E:Env} {f:Func} {args:List Value} (w:World) (hn':f.ntmps=E.n) (hl':args.length<=E.n):
  Rel ⟨uC args 0,[]⟩ {tmps:=args.toArray++Array.replicate (f.ntmps-args.toArray.size) undef,defers:=[]} w/\(args.toArray++Array.replicate (f.ntmps-args.toArray.size) undef).size=E.n:=by
 refine⟨⟨fun t x hx=>?_,fun s p hp=>by simp[av]at hp,fun s t p q hp=>by simp[av]at hp,rfl⟩,by simp;omega⟩
 obtain⟨v,rfl,_,h3⟩:=rZ hx
 refine⟨v,rfl,?_⟩
 grind
theorem vP {E:Env} (hE:E.OK) {D:Desc} {f:FuncId} {fn:Func} {c:Code} (hf:E.P.funcs[f]? =some fn) (hb:fn.body=some c) (hn:Nat.beq fn.ntmps E.n=true) {args:List Value} (hl:Nat.ble args.length E.n=true)
  {h:ab} {R Rp:Value->ab->Prop} (hp:E.pn=some Rp) (H:FX E D fn c args h R):aB E.P f args.toArray h R Rp:=by
 intro w hw
 subst hw
 have hn':=Nat.eq_of_beq_eq_true hn
 have hl':=Nat.le_of_ble_eq_true hl
 refine calls_of_wp hf hb ?_
 obtain⟨hr,hsize⟩:=yf (f:=fn) w hn' hl'
 refine Code.wp_mono (fun e a' w' hq=>?_) (xI hE c D _ _ _ _ _ _ _ w H hr hsize)
 cases e with
 | normal=>
  obtain⟨st,r,h1,h2,_,h4⟩:=hq
  obtain⟨v,e1,e2⟩:=gY (fn:=fn) (R:=fun v=>R v w'.heap) hE.T r h4
  exact⟨r.df,v,e1,h1,.inl ⟨v,rfl,e2⟩⟩
 | ret=>
  obtain⟨st,r,h1,h2,_,h4⟩:=hq
  obtain⟨v,e1,e2⟩:=gY (fn:=fn) (R:=fun v=>R v w'.heap) hE.T r h4
  exact⟨r.df,v,e1,h1,.inl ⟨v,rfl,e2⟩⟩
 | exit j=>obtain⟨_,_,_,_,_,h⟩:=hq;exact h.elim
 | panic ch=>
  obtain⟨E',v,q1,rfl,q2,q3,q4⟩:=hq
  rw[hp]at q1
  obtain rfl:=Option.some.inj q1
  exact⟨q2,q3,.inr ⟨v,rfl,q4⟩⟩
 | _=>exact hq.elim
theorem jo {E:Env} (hE:E.OK) {D:Desc} {f:FuncId} {fn:Func} {c:Code} (hf:E.P.funcs[f]? =some fn) (hb:fn.body=some c) (hn:Nat.beq fn.ntmps E.n=true) {args:List Value} (hl:Nat.ble args.length E.n=true)
  {h:ab} {R:Value->ab->Prop} (H:FX E D fn c args h R) (hp:E.pn=none:=by rfl):ae E.P f args.toArray h R:=by
 intro w hw
 subst hw
 have hn':=Nat.eq_of_beq_eq_true hn
 have hl':=Nat.le_of_ble_eq_true hl
 refine calls_of_wp hf hb ?_
 obtain⟨hr,hsize⟩:=yf (f:=fn) w hn' hl'
 refine Code.wp_mono (fun e a' w' hq=>?_) (xI hE c D _ _ _ _ _ _ _ w H hr hsize)
 cases e with
 | normal=>
  obtain⟨st,r,h1,h2,_,h4⟩:=hq
  obtain⟨v,e1,e2⟩:=gY (fn:=fn) (R:=fun v=>R v w'.heap) hE.T r h4
  exact⟨r.df,v,e1,v,rfl,h1,e2⟩
 | ret=>
  obtain⟨st,r,h1,h2,_,h4⟩:=hq
  obtain⟨v,e1,e2⟩:=gY (fn:=fn) (R:=fun v=>R v w'.heap) hE.T r h4
  exact⟨r.df,v,e1,v,rfl,h1,e2⟩
 | exit j=>obtain⟨_,_,_,_,_,h⟩:=hq;exact h.elim
 | panic ch=>
  obtain⟨E',v,q1,_⟩:=hq
  grind
 | _=>exact hq.elim
theorem wr {x:Int} (h1: -9223372036854775808<=x) (h2:x<=9223372036854775807):i64.wrap x=x:=by
 rw[IntKind.wrap_i64];omega
theorem af {p:Prop} [Decidable p] {A B:Prop} (a:p->A) (b:¬p->B):cnd (decide p) A B:=
 ⟨fun h=>a (of_decide_eq_true h),fun h=>b (of_decide_eq_false h)⟩
theorem aH {x y:Int} {A B:Prop} (a:x=y->A) (b:x≠y->B):cnd (x==y) A B:=
 ⟨fun h=>a (by simpa using h),fun h=>b (by simpa using h)⟩
theorem fZ {x y:Int} {A B:Prop} (a:x≠y->A) (b:x=y->B):cnd (x != y) A B:=
 ⟨fun h=>a (by simpa using h),fun h=>b (by simpa using h)⟩
theorem bo {x:Bool} {A B:Prop} (a:x=false->A) (b:x=true->B):cnd (!x) A B:=
 ⟨fun h=>a (by simpa using h),fun h=>b (by simpa using h)⟩
theorem cd {x:Bool} {A B:Prop} (a:x=true->A) (b:x=false->B):cnd x A B:=⟨a,b⟩
theorem br {c:Bool} {A B:Prop} (h:c=true) (a:A):cnd c A B:=⟨fun _=>a,fun g=>by simp[h]at g⟩
theorem aV {c:Bool} {A B:Prop} (h:c=false) (b:B):cnd c A B:=⟨fun g=>by simp[h]at g,fun _=>b⟩
theorem Fx {P:Program} {f:FuncId} {args:Array Value} {h:ab} {H:List Nat} {K R:Value->ab->Prop} (M:List Nat)
  (c:ae P f args h fun v h'=>Fr M h h'/\R v h') (hm:∀b∈H,b∉M) (k:∀v h',Fr M h h'->R v h'->K v h'):aj P f args h H K:=
 ⟨M,R,c,hm,k⟩
theorem gF {P:Program} {f:FuncId} {args:Array Value} {h:ab} {H:List Nat} {K R:Value->ab->Prop}
  (c:ae P f args h fun v h'=>Fr [] h h'/\R v h') (k:∀v h',Fr [] h h'->R v h'->K v h'):aj P f args h H K:=
 ⟨[],R,c,QB,k⟩
theorem bK {h:ab} {x:Obj}:(h.push x)[h.size]? =some x:=by simp
theorem Fy {h:ab} {b:Nat} {x:Obj} (hb:h[b]? =some x):b<h.size:=(Array.getElem?_eq_some_iff.1 hb).1
theorem Fr.pushr {M:List Nat} {a b:ab} (h:Fr M a b) (x:Obj):Fr M a (b.push x):=h.trans (Fr.push b x).nil
theorem Fr.hsetr {M:List Nat} {a b:ab} (h:Fr M a b) {g o:Nat} {v:Value} (hg:a.size<=g\/g∈M):Fr M a (X.am b g o v):=
 ⟨by simpa using h.size,fun i hi hm=>by
  rw[gI,h.blk i hi hm]
  grind⟩
theorem Fr.of_eq {M:List Nat} {h h':ab} (e:h'=h):Fr M h h':=e▸Fr.refl M h
theorem Fr.comp {M N:List Nat} {a b c:ab} (h:Fr M a b) (k:Fr N b c) (hn:∀x∈N,x∈M\/a.size<=x):Fr M a c:=
 ⟨Nat.le_trans h.size k.size,fun i hi hm=>(k.blk i (Nat.lt_of_lt_of_le hi h.size) fun hx=>(hn i hx).elim hm fun e=>by omega).trans (h.blk i hi hm)⟩
def mI (n:Int) (l:List Value) (_:ab):Nat:=
 match l with
 | .int _ x::_=>(n-x).toNat
 | _=>0
theorem ar.nil (h:ab) (e sz:Nat):ar h e sz none 0 0 []:=⟨QB,.inl ⟨rfl,rfl,rfl⟩⟩
theorem ar.blk {h h':ab} {e sz n c:Nat} {a:QR} {xs:List Value} (o:ar h e sz a n c xs) (hb:∀b∈ai a,h'[b]? =h[b]?):ar h' e sz a n c xs:=by
 obtain⟨h1,h2⟩:=o
 refine⟨h1,h2.imp id ?_⟩
 rintro⟨g,cur,rfl,h3,h4⟩
 exact⟨g,cur,rfl,h3.congr (hb g (by simp[ai])),h4⟩
theorem ar.lt {h:ab} {e sz n c:Nat} {a:QR} {xs:List Value} (o:ar h e sz a n c xs):∀b∈ai a,b<h.size:=by
 obtain⟨h1,h2⟩:=o
 rcases h2 with⟨rfl,_⟩ | ⟨g,cur,rfl,h3,h4⟩
 ·simp[ai]
 ·simpa[ai]using h3.lt
theorem ar.fr {h h':ab} {e sz n c:Nat} {a:QR} {xs:List Value} {M:List Nat} (o:ar h e sz a n c xs) (f:Fr M h h') (hm:∀b∈ai a,b∉M):ar h' e sz a n c xs:=
 o.blk fun b hb=>f.blk b (o.lt b hb) (hm b hb)
theorem ar.cap {h:ab} {e sz n c:Nat} {a:QR} {xs:List Value} (o:ar h e sz a n c xs):n<=c/\c<=maxLen:=by
 obtain⟨h1,h2⟩:=o
 omega
theorem ar.reads {h:ab} {e sz n c:Nat} {a:QR} {xs:List Value} (o:ar h e sz a n c xs):Reads h sz a n xs:=by
 obtain⟨h1,h2⟩:=o
 refine⟨h1,?_⟩
 rcases h2 with⟨rfl,rfl,rfl⟩ | ⟨g,cur,rfl,h3,h4,h5,h6,h7⟩
 ·grind
 ·refine .inr ⟨g,0,rfl,fun j v hj=>?_⟩
  rw[h3.cell,Nat.zero_add]
  grind
theorem Reads.at {h:ab} {sz n:Nat} {a:QR} {xs:List Value} (r:Reads h sz a n xs) (hn:0<n):
  ∃b o,a=some ⟨b,o,none⟩/\∀j v,xs[j]? =some v->ac h b (o+j)=some v:=by
 rcases r.2 with⟨_,rfl⟩ | h2
 ·omega
 ·exact h2
theorem ar.at {h:ab} {e sz n c:Nat} {a:QR} {xs:List Value} (o:ar h e sz a n c xs) (hn:0<n):
  ∃g cur,a=some ⟨g,0,none⟩/\Blk h g e cur/\c*sz<=cur.size/\cur.toList.take (n*sz)=xs:=by
 rcases o.2 with⟨_,rfl,_⟩ | ⟨g,cur,h1,h2,h3,h4,h5,h6⟩
 ·omega
 grind
theorem ar.set {h:ab} {e sz n c:Nat} {g:Nat} {xs:List Value} (o:ar h e sz (some ⟨g,0,none⟩) n c xs) (k:Nat) (v:Value):
  ar (am h g k v) e sz (some ⟨g,0,none⟩) n c (xs.set k v):=by
 obtain⟨h1,h2⟩:=o
 refine⟨by simpa using h1,.inr ?_⟩
 rcases h2 with⟨h2,_⟩ | ⟨g',cur,h2,h3,h4,h5,h6,h7⟩
 ·simp at h2
 ·simp at h2;subst h2
  refine⟨g,_,rfl,h3.set k v,h4,h5,by simpa using h6,?_⟩
  rw[<-h7]
  simp[List.take_set]
theorem ar.cell {h:ab} {e sz n c:Nat} {g:Nat} {xs:List Value} (o:ar h e sz (some ⟨g,0,none⟩) n c xs) {k:Nat} {v:Value} (hk:xs[k]? =some v):
  ac h g k=some v:=by
 rcases o.reads.2 with⟨h2,_⟩ | ⟨b,o',h2,h3⟩
 ·simp at h2
 grind
theorem ar.free {h:ab} {e sz n c:Nat} {g:Nat} {xs:List Value} (o:ar h e sz (some ⟨g,0,none⟩) n c xs) (k:Nat):au h g k=true:=by
 rcases o.2 with⟨h2,_⟩ | ⟨g',cur,h2,h3,_⟩
 ·simp at h2
 ·simp at h2;subst h2
  exact h3.free k
theorem IG {h:ab} {e sz n:Nat} {xs:List Value} (hl:xs.length=n*sz) (hn:n<=maxLen):ar (h.push (.cells xs.toArray e)) e sz (some ⟨h.size,0,none⟩) n n xs:=
 ⟨hl,.inr ⟨h.size,_,rfl,.of bK,Nat.le_refl _,hn,by simp[hl],by simp[<-hl]⟩⟩
end Go.X
namespace Go.Proofs.YtemphinmoihdaaaGreatDoor.G
abbrev F :=Nat × Nat
inductive Er (α:Type) where
 | ok (a:α)
 | no (f:F)
 | un
def Er.bind {α β:Type} (x:Er α) (k:α->Er β):Er β:=
 match x with
 | .ok a=>k a
 | .no f=>.no f
 | .un=>.un
def bJ {α:Type} (b:Bool) (f:F) (k:Er α):Er α:=
 match b with
 | true=>k
 | false=>.no f
def bt (s:ByteArray) (i:Nat):Nat:=
 match s[i]? with
 | some c=>c.toNat
 | none=>256
def qp (c:Nat):Bool:=decide (97<=c/\c<=122\/65<=c/\c<=90)
def me (c:Nat):Bool:=decide (48<=c/\c<=57)
def cj (c:Nat):Bool:=decide (c=32\/c=9\/c=10\/c=13)
def bO (c:Nat):Bool:=decide (32<=c/\c<=126)
def jg (c:Nat):Bool:=qp c||me c||decide (c=43\/c=45\/c=46)
def run (p:Nat->Bool) (s:ByteArray) (i:Nat):Nat:=
 if i<s.size/\p (bt s i)=true then run p s (i+1)else i
termination_by s.size-i
theorem uK (p:Nat->Bool) (s:ByteArray) (i:Nat):i<=run p s i:=by
 have gen:∀n i,s.size-i=n->i<=run p s i:=by
  intro n
  induction n with
  | zero=>intro i hi;rw[run,if_neg Qz];omega
  | succ n ih=>
   intro i hi
   rw[run]
   grind
 grind
def amp :QS:=[38,97,109,112,59]
def yB :QS:=[38,113,117,111,116,59]
def ltB :QS:=[38,108,116,59]
def gtB :QS:=[38,103,116,59]
def Jn :QS:=[38,97,112,111,115,59]
def jv (s:ByteArray):Nat->Nat->Nat->Nat × Nat
 | 0,n,i=>(n,i)
 | k+1,n,i=>if me (bt s i)=true then jv s k (10*n+(bt s i-48)) (i+1)else(n,i)
def preB (s:ByteArray) (i:Nat) (l:QS):Bool:=decide ((s.extract i (i+l.length)).data.toList=l)
def mkB (l:QS):ByteArray:=⟨l.toArray⟩
def part (s:ByteArray) (i:Nat):Option (Nat × Nat):=
 if preB s i amp=true then some (38,5)
 else if preB s i yB=true then some (34,6)
 else if preB s i ltB=true then some (60,4)
 else if preB s i gtB=true then some (62,4)
 else if preB s i Jn=true then some (39,6)
 else if preB s i [38,35]=false then none
 else match jv s 3 0 (i+2)with
  | (n,k)=>if k=i+2\/bt s k≠59\/bO n=false then none else some (n,k+1-i)
def noB :ByteArray:=ByteArray.empty
def Pv :QS:=[78,97,78]
def Pw :QS:=[73,78,70]
def yC (l:QS):Nat:=l.foldl (fun n c=>10*n+(c.toNat-48)) 0
structure Dc where
 n:Nat
 dir:Bool
 edges:List (Nat × Nat)
 labels:List ByteArray
 spots:List (Nat × Nat)
 weights:List Nat
def kz (c:Nat):Bool:=qp c||decide (c=95)
def jb (c:Nat):Bool:=kz c||me c||decide (c=46\/c=58\/c=45)
def want (s:ByteArray) (c i:Nat):Er Nat:=bJ (decide (bt s i=c)) (i,15) (.ok (i+1))
def mi (s:ByteArray) (i:Nat):Er (ByteArray × Nat):=bJ (kz (bt s i)) (i,15) (.ok (s.extract i (run jb s i),run jb s i))
def jc (s:ByteArray) (ends may:Nat->Bool) (i:Nat) (out:QS):Er (Option QS × Nat):=
 if i<s.size then
  if ends (bt s i)=true then .ok (some out,i)
  else if bt s i=38 then
   match part s i with
   | some (c,n)=>jc s ends may (i+(n-1)+1) (out++[UInt8.ofNat c])
   | none=>.no (i,15)
  else if may (bt s i)=true then jc s ends may (i+1) (out++[UInt8.ofNat (bt s i)])
  else .no (i,15)
 else .ok (none,s.size)
termination_by s.size-i
structure Atr where
 name:ByteArray
 says:ByteArray
 at_:Nat
structure Tg where
 name:ByteArray
 at_:Nat
 nameAt:Nat
 list:List Atr
 whole:Bool
def eqB (a b:ByteArray):Bool:=a.data.toList==b.data.toList
def jT (s:ByteArray) (ahead:List Atr) (i:Nat):Er (Atr × Nat):=
 (mi s i).bind fun(nm,j)=>bJ (ahead.all fun a=> !eqB a.name nm) (i,18) <| (want s 61 j).bind fun k=>
  bJ (decide (bt s k=34\/bt s k=39)) (k,15) <| (jc s (fun c=>decide (c=bt s k)) (fun c=>bO c&&decide (c≠60)) (k+1) []).bind fun(o,e)=>
   match o with
   | some l=>.ok (⟨nm,mkB l,k+1⟩,e+1)
   | none=>.no (k,15)
def bw (s:ByteArray):Nat->List Atr->Nat->Er (List Atr × Bool × Nat)
 | 0,_,_=>.un
 | n+1,l,i=>
  let j:=run cj s i
  if bt s j=62 then .ok (l,false,j+1)
  else if bt s j=47 then(want s 62 (j+1)).bind fun k=>.ok (l,true,k)
  else bJ (decide (i<j)) (j,15) <| (jT s l j).bind fun(a,k)=>bw s n (l++[a]) k
def iz (s:ByteArray) (nm:ByteArray) (i:Nat):Er Nat:=
 (want s 47 i).bind fun j=>(mi s j).bind fun(x,k)=>bJ (eqB x nm) (j,15) <| want s 62 (run cj s k)
def mh (s:ByteArray) (l:QS):Nat->Nat->Option Nat
 | 0,_=>none
 | n+1,i=>if preB s i l=true then some i else mh s l n (i+1)
def cC :QS:=[45,45,62]
def dS (s:ByteArray):Nat->Nat->Er (Option Nat)
 | 0,_=>.un
 | n+1,i=>
  let j:=run cj s i
  if j>=s.size then .ok none
  else(want s 60 j).bind fun k=>
   if bt s k≠33 then .ok (some k)
   else(want s 45 (k+1)).bind fun k=>(want s 45 k).bind fun k=>
    match mh s cC (s.size+1-k) k with
    | some e=>dS s n (e+3)
    | none=>.no (j,15)
def kO (t:Tg) (nm:QS):Option Atr:=t.list.find? fun a=>a.name.data.toList==nm
def fJ (t:Tg):List QS->Er Unit
 | []=>.ok ()
 | x::r=>bJ (kO t x).isSome (t.at_,14) (fJ t r)
structure Xd where
 i:Nat
 n:Nat
 dir:Bool
 graph:Bool
 keys:List (ByteArray × ByteArray × ByteArray)
 ids:List (ByteArray × Nat)
 ends:List (ByteArray × Nat)
 labels:List ByteArray
 spots:List (Nat × Nat)
 weights:List Nat
 h0:Bool
 h1:Bool
 h2:Bool
abbrev Xs :=List QS × Xd
def Xs.at (x:Xs) (i:Nat):Xs:=(x.1,{x.2 with i:=i})
abbrev Kd :=Tg->Xs->Er Xs
abbrev My :=ByteArray->Nat->Xs->Er (Xs × Kd)
section
variable (s:ByteArray) (rd:ByteArray->Option (Nat × Nat)) (cl:Nat->Nat)
def elem (may:My) (x:Xs):Er Xs:=
 (mi s x.2.i).bind fun(nm,j)=>(may nm x.2.i (x.at j)).bind fun(x1,read)=>(bw s (s.size+1) [] x1.2.i).bind fun(l,w,k)=>read ⟨nm,x.2.i-1,x.2.i,l,w⟩ (x1.at k)
def inX (el:Xs->Er Xs) (nm:ByteArray):Nat->Xs->Er Xs
 | 0,_=>.un
 | n+1,x=>(dS s (s.size+1) x.2.i).bind fun o=>
  match o with
  | none=>.no (s.size,15)
  | some i=>if bt s i=47 then(iz s nm i).bind fun j=>.ok (x.at j)else(el (x.at i)).bind fun x'=>inX el nm n x'
def within (el:Xs->Er Xs) (t:Tg) (x:Xs):Er Xs:=if t.whole=true then .ok x else inX s el t.name (s.size+1) x
def kP :My:=fun _ at_ _=>.no (at_,16)
def below (k:Xd->Er Xs) (x:Xs):Er Xs:=(k x.2).bind fun y=>.ok (x.1,y.2)
def hO :QS:=[107,101,121]
def gw :QS:=[103,114,97,112,104]
def cZ :QS:=[103,114,97,112,104,109,108]
def aR :QS:=[110,111,100,101]
def cN :QS:=[101,100,103,101]
def fK :QS:=[100,97,116,97]
def xId :QS:=[105,100]
def fN :QS:=[102,111,114]
def di :QS:=[97,116,116,114,46,110,97,109,101]
def bx :QS:=[101,100,103,101,100,101,102,97,117,108,116]
def cA :QS:=[100,105,114,101,99,116,101,100]
def gM :QS:=[117,110,100,105,114,101,99,116,101,100]
def bS :QS:=[115,111,117,114,99,101]
def bT :QS:=[116,97,114,103,101,116]
def ey :QS:=[108,97,98,101,108]
def xX :QS:=[120]
def xY :QS:=[121]
def dX :QS:=[119,101,105,103,104,116]
def cM (r:Xd):List Atr->Er Unit
 | []=>.ok ()
 | a::l=>
  if a.name.data.toList=fN then bJ (decide (a.says.data.toList=aR\/a.says.data.toList=cN)) (a.at_,16) (cM r l)
  else if a.name.data.toList=xId then bJ (!r.keys.any fun k=>eqB k.1 a.says) (a.at_,18) (cM r l)
  else cM r l
def aG (t:Tg) (nm:QS):ByteArray:=((kO t nm).map (·.says)).getD noB
def kR (t:Tg) (nm:QS):Nat:=((kO t nm).map (·.at_)).getD 0
def sO :Kd:=fun t=>below fun r=>
 (fJ t [xId,fN,di]).bind fun _=>(cM r t.list).bind fun _=>
  within s (elem s kP) t ([],{r with keys:=r.keys++[(aG t xId,aG t fN,aG t di)]})
def gG (t:Tg) (r:Xs):Er (ByteArray × Nat × Xs):=
 if t.whole=true then .ok (noB,r.2.i,r)
 else(jc s (fun c=>decide (c=60)) (fun c=>bO c||cj c) r.2.i []).bind fun(o,e)=>
  match o with
  | none=>.no (s.size,15)
  | some l=>(iz s t.name (e+1)).bind fun j=>.ok (mkB l,r.2.i,r.at j)
def qz :QS->QS
 | []=>[]
 | c::l=>if cj c.toNat=true then qz l else c::l
def trimB (l:QS):QS:=(qz (qz l).reverse).reverse
def pO (says:ByteArray) (at_:Nat):Er Nat:=
 match rd (mkB (trimB says.data.toList))with
 | some (x,0)=>.ok (cl x)
 | some (_,e+1)=>.no (at_,e+1)
 | none=>.un
def dq (node:Bool) (nm:QS):Nat:=
 if node=true then(if nm=ey then 1 else if nm=xX then 2 else if nm=xY then 3 else 0)else if nm=dX then 4 else 0
def dQ (t v:Nat) (says:ByteArray) (at_:Nat) (r:Xd):Er Xd:=
 if t=1 then bJ (decide (says.size<=256)) (at_,23) <| bJ (says.data.toList.all fun c=>bO c.toNat) (at_,25) <| .ok {r with labels:=r.labels.set v says,h0:=true}
 else(pO rd cl says at_).bind fun x=>
  if t=2 then .ok {r with spots:=r.spots.modify v fun p=>(x,p.2),h1:=true}
  else if t=3 then .ok {r with spots:=r.spots.modify v fun p=>(p.1,x),h1:=true}
  else .ok {r with weights:=r.weights.set v x,h2:=true}
def mj (node:Bool) (v:Nat) (nm:ByteArray):Kd:=fun d x=>
 (fJ d [hO]).bind fun _=>
  match x.2.keys.find? fun k=>eqB k.1 (aG d hO)with
  | none=>.no (kR d hO,14)
  | some (_,of,name)=>bJ (eqB of nm) (kR d hO,14) <|
   let t:=dq node name.data.toList
   bJ (decide (t=0)|| !x.1.contains name.data.toList) (kR d hO,18) <| (gG s d (if t=0 then x else(x.1++[name.data.toList],x.2))).bind fun(says,at_,y)=>
    if t=0 then .ok y else(dQ rd cl t v says at_ y.2).bind fun r=>.ok (y.1,r)
def ic (node:Bool) (v:Nat) (nm:ByteArray):My:=fun n at_ x=>if n.data.toList=fK then .ok (x,mj s rd cl node v nm)else .no (at_,16)
def fm (node:Bool) (v:Nat) (t:Tg) (r:Xd):Er Xs:=within s (elem s (ic s rd cl node v t.name)) t ([],r)
def jx :Kd:=fun t=>below fun r=>
 (fJ t [xId]).bind fun _=>bJ (!r.ids.any fun p=>eqB p.1 (aG t xId)) (kR t xId,18) <|
  fm s rd cl true r.n t {r with n:=r.n+1,ids:=r.ids++[(aG t xId,r.n)],labels:=r.labels++[noB],spots:=r.spots++[(0,0)]}
def ji :Kd:=fun t=>below fun r=>
 (fJ t [bS,bT]).bind fun _=>
  fm s rd cl false r.weights.length t {r with ends:=r.ends++[(aG t bS,kR t bS),(aG t bT,kR t bT)],weights:=r.weights++[4607182418800017408]}
def aP :My:=fun nm at_ x=>
 if nm.data.toList=aR then bJ (decide (x.2.n<1024)) (at_,3) (.ok (x,jx s rd cl))
 else if nm.data.toList=cN then bJ (decide (x.2.weights.length<3072)) (at_,3) (.ok (x,ji s rd cl))
 else .no (at_,16)
def jU :Kd:=fun t=>below fun r=>
 (fJ t [bx]).bind fun _=>bJ (decide ((aG t bx).data.toList=cA\/(aG t bx).data.toList=gM)) (kR t bx,16) <|
  within s (elem s (aP s rd cl)) t ([],{r with dir:=decide ((aG t bx).data.toList=cA)})
def aZ :My:=fun nm at_ x=>
 if nm.data.toList=hO then bJ (decide (x.2.keys.length<64)) (at_,3) (.ok (x,sO s))
 else if nm.data.toList=gw then bJ (!x.2.graph) (at_,18) (.ok ((x.1,{x.2 with graph:=true}),jU s rd cl))
 else .no (at_,16)
def sP :My:=fun nm at_ x=>
 if nm.data.toList=cZ then .ok (x,fun t x=>within s (elem s (aZ s rd cl)) t x)else .no (at_,16)
def kS :QS:=[60,63,120,109,108]
def same (s:ByteArray):QS->Nat->Nat
 | [],i=>i
 | c::l,i=>if bt s i=c.toNat then same s l (i+1)else i
def head (s:ByteArray):Er Nat:=
 let n:=same s kS 0
 if n<2 then .ok 0
 else bJ (decide (n=5)) (n,15) <|
  match mh s [63,62] (s.size+1) 0 with
  | some k=>.ok (k+2)
  | none=>.no (0,15)
def jj (ids:List (ByteArray × Nat)) (x:ByteArray × Nat):Er Nat:=
 match ids.find? fun p=>eqB p.1 x.1 with
 | some p=>.ok p.2
 | none=>.no (x.2,14)
def dt (ids:List (ByteArray × Nat)):List (ByteArray × Nat)->Er (List (Nat × Nat))
 | a::b::r=>(jj ids a).bind fun x=>(jj ids b).bind fun y=>(dt ids r).bind fun l=>.ok ((x,y)::l)
 | _=>.ok []
def ba :Xd:=⟨0,0,false,false,[],[],[],[],[],[],false,false,false⟩
def qB (i:Nat):Er Xd:=
 (dS s (s.size+1) i).bind fun o=>
  match o with
  | none=>.no (s.size,15)
  | some i=>(elem s (sP s rd cl) ([],{ba with i:=i})).bind fun x=>(dS s (s.size+1) x.2.i).bind fun o=>
   match o with
   | some i=>(elem s kP (x.at i)).bind fun _=>.un
   | none=>.ok x.2
def fL :Er Dc:=
 bJ (decide (s.size<=262144)) (0,23) <| (head s).bind fun i=>(qB s rd cl i).bind fun r=>
  bJ r.graph (s.size,14) <| (dt r.ids r.ends).bind fun es=>
   .ok ⟨r.n,r.dir,es,if r.h0=true then r.labels else [],if r.h1=true then r.spots else [],if r.h2=true then r.weights else []⟩
end
theorem yz (s:ByteArray) (i:Nat):bt s i=(match s.data.toList[i]? with
  | some c=>c.toNat
  | none=>256):=by
 unfold bt
 by_cases h:i<s.size
 ·have h2:i<s.data.toList.length:=h
  rw[List.getElem?_eq_getElem h2,getElem?_pos s i h]
  rfl
 simp_all
def At (s:ByteArray) (i:Nat) (l:QS):Prop:=i<=s.size/\s.data.toList.drop i=l
theorem qo (s:ByteArray):s.size=s.data.toList.length:=rfl
theorem At.start (s:ByteArray):At s 0 s.data.toList:=⟨Nat.zero_le _,rfl⟩
theorem At.nil {s:ByteArray} {i:Nat} (a:At s i []):i=s.size:=by
 obtain⟨h,e⟩:=a
 have:=congrArg List.length e
 grind [qo]
theorem At.len {s:ByteArray} {i:Nat} {l:QS} (a:At s i l):s.size-i=l.length:=by
 obtain⟨h,e⟩:=a
 grind [qo]
theorem At.cons {s:ByteArray} {i:Nat} {c:UInt8} {l:QS} (a:At s i (c::l)):i<s.size/\bt s i=c.toNat/\At s (i+1) l:=by
 have hl:=a.len
 obtain⟨h,e⟩:=a
 rw[List.length_cons]at hl
 refine⟨Qz,?_,Qz,?_⟩
 ·have:s.data.toList[i]? =some c:=by
   have:=congrArg (fun l=>l[0]?) e
   grind
  rw[yz,this]
 ·rw[<-List.drop_drop,e];rfl
theorem At.app {s:ByteArray} {i:Nat} {w l:QS} (a:At s i (w++l)):At s (i+w.length) l:=by
 have hl:=a.len
 obtain⟨h,e⟩:=a
 rw[List.length_append]at hl
 refine⟨Qz,?_⟩
 grind [List.drop_drop,List.drop_left]
theorem At.ext {s:ByteArray} {i:Nat} {w l:QS} (a:At s i (w++l)):(s.extract i (i+w.length)).data.toList=w:=by
 obtain⟨h,e⟩:=a
 simp_all
def kF (p:Nat->Bool) (l:QS):Prop:=∀c r,l=c::r->p c.toNat=false
theorem kF.cons {p:Nat->Bool} {c:UInt8} {r:QS} (h:p c.toNat=false):kF p (c::r):=fun c' r' e=>by grind
theorem uJ {p:Nat->Bool} {s:ByteArray}:∀{w l:QS} {i:Nat},At s i (w++l)->(∀c∈w,p c.toNat=true)->kF p l->run p s i=i+w.length
 | [],l,i,a,_,hs=>by
  rw[run]
  cases l with
  | nil=>rw[if_neg (by have:=a.nil;omega)];rfl
  | cons c r=>
   obtain⟨h1,h2,h3⟩:=At.cons a
   rw[if_neg (by rw[h2,hs c r rfl];simp)];rfl
 | c::w,l,i,a,hw,hs=>by
  obtain⟨h1,h2,h3⟩:=At.cons (l:=w++l) a
  rw[run,if_pos ⟨h1,QD⟩,uJ h3 (fun c hc=>hw c (by simp[hc])) hs,List.length_cons]
  omega
theorem jQ {s:ByteArray} {i:Nat} {w l:QS} (a:At s i (w++l)):preB s i w=true:=by
 unfold preB;rw[At.ext a];simp
theorem nh {s:ByteArray} {i:Nat} {w k l:QS} (a:At s i (w++l)) (hk:∀r,w++l≠k++r):preB s i k=false:=by
 unfold preB
 simp only[decide_eq_false_iff_not]
 obtain⟨h,e⟩:=a
 grind [ByteArray.data_extract,Array.toList_extract,List.take_append_drop]
theorem B9 {s:ByteArray} {i:Nat} {l:QS} (a:At s i (amp++l)):part s i=some (38,5):=by
 unfold part;rw[if_pos (jQ a)]
section
variable {s:ByteArray} {rd:ByteArray->Option (Nat × Nat)} {cl:Nat->Nat}
end
def dg (n:Nat):UInt8:=UInt8.ofNat (48+n % 10)
def dec (n:Nat):QS:=if n<10 then [dg n]else dec (n/10)++[dg n]
termination_by n
theorem Cc (n:Nat):(dg n).toNat=48+n % 10:=by
 grind [dg,UInt8.toNat_ofNat']
theorem zP (n:Nat):∀c∈dec n,me c.toNat=true:=by
 induction n using Nat.strongRecOn<;>grind [dec,me,dg,Cc]
theorem Cd (l:QS) (c:UInt8):yC (l++[c])=10*yC l+(c.toNat-48):=by simp[yC]
theorem ni (n:Nat):yC (dec n)=n:=by
 induction n using Nat.strongRecOn<;>grind [dec,yC,Cc,Cd]
theorem FD (k:Nat):∀n,n<10^(k+1)->(dec n).length<=k+1:=by
 induction k with
 | zero=>
  intro n hn
  rw[dec,if_pos (by simpa using hn)];simp
 | succ k ih=>
  grind [dec]
structure IsNum (k:QS):Prop where
 hd:∃c r,k=c::r/\(me c.toNat=true\/c.toNat=43\/c.toNat=45\/c.toNat=46)
 all:∀c∈k,jg c.toNat=true
def Pu (rd:ByteArray->Option (Nat × Nat)) (k:QS) (v:Nat):Prop:=(IsNum k\/k=Pv\/k=Pw)/\∀b:ByteArray,b.data.toList=k->rd b=some (v,0)
def idt (x:Int):QS:=if x<0 then 45::dec x.natAbs else dec x.natAbs
theorem yA {c:Nat} (h:cj c=true):c=32\/c=9\/c=10\/c=13:=by simpa[cj]using h
section
variable {s:ByteArray}
theorem jh {i:Nat} {c:UInt8} {l:QS} (a:At s i (c::l)):want s c.toNat i= .ok (i+1)/\At s (i+1) l:=by
 obtain⟨h1,h2,h3⟩:=a.cons
 refine⟨?_,h3⟩
 unfold want
 rw[h2,decide_eq_true rfl];rfl
structure Nx (k l:QS):Prop where
 hd:∃c r,k=c::r/\kz c.toNat=true
 all:∀c∈k,jb c.toNat=true
 st:kF jb l
theorem uT {i:Nat} {k l:QS} (hk:Nx k l) (a:At s i (k++l)):∃x:ByteArray,x.data.toList=k/\mi s i= .ok (x,i+k.length)/\At s (i+k.length) l:=by
 obtain⟨c,r,rfl,hc⟩:=hk.hd
 obtain⟨h1,h2,h3⟩:=At.cons (l:=r++l) a
 have hr:=uJ (p:=jb) a hk.all hk.st
 refine⟨s.extract i (i+(c::r).length),At.ext a,?_,At.app a⟩
 unfold mi
 rw[h2,hc,hr];rfl
def Bs (w:QS):Prop:=∀c∈w,cj c.toNat=true
theorem it {i:Nat} {w l:QS} (hw:Bs w) (hl:kF cj l) (a:At s i (w++l)):run cj s i=i+w.length/\At s (i+w.length) l:=⟨uJ a hw hl,At.app a⟩
def zZ (ends may:Nat->Bool) (e:UInt8->QS) (c:UInt8):Prop:=
 (e c=[c]/\ends c.toNat=false/\c.toNat≠38/\may c.toNat=true)\/
 (ends 38=false/\(∃r,e c=38::r)/\∀(s:ByteArray) (i:Nat) (l:QS),At s i (e c++l)->part s i=some (c.toNat,(e c).length))
theorem yK {ends may:Nat->Bool} {e:UInt8->QS} {q:UInt8} (hq:ends q.toNat=true):∀{x l:QS} {i:Nat} {out:QS},At s i (x.flatMap e++q::l)->(∀c∈x,zZ ends may e c)->
  jc s ends may i out= .ok (some (out++x),i+(x.flatMap e).length)
 | [],l,i,out,a,_=>by
  obtain⟨h1,h2,h3⟩:=At.cons (c:=q) (l:=l) a
  rw[jc,if_pos h1,h2,if_pos hq]
  simp
 | c::x,l,i,out,a,hx=>by
  have ee:(c::x).flatMap e=e c++x.flatMap e:=rfl
  rw[ee,List.append_assoc]at a
  have a2:=At.app a
  have ih:=fun o=>yK (may:=may) hq (out:=o) a2 (fun c hc=>hx c (by simp[hc]))
  rcases hx c QB with⟨e1,e2,e3,e4⟩ | ⟨e1,⟨r,e2⟩,e3⟩
  ·rw[e1]at a ih
   obtain⟨h1,h2,h3⟩:=At.cons (l:=x.flatMap e++q::l) a
   rw[jc,if_pos h1,h2,if_neg (by rw[e2];simp),if_neg e3,if_pos e4,UInt8.ofNat_toNat]
   have ih:=ih (out++[c])
   simp only[List.length_singleton]at ih
   rw[ih,ee,e1,List.append_assoc]
   simp only[List.singleton_append,List.length_cons]
   congr 2;omega
  ·have hp:=e3 s i _ a
   have a':=a
   rw[e2]at a'
   obtain⟨h1,h2,h3⟩:=At.cons (l:=r++(x.flatMap e++q::l)) a'
   have e38:(38:UInt8).toNat=38:=rfl
   rw[e38]at h2
   have hl:0<(e c).length:=by rw[e2];simp
   rw[jc,if_pos h1,h2,if_neg (by rw[e1];simp),if_pos rfl,hp]
   simp only[]
   rw[show i+((e c).length-1)+1=i+(e c).length by omega,UInt8.ofNat_toNat,ih (out++[c])]
   rw[ee,List.append_assoc,List.length_append]
   simp only[List.singleton_append]
   congr 2;omega
def oJ (k:QS) (q:UInt8) (e:UInt8->QS) (x:QS):QS:=k++61::q::(x.flatMap e++[q])
theorem Mo :jb (61:UInt8).toNat=false:=by decide
structure AtOK (k:QS) (q:UInt8) (e:UInt8->QS) (x:QS) (L:List Atr):Prop where
 nx:(∃c r,k=c::r/\kz c.toNat=true)/\∀c∈k,jb c.toNat=true
 qt:q=34\/q=39
 enc:∀c∈x,zZ (fun c=>decide (c=q.toNat)) (fun c=>bO c&&decide (c≠60)) e c
 new:∀a∈L,a.name.data.toList≠k
theorem wm {n i:Nat} {L:List Atr} {w k x l:QS} {q:UInt8} {e:UInt8->QS} (hw:Bs w) (hw0:w≠[]) (ok:AtOK k q e x L) (a:At s i (w++(oJ k q e x++l))):
  ∃at_:Atr,at_.name.data.toList=k/\at_.says=mkB x/\bw s (n+1) L i=bw s n (L++[at_]) (i+(w++oJ k q e x).length)/\At s (i+(w++oJ k q e x).length) l:=by
 have aE:At s (i+(w++oJ k q e x).length) l:=by rw[<-List.append_assoc]at a;exact At.app a
 obtain⟨⟨c,r,rfl,hc⟩,hall⟩:=ok.nx
 have a:At s i (w++((c::r)++(61::(q::(x.flatMap e++q::l))))):=by simpa[oJ,List.append_assoc]using a
 have hb:c.toNat≠62/\c.toNat≠47/\cj c.toNat=false:=by
  have:(97<=c.toNat/\c.toNat<=122\/65<=c.toNat/\c.toNat<=90)\/c.toNat=95:=by simpa[kz,qp]using hc
  refine⟨Qz,Qz,?_⟩
  simp[cj];omega
 obtain⟨r1,a1⟩:=it hw (kF.cons hb.2.2) a
 obtain⟨nm,hnm,hn,a2⟩:=uT (i:=i+w.length) ⟨⟨c,r,rfl,hc⟩,hall,kF.cons Mo⟩ a1
 obtain⟨w1,a3⟩:=jh a2
 have w1:want s 61 (i+w.length+(c::r).length)= .ok (i+w.length+(c::r).length+1):=w1
 obtain⟨q1,q2,a4⟩:=a3.cons
 have t:=yK (may:=fun c=>bO c&&decide (c≠60)) (ends:=fun c=>decide (c=q.toNat)) (q:=q) QB (out:=[]) a4 ok.enc
 rw[List.nil_append]at t
 have hw1:0<w.length:=List.length_pos_iff.2 hw0
 obtain⟨b1,b2,b3⟩:=At.cons (l:=r++(61::(q::(x.flatMap e++q::l)))) a1
 refine⟨⟨nm,mkB x,i+w.length+(c::r).length+1+1⟩,hnm,rfl,?_,aE⟩
 rw[bw]
 simp only[r1,b2]
 rw[if_neg hb.1,if_neg hb.2.1,show decide (i<i+w.length)=true by simpa using hw1]
 simp only[bJ]
 have hat:jT s L (i+w.length)= .ok (⟨nm,mkB x,i+w.length+(c::r).length+1+1⟩,i+w.length+(c::r).length+1+1+(x.flatMap e).length+1):=by
  unfold jT
  rw[hn]
  simp only[Er.bind]
  have hall:(L.all fun a=> !eqB a.name nm)=true:=by
   rw[List.all_eq_true]
   intro a ha
   have:=ok.new a ha
   simp only[eqB,hnm,Bool.not_eq_true',beq_eq_false_iff_ne]
   exact this
  rw[hall]
  simp only[bJ]
  rw[w1]
  simp only[Er.bind,q2]
  have hq:decide (q.toNat=34\/q.toNat=39)=true:=by rcases ok.qt with rfl | rfl<;>decide
  rw[hq]
  simp only[bJ]
  rw[t]
 rw[hat]
 simp only[Er.bind]
 congr 1
 simp only[oJ,List.length_append,List.length_cons,List.length_nil]
 omega
theorem yL {n i:Nat} {L:List Atr} {w l:QS} (hw:Bs w) (a:At s i (w++62::l)):bw s (n+1) L i= .ok (L,false,i+w.length+1)/\At s (i+w.length+1) l:=by
 obtain⟨r1,a1⟩:=it hw (kF.cons QA) a
 obtain⟨b1,b2,b3⟩:=a1.cons
 refine⟨?_,b3⟩
 rw[bw]
 simp only[r1,b2]
 rw[if_pos QA]
theorem yM {n i:Nat} {L:List Atr} {w l:QS} (hw:Bs w) (a:At s i (w++47::62::l)):bw s (n+1) L i= .ok (L,true,i+w.length+2)/\At s (i+w.length+2) l:=by
 obtain⟨r1,a1⟩:=it hw (kF.cons QA) a
 obtain⟨b1,b2,b3⟩:=a1.cons
 obtain⟨w1,a2⟩:=jh b3
 have w1:want s 62 (i+w.length+1)= .ok (i+w.length+1+1):=w1
 refine⟨?_,a2⟩
 rw[bw]
 simp only[r1,b2]
 rw[if_neg QA,if_pos QA,w1]
 rfl
theorem wn {i:Nat} {nm:ByteArray} {k w l:QS} (hk:(∃c r,k=c::r/\kz c.toNat=true)/\∀c∈k,jb c.toNat=true) (hnm:nm.data.toList=k) (hw:Bs w) (a:At s i (47::(k++(w++62::l)))):
  iz s nm i= .ok (i+1+k.length+w.length+1)/\At s (i+1+k.length+w.length+1) l:=by
 obtain⟨w1,a1⟩:=jh a
 have w1:want s 47 i= .ok (i+1):=w1
 have st:kF jb (w++62::l):=by
  cases w with
  | nil=>exact kF.cons QA
  | cons c r=>
   refine kF.cons ?_
   have:=yA (hw c QB)
   simp[jb,kz,qp,me];omega
 obtain⟨x,hx,hn,a2⟩:=uT ⟨hk.1,hk.2,st⟩ a1
 obtain⟨r1,a3⟩:=it hw (kF.cons QA) a2
 obtain⟨w2,a4⟩:=jh a3
 have w2:want s 62 (i+1+k.length+w.length)= .ok (i+1+k.length+w.length+1):=w2
 refine⟨?_,a4⟩
 unfold iz
 rw[w1]
 simp only[Er.bind]
 rw[hn]
 simp only[show eqB x nm=true by simp[eqB,hx,hnm],bJ]
 rw[r1,w2]
end
end Go.Proofs.YtemphinmoihdaaaGreatDoor.G
