/- A function's whole code over abstract states: what is left to be shown of it; that this suffices. Conditions: the table of types is the program's; the called functions have bodies. -/
import Derived.Test.YtmmmmjcfojhiaaaGreatDoorXDraw
import Derived.Scope
import Derived.Test.YtmmmmjcfojhiaaaGreatDoorProg
set_option linter.unusedVariables false
set_option linter.unusedSimpArgs false
set_option maxRecDepth 100000
open Go.IntKind (i64 u64 u8 i32)
namespace Go.X
structure Desc where
 loops:List (Nat × LD)
 joins:List (Nat × LD)
 blocks:List (Nat × LD)
 draws:List (Nat × DD)
 cut:List Nat:=[]
def vY {α:Type} (l:List (Nat × α)) (k:Nat):Option α:=
 match l with
 | []=>none
 | (i,v)::r=>match Nat.beq i k with
  | true=>some v
  | false=>vY r k
def XC (E:Env):Desc->Code->RO->Nat->St->ab->(St->ab->Prop)->(Nat->St->ab->Prop)->(St->ab->Prop)->Prop
 | _,.skip,_,_,st,h,k,_,_=>k st h
 | D,.region id ops draw,ro,_,st,h,k,_,_=>(match draw with
  | false=>(match mem D.cut id with
   | true=>False
   | false=>XR E ro ops.toList ops.toList 0 st h k)
  | true=>match vY D.draws id with
   | some d=>XD E ro d ops st h k
   | none=>False)
 | D,.seq a b,ro,cur,st,h,k,ex,rt=>XC E D a ro cur st h (fun st' h'=>XC E D b ro cur st' h' k ex rt) ex rt
 | D,.cond c t e,ro,cur,st,h,k,ex,rt=>(match ev st c with
  | some (.lit true)=>XC E D t ro cur st h k ex rt
  | some (.lit false)=>XC E D e ro cur st h k ex rt
  | some (.val (.bool b))=>(match c with
   | .tmp s=>(match vY D.joins s with
    | some d=>ID ro d st (fun ro' K=>cnd b (XC E D t ro' cur st h K ex rt) (XC E D e ro' cur st h K ex rt)) k
    | none=>cnd b (XC E D t ro cur st h k ex rt) (XC E D e ro cur st h k ex rt))
   | _=>False)
  | _=>False)
 | D,.block id c,ro,_,st,h,k,ex,rt=>(match vY D.blocks id with
  | some d=>ID ro d st (fun ro' K=>XC E D c ro' id st h K (fun j st' h'=>match Nat.beq j id with
   | true=>K st' h'
   | false=>ex j st' h') rt) k
  | none=>XC E D c ro id st h k (fun j st' h'=>match Nat.beq j id with
   | true=>k st' h'
   | false=>ex j st' h') rt)
 | D,.loop c,ro,cur,st,h,_,ex,rt=>(match vY D.loops cur with
  | some d=>Ow ro d st h fun ro' st' h' K=>XC E D c ro' cur st' h' K ex rt
  | none=>False)
 | D,.scope c,ro,cur,st,h,k,ex,rt=>XC E D c ro cur st h k ex rt
 | _,.label _,_,_,st,h,k,_,_=>k st h
 | D,.exit id,_,_,st,h,_,ex,_=>ex id st h
 | D,.ret,_,_,st,h,_,_,rt=>rt st h
 | _,_,_,_,_,_,_,_,_=>False
def PX (pn:Option (Value->ab->Prop)) (ro:RO) (n:Nat) (s0:St) (w0:World) (k:St->ab->Prop) (ex:Nat->St->ab->Prop) (rt:St->ab->Prop):Exit->Act->World->Prop
 | .normal,a,w=>Nx ro s0 k n w0 a w
 | .exit j,a,w=>Nx ro s0 (ex j) n w0 a w
 | .ret,a,w=>Nx ro s0 rt n w0 a w
 | .panic ch,a,w=>PQ pn w0 ch a w
 | _,_,_=>False
theorem Nx.mono {ro ro':RO} {s0 s1:St} {K K':St->ab->Prop} {n:Nat} {w0 w1:World} {a:Act} {w:World} (h:Nx ro s0 K n w0 a w) (hk:∀st,Keep ro s0 st->Keep ro' s1 st) (hw:Rest w1 w0) (hK:∀st h,K st h->K' st h):Nx ro' s1 K' n w1 a w:=by
 obtain⟨st,r,h1,h2,h3,h4⟩:=h
 exact⟨st,r,hw.trans h1,h2,hk st h3,hK _ _ h4⟩
theorem LD.ok_weaken {ro:RO} {d:LD} (hok:d.ok ro=true) {st st':St} (h:Keep d.ro st st'):Keep ro st st':=by
 simp only[LD.ok,P6]at hok
 obtain⟨⟨⟨⟨h1,h2⟩,h3⟩,_⟩,_⟩:=hok
 exact h.weaken (fun t ht=>qw h1 ht) (fun t ht=>qw h2 ht) (fun t ht=>qw h3 ht)
theorem ud {ro:RO} {d:LD} {st:St} {kf:List (Nat × AVal)} {kl:List Priv} (hok:d.ok ro=true) (hkf:gX st (d.keepP++d.varP) d.keepT=some kf) (hkl:iw st.lc d.keepP=some kl)
  {q0:List (List (Sh × Value))} (h0:jO st.lc d.varP=some q0) (v:List Value) (vp:List (List Value)) (hvp:vp.length=q0.length):Keep d.ro st (mZ d st kf kl v vp):=by
 simp only[LD.ok,P6]at hok
 obtain⟨⟨⟨⟨_,_⟩,_⟩,hdT⟩,hdP⟩:=hok
 have slot:∀{l:List Priv} {s:Nat} {p:Priv},ar l s=some p->p.slot=s:=by
  intro l s p h
  induction l<;>grind [ar,Option.some.injEq,Nat.eq_of_beq_eq_true]
 obtain⟨_,l2⟩:=jP hkl
 have hp:∀s,mem d.keepP s=true->ar (mZ d st kf kl v vp).lc s=ar st.lc s:=by
  intro s hs
  have hv:mem d.varP s=false:=mg hdP hs
  show ar (kT st.lc d.varP vp kl) s=_
  rw[kU hv (fun u hu=>qy h0 u hu)]
  obtain⟨p,p',g1,g2,g3,g4,g5⟩:=l2 s hs
  rw[g1,g2]
  have e1:=slot g1
  have e2:=slot g2
  cases p;cases p'
  simp_all
 refine⟨fun t ht=>?_,hp,fun s hs=>?_⟩
 ·show look (rh d.varT v kf) t=_
  rw[qx (mg hdT ht)]
  exact qz hkf t ht
 ·have hs':mem (d.keepP++d.varP) s=true:=hs
  rw[gZ,R2]at hs'
  rcases hs' with hs' | hs'
  ·rw[hp s hs']
  ·show(ar (kT st.lc d.varP vp kl) s).map Priv.place=_
   have gen:∀{l:List Nat} {q:List (List (Sh × Value))} {vp:List (List Value)},jO st.lc l=some q->vp.length=q.length->mem l s=true->(ar (kT st.lc l vp kl) s).map Priv.place=(ar st.lc s).map Priv.place:=by
    intro l
    induction l with
    | nil=>intro q vp _ _ h;simp[mem]at h
    | cons t r ih=>
     intro q vp hq hl hm
     unfold jO at hq
     split at hq
     ·rename_i p hp
      split at hq
      ·rename_i q' hq'
       simp only[Option.some.injEq]at hq
       subst hq
       cases vp<;>grind [kT,ar,Nat.eq_of_beq_eq_true,Priv.place,mem]
      ·cases hq
     ·cases hq
   grind
theorem sE (l:List (List (Sh × Value))):(fV l).length=l.length:=by simp[fV]
theorem sF :∀{l q:List (List (Sh × Value))} {K:List (List Value)->Prop},wz l q K->q.length=l.length
 | [],[],_,_=>rfl
 | l::r,m::q,K,h=>by obtain⟨h1,_⟩:=gY h;simp[sF h1]
 | [],_::_,_,h=>h.elim
 | _::_,[],_,h=>h.elim
theorem kN {ro:RO} {d:LD} {st:St} {K:List (Nat × AVal)->List Priv->List (Sh × Value)->List (List (Sh × Value))->Prop} (h:zv ro d st K):
  d.ok ro=true/\∃kf kl v1 v2,gX st (d.keepP++d.varP) d.keepT=some kf/\iw st.lc d.keepP=some kl/\wx st d.varT=some v1/\jO st.lc d.varP=some v2/\
   (∀L:List Value->Prop,qt v1 L->L (kQ v1))/\(∀L:List (List Value)->Prop,qZ v2 L->L (fV v2))/\K kf kl v1 v2:=by
 unfold zv at h
 split at h
 ·exact h.elim
 ·rename_i hok
  split at h
  ·exact h.elim
  ·rename_i kf h1
   split at h
   ·exact h.elim
   ·rename_i kl h2
    split at h
    ·exact h.elim
    ·rename_i v1 h3
     split at h
     ·exact h.elim
     ·rename_i v2 h4
      obtain⟨e1,e2⟩:=gY h
      obtain⟨e3,e4⟩:=kS e1
      grind
theorem qc {ro:RO} {d:LD} {st:St} {kf:List (Nat × AVal)} {kl:List Priv} {v1:List (Sh × Value)} {v2:List (List (Sh × Value))} (hok:d.ok ro=true) (hkf:gX st (d.keepP++d.varP) d.keepT=some kf)
  (hkl:iw st.lc d.keepP=some kl) (h2:jO st.lc d.varP=some v2) {st':St} (hk:Keep d.ro st st') {K:List Value->List (List Value)->Prop} (hb:qu d v1 v2 st' K) {a:Act} {w:World} (r:Rel st' a w):
  ∃u up,Rel (mZ d st kf kl u up) a w/\up.length=v2.length/\K u up/\(∀L:List Value->Prop,qt v1 L->L u)/\(∀L:List (List Value)->Prop,qZ v2 L->L up):=by
 unfold qu at hb
 split at hb
 ·rename_i u1 hu1
  split at hb
  ·rename_i u2 hu2
   obtain⟨e1,e2⟩:=gY hb
   have el:=sF e1
   obtain⟨e3,e4⟩:=kS e1
   exact⟨kQ u1,fV u2,EL hok hkf hkl h2 hk.t hk.p hk.a hu1 hu2 r,by rw[sE,el],e3,e2,e4⟩
  grind
 grind
theorem least {p:Nat->Prop} (h:∃m,p m):∃m,p m/\∀k,p k->m<=k:=by
 obtain⟨m,hm⟩:=h
 induction m using Nat.strongRecOn<;>grind
theorem qe {E:Env} (hE:E.OK) (c:Code):∀(D:Desc) (ro:RO) (cur:Nat) (st:St) (k:St->ab->Prop) (ex:Nat->St->ab->Prop) (rt:St->ab->Prop) (a:Act) (w:World),
  XC E D c ro cur st w.heap k ex rt->Rel st a w->a.tmps.size=E.n->c.wp E.P (PX E.pn ro E.n st w k ex rt) a w:=by
 induction c with
 | skip=>exact fun D ro cur st k ex rt a w d r hn=>wp_skip ⟨st,r,Rest.refl w,hn,Keep.refl _ _,d⟩
 | region id ops draw=>
  intro D ro cur st k ex rt a w d r hn
  unfold XC at d
  cases draw with
  | false=>
   simp only at d
   split at d
   ·exact d.elim
   refine wp_region_list ?_
   have:=qM hE (ro:=ro) (ops:=ops.toList) (K:=k) (Q:=PX E.pn ro E.n st w k ex rt) (s0:=st) (w0:=w) (fun a w h=>h) (fun ch a w h=>h) ops.toList 0 st a w d r hn (Rest.refl w) (Keep.refl _ _)
   omega
  | true=>
   simp only at d
   split at d
   ·rename_i dd _
    have hops:ops=ops.toList.toArray:=by simp
    rw[hops]at d ⊢
    exact Code.wp_mono (fun e a w h=>by cases e<;>first | exact h | exact h.elim) (wv hE (id:=id) d r hn)
   ·exact d.elim
 | seq x y ihx ihy=>
  intro D ro cur st k ex rt a w d r hn
  unfold XC at d
  refine wp_seq (Code.wp_mono (fun e a' w' h=>?_) (ihx D ro cur st _ ex rt a w d r hn))
  cases e with
  | normal=>
   obtain⟨st',r',h1,h2,h3,h4⟩:=h
   refine Code.wp_mono (fun e a'' w'' h'=>?_) (ihy D ro cur st' k ex rt a' w' h4 r' h2)
   cases e<;>first | exact Nx.mono h' (fun _ q=>h3.trans q) h1 (fun _ _ q=>q) | exact PQ.back h' h1 | exact h'.elim
  | exit j=>exact h
  | ret=>exact h
  | panic ch=>exact h
  | _=>exact h.elim
 | cond c t e iht ihe=>
  intro D ro cur st k ex rt a w d r hn
  unfold XC at d
  split at d
  ·rename_i h1
   obtain⟨v,hc,hv⟩:=aQ r.fr h1
   grind [AVal.conc,wp_cond_true]
  ·rename_i h1
   obtain⟨v,hc,hv⟩:=aQ r.fr h1
   grind [AVal.conc,wp_cond_false]
  ·rename_i b h1
   obtain⟨v,hc,hv⟩:=aQ r.fr h1
   simp only[AVal.conc,Option.some.injEq]at hc
   refine wp_cond (hv.trans hc.symm) ?_
   split at d
   ·rename_i s
    split at d
    ·rename_i dl _
     obtain⟨hok,kf,kl,v1,v2,h1,h2,h3,h4,_,_,J,hways,hk⟩:=kN d
     have hk':∀u up,(∀L:List Value->Prop,qt v1 L->L u)->(∀L:List (List Value)->Prop,qZ v2 L->L up)->∀h',J (u++up.flatten) h'->k (mZ dl st kf kl u up) h':=fun u up hu hup h' hj=>hup _ (hu _ hk) h' hj
     have fin:∀e (a':Act) (w':World),PX E.pn dl.ro E.n st w (fun st'' h''=>qu dl v1 v2 st'' fun u up=>J (u++up.flatten) h'') ex rt e a' w'->PX E.pn ro E.n st w k ex rt e a' w':=by
      intro e a' w' h
      cases e with
      | normal=>
       obtain⟨st',r',g1,g2,g3,g4⟩:=h
       obtain⟨u,up,r'',hlen,hj,hu,hup⟩:=qc hok h1 h2 h4 g3 g4 r'
       exact⟨_,r'',g1,g2,LD.ok_weaken hok (ud hok h1 h2 h4 u up hlen),hk' u up hu hup _ hj⟩
      | exit j=>exact Nx.mono h (fun _ q=>LD.ok_weaken hok q) (Rest.refl w) (fun _ _ q=>q)
      | ret=>exact Nx.mono h (fun _ q=>LD.ok_weaken hok q) (Rest.refl w) (fun _ _ q=>q)
      | panic ch=>exact h
      | _=>exact h.elim
     cases b with
     | true=>exact Code.wp_mono fin (iht D dl.ro cur st _ ex rt a w (hways.1 rfl) r hn)
     | false=>exact Code.wp_mono fin (ihe D dl.ro cur st _ ex rt a w (hways.2 rfl) r hn)
    ·cases b with
     | true=>exact iht D ro cur st k ex rt a w (d.1 rfl) r hn
     | false=>exact ihe D ro cur st k ex rt a w (d.2 rfl) r hn
   ·exact d.elim
  ·exact d.elim
 | block id c ih=>
  intro D ro cur st k ex rt a w d r hn
  unfold XC at d
  have fin:∀(ro':RO) (k':St->ab->Prop) e (a':Act) (w':World),PX E.pn ro' E.n st w k' (fun j st' h'=>match Nat.beq j id with | true=>k' st' h' | false=>ex j st' h') rt e a' w'->Exit.inBlock id (PX E.pn ro' E.n st w k' ex rt) e a' w':=by
   intro ro' k' e a' w' h
   cases e with
   | normal=>exact h
   | exit j=>
    simp only[Exit.inBlock]
    obtain⟨st',r',h1,h2,h3,h4⟩:=h
    by_cases hj:j=id
    ·subst hj
     rw[if_pos rfl]
     simp only[show Nat.beq j j=true by simp]at h4
     exact⟨st',r',h1,h2,h3,h4⟩
    ·rw[if_neg hj]
     have:Nat.beq j id=false:=by rw[<-QK];simp_all
     simp only[this]at h4
     exact⟨st',r',h1,h2,h3,h4⟩
   | ret=>exact h
   | panic ch=>exact h
   | _=>exact h.elim
  split at d
  ·rename_i dl _
   obtain⟨hok,kf,kl,v1,v2,h1,h2,h3,h4,_,_,J,hways,hk⟩:=kN d
   have hk':∀u up,(∀L:List Value->Prop,qt v1 L->L u)->(∀L:List (List Value)->Prop,qZ v2 L->L up)->∀h',J (u++up.flatten) h'->k (mZ dl st kf kl u up) h':=fun u up hu hup h' hj=>hup _ (hu _ hk) h' hj
   have fin2:∀e (a':Act) (w':World),PX E.pn dl.ro E.n st w (fun st'' h''=>qu dl v1 v2 st'' fun u up=>J (u++up.flatten) h'') ex rt e a' w'->PX E.pn ro E.n st w k ex rt e a' w':=by
    intro e a' w' h
    cases e with
    | normal=>
     obtain⟨st',r',g1,g2,g3,g4⟩:=h
     obtain⟨u,up,r'',hlen,hj,hu,hup⟩:=qc hok h1 h2 h4 g3 g4 r'
     exact⟨_,r'',g1,g2,LD.ok_weaken hok (ud hok h1 h2 h4 u up hlen),hk' u up hu hup _ hj⟩
    | exit j=>exact Nx.mono h (fun _ q=>LD.ok_weaken hok q) (Rest.refl w) (fun _ _ q=>q)
    | ret=>exact Nx.mono h (fun _ q=>LD.ok_weaken hok q) (Rest.refl w) (fun _ _ q=>q)
    | panic ch=>exact h
    | _=>exact h.elim
   exact Code.wp_mono fin2 (wp_block (Code.wp_mono (fin dl.ro _) (ih D dl.ro id st _ _ rt a w hways r hn)))
  grind [wp_block,Code.wp_mono]
 | loop c ih=>
  intro D ro cur st k ex rt a w d r hn
  unfold XC at d
  split at d
  ·rename_i dl _
   obtain⟨hok,kf,kl,v1,v2,h1,h2,h3,h4,hs1,hs2,I,μ,hI,hbody⟩:=kN d
   have hb:∀u up,(∀L:List Value->Prop,qt v1 L->L u)->(∀L:List (List Value)->Prop,qZ v2 L->L up)->∀h',I (u++up.flatten) h'->
     XC E D c dl.ro cur (mZ dl st kf kl u up) h' (fun st'' h''=>qu dl v1 v2 st'' fun u' up'=>I (u'++up'.flatten) h''/\μ (u'++up'.flatten) h''<μ (u++up.flatten) h') ex rt:=
    fun u up hu hup h' hi=>hup _ (hu _ hbody) h' hi
   let Inv:Act->World->Nat->Prop:=fun a' w' m=>∃u up,Rel (mZ dl st kf kl u up) a' w'/\up.length=v2.length/\(∀L:List Value->Prop,qt v1 L->L u)/\(∀L:List (List Value)->Prop,qZ v2 L->L up)/\
     I (u++up.flatten) w'.heap/\a'.tmps.size=E.n/\Rest w w'/\μ (u++up.flatten) w'.heap=m
   have start:Inv a w (μ (kQ v1++(fV v2).flatten) w.heap):=
    ⟨kQ v1,fV v2,EL hok h1 h2 h4 (fun _ _=>rfl) (fun _ _=>rfl) (fun _ _=>rfl) h3 h4 r,sE _,hs1,hs2,hI,hn,Rest.refl w,rfl⟩
   have round:∀a' w' m,Inv a' w' m->c.wp E.P (Exit.then (fun a'' w''=>∃m',Inv a'' w'' m'/\m'<m) (PX E.pn ro E.n st w k ex rt)) a' w':=by
    rintro a' w' m ⟨u,up,r',hlen,hu,hup,hi,hn',hrest,rfl⟩
    have hmk:Keep dl.ro st (mZ dl st kf kl u up):=ud hok h1 h2 h4 u up hlen
    refine Code.wp_mono (fun e a'' w'' h=>?_) (ih D dl.ro cur _ _ ex rt a' w' (hb u up hu hup w'.heap hi) r' hn')
    cases e with
    | normal=>
     obtain⟨st'',r'',g1,g2,g3,g4⟩:=h
     obtain⟨u',up',r3,hlen',⟨hi',hlt⟩,hu',hup'⟩:=qc hok h1 h2 h4 (hmk.trans g3) g4 r''
     exact⟨_,⟨u',up',r3,hlen',hu',hup',hi',g2,hrest.trans g1,rfl⟩,hlt⟩
    | exit j=>exact Nx.mono h (fun _ q=>LD.ok_weaken hok (hmk.trans q)) hrest (fun _ _ q=>q)
    | ret=>exact Nx.mono h (fun _ q=>LD.ok_weaken hok (hmk.trans q)) hrest (fun _ _ q=>q)
    | panic ch=>exact PQ.back h hrest
    | _=>exact h.elim
   classical
   refine wp_loop (fun a' w'=>∃m,Inv a' w' m) (fun a' w'=>if h:∃m,Inv a' w' m then Classical.choose (least h)else 0) ⟨_,start⟩ ?_
   intro a' w' hex
   have hmin:=(Classical.choose_spec (least hex)).1
   refine Code.wp_mono (fun e a'' w'' h=>?_) (round a' w' _ hmin)
   cases e with
   | normal=>
    obtain⟨m',hm',hlt⟩:=h
    refine⟨⟨m',hm'⟩,?_⟩
    have hex':∃m,Inv a'' w'' m:=⟨m',hm'⟩
    rw[dif_pos hex,dif_pos hex']
    exact Qf ((Classical.choose_spec (least hex')).2 _ hm') hlt
   | _=>exact h
  ·exact d.elim
 | exit id=>exact fun D ro cur st k ex rt a w d r hn=>wp_exit ⟨st,r,Rest.refl w,hn,Keep.refl _ _,d⟩
 | ret=>exact fun D ro cur st k ex rt a w d r hn=>wp_ret ⟨st,r,Rest.refl w,hn,Keep.refl _ _,d⟩
 | label l=>exact fun D ro cur st k ex rt a w d r hn=>wp_label ⟨st,r,Rest.refl w,hn,Keep.refl _ _,d⟩
 | scope c ih=>
  intro D ro cur st k ex rt a w d r hn
  unfold XC at d
  exact wp_scope_straight (Code.wp_mono (fun e a' w' h=>by cases e<;>first | exact h | exact h.elim) (ih D ro cur st k ex rt a w d r hn))
 | _=>intro D ro cur st k ex rt a w d;exact d.elim
def qj :List Value->Nat->List (Nat × AVal)
 | [],_=>[]
 | v::r,i=>(i,.val v)::qj r (i+1)
def qm (T:TAB) (st:St) (h:ab):List ResultVar->(List Value->Prop)->Prop
 | [],K=>K []
 | .tmp t::r,K=>(match evo st (.tmp t)with
  | some v=>qm T st h r fun vs=>K (v::vs)
  | none=>False)
 | .cell a t::r,K=>det T st.lc none st h (.load t (.tmp a)) fun x=>match x.out with
  | some v=>qm T st h r fun vs=>K (v::vs)
  | none=>False
def one (vs:List Value):Value:=
 match vs with
 | [v]=>v
 | vs=>.tuple vs.toArray
def zt (tmps:Array Value):ResultVar->Sem Value
 | .tmp t=>pure (tmps.getD t undef)
 | .cell a t=>do loadVar t (<-asAddr (tmps.getD a undef))
theorem EI {P:Program} {T:TAB} {st:St} {a:Act} {w:World} {t s:Nat} {K:AVal->Prop} (hT:bq P T) (r:Rel st a w) (d:det T st.lc none st w.heap (.load t (.tmp s)) K):
  ∃x v,x.conc st.lc=some v/\(do loadVar t (<-asAddr (a.tmps.getD s undef)):Sem Value).run P w= .ok v w/\K x:=by
 let o:Oper:={dst:=none,op:=.load t (.tmp s),type:=0,pos:= "",after:=#[],guard:=none}
 obtain⟨x,v,h1,h2,h3⟩:=wa (o:=o) hT r.toL (Fr.refl _ _) rfl d
 refine⟨x,v,h1,?_,h3⟩
 have h2':((Instr.loadAt t (a.eval (.tmp s))).run P w).andThen (fun v w=>.ok (Next.value v) w)= .ok (.value v) w:=by
  have:(execOp a.eval o)=(do pure (Next.value (<-Instr.loadAt t (a.eval (.tmp s))))):=rfl
  simp_all
 show Sem.run P (asAddr (a.eval (.tmp s))>>=fun y=>loadVar t y) w=_
 have e:(Instr.loadAt t (a.eval (.tmp s)))=(Instr.sureAddr (a.eval (.tmp s))>>=fun y=>loadVar t y):=rfl
 rw[e]at h2'
 cases hv:a.eval (.tmp s)with
 | pointer pa=>
  cases pa with
  | none=>rw[hv]at h2';simp[Instr.sureAddr]at h2'
  | some ad=>
   rw[hv]at h2'
   simp only[Instr.sureAddr,asAddr,Sem.run_bind,Sem.run_pure,Result.andThen_ok]at h2' ⊢
   cases hr:(loadVar t ad).run P w with
   | ok u w'=>simp_all
   | halt x w'=>simp_all
 | _=>rw[hv]at h2';simp[Instr.sureAddr]at h2'
theorem qo {P:Program} {T:TAB} {st:St} {a:Act} {w:World} (hT:bq P T) (r:Rel st a w):∀{l:List ResultVar} {K:List Value->Prop},qm T st w.heap l K->
  ∃vs:List Value,(l.mapM (zt a.tmps)).run P w= .ok vs w/\vs.length=l.length/\K vs
 | [],_,h=>⟨[],PC,rfl,h⟩
 | .tmp t::l,K,h=>by
  simp only[qm]at h
  split at h
  ·rename_i v hv
   obtain⟨vs,h1,h2,h3⟩:=qo hT r h
   have e:=bu r.fr hv
   simp only[Act.eval]at e
   exact⟨v::vs,by simp[List.mapM_cons,zt,e,h1],by simp[h2],h3⟩
  ·exact h.elim
 | .cell s t::l,K,h=>by
  simp only[qm]at h
  obtain⟨x,v,h1,h2,h3⟩:=EI hT r h
  split at h3
  ·rename_i u hu
   obtain⟨vs,g1,g2,g3⟩:=qo hT r h3
   have:=AVal.conc_out hu st.lc
   rw[this]at h1
   obtain rfl:=Option.some.inj h1
   refine⟨u::vs,?_,by simp[g2],g3⟩
   simp only[List.mapM_cons]
   rw[bU (show(zt a.tmps (.cell s t)).run P w= .ok u w from h2),bU g1]
   rfl
  ·exact h3.elim
theorem dh {P:Program} {T:TAB} {st:St} {a:Act} {w:World} {fn:Func} {R:Value->Prop} (hT:bq P T) (r:Rel st a w) (h:qm T st w.heap fn.results.toList fun vs=>R (one vs)):
  ∃v,(results fn a.tmps).run P w= .ok v w/\R v:=by
 obtain⟨vs,h1,h2,h3⟩:=qo hT r h
 refine⟨one vs,?_,h3⟩
 have e:results fn a.tmps=(fn.results.mapM (zt a.tmps)>>=fun vs=>pure (if h:vs.size=1 then vs[0]else .tuple vs)):=rfl
 rw[e,Array.mapM_eq_mapM_toList]
 simp only[Sem.run_bind,Sem.run_map,h1,Result.andThen_ok,Sem.run_pure]
 congr 1
 cases vs with
 | nil=>rfl
 | cons v l=>cases l<;>simp[one]
theorem qp :∀{l:List Value} {i t:Nat} {x:AVal},look (qj l i) t=some x->∃v,x= .val v/\i<=t/\l[t-i]? =some v
 | [],_,_,_,h=>by simp[qj,look]at h
 | v::r,i,t,x,h=>by
  simp only[qj,look]at h
  cases hb:Nat.beq i t with
  | true=>
   simp_all
  | false=>
   simp only[hb]at h
   obtain⟨u,h1,h2,h3⟩:=qp h
   exact⟨u,h1,PA,by rw[show t-i=(t-(i+1))+1 by omega];simpa using h3⟩
def FX (E:Env) (D:Desc) (fn:Func) (c:Code) (args:List Value) (h:ab) (R:Value->ab->Prop):Prop:=
 XC E D c ⟨[],[],[]⟩ 0 ⟨qj args 0,[]⟩ h (fun st h'=>qm E.T st h' fn.results.toList fun vs=>R (one vs) h') (fun _ _ _=>False) (fun st h'=>qm E.T st h' fn.results.toList fun vs=>R (one vs) h')
theorem qq {E:Env} {f:Func} {args:List Value} (w:World) (hn':f.ntmps=E.n) (hl':args.length<=E.n):
  Rel ⟨qj args 0,[]⟩ {tmps:=args.toArray++Array.replicate (f.ntmps-args.toArray.size) undef,defers:=[]} w/\(args.toArray++Array.replicate (f.ntmps-args.toArray.size) undef).size=E.n:=by
 refine⟨⟨fun t x hx=>?_,fun s p hp=>by simp[ar]at hp,fun s t p q hp=>by simp[ar]at hp,rfl⟩,by simp;omega⟩
 obtain⟨v,rfl,_,h3⟩:=qp hx
 refine⟨v,rfl,?_⟩
 grind
theorem ur {E:Env} (hE:E.OK) {D:Desc} {f:FuncId} {fn:Func} {c:Code} (hf:E.P.funcs[f]? =some fn) (hb:fn.body=some c) (hn:Nat.beq fn.ntmps E.n=true) {args:List Value} (hl:Nat.ble args.length E.n=true)
  {h:ab} {R Rp:Value->ab->Prop} (hp:E.pn=some Rp) (H:FX E D fn c args h R):aG E.P f args.toArray h R Rp:=by
 intro w hw
 subst hw
 have hn':=P4 hn
 have hl':=Qr hl
 refine calls_of_wp hf hb ?_
 obtain⟨hr,hsize⟩:=qq (f:=fn) w hn' hl'
 refine Code.wp_mono (fun e a' w' hq=>?_) (qe hE c D _ _ _ _ _ _ _ w H hr hsize)
 cases e with
 | normal=>
  obtain⟨st,r,h1,h2,_,h4⟩:=hq
  obtain⟨v,e1,e2⟩:=dh (fn:=fn) (R:=fun v=>R v w'.heap) hE.T r h4
  exact⟨r.df,v,e1,h1,.inl ⟨v,rfl,e2⟩⟩
 | ret=>
  obtain⟨st,r,h1,h2,_,h4⟩:=hq
  obtain⟨v,e1,e2⟩:=dh (fn:=fn) (R:=fun v=>R v w'.heap) hE.T r h4
  exact⟨r.df,v,e1,h1,.inl ⟨v,rfl,e2⟩⟩
 | exit j=>obtain⟨_,_,_,_,_,h⟩:=hq;exact h.elim
 | panic ch=>
  obtain⟨E',v,q1,rfl,q2,q3,q4⟩:=hq
  rw[hp]at q1
  obtain rfl:=Option.some.inj q1
  exact⟨q2,q3,.inr ⟨v,rfl,q4⟩⟩
 | _=>exact hq.elim
theorem bN {E:Env} (hE:E.OK) {D:Desc} {f:FuncId} {fn:Func} {c:Code} (hf:E.P.funcs[f]? =some fn) (hb:fn.body=some c) (hn:Nat.beq fn.ntmps E.n=true) {args:List Value} (hl:Nat.ble args.length E.n=true)
  {h:ab} {R:Value->ab->Prop} (H:FX E D fn c args h R) (hp:E.pn=none:=by rfl):af E.P f args.toArray h R:=by
 intro w hw
 subst hw
 have hn':=P4 hn
 have hl':=Qr hl
 refine calls_of_wp hf hb ?_
 obtain⟨hr,hsize⟩:=qq (f:=fn) w hn' hl'
 refine Code.wp_mono (fun e a' w' hq=>?_) (qe hE c D _ _ _ _ _ _ _ w H hr hsize)
 cases e with
 | normal=>
  obtain⟨st,r,h1,h2,_,h4⟩:=hq
  obtain⟨v,e1,e2⟩:=dh (fn:=fn) (R:=fun v=>R v w'.heap) hE.T r h4
  exact⟨r.df,v,e1,v,rfl,h1,e2⟩
 | ret=>
  obtain⟨st,r,h1,h2,_,h4⟩:=hq
  obtain⟨v,e1,e2⟩:=dh (fn:=fn) (R:=fun v=>R v w'.heap) hE.T r h4
  exact⟨r.df,v,e1,v,rfl,h1,e2⟩
 | exit j=>obtain⟨_,_,_,_,_,h⟩:=hq;exact h.elim
 | panic ch=>
  obtain⟨E',v,q1,_⟩:=hq
  grind
 | _=>exact hq.elim
end Go.X
namespace Go.Proofs.YtmmmmjcfojhiaaaGreatDoor
open Go.X
def Hc :TAB:=[
 (0,⟨[.func],false,0,[.tuple #[]],.tuple [],0⟩),
 (2,⟨[.int .i64],false,8,[.int .i64 0],.int .i64,6⟩),
 (3,⟨[.int .i64],false,8,[.int .i64 0],.int .i64,6⟩),
 (4,⟨[.bool],false,1,[.bool false],.none,1⟩),
 (5,⟨[.int .u8],false,1,[.int .u8 0],.int .u8,6⟩),
 (6,⟨[.int .u8],false,1,[.int .u8 0],.int .u8,6⟩),
 (8,⟨[.int .i64,.int .i64,.bool,.int .u8],true,24,[.int .i64 0,.int .i64 0,.bool false,.int .u8 0],.struct [(0,2),(1,3),(2,4),(3,6)],0⟩),
 (9,⟨[.str],false,16,[.string ByteArray.empty],.none,5⟩),
 (10,⟨[.str],false,16,[.string ByteArray.empty],.none,5⟩),
 (11,⟨[.str],false,16,[.string ByteArray.empty],.none,5⟩),
 (12,⟨[.int .u64],false,8,[.int .u64 0],.int .u64,6⟩),
 (15,⟨[.ptr],false,8,[.pointer none],.none,3⟩),
 (16,⟨[.ptr],false,8,[.pointer none],.none,3⟩),
 (17,⟨[.ptr],false,8,[.pointer none],.none,3⟩),
 (19,⟨[.ptr],true,8,[.pointer none],.struct [(0,17)],0⟩),
 (21,⟨[.int .i32],false,4,[.int .i32 0],.int .i32,6⟩),
 (23,⟨[.slice],false,24,[.slice none 0 0],.slice 70,2⟩),
 (25,⟨[.int .i64,.slice],true,32,[.int .i64 0,.slice none 0 0],.struct [(0,3),(1,23)],9⟩),
 (26,⟨[.slice],false,24,[.slice none 0 0],.slice 9,2⟩),
 (27,⟨[.slice],false,24,[.slice none 0 0],.slice 53,2⟩),
 (28,⟨[.slice],false,24,[.slice none 0 0],.slice 51,2⟩),
 (30,⟨[.int .i64,.slice,.bool,.slice,.slice,.slice],true,112,[.int .i64 0,.slice none 0 0,.bool false,.slice none 0 0,.slice none 0 0,.slice none 0 0],.struct [(0,25),(2,4),(3,26),(4,27),(5,28)],0⟩),
 (31,⟨[.int .i64],false,8,[.int .i64 0],.int .i64,6⟩),
 (32,⟨[.func],false,0,[.tuple #[.agg #[.int .i64 0,.slice none 0 0,.bool false,.slice none 0 0,.slice none 0 0,.slice none 0 0],.int .i64 0,.int .i64 0]],.tuple [30,3,31],0⟩),
 (35,⟨[.func],false,0,[.tuple #[.string ByteArray.empty,.int .i64 0]],.tuple [9,31],0⟩),
 (40,⟨[.int .i64,.int .i64],true,16,[.int .i64 0,.int .i64 0],.struct [(0,3),(1,31)],9⟩),
 (42,⟨[.ptr],false,8,[.pointer none],.none,3⟩),
 (44,⟨[.str,.int .i64],true,24,[.string ByteArray.empty,.int .i64 0],.struct [(0,9),(1,3)],9⟩),
 (45,⟨[.map],false,8,[.map none],.map 3 3,0⟩),
 (46,⟨[.bool,.bool,.bool],true,3,[.bool false,.bool false,.bool false],.array 3 4,0⟩),
 (47,⟨[.slice],false,24,[.slice none 0 0],.slice 81,2⟩),
 (49,⟨[.str,.int .i64,.int .i64,.int .i64,.slice,.bool,.slice,.slice,.slice,.bool,.map,.slice,.slice,.slice,.bool,.bool,.bool,.slice],true,264,[.string ByteArray.empty,.int .i64 0,.int .i64 0,.int .i64 0,.slice none 0 0,.bool false,.slice none 0 0,.slice none 0 0,.slice none 0 0,.bool false,.map none,.slice none 0 0,.slice none 0 0,.slice none 0 0,.bool false,.bool false,.bool false,.slice none 0 0],.struct [(0,44),(2,3),(3,30),(9,4),(10,45),(11,26),(12,27),(13,28),(14,46),(17,47)],0⟩),
 (51,⟨[.float .f64],false,8,[.float .f64 0],.float .f64,7⟩),
 (53,⟨[.float .f64,.float .f64],true,16,[.float .f64 0,.float .f64 0],.struct [(0,51),(1,51)],9⟩),
 (54,⟨[.func],false,8,[.nilFunc],.none,4⟩),
 (55,⟨[.func],false,8,[.nilFunc],.none,4⟩),
 (60,⟨[.ptr],false,8,[.pointer none],.none,3⟩),
 (61,⟨[.ptr],false,8,[.pointer none],.none,3⟩),
 (62,⟨[.slice],false,24,[.slice none 0 0],.slice 5,2⟩),
 (64,⟨[.ptr,.slice],true,32,[.pointer none,.slice none 0 0],.struct [(0,61),(1,62)],9⟩),
 (66,⟨[.ptr,.slice,.int .i64],true,40,[.pointer none,.slice none 0 0,.int .i64 0],.struct [(0,64),(2,3)],9⟩),
 (70,⟨[.int .i64,.int .i64],true,16,[.int .i64 0,.int .i64 0],.array 2 3,0⟩),
 (79,⟨[.func],false,8,[.nilFunc],.none,4⟩),
 (81,⟨[.int .i64,.int .i64,.str,.float .f64],true,40,[.int .i64 0,.int .i64 0,.string ByteArray.empty,.float .f64 0],.struct [(0,3),(1,3),(2,9),(3,51)],0⟩),
 (84,⟨[.int .u64],false,8,[.int .u64 0],.int .u64,6⟩),
 (88,⟨[.ifc],false,16,[.nilIface],.none,8⟩),
 (89,⟨[.func],false,0,[.tuple #[.int .i64 0,.nilIface]],.tuple [3,88],0⟩),
 (99,⟨[.func],false,8,[.nilFunc],.none,4⟩),
 (101,⟨[.ptr],false,8,[.pointer none],.none,3⟩),
 (103,⟨[.map],false,8,[.map none],.map 9 3,0⟩),
 (104,⟨[.func],false,8,[.nilFunc],.none,4⟩),
 (106,⟨[.func],false,8,[.nilFunc],.none,4⟩),
 (108,⟨[.int .i64,.func,.func,.func],true,32,[.int .i64 0,.nilFunc,.nilFunc,.nilFunc],.struct [(0,3),(1,106),(2,79),(3,104)],0⟩),
 (109,⟨[.func],false,0,[.tuple #[.int .i64 0,.nilIface]],.tuple [2,88],0⟩),
 (112,⟨[.int .u64],false,8,[.int .u64 0],.int .u64,6⟩),
 (113,⟨[.func],false,0,[.tuple #[.int .u64 0,.int .u64 0]],.tuple [112,112],0⟩),
 (118,⟨[.ptr],false,8,[.pointer none],.none,3⟩),
 (126,⟨[.int .u32],false,4,[.int .u32 0],.int .u32,6⟩),
 (127,⟨[.func],false,0,[.tuple #[.int .u32 0,.int .u32 0]],.tuple [126,126],0⟩),
 (129,⟨[.func],false,0,[.tuple #[.int .u64 0,.int .u64 0]],.tuple [84,84],0⟩),
 (132,⟨(List.replicate 24 (.int .u8)),true,24,(List.replicate 24 (.int .u8 0)),.array 24 5,0⟩),
 (135,⟨[.func],false,0,[.tuple #[.slice none 0 0,.string ByteArray.empty]],.tuple [62,9],0⟩),
 (139,⟨[.float .f32],false,4,[.float .f32 0],.float .f32,7⟩),
 (144,⟨(List.replicate 256 (.bool)),true,256,(List.replicate 256 (.bool false)),.array 256 4,0⟩),
 (148,⟨[.func],false,0,[.tuple #[.int .u8 0,.int .i64 0]],.tuple [5,3],0⟩),
 (150,⟨[.func],false,0,[.tuple #[.float .f64 0,.int .i64 0]],.tuple [51,31],0⟩),
 (153,⟨[.int .i64],false,8,[.int .i64 0],.int .i64,6⟩),
 (154,⟨[.func],false,0,[.tuple #[.int .u64 0,.nilIface]],.tuple [84,88],0⟩),
 (156,⟨[.ptr],false,8,[.pointer none],.none,3⟩),
 (160,⟨[.func],false,0,[.tuple #[.int .i32 0,.int .i64 0]],.tuple [21,3],0⟩),
 (164,⟨(List.replicate 20 (.int .u64)),true,160,(List.replicate 20 (.int .u64 0)),.array 20 84,0⟩),
 (165,⟨(List.replicate 65 (.int .u8)),true,65,(List.replicate 65 (.int .u8 0)),.array 65 5,0⟩),
 (171,⟨(List.replicate 32 (.int .u8)),true,32,(List.replicate 32 (.int .u8 0)),.array 32 5,0⟩),
 (172,⟨[.func],false,0,[.tuple #[.int .u64 0,.int .i64 0]],.tuple [84,3],0⟩),
 (174,⟨[.func],false,0,[.tuple #[.int .i64 0,.int .i64 0]],.tuple [3,3],0⟩),
 (177,⟨[.ptr],false,8,[.pointer none],.none,3⟩),
 (178,⟨(List.replicate 800 (.int .u8)),true,800,(List.replicate 800 (.int .u8 0)),.array 800 5,0⟩),
 (180,⟨(List.replicate 800 (.int .u8)++[.int .i64,.int .i64,.bool,.bool]),true,824,(List.replicate 800 (.int .u8 0)++[.int .i64 0,.int .i64 0,.bool false,.bool false]),.struct [(0,178),(800,3),(801,3),(802,4),(803,4)],0⟩),
 (183,⟨[.ptr],false,8,[.pointer none],.none,3⟩),
 (185,⟨[.func],false,0,[.tuple #[.float .f64 0,.nilIface]],.tuple [51,88],0⟩),
 (187,⟨[.ptr],false,8,[.pointer none],.none,3⟩),
 (190,⟨[.str,.str,.ifc],true,48,[.string ByteArray.empty,.string ByteArray.empty,.nilIface],.struct [(0,9),(1,9),(2,88)],0⟩),
 (197,⟨[.int .u64,.int .u64,.int .i64],true,24,[.int .u64 0,.int .u64 0,.int .i64 0],.struct [(0,84),(1,84),(2,3)],0⟩),
 (199,⟨[.ptr],false,8,[.pointer none],.none,3⟩),
 (200,⟨[.int .u64],false,8,[.int .u64 0],.int .u64,6⟩),
 (208,⟨[.ptr],false,8,[.pointer none],.none,3⟩),
 (210,⟨[.str],true,16,[.string ByteArray.empty],.struct [(0,9)],0⟩),
 (211,⟨(List.replicate 256 (.int .u8)),true,256,(List.replicate 256 (.int .u8 0)),.array 256 5,0⟩),
 (213,⟨[.int .u8,.int .u8],true,2,[.int .u8 0,.int .u8 0],.struct [(0,5),(1,5)],9⟩),
 (214,⟨(List.replicate 32 (.int .u8)),true,32,(List.replicate 32 (.int .u8 0)),.array 16 213,0⟩),
 (215,⟨(List.replicate 64 (.int .u8)),true,64,(List.replicate 64 (.int .u8 0)),.array 64 5,0⟩),
 (217,⟨[.int .u64,.int .u64],true,16,[.int .u64 0,.int .u64 0],.struct [(0,84),(1,84)],9⟩),
 (218,⟨(List.replicate 1392 (.int .u64)),true,11136,(List.replicate 1392 (.int .u64 0)),.array 696 217,0⟩),
 (222,⟨[.int .i64,.str],true,24,[.int .i64 0,.string ByteArray.empty],.struct [(0,3),(1,9)],9⟩),
 (223,⟨[.slice],false,24,[.slice none 0 0],.slice 222,2⟩),
 (225,⟨[.func],false,0,[.tuple #[.float .f64 0,.int .i64 0,.nilIface]],.tuple [51,3,88],0⟩),
 (228,⟨[.func],false,0,[.tuple #[.float .f32 0,.int .i64 0,.nilIface]],.tuple [139,3,88],0⟩),
 (231,⟨[.func],false,0,[.tuple #[.float .f64 0,.int .i64 0,.bool false]],.tuple [51,3,4],0⟩),
 (233,⟨[.func],false,0,[.tuple #[.int .u64 0,.int .i64 0,.bool false,.bool false,.bool false,.int .i64 0,.bool false]],.tuple [84,3,4,4,4,3,4],0⟩),
 (236,⟨[.ptr],false,8,[.pointer none],.none,3⟩),
 (238,⟨[.int .u64,.int .u64,.int .i64],true,24,[.int .u64 0,.int .u64 0,.int .i64 0],.struct [(0,112),(1,112),(2,3)],0⟩),
 (241,⟨[.func],false,0,[.tuple #[.float .f32 0,.bool false]],.tuple [139,4],0⟩),
 (243,⟨[.func],false,0,[.tuple #[.float .f32 0,.nilIface]],.tuple [139,88],0⟩),
 (245,⟨[.func],false,0,[.tuple #[.int .u64 0,.bool false]],.tuple [84,4],0⟩),
 (247,⟨[.func],false,0,[.tuple #[.float .f64 0,.bool false]],.tuple [51,4],0⟩),
 (251,⟨[.slice],false,24,[.slice none 0 0],.slice 139,2⟩),
 (253,⟨[.slice],false,24,[.slice none 0 0],.slice 3,2⟩),
 (261,⟨[.int .u8],false,1,[.int .u8 0],.int .u8,6⟩)]
theorem tC :bq Tryz.prog Hc:=bq.of PD
def kH :List Nat:=[3,4,5,6,7,8,9,10,11,12,13,14,15,16,17,18,19,20,21,22,23,24,25,26,27,28,29,30,31,32,33,34,35,37,38,39,40,41,42,43,44,45,46,47,48,49,50,51,52,53,54,55,56,57,58,59,60,61,62,63,64,65,66,67,68,69,70,71,72,73,74,75,76,77,78,79,81,82,83,84,85,86,87,88,89,91,92,93,94,95,96,97,98,99,100,101,102,103,104,105,106,107,108,109,110,111,112,113,114,115,117,118,119,120,121,122,123,124,127,128,129,130,131,132,133,134,135,136,137,138,140,141,142,143,144,145,146,147,148,149,150,152,153,154,155,156,157,158,159,160,161,162,163,164,165,166,167,168,169,170,171,172,173,175,176,177,178,179,180,181,182,183,184,185,186,187,188,189,191,192,193,194,196,197,198,199,200,201,202,203,244]
theorem y8 :cp Tryz.prog kH:=cp.of PD
noncomputable def tD (privs : List Nat) (n : Nat) : Env := { P := Tryz.prog, T := Hc, F := kH, privs := privs, n := n }
theorem lH (privs:List Nat) (n:Nat):(tD privs n).OK:=⟨tC,y8,trivial,PD⟩
def tG :List Nat:=[11,12,32,33,34,35,50,51,53,54,67,73,74,75,101,102,103,105,106,107,110,144]
theorem He :cp Tryz.prog tG:=cp.of PD
noncomputable def Ki (privs : List Nat) (n : Nat) (Rp : Value -> ab -> Prop) : Env := { P := Tryz.prog, T := Hc, F := kH, privs := privs, n := n, FP := tG, pn := some Rp }
theorem Hf (privs:List Nat) (n:Nat) (Rp:Value->ab->Prop):(Ki privs n Rp).OK:=⟨tC,y8,He,PD⟩
abbrev Pp (ty:TypeId) (z y:Nat) (H:List Nat) (h:ab) (A:PY) (n c m:Nat) (xs:List Value) (K:PY->Nat->ab->Prop):Prop:=∃old,aw h ty z A n c old/\(∀b∈H,b∉ai A)/\(n+m)*y<=140737488355328/\(n+m)<=maxLen/\∀sA sC h',aw h' ty z sA (n+m) sC (old++xs)->Fr (ai A) h h'->((sA=A/\sC=c)\/∃g,sA=some ⟨g,0,none⟩/\h.size<=g)->(c<(n+m)->Fr [] h h')->K sA sC h'
abbrev VP :=Value->ab->Prop
abbrev LP :=List Value->ab->Prop
abbrev Pz (ty:TypeId) (z y:Nat) (H:List Nat) (h:ab) (A:PY) (n c m:Nat) (xs:List Value) (K:PY->Nat->ab->Prop):Prop:=Pp ty z y (h.size::H) (h.push (.cells xs.toArray ty)) A n c m xs K
theorem ba {S:Prop} {f:FuncId} {fn:Func} {args:List Value} {h:ab} {R:Value->ab->Prop} (p:List Nat) (n:Nat) (l j b:List (Nat × LD)) (d:List (Nat × DD)) (hf:Tryz.prog.funcs[f]? =some fn) (k:(Nat.beq fn.ntmps n&&(fn.body.isSome&&Nat.ble args.length n))=true) (e:S=FX (tD p n) {loops:=l,joins:=j,blocks:=b,draws:=d} fn (fn.body.getD .skip) args h R) (H:S):af Tryz.prog f args.toArray h R:=by
 simp only[P6]at k
 obtain⟨k1,k2,k3⟩:=k
 obtain⟨c,hc⟩:=Option.isSome_iff_exists.1 k2
 rw[hc]at e
 exact bN (E:=tD p n) (lH _ _) hf hc k1 k3 (e▸H)
theorem gO {S:Prop} {f:FuncId} {fn:Func} {args:List Value} {h:ab} {R Rp:Value->ab->Prop} (p:List Nat) (n:Nat) (l j b:List (Nat × LD)) (d:List (Nat × DD)) (hf:Tryz.prog.funcs[f]? =some fn) (k:(Nat.beq fn.ntmps n&&(fn.body.isSome&&Nat.ble args.length n))=true) (e:S=FX (Ki p n Rp) {loops:=l,joins:=j,blocks:=b,draws:=d} fn (fn.body.getD .skip) args h R) (H:S):aG Tryz.prog f args.toArray h R Rp:=by
 simp only[P6]at k
 obtain⟨k1,k2,k3⟩:=k
 obtain⟨c,hc⟩:=Option.isSome_iff_exists.1 k2
 rw[hc]at e
 exact ur (E:=Ki p n Rp) (Hf _ _ _) hf hc k1 k3 rfl (e▸H)
abbrev PI:=ag Tryz.prog
abbrev PJ:=af Tryz.prog
abbrev PK:=aH Tryz.prog
abbrev PL:=bg Tryz.prog
abbrev PM:=aG Tryz.prog
end Go.Proofs.YtmmmmjcfojhiaaaGreatDoor
namespace Go.X
theorem wr {x:Int} (h1: -9223372036854775808<=x) (h2:x<=9223372036854775807):i64.wrap x=x:=by
 rw[IntKind.wrap_i64];omega
theorem ae {p:Prop} [Decidable p] {A B:Prop} (a:p->A) (b:¬p->B):cnd (decide p) A B:=
 ⟨fun h=>a (of_decide_eq_true h),fun h=>b (of_decide_eq_false h)⟩
theorem au {x y:Int} {A B:Prop} (a:x=y->A) (b:x≠y->B):cnd (x==y) A B:=
 ⟨fun h=>a (by simpa using h),fun h=>b (by simpa using h)⟩
theorem cn {x y:Int} {A B:Prop} (a:x≠y->A) (b:x=y->B):cnd (x != y) A B:=
 ⟨fun h=>a (by simpa using h),fun h=>b (by simpa using h)⟩
theorem bj {x:Bool} {A B:Prop} (a:x=false->A) (b:x=true->B):cnd (!x) A B:=
 ⟨fun h=>a (by simpa using h),fun h=>b (by simpa using h)⟩
theorem aU {x:Bool} {A B:Prop} (a:x=true->A) (b:x=false->B):cnd x A B:=⟨a,b⟩
theorem aJ {c:Bool} {A B:Prop} (h:c=true) (a:A):cnd c A B:=⟨fun _=>a,fun g=>by simp[h]at g⟩
theorem az {c:Bool} {A B:Prop} (h:c=false) (b:B):cnd c A B:=⟨fun g=>by simp[h]at g,fun _=>b⟩
theorem cq {P:Program} {f:FuncId} {args:Array Value} {h:ab} {H:List Nat} {K R:Value->ab->Prop} (M:List Nat)
  (c:af P f args h fun v h'=>Fr M h h'/\R v h') (hm:∀b∈H,b∉M) (k:∀v h',Fr M h h'->R v h'->K v h'):ag P f args h H K:=
 ⟨M,R,c,hm,k⟩
theorem bB {P:Program} {f:FuncId} {args:Array Value} {h:ab} {H:List Nat} {K R:Value->ab->Prop}
  (c:af P f args h fun v h'=>Fr [] h h'/\R v h') (k:∀v h',Fr [] h h'->R v h'->K v h'):ag P f args h H K:=
 ⟨[],R,c,PC,k⟩
theorem gy {h:ab} {x:Obj}:(h.push x)[h.size]? =some x:=by simp
theorem yp {h:ab} {b:Nat} {x:Obj} (hb:h[b]? =some x):b<h.size:=(Array.getElem?_eq_some_iff.1 hb).1
theorem Fr.pushr {M:List Nat} {a b:ab} (h:Fr M a b) (x:Obj):Fr M a (b.push x):=h.trans (Fr.push b x).nil
theorem Fr.hsetr {M:List Nat} {a b:ab} (h:Fr M a b) {g o:Nat} {v:Value} (hg:a.size<=g\/g∈M):Fr M a (X.aj b g o v):=
 ⟨by simpa using h.size,fun i hi hm=>by
  rw[fI,h.blk i hi hm]
  grind⟩
theorem Fr.of_eq {M:List Nat} {h h':ab} (e:h'=h):Fr M h h':=e▸Fr.refl M h
theorem Fr.comp {M N:List Nat} {a b c:ab} (h:Fr M a b) (k:Fr N b c) (hn:∀x∈N,x∈M\/a.size<=x):Fr M a c:=
 ⟨Qg h.size k.size,fun i hi hm=>(k.blk i (QT hi h.size) fun hx=>(hn i hx).elim hm fun e=>by omega).trans (h.blk i hi hm)⟩
def mI (n:Int) (l:List Value) (_:ab):Nat:=
 match l with
 | .int _ x::_=>(n-x).toNat
 | _=>0
theorem aw.nil (h:ab) (e sz:Nat):aw h e sz none 0 0 []:=⟨PC,.inl ⟨rfl,rfl,rfl⟩⟩
theorem aw.blk {h h':ab} {e sz n c:Nat} {a:PY} {xs:List Value} (o:aw h e sz a n c xs) (hb:∀b∈ai a,h'[b]? =h[b]?):aw h' e sz a n c xs:=by
 obtain⟨h1,h2⟩:=o
 refine⟨h1,h2.imp id ?_⟩
 rintro⟨g,cur,rfl,h3,h4⟩
 exact⟨g,cur,rfl,h3.congr (hb g (by simp[ai])),h4⟩
theorem aw.lt {h:ab} {e sz n c:Nat} {a:PY} {xs:List Value} (o:aw h e sz a n c xs):∀b∈ai a,b<h.size:=by
 obtain⟨h1,h2⟩:=o
 rcases h2 with⟨rfl,_⟩ | ⟨g,cur,rfl,h3,h4⟩
 ·simp[ai]
 ·simpa[ai]using h3.lt
theorem aw.fr {h h':ab} {e sz n c:Nat} {a:PY} {xs:List Value} {M:List Nat} (o:aw h e sz a n c xs) (f:Fr M h h') (hm:∀b∈ai a,b∉M):aw h' e sz a n c xs:=
 o.blk fun b hb=>f.blk b (o.lt b hb) (hm b hb)
theorem aw.cap {h:ab} {e sz n c:Nat} {a:PY} {xs:List Value} (o:aw h e sz a n c xs):n<=c/\c<=maxLen:=by
 obtain⟨h1,h2⟩:=o
 omega
theorem aw.reads {h:ab} {e sz n c:Nat} {a:PY} {xs:List Value} (o:aw h e sz a n c xs):Reads h sz a n xs:=by
 obtain⟨h1,h2⟩:=o
 refine⟨h1,?_⟩
 rcases h2 with⟨rfl,rfl,rfl⟩ | ⟨g,cur,rfl,h3,h4,h5,h6,h7⟩
 ·grind
 ·refine .inr ⟨g,0,rfl,fun j v hj=>?_⟩
  rw[h3.cell,Qu]
  grind
theorem Reads.at {h:ab} {sz n:Nat} {a:PY} {xs:List Value} (r:Reads h sz a n xs) (hn:0<n):
  ∃b o,a=some ⟨b,o,none⟩/\∀j v,xs[j]? =some v->ac h b (o+j)=some v:=by
 rcases r.2 with⟨_,rfl⟩ | h2
 ·omega
 ·exact h2
theorem aw.at {h:ab} {e sz n c:Nat} {a:PY} {xs:List Value} (o:aw h e sz a n c xs) (hn:0<n):
  ∃g cur,a=some ⟨g,0,none⟩/\Blk h g e cur/\c*sz<=cur.size/\cur.toList.take (n*sz)=xs:=by
 rcases o.2 with⟨_,rfl,_⟩ | ⟨g,cur,h1,h2,h3,h4,h5,h6⟩
 ·omega
 grind
theorem aw.set {h:ab} {e sz n c:Nat} {g:Nat} {xs:List Value} (o:aw h e sz (some ⟨g,0,none⟩) n c xs) (k:Nat) (v:Value):
  aw (aj h g k v) e sz (some ⟨g,0,none⟩) n c (xs.set k v):=by
 obtain⟨h1,h2⟩:=o
 refine⟨by simpa using h1,.inr ?_⟩
 rcases h2 with⟨h2,_⟩ | ⟨g',cur,h2,h3,h4,h5,h6,h7⟩
 ·simp at h2
 ·simp at h2;subst h2
  refine⟨g,_,rfl,h3.set k v,h4,h5,by simpa using h6,?_⟩
  rw[<-h7]
  simp[List.take_set]
theorem aw.cell {h:ab} {e sz n c:Nat} {g:Nat} {xs:List Value} (o:aw h e sz (some ⟨g,0,none⟩) n c xs) {k:Nat} {v:Value} (hk:xs[k]? =some v):
  ac h g k=some v:=by
 rcases o.reads.2 with⟨h2,_⟩ | ⟨b,o',h2,h3⟩
 ·simp at h2
 grind
theorem aw.free {h:ab} {e sz n c:Nat} {g:Nat} {xs:List Value} (o:aw h e sz (some ⟨g,0,none⟩) n c xs) (k:Nat):aq h g k=true:=by
 rcases o.2 with⟨h2,_⟩ | ⟨g',cur,h2,h3,_⟩
 ·simp at h2
 ·simp at h2;subst h2
  exact h3.free k
end Go.X
