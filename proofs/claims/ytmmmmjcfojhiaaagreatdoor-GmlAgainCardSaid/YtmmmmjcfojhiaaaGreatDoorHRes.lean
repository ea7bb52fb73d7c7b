/- A list. Conditions: what Clean tells, what a number's text reads as. -/
import Derived.Test.YtmmmmjcfojhiaaaGreatDoorHVal
import Derived.Defers
import Derived.Recover
set_option linter.unusedVariables false
set_option linter.unusedSimpArgs false
set_option maxRecDepth 100000
set_option maxHeartbeats 4000000
open Go.IntKind (i64 u64 u8 i32)
namespace Go.Proofs.YtmmmmjcfojhiaaaGreatDoor.N
open Go.Proofs.YtmmmmjcfojhiaaaGreatDoor
open Go.X
theorem LvR.top {b:Nat} {l:G.Lv} {kv ov:Value} {mo:Option (Nat × List PZ)} {fs:Fs} (lv:LvR b l kv ov mo fs):G.bV l=true ↔ kv= .func (.func 34) #[pt b] #[]:=by
 cases l with
 | top=>exact⟨fun _=>lv.1,fun _=>rfl⟩
 | over=>exact⟨fun q=>(by cases q),fun q=>(by rw[lv.1]at q;cases q)⟩
 | graph d=>obtain⟨_,_,_,_,a,_⟩:=lv;exact⟨fun q=>(by cases q),fun q=>by rw[a]at q;cases q⟩
 | node _ _ _ _=>obtain⟨_,_,_,_,_,a,_⟩:=lv;exact⟨fun q=>(by cases q),fun q=>by rw[a]at q;cases q⟩
 | spot _ _ _=>obtain⟨_,_,_,_,_,a,_⟩:=lv;exact⟨fun q=>(by cases q),fun q=>by rw[a]at q;cases q⟩
 | edge _ _ _ _=>obtain⟨_,_,_,_,_,a,_⟩:=lv;exact⟨fun q=>(by cases q),fun q=>by rw[a]at q;cases q⟩
theorem LvR.tops {b:Nat} {l l':G.Lv} {kv ov:Value} {mo mo':Option (Nat × List PZ)} {fs fs':Fs} (lv:LvR b l kv ov mo fs) (lv':LvR b l' kv ov mo' fs'):G.bV l'=G.bV l:=by
 rw[Rr,LvR.top lv,LvR.top lv']
section
variable {gl:GL} {b:Nat} {s:P0} {rd:P0->Option (Nat × Nat)} {cl:Nat->Nat}
theorem Fj {n:Nat} (hr:qO rd gl) (hc:G.ClOK cl) (hcl:qP cl) (hs:s.size<=262144) (IH:∀k,k<n->yD gl b s rd cl k) (l:G.Lv) (d:Nat) (σ:G.Rd) (A:AD) (h:ab) (kF:Fn) (kX kY:Array Value) (ov:Value) (mo:Option (Nat × List PZ)) (fs:Fs)
  (H:Hp h (stC gl b s A σ d++[Ck.fx mo fs])) (lv:LvR b l (.func kF kX kY) ov mo fs) (ri:G.RI cl s σ) (hb:LvB σ l) (hd:d<=16) (hu:G.list s rd cl n l d σ≠ .un):
  PM 33 #[pt b,PV (G.bV l),.func kF kX kY] h (lR gl b s rd cl (stC gl b s A σ d++[Ck.fx mo fs]) h n l d σ (.func kF kX kY) ov fs) (lE s rd cl (stC gl b s A σ d++[Ck.fx mo fs]) h n l d σ):=by
 generalize hC:stC gl b s A σ d++[Ck.fx mo fs]=C at H ⊢
 have Q0:Sq h C h (stC gl b s A σ d++[Ck.fx mo fs]):=by rw[hC];exact Sq.start H
 obtain⟨hr1,hr2⟩:=xb (gl:=gl) (b:=b) (s:=s) (A:=A) (σ:=σ) (d:=d) (mo:=mo) (fs:=fs)
 rw[hC]at hr1 hr2
 apply Gb
 unfold S33
 have htl:G.bV l=true\/G.bV l=false:=by grind
 refine⟨fun _ hv=>∃n' l' σ' A' mo',Sq h C hv (stC gl b s A' σ' d++[Ck.fx mo' fs])/\LvR b l' (.func kF kX kY) ov mo' fs/\G.bV l'=G.bV l/\G.RI cl s σ'/\LvB σ' l'/\Gr σ σ'/\n'<=n/\G.list s rd cl n l d σ=G.list s rd cl n' l' d σ',
  fun _ hv=>match ac hv b 1 with
   | some (.int _ i)=>s.size-i.toNat
   | _=>0,⟨n,l,σ,A,mo,Q0,lv,rfl,ri,hb,Gr.refl σ,P3 _,rfl⟩,?_⟩
 rintro hv ⟨n',l',σ',A',mo',Q,lv',ht,ri',hb',g',hn,hl⟩
 cases n' with
 | zero=>exact absurd (hl.trans rfl) hu
 | succ k=>
 rw[G.list]at hl
 refine⟨b,0,rfl,?_⟩
 refine aK [b] (I1 (Q.sy.lx 0 rfl) ri'.i hs) PC (fun _ _ r=>by obtain⟨_,_,_,_,M⟩:=r;exact M.fr) (fun _ _ r=>by grind) (fun v hv2 r=>?_) fun v hv2 r=>?_
 rotate_left
 ·obtain⟨f,e,rfl,fr⟩:=r
  exact⟨f,by rw[hl,e];rfl,rfl,Q.frT (fr.mono fun x hx=>inB hx)⟩
 obtain⟨t,i,e1,rfl,M⟩:=r
 have ni:=(G.iV ri'.i).1 t i e1
 have Q2:Sq h C hv2 (stC gl b s A' {σ' with i:=i} d++[Ck.fx mo' fs]):=Sq.mvB Q M
 have ri2:G.RI cl s {σ' with i:=i}:=ri'.at ni.2.1
 have hb2:LvB {σ' with i:=i} l':=hb'.at i
 have g2:Gr σ {σ' with i:=i}:=⟨g'.n,g'.e,g'.w⟩
 have i2:({σ' with i:=i}:G.Rd).i=i:=rfl
 have ei:s.size-((σ'.i:Nat):Int).toNat=s.size-σ'.i:=by simp
 have m0:ac hv b 1=some (PN (σ'.i:Int)):=Q.sy.cellO 0 rfl 1 rfl
 rw[e1]at hl
 simp only[G.Er.bind]at hl
 generalize hσ:({σ' with i:=i}:G.Rd)=σ2 at*
 refine⟨_,_,_,_,rfl,?_⟩
 intro hv3 hv4
 have Q4:Sq h C hv4 (stC gl b s A' σ2 d++[Ck.fx mo' fs]):=Q2.gr ((((((Fr.push hv2 _).hsetL (P3 _)).hsetL (P3 _)).hsetL (P3 _)).hsetL (P3 _)))
 have nin:∀z∈([hv2.size]:List Nat),z∉ao (stC gl b s A' σ2 d++[Ck.fx mo' fs]):=by
  intro z hz q
  simp only[Qi]at hz
  subst hz
  obtain⟨k,c,h1,h2⟩:=bD.1 q
  have:=fN Q2.sy k h1 _ h2
  omega
 clear_value hv4
 clear hv3
 intro K
 have ret:((G.bV l'=true/\t.kind=0)\/(G.bV l'=false/\t.kind=2))->lR gl b s rd cl C h n l d σ (.func kF kX kY) ov fs (PN (t.at_:Int)) hv4:=by
  intro q
  rw[if_pos q]at hl
  exact⟨t.at_,l',σ2,A',mo',hl,rfl,Q4,lv',g2⟩
 have kk:¬((G.bV l'=true/\t.kind=0)\/(G.bV l'=false/\t.kind=2))->K hv4:=by
  intro q
  rw[if_neg q]at hl
  refine aF (fun q3=>?_) fun q3=>⟨_,?_,rfl,Q4.fr⟩
  rotate_left
  ·have h3:¬t.kind=3:=fun z=>by grind
   rw[hl]
   simp[G.aB,h3]
  have h3:t.kind=3:=by grind
  rw[decide_eq_true h3]at hl
  simp only[G.aB]at hl
  refine⟨rfl,?_⟩
  refine⟨fun lst hx=>∃x l'' σ3 A3 mo3 mo1 fs1 tfs p,lst=[PW p]/\G.key l' t σ2= .ok (x,l'',σ3)/\Sq h C hx (stC gl b s A3 σ3 d++[Ck.fx mo3 fs,Ck.fx mo1 fs1,Ck.fx none tfs])/\
   LvR b l'' (.func kF kX kY) ov mo3 fs/\TkR b A3 x p mo1 fs1 tfs/\Gr σ2 σ3/\LvB σ3 l''/\TkB σ3 x,?_,?_⟩
  ·refine aJ rfl ?_
   refine OQ (t:=t) lv' Q4.hp ri2 hb2 nin (fun w h' r=>?_) fun w h' r=>?_
   ·obtain⟨x,l'',σ3,A3,mo3,mo1,fs1,tfs,p,a1,rfl,a3,a4,a5,a6,a7,a8⟩:=r
    exact⟨p,rfl,x,l'',σ3,A3,mo3,mo1,fs1,tfs,p,rfl,a1,Q4.callT a3,a4,a5,a6,a7,a8⟩
   ·obtain⟨f,a1,rfl,a3⟩:=r
    rw[a1]at hl
    exact⟨f,hl,rfl,Q4.frT a3⟩
  ·rintro xP hv8 ⟨x,l'',σ3,A3,mo3,mo1,fs1,tfs,p,ep,ek,Q8,lv3,tk,g3,lb3,tb3⟩
   cases ep
   obtain⟨-,-,ri3,-,i3⟩:=(G.od hc ri2 hb2.I ni.2.2.1).1 _ ek
   simp only at ri3 i3
   rw[ek]at hl
   simp only[G.Er.bind]at hl
   have Q8':Sq h C hv8 ((stC gl b s A3 σ3 d++[Ck.fx mo1 fs1,Ck.fx none tfs])++[Ck.fx mo3 fs]):=Q8.pick [0,1,2,3,4,5,6,8,9,7] rfl
   have HA:Hp hv8 (stC gl b s A3 σ3 d++[Ck.fx mo1 fs1,Ck.fx none tfs]):=(Q8.pick [0,1,2,3,4,5,6,8,9] rfl).hp
   have hun:G.value s rd cl (G.list s rd cl k) x d σ3≠ .un:=by
    grind
   refine aK _ (yE hr hcl hs (IH k PA) x d σ3 A3 hv8 xP mo1 fs1 tfs HA tk ri3 tb3 hd hun) PC (fun _ _ r=>by obtain⟨_,_,_,_,z,_⟩:=r;exact z.fr) (fun _ _ r=>by obtain⟨_,_,_,z⟩:=r;exact z) (fun w hv9 r=>?_) fun w hv9 r=>?_
   ·obtain⟨σ4,A4,q1,rfl,q2,q3⟩:=r
    have Q9:Sq h C hv9 (stC gl b s A4 σ4 d++[Ck.fx mo3 fs]):=Sq.call Q8' q2
    obtain⟨ri4,-,i4⟩:=(G.jV hc (fun l d σ=>G.jr (rd:=rd) hc k l d σ) ri3 tb3.I).1 _ q1
    rw[q1]at hl
    refine⟨rfl,⟨k,l'',σ4,A4,mo3,Q9,lv3,(LvR.tops lv' lv3).trans ht,ri4,lb3.gr q3,(g2.trans g3).trans q3,PA,hl⟩,?_⟩
    have m9:ac hv9 b 1=some (PN (σ4.i:Int)):=Q9.sy.cellO 0 rfl 1 rfl
    grind
   ·obtain⟨f,q1,rfl,q2⟩:=r
    rw[q1]at hl
    exact⟨f,hl,rfl,Q8'.frA q2⟩
 rcases htl with htl | htl
 ·rw[htl]at ht ⊢
  refine aJ rfl (au (fun q=>ret (.inl ⟨ht,PA⟩)) fun q=>az rfl (kk ?_))
  grind
 ·rw[htl]at ht ⊢
  refine az rfl (aJ rfl (au (fun q=>ret (.inr ⟨ht,PA⟩)) fun q=>kk ?_))
  grind
theorem Fk {n:Nat} (hr:qO rd gl) (hc:G.ClOK cl) (hcl:qP cl) (hs:s.size<=262144) (IH:∀k,k<n->yD gl b s rd cl k) (l:G.Lv) (d:Nat) (σ:G.Rd) (A:AD) (h:ab) (ov:Value) (mo:Option (Nat × List PZ)) (fs:Fs)
  (H:Hp h (stC gl b s A σ d++[Ck.fx mo fs])) (lv:LvR b l (.nilFunc) ov mo fs) (ri:G.RI cl s σ) (hb:LvB σ l) (hd:d<=16) (hu:G.list s rd cl n l d σ≠ .un):
  PM 33 #[pt b,PV (G.bV l),.nilFunc] h (lR gl b s rd cl (stC gl b s A σ d++[Ck.fx mo fs]) h n l d σ (.nilFunc) ov fs) (lE s rd cl (stC gl b s A σ d++[Ck.fx mo fs]) h n l d σ):=by
 generalize hC:stC gl b s A σ d++[Ck.fx mo fs]=C at H ⊢
 have Q0:Sq h C h (stC gl b s A σ d++[Ck.fx mo fs]):=by rw[hC];exact Sq.start H
 obtain⟨hr1,hr2⟩:=xb (gl:=gl) (b:=b) (s:=s) (A:=A) (σ:=σ) (d:=d) (mo:=mo) (fs:=fs)
 rw[hC]at hr1 hr2
 apply Ch
 unfold Mc
 have htl:G.bV l=true\/G.bV l=false:=by grind
 refine⟨fun _ hv=>∃n' l' σ' A' mo',Sq h C hv (stC gl b s A' σ' d++[Ck.fx mo' fs])/\LvR b l' (.nilFunc) ov mo' fs/\G.bV l'=G.bV l/\G.RI cl s σ'/\LvB σ' l'/\Gr σ σ'/\n'<=n/\G.list s rd cl n l d σ=G.list s rd cl n' l' d σ',
  fun _ hv=>match ac hv b 1 with
   | some (.int _ i)=>s.size-i.toNat
   | _=>0,⟨n,l,σ,A,mo,Q0,lv,rfl,ri,hb,Gr.refl σ,P3 _,rfl⟩,?_⟩
 rintro hv ⟨n',l',σ',A',mo',Q,lv',ht,ri',hb',g',hn,hl⟩
 cases n' with
 | zero=>exact absurd (hl.trans rfl) hu
 | succ k=>
 rw[G.list]at hl
 refine⟨b,0,rfl,?_⟩
 refine aK [b] (I1 (Q.sy.lx 0 rfl) ri'.i hs) PC (fun _ _ r=>by obtain⟨_,_,_,_,M⟩:=r;exact M.fr) (fun _ _ r=>by grind) (fun v hv2 r=>?_) fun v hv2 r=>?_
 rotate_left
 ·obtain⟨f,e,rfl,fr⟩:=r
  exact⟨f,by rw[hl,e];rfl,rfl,Q.frT (fr.mono fun x hx=>inB hx)⟩
 obtain⟨t,i,e1,rfl,M⟩:=r
 have ni:=(G.iV ri'.i).1 t i e1
 have Q2:Sq h C hv2 (stC gl b s A' {σ' with i:=i} d++[Ck.fx mo' fs]):=Sq.mvB Q M
 have ri2:G.RI cl s {σ' with i:=i}:=ri'.at ni.2.1
 have hb2:LvB {σ' with i:=i} l':=hb'.at i
 have g2:Gr σ {σ' with i:=i}:=⟨g'.n,g'.e,g'.w⟩
 have i2:({σ' with i:=i}:G.Rd).i=i:=rfl
 have ei:s.size-((σ'.i:Nat):Int).toNat=s.size-σ'.i:=by simp
 have m0:ac hv b 1=some (PN (σ'.i:Int)):=Q.sy.cellO 0 rfl 1 rfl
 rw[e1]at hl
 simp only[G.Er.bind]at hl
 generalize hσ:({σ' with i:=i}:G.Rd)=σ2 at*
 refine⟨_,_,_,_,rfl,?_⟩
 intro hv3 hv4
 have Q4:Sq h C hv4 (stC gl b s A' σ2 d++[Ck.fx mo' fs]):=Q2.gr ((((((Fr.push hv2 _).hsetL (P3 _)).hsetL (P3 _)).hsetL (P3 _)).hsetL (P3 _)))
 have nin:∀z∈([hv2.size]:List Nat),z∉ao (stC gl b s A' σ2 d++[Ck.fx mo' fs]):=by
  intro z hz q
  simp only[Qi]at hz
  subst hz
  obtain⟨k,c,h1,h2⟩:=bD.1 q
  have:=fN Q2.sy k h1 _ h2
  omega
 clear_value hv4
 clear hv3
 intro K
 have ret:((G.bV l'=true/\t.kind=0)\/(G.bV l'=false/\t.kind=2))->lR gl b s rd cl C h n l d σ (.nilFunc) ov fs (PN (t.at_:Int)) hv4:=by
  intro q
  rw[if_pos q]at hl
  exact⟨t.at_,l',σ2,A',mo',hl,rfl,Q4,lv',g2⟩
 have kk:¬((G.bV l'=true/\t.kind=0)\/(G.bV l'=false/\t.kind=2))->K hv4:=by
  intro q
  rw[if_neg q]at hl
  refine aF (fun q3=>?_) fun q3=>⟨_,?_,rfl,Q4.fr⟩
  rotate_left
  ·have h3:¬t.kind=3:=fun z=>by grind
   rw[hl]
   simp[G.aB,h3]
  have h3:t.kind=3:=by grind
  rw[decide_eq_true h3]at hl
  simp only[G.aB]at hl
  refine⟨rfl,?_⟩
  refine⟨fun lst hx=>∃x l'' σ3 A3 mo3 mo1 fs1 tfs p,lst=[PW p]/\G.key l' t σ2= .ok (x,l'',σ3)/\Sq h C hx (stC gl b s A3 σ3 d++[Ck.fx mo3 fs,Ck.fx mo1 fs1,Ck.fx none tfs])/\
   LvR b l'' (.nilFunc) ov mo3 fs/\TkR b A3 x p mo1 fs1 tfs/\Gr σ2 σ3/\LvB σ3 l''/\TkB σ3 x,?_,?_⟩
  ·refine az rfl ?_
   have hov:l'= .over:=by
    cases l' with
    | over=>rfl
    | top=>exact absurd lv'.1 PE
    | graph d=>obtain⟨_,_,_,_,a,_⟩:=lv';cases a
    | node _ _ _ _=>obtain⟨_,_,_,_,_,a,_⟩:=lv';cases a
    | spot _ _ _=>obtain⟨_,_,_,_,_,a,_⟩:=lv';cases a
    | edge _ _ _ _=>obtain⟨_,_,_,_,_,a,_⟩:=lv';cases a
   subst hov
   exact⟨.none,.over,σ2,A',mo',none,[],[],none,rfl,rfl,zX Q4.sy (fun x hx=>.inl (hr1 x hx)) hr2,lv',⟨rfl,rfl,rfl,rfl⟩,Gr.refl _,trivial,trivial⟩
  ·rintro xP hv8 ⟨x,l'',σ3,A3,mo3,mo1,fs1,tfs,p,ep,ek,Q8,lv3,tk,g3,lb3,tb3⟩
   cases ep
   obtain⟨-,-,ri3,-,i3⟩:=(G.od hc ri2 hb2.I ni.2.2.1).1 _ ek
   simp only at ri3 i3
   rw[ek]at hl
   simp only[G.Er.bind]at hl
   have Q8':Sq h C hv8 ((stC gl b s A3 σ3 d++[Ck.fx mo1 fs1,Ck.fx none tfs])++[Ck.fx mo3 fs]):=Q8.pick [0,1,2,3,4,5,6,8,9,7] rfl
   have HA:Hp hv8 (stC gl b s A3 σ3 d++[Ck.fx mo1 fs1,Ck.fx none tfs]):=(Q8.pick [0,1,2,3,4,5,6,8,9] rfl).hp
   have hun:G.value s rd cl (G.list s rd cl k) x d σ3≠ .un:=by
    grind
   refine aK _ (yE hr hcl hs (IH k PA) x d σ3 A3 hv8 xP mo1 fs1 tfs HA tk ri3 tb3 hd hun) PC (fun _ _ r=>by obtain⟨_,_,_,_,z,_⟩:=r;exact z.fr) (fun _ _ r=>by obtain⟨_,_,_,z⟩:=r;exact z) (fun w hv9 r=>?_) fun w hv9 r=>?_
   ·obtain⟨σ4,A4,q1,rfl,q2,q3⟩:=r
    have Q9:Sq h C hv9 (stC gl b s A4 σ4 d++[Ck.fx mo3 fs]):=Sq.call Q8' q2
    obtain⟨ri4,-,i4⟩:=(G.jV hc (fun l d σ=>G.jr (rd:=rd) hc k l d σ) ri3 tb3.I).1 _ q1
    rw[q1]at hl
    refine⟨rfl,⟨k,l'',σ4,A4,mo3,Q9,lv3,(LvR.tops lv' lv3).trans ht,ri4,lb3.gr q3,(g2.trans g3).trans q3,PA,hl⟩,?_⟩
    have m9:ac hv9 b 1=some (PN (σ4.i:Int)):=Q9.sy.cellO 0 rfl 1 rfl
    grind
   ·obtain⟨f,q1,rfl,q2⟩:=r
    rw[q1]at hl
    exact⟨f,hl,rfl,Q8'.frA q2⟩
 rcases htl with htl | htl
 ·rw[htl]at ht ⊢
  refine aJ rfl (au (fun q=>ret (.inl ⟨ht,PA⟩)) fun q=>az rfl (kk ?_))
  grind
 ·rw[htl]at ht ⊢
  refine az rfl (aJ rfl (au (fun q=>ret (.inr ⟨ht,PA⟩)) fun q=>kk ?_))
  grind
theorem I0 (hr:qO rd gl) (hc:G.ClOK cl) (hcl:qP cl) (hs:s.size<=262144) (n:Nat):yD gl b s rd cl n:=by
 induction n using Nat.strongRecOn with
 | _ n IH=>
  intro l d σ A h kv ov mo fs H lv ri hb hd hu
  cases kv with
  | func kF kX kY=>grind [Fj]
  | nilFunc=>grind [Fk]
  | _=>
   exfalso
   cases l with
   | over=>exact absurd lv.1 (by intro z;cases z)
   | top=>exact absurd lv.1 (by intro z;cases z)
   | graph d=>obtain⟨_,_,_,_,a,_⟩:=lv;cases a
   | node _ _ _ _=>obtain⟨_,_,_,_,_,a,_⟩:=lv;cases a
   | spot _ _ _=>obtain⟨_,_,_,_,_,a,_⟩:=lv;cases a
   | edge _ _ _ _=>obtain⟨_,_,_,_,_,a,_⟩:=lv;cases a
end
end Go.Proofs.YtmmmmjcfojhiaaaGreatDoor.N
namespace Go.Proofs.YtmmmmjcfojhiaaaGreatDoor.G
def EA (σ:Rd):Prop:=(∀t∈σ.ends,t.says.size<=16)/\(σ.ids.map (·.1)).Nodup
def Er.al {α:Type} (x:Er α) (P:α->Prop):Prop:=∀a,x= .ok a->P a
theorem Er.al_ok {α:Type} {a:α} {P:α->Prop} (h:P a):(Er.ok a).al P:=fun b e=>by cases e;exact h
theorem Er.al_no {α:Type} {f:F} {P:α->Prop}:(Er.no f:Er α).al P:=fun b e=>by cases e
theorem Er.al_un {α:Type} {P:α->Prop}:(Er.un:Er α).al P:=fun b e=>by cases e
theorem Er.al_bind {α β:Type} {x:Er α} {k:α->Er β} {P:α->Prop} {Q:β->Prop} (h:x.al P) (hk:∀a,P a->(k a).al Q):(x.bind k).al Q:=by
 cases x with
 | ok a=>exact hk a (h a rfl)
 | no f=>exact Er.al_no
 | un=>exact Er.al_un
theorem Er.al_must {α:Type} {b:Bool} {f:F} {k:Er α} {P:α->Prop} (h:k.al P):(aB b f k).al P:=by
 cases b
 ·exact Er.al_no
 ·exact h
theorem Er.al_mustT {α:Type} {b:Bool} {f:F} {k:Er α} {P:α->Prop} (h:b=true->k.al P):(aB b f k).al P:=by
 cases b
 ·exact Er.al_no
 ·exact h rfl
theorem Er.al_any {α:Type} {x:Er α}:x.al fun _=>True:=fun _ _=>trivial
variable {s:P0} {rd:P0->Option (Nat × Nat)} {cl:Nat->Nat}
theorem IT {l:Lv} {t:Tok} {σ:Rd} (h:EA σ):(key l t σ).al fun x=>EA x.2.2:=by
 have h2:EA {σ with ends:=σ.ends++[⟨0,0,noB,0⟩,⟨0,0,noB,0⟩],weights:=σ.weights++[4607182418800017408]}:=by
  refine⟨fun t ht=>?_,h.2⟩
  simp only[Qe,Qd,Qh,or_false]at ht
  rcases ht with ht | rfl | rfl
  ·exact h.1 t ht
  ·exact QU _
  ·exact QU _
 unfold key
 repeat' split
 all_goals first | exact Er.al_ok h | exact Er.al_must (Er.al_ok h) | exact Er.al_must (Er.al_ok h2)
theorem zV {l:PZ} {n:Int} (h:whole l=some n):l.length<=16:=by
 have hd:∀{ng:Bool} {r:PZ},jt ng r=some n->r.length<=10:=by
  intro ng r q
  unfold jt at q
  split at q
  ·cases q
  ·rename_i z;simp only[not_or]at z;omega
 unfold whole at h
 split at h
 ·have:=hd h;simp;omega
 ·have:=hd h;omega
theorem Fc {x:Tk} {v:Tok} {σ:Rd} (h:EA σ):(bX cl x v σ).al EA:=by
 unfold bX
 split
 ·exact Er.al_must (Er.al_ok h)
 ·split
  ·rename_i n _
   refine Er.al_mustT fun q=>Er.al_ok ⟨h.1,?_⟩
   rw[Rc]at q
   rw[List.any_eq_false]at q
   simp only[List.map_append,Se,List.map_nil]
   rw[List.nodup_append]
   refine⟨h.2,PC,fun a ha b hb e=>?_⟩
   subst e
   simp only[Qi]at hb
   obtain⟨w,h1,h2⟩:=Rj.1 ha
   exact q w h1 (by rw[h2,hb];simp)
  ·exact Er.al_no
 ·exact Er.al_must (Er.al_must (Er.al_ok h))
 ·exact Er.al_ok h
 ·split
  ·rename_i n q
   refine Er.al_ok ⟨fun t ht=>?_,h.2⟩
   rcases Rm ht with ht | rfl
   ·exact h.1 t ht
   ·have:=zV q
    exact this
  ·exact Er.al_no
 ·exact Er.al_ok h
 ·exact Er.al_ok h
theorem zW {l:Lv} {e:Nat} {σ:Rd} (h:EA σ):(behind l e σ).al EA:=by
 unfold behind
 split<;>first | exact Er.al_must (Er.al_ok h) | exact Er.al_ok h
theorem Bq {L:Lv->Nat->Rd->Er (Nat × Lv × Rd)} (hL:∀l d σ,EA σ->(L l d σ).al fun x=>EA x.2.2) {x:Tk} {d:Nat} {σ:Rd} (h:EA σ):(value s rd cl L x d σ).al EA:=by
 unfold value
 refine Er.al_bind Er.al_any ?_
 rintro⟨v0,i⟩-
 refine Er.al_bind Er.al_any fun v _=>Er.al_must (Er.al_must ?_)
 split
 ·split
  ·exact Er.al_bind (hL _ _ _ h) fun a ha=>zW ha
  ·exact Er.al_bind (hL _ _ _ h) fun a ha=>Er.al_ok ha
 ·exact Fc h
theorem Fe :∀(n:Nat) (l:Lv) (d:Nat) (σ:Rd),EA σ->(list s rd cl n l d σ).al fun x=>EA x.2.2:=by
 intro n
 induction n with
 | zero=>intro l d σ h;exact Er.al_un
 | succ n ih=>
  intro l d σ h
  rw[list]
  refine Er.al_bind Er.al_any ?_
  rintro⟨t,i⟩-
  dsimp only
  split
  ·exact Er.al_ok h
  ·refine Er.al_must (Er.al_bind (IT h) ?_)
   rintro⟨x,l',r1⟩ h1
   exact Er.al_bind (Bq ih h1) fun r2 h2=>ih l' d r2 h2
theorem oU {ids:List (Int × Nat)} {ts:List Tok} {k:Nat} (h:2*k+1<ts.length):
  edges ids (ts.drop (2*k))=(eV ids ts[2*k]).bind fun x=>(eV ids ts[2*k+1]).bind fun y=>(edges ids (ts.drop (2*(k+1)))).bind fun l=>.ok ((x,y)::l):=by
 rw[Qz (by omega:2*k<ts.length),Qz (by omega:2*k+1<ts.length),edges]
 rfl
def ku (rd:P0->Option (Nat × Nat)) (cl:Nat->Nat) (s:P0):Er Dc:=
 (list s rd cl (s.size+1) .top 0 start).bind fun(e,_,r)=>aB r.graph (e,14) <| (edges r.ids r.ends).bind fun es=>
  .ok ⟨r.n,r.dir,es,if r.h0=true then r.labels else [],if r.h1=true then r.spots else [],if r.h2=true then r.weights else []⟩
theorem yB :read rd cl s=aB (decide (s.size<=262144)) (0,23) (ku rd cl s):=rfl
end Go.Proofs.YtmmmmjcfojhiaaaGreatDoor.G
namespace Go.Proofs.YtmmmmjcfojhiaaaGreatDoor.N
open Go.Proofs.YtmmmmjcfojhiaaaGreatDoor
open Go.X
theorem To.if {α:Type} {E:En α} {ty:TypeId} {a:PY} {n c:Nat} {xs:List α} (w:Bool):To (Ck.sl E ty a n c xs) (Ck.sl E ty (if w=true then a else none) (if w=true then n else 0) (if w=true then c else 0) (if w=true then xs else [])):=by
 cases w with
 | true=>exact To.refl _
 | false=>exact⟨fun h _=>(Sy.nilS (⟨Fr.refl _ _,Hp.nil h,fun k c hk=>by simp at hk⟩:Sy h [] h []) E ty).ok (k:=0) rfl,fun b hb=>by simp[Ck.sl,ai]at hb,fun b hb=>by simp[Ck.sl]at hb⟩
section
variable {gl:GL} {b:Nat} {s:P0} {rd:P0->Option (Nat × Nat)} {cl:Nat->Nat}
def pr (e:Nat × Nat):Int × Int:=((e.1:Int),(e.2:Int))
def rcG (s:P0) (A:AD) (σ:G.Rd) (v4 v6 v7 v8:Value):List Value:=
 [PU s,PN (σ.i:Int),PN ((0:Nat):Int),PN (σ.n:Int),v4,PV σ.dir,v6,v7,v8,PV σ.graph,.map (some A.mp),
  PT A.aL σ.labels.length A.cL,PT A.aS σ.spots.length A.cS,PT A.aW σ.weights.length A.cW,PV σ.h0,PV σ.h1,PV σ.h2,PT A.aE σ.ends.length A.cE]
def gC (gl:GL) (b:Nat) (s:P0) (A:AD) (σ:G.Rd) (v4 v6 v7 v8:Value) (rest:List Ck):List Ck:=
 Ck.ob b 49 (rcG s A σ v4 v6 v7 v8)::Ck.mp A.mp (iu σ.ids)::Ck.sl eS 9 A.aL σ.labels.length A.cL σ.labels::Ck.sl eFF 53 A.aS σ.spots.length A.cS σ.spots::Ck.sl eF 51 A.aW σ.weights.length A.cW σ.weights::
  Ck.sl eT 81 A.aE σ.ends.length A.cE σ.ends::Ck.glob gl::rest
def dC (gl:GL) (dc:G.Dc) (aD aL aS aW:PY) (nD cD nL cL nS cS nW cW:Nat):List Ck:=
 [Ck.sl eP 70 aD nD cD (dc.edges.map pr),Ck.sl eS 9 aL nL cL dc.labels,Ck.sl eFF 53 aS nS cS dc.spots,Ck.sl eF 51 aW nW cW dc.weights,Ck.glob gl]
def aR (gl:GL) (s:P0) (rd:P0->Option (Nat × Nat)) (cl:Nat->Nat) (C:List Ck) (h:ab) (v:Value) (h':ab):Prop:=
 ∃dc aD aL aS aW nD cD nL cL nS cS nW cW,G.ku rd cl s= .ok dc/\v= .agg #[PN (dc.n:Int),PT aD nD cD,PV dc.dir,PT aL nL cL,PT aS nS cS,PT aW nW cW]/\
  Sq h C h' (dC gl dc aD aL aS aW nD cD nL cL nS cS nW cW)
def aE (s:P0) (rd:P0->Option (Nat × Nat)) (cl:Nat->Nat) (C:List Ck) (h:ab) (v:Value) (h':ab):Prop:=
 ∃f,G.ku rd cl s= .no f/\v=flt f/\Fr (ao C) h h'
theorem E9 {ids:List (Int × Nat)} (nd:(ids.map (·.1)).Nodup) {w:Int × Nat} (hw:w∈ids):G.find ids w.1=some w.2:=by
 unfold G.find
 cases q:ids.find? (fun p=>p.1==w.1)with
 | none=>
  grind
 | some p=>
  have h1:=List.mem_of_find?_eq_some q
  have h2:=List.find?_some q
  have h2:p.1=w.1:=eq_of_beq h2
  obtain⟨i,hi⟩:=QO.1 h1
  obtain⟨j,hj⟩:=QO.1 hw
  have e:i=j:=sP nd (x:=w.1) PE PE
  grind
theorem Fa {ids:List (Int × Nat)} {n:Int} (h:∀w∈ids,w.1≠n):G.find ids n=none:=by
 grind [G.find]
theorem OB (hr:qO rd gl) (hc:G.ClOK cl) (hcl:qP cl) (hs:s.size<=262144) {A:AD} {h:ab} (H:Hp h (stC gl b s A G.start 0)) (hu:G.ku rd cl s≠ .un):
  PM 12 #[pt b] h (aR gl s rd cl (stC gl b s A G.start 0) h) (aE s rd cl (stC gl b s A G.start 0) h):=by
 generalize hC:stC gl b s A G.start 0=C at H ⊢
 have Q0:Sq h C h (stC gl b s A G.start 0):=by rw[hC];exact Sq.start H
 have hg:∀x∈glB gl,x∈rds C:=by
  intro x hx
  rw[<-hC]
  exact cw.2 ⟨6,_,rfl,hx⟩
 have hbl:b<h.size:=fN Q0.sy 0 rfl b (by simp[Ck.ob])
 apply Gd
 unfold S12
 intro hv
 have s1:hv.size=h.size+1:=by simp[hv]
 have Q1:Sq h C hv ((stC gl b s A G.start 0++[Ck.fx none []])++[Ck.junk h.size]):=by
  refine⟨Sy.junk (Q0.sy.addN (Ck.fx none []) ⟨fun p hp=>(by cases hp),fun f hf=>(by cases hf)⟩ rfl rfl) _,fun x hx=>?_⟩
  grind [rds,Ck.fx,Ck.junk]
 clear_value hv
 have nin:∀z∈([h.size]:List Nat),z∉ao (stC gl b s A G.start 0++[Ck.fx none []]):=by
  intro z hz q
  simp only[Qi]at hz
  subst hz
  obtain⟨k,c,h1,h2⟩:=bD.1 q
  rcases dY h1 with h1 | ⟨_,h1⟩
  ·have:=fN Q0.sy k h1 _ h2;omega
  grind [Ck.fx]
 have HA:Hp hv (stC gl b s A G.start 0++[Ck.fx none []]):=(Q1.pick [0,1,2,3,4,5,6,7] rfl).hp
 have hun:G.list s rd cl (s.size+1) .top 0 G.start≠ .un:=by
  intro q
  unfold G.ku at hu
  rw[q]at hu
  exact hu rfl
 have ri0:G.RI cl s G.start:=G.oK
 refine aK _ (I0 hr hc hcl hs (s.size+1) .top 0 G.start A hv _ .nilFunc none [] HA ⟨rfl,rfl,rfl⟩ ri0 trivial PB hun) nin (fun _ _ r=>by obtain⟨_,_,_,_,_,_,_,q,_⟩:=r;exact q.fr) (fun _ _ r=>by obtain⟨_,_,_,q⟩:=r;exact q) (fun w hv2 r=>?_) fun w hv2 r=>?_
 rotate_left
 ·obtain⟨f,q1,rfl,q2⟩:=r
  exact⟨f,by unfold G.ku;rw[q1];rfl,rfl,Q1.frA q2⟩
 obtain⟨e,l',σ,A',mo',q1,rfl,q2,q3,-⟩:=r
 have ea:G.EA σ:=G.Fe (rd:=rd) (cl:=cl) (s:=s) _ _ _ _ ⟨by simp[G.start],by simp[G.start]⟩ _ q1
 have ri:G.RI cl s σ:=((G.jr (rd:=rd) hc (s.size+1) .top 0 G.start ri0 trivial).1 _ q1).2.2.1
 have Q2:Sq h C hv2 (stC gl b s A' σ 0++[Ck.junk h.size]):=(Sq.call Q1 q2).pick [0,1,2,3,4,5,6,8] rfl
 have hL:G.ku rd cl s=G.aB σ.graph (e,14) ((G.edges σ.ids σ.ends).bind fun es=>.ok ⟨σ.n,σ.dir,es,if σ.h0=true then σ.labels else [],if σ.h1=true then σ.spots else [],if σ.h2=true then σ.weights else []⟩):=by
  unfold G.ku;rw[q1];rfl
 clear Q1 Q0 q2
 refine⟨(e:Int),rfl,b,0,rfl,σ.graph,Q2.sy.cellO 0 rfl 9 rfl,?_⟩
 refine aF (fun q=>?_) fun q=>⟨_,by rw[hL,q];rfl,rfl,Q2.fr⟩
 rw[q]at hL
 simp only[G.aB]at hL
 refine⟨rfl,?_⟩
 have hel:=ri.el
 have hwl:=ri.wl
 have Y0:Sy h (ao C) hv2 (gC gl b s A' σ (PT none 0 0) (PT none 0 0) (PT none 0 0) (PT none 0 0) [Ck.junk h.size,Ck.sl eP 70 none 0 0 []]):=Q2.sy.nilS eP 70
 clear Q2
 refine⟨fun l hv4=>∃(k:Nat) (es:List (Nat × Nat)) (aD:PY) (cD:Nat),l=[PN ((2*k:Nat):Int)]/\es.length=k/\2*k<=σ.ends.length/\
   Sy h (ao C) hv4 (gC gl b s A' σ (PT aD k cD) (PT none 0 0) (PT none 0 0) (PT none 0 0) [Ck.junk h.size,Ck.sl eP 70 aD k cD (es.map pr)])/\
   G.edges σ.ids σ.ends=(G.edges σ.ids (σ.ends.drop (2*k))).bind fun l=>.ok (es++l),fun l _=>match l with
  | [.int _ i]=>σ.ends.length-i.toNat
  | _=>0,⟨0,[],none,0,rfl,rfl,QU _,Y0,?_⟩,?_⟩
 ·rw[Nat.mul_zero,Sa]
  cases G.edges σ.ids σ.ends<;>rfl
 rintro i hv4 ⟨k,es,aD,cD,ei,hk,hle,Y,hes⟩
 cases ei
 have sz4:h.size<hv4.size:=fN Y 7 rfl h.size (by simp[Ck.junk])
 refine⟨b,0,rfl,A'.aE,σ.ends.length,A'.cE,Y.cellO 0 rfl 17 rfl,?_⟩
 refine ae (fun q=>?_) fun q=>?_
 ·--one edge
  have hlt:2*k+1<σ.ends.length:=by omega
  intro hv5
  have Y5:Sy h (ao C) hv5 (gC gl b s A' σ (PT aD k cD) (PT none 0 0) (PT none 0 0) (PT none 0 0) [Ck.junk h.size,Ck.sl eP 70 aD k cD (es.map pr),Ck.ob hv4.size 70 [PN ((0:Nat):Int),PN ((0:Nat):Int)]]):=Sy.newO Y [PN ((0:Nat):Int),PN ((0:Nat):Int)]
  clear_value hv5
  have ew:i64.wrap (((2*k:Nat):Int)+(2:Int))=((2*k+2:Nat):Int):=by rw[wr PA PA];omega
  have e2:2*k+2-2*k=2:=by omega
  rw[ew,P8,P8,e2]
  have hcap:=Y5.capS 5 rfl
  refine⟨b,0,rfl,A'.aE,σ.ends.length,A'.cE,Y5.cellO 0 rfl 17 rfl,PA,PA,PA,PA,?_⟩
  refine⟨fun l hv6=>∃j p q:Nat,l=[PN (j:Int)]/\j<=2/\Sy h (ao C) hv6 (gC gl b s A' σ (PT aD k cD) (PT none 0 0) (PT none 0 0) (PT none 0 0) [Ck.junk h.size,Ck.sl eP 70 aD k cD (es.map pr),Ck.ob hv4.size 70 [PN (p:Int),PN (q:Int)]])/\
    (1<=j->G.eV σ.ids σ.ends[2*k]= .ok p)/\(2<=j->G.eV σ.ids σ.ends[2*k+1]= .ok q),fun l _=>match l with
   | [.int _ i]=>2-i.toNat
   | _=>0,⟨0,0,0,rfl,PA,Y5,fun q=>PA,fun q=>PA⟩,?_⟩
  rintro x2 hv6 ⟨j,p,q2,e,hj,Y6,hp,hq⟩
  cases e
  have sz6:hv4.size<hv6.size:=fN Y6 9 rfl hv4.size (by simp[Ck.ob])
  refine ae (fun q3=>?_) fun q3=>?_
  ·--one end
   have hj2:j<2:=by omega
   obtain⟨t,ht⟩:∃t,σ.ends[2*k+j]? =some t:=⟨_,List.getElem?_eq_getElem PA⟩
   obtain⟨g,hg2,-,-⟩:=Y6.atS 5 rfl (i:=(0:Int)) PA PA
   have hcE:∀m u,(eT.enc t)[m]? =some u->ac hv6 g (0+2*k*4+j*4+m)=some u:=by
    intro m u hu
    have:=Y6.cellS 5 rfl hg2 ht hu
    have eo:0+(2*k+j)*eT.sz+m=0+2*k*4+j*4+m:=by show 0+(2*k+j)*4+m=_;omega
    grind
   have tin:t∈σ.ends:=Qa ht
   have tsz:t.says.size<=262144:=by have:=ea.1 t tin;omega
   refine⟨g,0+2*k*4,by rw[if_neg PA,hg2];simp[Addr.add];omega,PA,q3,?_⟩
   rw[P8]
   refine⟨_,hcE 0 _ rfl,_,hcE 1 _ rfl,_,hcE 2 _ rfl,_,hcE 3 _ rfl,?_⟩
   intro hv7 hv8
   have Y8:Sy h (ao C) hv8 _:=Y6.gr ((((((Fr.push hv6 _).hsetL (P3 _)).hsetL (P3 _)).hsetL (P3 _)).hsetL (P3 _)):Fr [] hv6 hv8)
   clear_value hv8
   clear hv7
   intro K
   have eE:G.eV σ.ids t=(match G.whole t.l with
    | some n=>(match G.find σ.ids n with
     | some v=>.ok v
     | none=>.no (t.at_,14))
    | none=>.no (t.at_,17)):=rfl
   have bad:∀f,G.eV σ.ids t= .no f->G.ku rd cl s= .no f:=by
    intro f hf
    rw[hL,hes,G.oU hlt]
    have h01:j=0\/j=1:=by omega
    rcases h01 with rfl | rfl
    ·have:σ.ends[2*k]=t:=(List.getElem?_eq_some_iff.1 ht).2
     rw[this,hf];rfl
    ·have:σ.ends[2*k+1]=t:=(List.getElem?_eq_some_iff.1 ht).2
     rw[this,hf,hp (P3 _)];rfl
   have kt:∀(v:Nat) (hv9:ab),G.eV σ.ids t= .ok v->Fr [] hv8 hv9->K (v:Int) true hv9:=by
    intro v hv9 hv' f9
    have Y9:Sy h (ao C) hv9 _:=Y8.gr f9
    refine aF (fun _=>⟨rfl,PA,PA,PA,PA,?_⟩) fun z=>absurd z PB
    have ej:0+j*1=j:=by omega
    rw[ej]
    refine⟨?_,Y9.freeO 9 rfl j,?_⟩
    ·have h01:j=0\/j=1:=by omega
     rcases h01 with rfl | rfl
     ·exact⟨_,Y9.cellO 9 rfl 0 rfl⟩
     ·exact⟨_,Y9.cellO 9 rfl 1 rfl⟩
    intro hv12
    have Y12:=Y9.stO 9 rfl j (PN (v:Int))
    rw[wrN PA]
    refine⟨?_,?_⟩
    ·have h01:j=0\/j=1:=by omega
     rcases h01 with rfl | rfl
     ·have e0:σ.ends[2*k]=t:=(List.getElem?_eq_some_iff.1 ht).2
      exact⟨1,v,q2,rfl,PA,Y12,fun _=>by grind,fun z=>PA⟩
     ·have e0:σ.ends[2*k+1]=t:=(List.getElem?_eq_some_iff.1 ht).2
      exact⟨2,p,v,rfl,PA,Y12,fun _=>hp (P3 _),fun _=>by grind⟩
    grind
   refine⟨b,0,rfl,some A'.mp,Y8.cellO 0 rfl 10 rfl,?_⟩
   refine aK [] (I4 (t:=t) (Y8.glo 6 rfl) tsz) PC (fun _ _ r=>r.choose_spec.2.2) (fun _ _ r=>r.2.2) (fun w hv9 r=>?_) fun w hv9 r=>?_
   ·obtain⟨n,qn,rfl,f9⟩:=r
    have Y9:Sy h (ao C) hv9 _:=Y8.gr f9
    rw[qn]at eE
    simp only at eE
    refine⟨n,rfl,f9,A'.mp,rfl,_,_,Y9.mapM 1 rfl,oX _,?_,?_⟩
    ·intro ev he hk
     obtain⟨jj,pp,h3,rfl⟩:=gj he
     obtain⟨w,h4,rfl⟩:=og h3
     injection hk with _ hk
     refine⟨(w.2:Int),rfl,f9,kt w.2 hv9 ?_ f9⟩
     rw[eE,<-hk,E9 ea.2 (Qa h4)]
    ·intro hn
     refine⟨f9,?_⟩
     refine aF (fun z=>absurd z PB) fun _=>⟨_,bad _ ?_,rfl,Y9.fr⟩
     rw[eE,Fa fun w hw e=>?_]
     obtain⟨jj,hjj⟩:=QO.1 hw
     exact hn _ (BF hjj) (by rw[e])
   ·obtain⟨qn,rfl,f9⟩:=r
    rw[qn]at eE
    exact⟨_,bad _ eE,rfl,Y8.fr.trans f9.nil⟩
  ·--both
   have hj2:j=2:=by omega
   subst hj2
   have hD:∀x∈ai aD,x<hv6.size/\x≠b/\x≠h.size/\x≠hv4.size:=fun x hx=>⟨fN Y6 8 rfl x hx,fun e=>(Y6.hp.ap 8 0 _ _ PB rfl rfl x hx).1 (by simp[Ck.ob,e]),
    fun e=>(Y6.hp.ap 8 7 _ _ PB rfl rfl x hx).1 (by simp[Ck.junk,e]),fun e=>(Y6.hp.ap 8 9 _ _ PB rfl rfl x hx).1 (by simp[Ck.ob,e])⟩
   refine⟨ai aD,fun x hx q=>?_,b,0,rfl,fun q=>(hD b q).2.1 rfl,aD,k,cD,Y6.cellO 0 rfl 4 rfl,fun q=>(hD _ q).2.2.2 rfl,_,Y6.cellO 9 rfl 0 rfl,_,Y6.cellO 9 rfl 1 rfl,?_⟩
   ·grind
   intro hv13
   have Y13:Sy h (ao C) hv13 _:=Y6.gr (Fr.push hv6 _)
   have f13:Fr (ai aD) hv6 hv13:=(Fr.push _ _).nil
   clear_value hv13
   refine⟨f13,_,Y13.ownS 8 rfl,fun x hx q=>?_,PA,PA,fun sA sC hv14 ow f gg _=>?_⟩
   ·grind
   have Y14:=Y13.appS 8 rfl [((p:Int),(q2:Int))] ow f gg rfl rfl
   refine⟨f13.trans f,b,0,rfl,PA,PA,⟨_,Y14.cellO 0 rfl 4 rfl⟩,Y14.freeO 0 rfl 4,?_⟩
   intro hv15
   have Y15:Sy h (ao C) hv15 (gC gl b s A' σ (PT sA (k+1) sC) (PT none 0 0) (PT none 0 0) (PT none 0 0) [Ck.junk h.size,Ck.sl eP 70 sA (k+1) sC (es.map pr++[((p:Int),(q2:Int))]),Ck.ob hv4.size 70 [PN (p:Int),PN (q2:Int)]]):=Y14.stO 0 rfl 4 (PT sA (k+1) sC)
   have em:es.map pr++[((p:Int),(q2:Int))]=(es++[(p,q2)]).map pr:=by simp[pr]
   rw[em]at Y15
   refine⟨⟨k+1,es++[(p,q2)],sA,sC,rfl,by simp[hk],PA,Y15.pick [0,1,2,3,4,5,6,7,8] rfl,?_⟩,?_⟩
   ·rw[hes,G.oU hlt,hp PA,hq (P3 _)]
    simp only[G.Er.bind]
    cases G.edges σ.ids (σ.ends.drop (2*(k+1)))<;>simp[G.Er.bind]
   grind
 ·--done
  have hend:2*k=σ.ends.length:=by omega
  have hed:G.edges σ.ids σ.ends= .ok es:=by
   grind [G.edges,G.Er.bind]
  rw[hed]at hL
  simp only[G.Er.bind]at hL
  clear hes
  refine⟨b,0,rfl,σ.h0,Y.cellO 0 rfl 14 rfl,?_⟩
  refine⟨fun _ h'=>Sy h (ao C) h' (gC gl b s A' σ (PT aD k cD) (PT (if σ.h0=true then A'.aL else none) (if σ.h0=true then σ.labels.length else 0) (if σ.h0=true then A'.cL else 0)) (PT none 0 0) (PT none 0 0) [Ck.junk h.size,Ck.sl eP 70 aD k cD (es.map pr)]),?_,?_⟩
  ·refine aU (fun q=>?_) fun q=>?_
   ·refine⟨b,0,rfl,A'.aL,σ.labels.length,A'.cL,Y.cellO 0 rfl 11 rfl,b,0,rfl,PA,⟨_,Y.cellO 0 rfl 6 rfl⟩,Y.freeO 0 rfl 6,?_⟩
    rw[if_pos q,if_pos q,if_pos q]
    exact Y.stO 0 rfl 6 _
   grind
  intro hv17 Y17
  refine⟨b,0,rfl,σ.h1,Y17.cellO 0 rfl 15 rfl,?_⟩
  refine⟨fun _ h'=>Sy h (ao C) h' (gC gl b s A' σ (PT aD k cD) (PT (if σ.h0=true then A'.aL else none) (if σ.h0=true then σ.labels.length else 0) (if σ.h0=true then A'.cL else 0)) (PT (if σ.h1=true then A'.aS else none) (if σ.h1=true then σ.spots.length else 0) (if σ.h1=true then A'.cS else 0)) (PT none 0 0) [Ck.junk h.size,Ck.sl eP 70 aD k cD (es.map pr)]),?_,?_⟩
  ·refine aU (fun q=>?_) fun q=>?_
   ·refine⟨b,0,rfl,A'.aS,σ.spots.length,A'.cS,Y17.cellO 0 rfl 12 rfl,b,0,rfl,PA,⟨_,Y17.cellO 0 rfl 7 rfl⟩,Y17.freeO 0 rfl 7,?_⟩
    rw[if_pos q,if_pos q,if_pos q]
    exact Y17.stO 0 rfl 7 _
   grind
  intro hv19 Y19
  refine⟨b,0,rfl,σ.h2,Y19.cellO 0 rfl 16 rfl,?_⟩
  refine⟨fun _ h'=>Sy h (ao C) h' (gC gl b s A' σ (PT aD k cD) (PT (if σ.h0=true then A'.aL else none) (if σ.h0=true then σ.labels.length else 0) (if σ.h0=true then A'.cL else 0)) (PT (if σ.h1=true then A'.aS else none) (if σ.h1=true then σ.spots.length else 0) (if σ.h1=true then A'.cS else 0))
   (PT (if σ.h2=true then A'.aW else none) (if σ.h2=true then σ.weights.length else 0) (if σ.h2=true then A'.cW else 0)) [Ck.junk h.size,Ck.sl eP 70 aD k cD (es.map pr)]),?_,?_⟩
  ·refine aU (fun q=>?_) fun q=>?_
   ·refine⟨b,0,rfl,A'.aW,σ.weights.length,A'.cW,Y19.cellO 0 rfl 13 rfl,b,0,rfl,PA,⟨_,Y19.cellO 0 rfl 8 rfl⟩,Y19.freeO 0 rfl 8,?_⟩
    rw[if_pos q,if_pos q,if_pos q]
    exact Y19.stO 0 rfl 8 _
   grind
  intro hv21 Y21
  refine⟨b,0,rfl,_,Y21.cellO 0 rfl 3 rfl,_,_,_,Y21.cellO 0 rfl 4 rfl,_,Y21.cellO 0 rfl 5 rfl,_,_,_,Y21.cellO 0 rfl 6 rfl,_,_,_,Y21.cellO 0 rfl 7 rfl,_,_,_,Y21.cellO 0 rfl 8 rfl,?_⟩
  intro hv22
  have Y22:Sy h (ao C) hv22 _:=(((((Y21.stJ 7 rfl 0 _).stJ 7 rfl (0+1) _).stJ 7 rfl ((0+1)+1) _).stJ 7 rfl (((0+1)+1)+1) _).stJ 7 rfl ((((0+1)+1)+1)+1) _).stJ 7 rfl (((((0+1)+1)+1)+1)+1) _
  clear_value hv22
  have Z1:=Y22.turn 2 rfl (To.if σ.h0)
  have Z2:=Z1.turn 3 rfl (To.if σ.h1)
  have Z3:=Z2.turn 4 rfl (To.if σ.h2)
  have Z4:=Z3.pick [8,2,3,4,6] rfl
  refine⟨⟨σ.n,σ.dir,es,if σ.h0=true then σ.labels else [],if σ.h1=true then σ.spots else [],if σ.h2=true then σ.weights else []⟩,aD,_,_,_,_,_,_,_,_,_,_,_,hL,rfl,⟨Z4,fun x hx=>?_⟩⟩
  grind [rds,dC,Ck.sl,Ck.glob]
end
def mJ (n:Nat):Code->Option (Array Oper)
 | .seq x y=>(mJ n x).or (mJ n y)
 | .cond _ x y=>(mJ n x).or (mJ n y)
 | .block _ x=>mJ n x
 | .region k ops _=>if k=n then some ops else none
 | _=>none
noncomputable def H4 : Array Oper := ((Tryz.f10.body.bind (mJ 7)).getD #[])
def Lq (p1 p2 p3 q:Nat) (h:ab) (K:ab->Prop):Prop:=
 ∃c:List Nat,(∀b∈([]:List Nat),b∉c)/\
 q∉c/\∃g:Int,ac h q 0=some (PN g)/\q∉c/\∃i:Int,ac h q (0+1)=some (PN i)/\(∃a,ac h p1 0=some a)/\aq h p1 0=true/\(∃a,ac h p1 (0+1)=some a)/\aq h p1 (0+1)=true/\(∃a,ac h p1 ((0+1)+1)=some a)/\aq h p1 ((0+1)+1)=true/\(∃a,ac h p1 (((0+1)+1)+1)=some a)/\aq h p1 (((0+1)+1)+1)=true/\(∃a,ac h p1 ((((0+1)+1)+1)+1)=some a)/\aq h p1 ((((0+1)+1)+1)+1)=true/\(∃a,ac h p1 (((((0+1)+1)+1)+1)+1)=some a)/\aq h p1 (((((0+1)+1)+1)+1)+1)=true/\let d:ab:=aj (aj (aj (aj (aj (aj h p1 0 (PN 0)) p1 (0+1) (PT none 0 0)) p1 ((0+1)+1) (PV false)) p1 (((0+1)+1)+1) (PT none 0 0)) p1 ((((0+1)+1)+1)+1) (PT none 0 0)) p1 (((((0+1)+1)+1)+1)+1) (PT none 0 0)
 Fr c h d/\
 (∃a,ac d p2 0=some a)/\aq d p2 0=true/\let e:ab:=aj d p2 0 (PN g)
 Fr c h e/\
 (∃a,ac e p3 0=some a)/\aq e p3 0=true/\let f:ab:=aj e p3 0 (PN i)
 Fr c h f/\
 K f
theorem fy {k t:Nat} {v y:AVal} {r:List (Nat × AVal)} (h:Go.X.look ((k,v)::r) t=some y):(t=k/\y=v)\/Go.X.look r t=some y:=by
 unfold Go.X.look at h
 split at h
 ·rename_i hb
  exact .inl ⟨(P4 hb).symm,(Option.some.inj h).symm⟩
 ·exact .inr h
def lq (h:ab) (p1 p2 p3:Nat) (x x2:Int):ab:=
 aj (aj (aj (aj (aj (aj (aj (aj h p1 0 (PN 0)) p1 (0+1) (PT none 0 0)) p1 ((0+1)+1) (PV false)) p1 (((0+1)+1)+1) (PT none 0 0)) p1 ((((0+1)+1)+1)+1) (PT none 0 0)) p1 (((((0+1)+1)+1)+1)+1) (PT none 0 0)) p2 0 (PN x)) p3 0 (PN x2)
theorem Lr {Q:Exit->Act->World->Prop} {a:Act} {w:World} {p1 p2 p3 q:Nat} {x x2:Int} (hn:a.tmps.size=17) (hd:a.defers=[]) (t0:a.tmps[0]? =some (pt p1)) (t1:a.tmps[1]? =some (pt p2)) (t2:a.tmps[2]? =some (pt p3)) (t4:a.tmps[4]? =some (pt q))
  (c0:ac w.heap q 0=some (PN x)) (c1:ac w.heap q 1=some (PN x2))
  (h1:w.heap[p1]? =some (.cells #[PN 0,PT none 0 0,PV false,PT none 0 0,PT none 0 0,PT none 0 0] 30 (0,0))) (h2:w.heap[p2]? =some (.cells #[PN 0] 3 (0,0))) (h3:w.heap[p3]? =some (.cells #[PN 0] 31 (0,0)))
  (n1:q≠p1/\q≠p2/\q≠p3) (n2:p1≠p2/\p1≠p3/\p2≠p3)
  (k:∀a' w',a'.defers=[]->Go.X.Rest w w'->w'.heap=lq w.heap p1 p2 p3 x x2->Q .normal a' w'):(Code.region 7 H4 true).wp Tryz.prog Q a w:=by
 have s:Lq p1 p2 p3 q w.heap fun h'=>h'=lq w.heap p1 p2 p3 x x2:=by
  have f1:∀o,aq w.heap p1 o=true:=fun o=>iQ h1 o
  have cc:∀(o:Nat) (u:Value),(#[PN 0,PT none 0 0,PV false,PT none 0 0,PT none 0 0,PT none 0 0]:Array Value)[o]? =some u->ac w.heap p1 o=some u:=fun o u hu=>(bs h1 o).trans hu
  refine⟨[p1,p2,p3],PC,by simp[n1],x,c0,by simp[n1],x2,c1,⟨_,cc 0 _ rfl⟩,f1 _,⟨_,cc 1 _ rfl⟩,f1 _,⟨_,cc 2 _ rfl⟩,f1 _,⟨_,cc 3 _ rfl⟩,f1 _,⟨_,cc 4 _ rfl⟩,f1 _,⟨_,cc 5 _ rfl⟩,f1 _,?_⟩
  intro hv
  have F:Fr [p1] w.heap hv:=((((((Fr.refl _ _:Fr [p1] w.heap w.heap).hsetr (.inr PC)).hsetr (.inr PC)).hsetr (.inr PC)).hsetr (.inr PC)).hsetr (.inr PC)).hsetr (.inr PC)
  have g2:hv[p2]? =some (.cells #[PN 0] 3 (0,0)):=F.blk_some h2 (by simp[Ne.symm n2.1])
  have g3:hv[p3]? =some (.cells #[PN 0] 31 (0,0)):=F.blk_some h3 (by simp[Ne.symm n2.2.1])
  have F3:Fr [p1,p2,p3] w.heap hv:=F.mono PC
  refine⟨F3,⟨_,(bs g2 0).trans rfl⟩,iQ g2 0,?_⟩
  intro hv2
  have F2:Fr [p2] hv hv2:=Fr.hset _ _ _ _
  have k3:hv2[p3]? =some (.cells #[PN 0] 31 (0,0)):=F2.blk_some g3 (by simp[Ne.symm n2.2.2])
  exact⟨F3.hsetr (.inr PC),⟨_,(bs k3 0).trans rfl⟩,iQ k3 0,(F3.hsetr (.inr PC)).hsetr (.inr PC),rfl⟩
 have e:Lq p1 p2 p3 q w.heap (fun h'=>h'=lq w.heap p1 p2 p3 x x2)=XD (tD [] 17) ⟨[],[],[]⟩ ⟨8,true⟩ H4.toList.toArray ⟨[(0,.ptr p1 0),(1,.ptr p2 0),(2,.ptr p3 0),(4,.ptr q 0)],[]⟩ w.heap (fun _ h'=>h'=lq w.heap p1 p2 p3 x x2):=by kernel_rfl
 have r:Rel ⟨[(0,.ptr p1 0),(1,.ptr p2 0),(2,.ptr p3 0),(4,.ptr q 0)],[]⟩ a w:=by
  refine⟨fun t y hy=>?_,fun s p hp=>by simp[ar]at hp,fun s t p q hp=>by simp[ar]at hp,hd⟩
  rcases fy hy with⟨rfl,rfl⟩ | hy
  ·exact⟨_,rfl,t0⟩
  rcases fy hy with⟨rfl,rfl⟩ | hy
  ·exact⟨_,rfl,t1⟩
  rcases fy hy with⟨rfl,rfl⟩ | hy
  ·exact⟨_,rfl,t2⟩
  rcases fy hy with⟨rfl,rfl⟩ | hy
  ·exact⟨_,rfl,t4⟩
  cases hy
 refine Code.wp_mono (fun e a' w' hq=>?_) (wv (lH _ _) (e▸s) r hn)
 cases e with
 | normal=>
  obtain⟨st,r,q1,q2,q3,q4⟩:=hq
  exact k a' w' r.df q1 q4
 | panic ch=>obtain⟨E',v,q1,_⟩:=hq;cases q1
 | _=>exact hq.elim
open Go.Proofs
theorem IU (p1 p2 p3:Addr) (w:World):CallsD Tryz.prog 10 #[PW (some p1),PW (some p2),PW (some p3)] .returning w fun e u' w'=>e= .returned (.tuple #[])/\u'= .returning/\w'=w:=by
 refine callsD_of_wpS Tryz.func10 rfl fun c₀ cs hu=>?_
 apply wpS_seq
 apply wpS_region
 simp[wpOpsS,go_sem,recoverD,hu,Tryz.ntmps10,Exit.thenS]
 refine wpS_of_wp ?_
 go_wp2_with (fail)
 refine⟨rfl,.returning,?_,.tuple #[],results_none rfl _ _ _,rfl,rfl,rfl⟩
 rw[<-hu]
theorem Ff (p1 p2 p3:Nat) (a e:Nat) (w:World) (h1:w.heap[p1]? =some (.cells #[PN 0,PT none 0 0,PV false,PT none 0 0,PT none 0 0,PT none 0 0] 30 (0,0)))
  (h2:w.heap[p2]? =some (.cells #[PN 0] 3 (0,0))) (h3:w.heap[p3]? =some (.cells #[PN 0] 31 (0,0))) (n12:p1≠p2) (n13:p1≠p3) (n23:p2≠p3):
  CallsD Tryz.prog 10 #[pt p1,pt p2,pt p3] (.panicking [{v:=flt (a,e),recovered:=false}]) w fun x u' w'=>
   x= .returned (.tuple #[])/\u'= .panicking [{v:=flt (a,e),recovered:=true}]/\Go.X.Rest w w'/\w'.heap=lq (w.heap.push (.cells #[PN (a:Int),PN (e:Int)] 40)) p1 p2 p3 (a:Int) (e:Int):=by
 have hta:∀v:Value,(Instr.typeAssert (.iface 40 v) 20 40 true).run Tryz.prog w= .ok (.tuple #[v,PV true]) w:=fun v=>by
  simp[Instr.typeAssert]
 refine callsD_of_wpS Tryz.func10 rfl fun c₀ cs hu=>?_
 apply wpS_seq
 apply wpS_region
 simp[wpOpsS,go_sem,recoverD,hu,Tryz.ntmps10,Exit.thenS,flt]
 refine wpS_of_wp ?_
 go_wp2_with (fail)
 refine Lr (p1:=p1) (p2:=p2) (p3:=p3) (q:=w.heap.size) (x:=(a:Int)) (x2:=(e:Int)) PC rfl PC PC PC PC ?_ ?_ ?_ ?_ ?_ ?_ ?_ fun a' w' d1 d2 d3=>?_
 ·exact(bs (h:=w.heap.push _) (c:=#[PN (a:Int),PN (e:Int)]) (t:=40) (f:=(0,0)) PC 0).trans rfl
 ·exact(bs (h:=w.heap.push _) (c:=#[PN (a:Int),PN (e:Int)]) (t:=40) (f:=(0,0)) PC 1).trans rfl
 ·exact(Fr.push w.heap _).blk_some h1 PC
 ·exact(Fr.push w.heap _).blk_some h2 PC
 ·exact(Fr.push w.heap _).blk_some h3 PC
 ·have l1:=(Array.getElem?_eq_some_iff.1 h1).1
  have l2:=(Array.getElem?_eq_some_iff.1 h2).1
  have l3:=(Array.getElem?_eq_some_iff.1 h3).1
  exact⟨PA,PA,PA⟩
 ·exact⟨n12,n13,n23⟩
 ·exact⟨d1,_,rfl,.tuple #[],results_none rfl _ _ _,rfl,rfl,(Go.X.Rest.alloc w _).trans d2,d3⟩
theorem Ls {tmps:Array Value} {w:World} {p1 p2 p3:Nat} {c0 x y:Int} {a1 a4 a5 a6:PY} {n1 k1 n4 k4 n5 k5 n6 k6:Nat} {c2:Bool} (t2:tmps[2]? =some (pt p1)) (t3:tmps[3]? =some (pt p2)) (t4:tmps[4]? =some (pt p3))
  (h1:w.heap[p1]? =some (.cells #[PN c0,PT a1 n1 k1,PV c2,PT a4 n4 k4,PT a5 n5 k5,PT a6 n6 k6] 30 (0,0))) (h2:w.heap[p2]? =some (.cells #[PN x] 3 (0,0))) (h3:w.heap[p3]? =some (.cells #[PN y] 31 (0,0))):
  (results Tryz.f5 tmps).run Tryz.prog w= .ok (.tuple #[.agg #[PN c0,PT a1 n1 k1,PV c2,PT a4 n4 k4,PT a5 n5 k5,PT a6 n6 k6],PN x,PN y]) w:=by
 have r:Rel ⟨[(2,.ptr p1 0),(3,.ptr p2 0),(4,.ptr p3 0)],[]⟩ (⟨tmps,[]⟩:Act) w:=by
  refine⟨fun t v hy=>?_,fun s p hp=>by simp[ar]at hp,fun s t p q hp=>by simp[ar]at hp,rfl⟩
  rcases fy hy with⟨rfl,rfl⟩ | hy
  ·exact⟨_,rfl,t2⟩
  rcases fy hy with⟨rfl,rfl⟩ | hy
  ·exact⟨_,rfl,t3⟩
  rcases fy hy with⟨rfl,rfl⟩ | hy
  ·exact⟨_,rfl,t4⟩
  cases hy
 have cc:∀(o:Nat) (u:Value),(#[PN c0,PT a1 n1 k1,PV c2,PT a4 n4 k4,PT a5 n5 k5,PT a6 n6 k6]:Array Value)[o]? =some u->ac w.heap p1 o=some u:=fun o u hu=>(bs h1 o).trans hu
 have S:∀R:Value->Prop,R (.tuple #[.agg #[PN c0,PT a1 n1 k1,PV c2,PT a4 n4 k4,PT a5 n5 k5,PT a6 n6 k6],PN x,PN y])->
   qm (tD [] 18).T ⟨[(2,.ptr p1 0),(3,.ptr p2 0),(4,.ptr p3 0)],[]⟩ w.heap Tryz.f5.results.toList fun vs=>R (one vs):=by
  intro R hR
  refine Eq.mp (α:=∃x12:Int,ac w.heap p1 0=some (PN x12)/\∃(xA7:PY) (xL7 xC7:Nat),ac w.heap p1 (0+1)=some (PT xA7 xL7 xC7)/\∃x13:Bool,ac w.heap p1 ((0+1)+1)=some (PV x13)/\∃(xA8:PY) (xL8 xC8:Nat),ac w.heap p1 (((0+1)+1)+1)=some (PT xA8 xL8 xC8)/\
   ∃(xA9:PY) (xL9 xC9:Nat),ac w.heap p1 ((((0+1)+1)+1)+1)=some (PT xA9 xL9 xC9)/\∃(xA10:PY) (xL10 xC10:Nat),ac w.heap p1 (((((0+1)+1)+1)+1)+1)=some (PT xA10 xL10 xC10)/\
   ∃x:Int,ac w.heap p2 0=some (PN x)/\∃y:Int,ac w.heap p3 0=some (PN y)/\
   R (.tuple #[.agg #[PN x12,PT xA7 xL7 xC7,PV x13,PT xA8 xL8 xC8,PT xA9 xL9 xC9,PT xA10 xL10 xC10],PN x,PN y])) PD ?_
  exact⟨c0,cc 0 _ rfl,a1,n1,k1,cc 1 _ rfl,c2,cc 2 _ rfl,a4,n4,k4,cc 3 _ rfl,a5,n5,k5,cc 4 _ rfl,a6,n6,k6,cc 5 _ rfl,x,(bs h2 0).trans rfl,y,(bs h3 0).trans rfl,hR⟩
 have hT:bq Tryz.prog (tD [] 18).T:=(lH [] 18).T
 obtain⟨v,e1,e2⟩:=dh (P:=Tryz.prog) (T:=(tD [] 18).T) (st:=⟨[(2,.ptr p1 0),(3,.ptr p2 0),(4,.ptr p3 0)],[]⟩) (w:=w) (fn:=Tryz.f5) (a:=⟨tmps,[]⟩) (R:=fun v=>v= .tuple #[.agg #[PN c0,PT a1 n1 k1,PV c2,PT a4 n4 k4,PT a5 n5 k5,PT a6 n6 k6],PN x,PN y]) hT r (S (fun v=>v= .tuple #[.agg #[PN c0,PT a1 n1 k1,PV c2,PT a4 n4 k4,PT a5 n5 k5,PT a6 n6 k6],PN x,PN y]) rfl)
 grind
end Go.Proofs.YtmmmmjcfojhiaaaGreatDoor.N
