/- The keys of a node's graphics. Conditions: none. -/
import Derived.Test.YtmmmmjcfojhiaaaGreatDoorHLv
set_option linter.unusedVariables false
set_option linter.unusedSimpArgs false
set_option maxRecDepth 100000
namespace Go.Proofs.YtmmmmjcfojhiaaaGreatDoor.N
open Go.Proofs.YtmmmmjcfojhiaaaGreatDoor
open Go.X
def kR (gl:GL) (b d:Nat) (s:P0) (C:List Ck) (h:ab) (l:G.Lv) (t:G.Tok) (σ:G.Rd) (kv ov:Value) (fs:Fs) (v:Value) (h':ab):Prop:=
 ∃x l' σ' A' mo' mo1 fs1 tfs p,G.key l t σ= .ok (x,l',σ')/\v= PW p/\Sq h C h' (stC gl b s A' σ' d++[Ck.fx mo' fs,Ck.fx mo1 fs1,Ck.fx none tfs])/\
  LvR b l' kv ov mo' fs/\TkR b A' x p mo1 fs1 tfs/\Gr σ σ'/\LvB σ' l'/\TkB σ' x
def kE (C:List Ck) (h:ab) (l:G.Lv) (t:G.Tok) (σ:G.Rd) (v:Value) (h':ab):Prop:=∃f,G.key l t σ= .no f/\v=flt f/\Fr (ao C) h h'
theorem eZ {l l':G.Lv} {ks:List PZ} {k:PZ} (h:Seen l ks) (hk:k∉ks) (hl:∀k',(k',true)∈kts l' ↔ ((k',true)∈kts l\/k'=k)):Seen l' (ks++[k]):=by
 refine⟨?_,fun k'=>?_⟩
 ·rw[List.nodup_append]
  exact⟨h.1,PC,fun a ha b hb=>by simp at hb;subst hb;exact fun e=>hk (e▸ha)⟩
 ·rw[hl,Qe,h.2];simp
section
variable {gl:GL} {b d:Nat} {s:P0} {A:AD} {σ:G.Rd}
theorem xb {mo:Option (Nat × List PZ)} {fs:Fs}:(∀x∈fs.map (·.1),x∈rds (stC gl b s A σ d++[Ck.fx mo fs]))/\∀x∈glB gl,x∈rds (stC gl b s A σ d++[Ck.fx mo fs]):=by
 constructor
 ·intro x hx
  exact cw.2 ⟨7,_,rfl,hx⟩
 ·intro x hx
  exact cw.2 ⟨6,_,rfl,hx⟩
theorem zX {h h3:ab} {C:List Ck} {mo:Option (Nat × List PZ)} {fs:Fs} (Y:Sy h (ao C) h3 (stC gl b s A σ d++[Ck.fx mo fs]))
  (hl:∀x∈fs.map (·.1),x∈rds C\/h.size<=x) (hg:∀x∈glB gl,x∈rds C):Sq h C h3 (stC gl b s A σ d++[Ck.fx mo fs,Ck.fx none [],Ck.fx none []]):=
 oV (rest:=[]) Y hl hg (fun p hp=>by cases hp) (fun f hf=>by cases hf) (fun f hf=>by cases hf)
theorem IV {cl:Nat->Nat} {v:Nat} {x y:Bool} {t:G.Tok} {kv ov:Value} {mo:Option (Nat × List PZ)} {fs:Fs} {h:ab} {xM xR xV m:Nat} {ks:List PZ}
  (H:Hp h (stC gl b s A σ d++[Ck.fx mo fs])) (ri:G.RI cl s σ) (hb:LvB σ (.spot v x y)) (e1:kv=fnV 144 #[pt xM,pt xR,pt xV]) (e2:ov=fnV 52 #[]) (e3:mo=some (m,ks)) (e4:Seen (.spot v x y) ks)
  (e5:fs=[(xM,0,.map (some m)),(xR,0,pt b),(xV,0,PN (v:Int))]):
  PM 144 #[cQ t,pt xM,pt xR,pt xV] h (kR gl b d s (stC gl b s A σ d++[Ck.fx mo fs]) h (.spot v x y) t σ kv ov fs) (kE (stC gl b s A σ d++[Ck.fx mo fs]) h (.spot v x y) t σ):=by
 generalize hC:stC gl b s A σ d++[Ck.fx mo fs]=C at H ⊢
 have Y0:Sy h (ao C) h (stC gl b s A σ d++[Ck.fx mo fs]):=by rw[hC];exact Sy.start H
 obtain⟨hr1,hr2⟩:=xb (gl:=gl) (b:=b) (s:=s) (A:=A) (σ:=σ) (d:=d) (mo:=mo) (fs:=fs)
 rw[hC]at hr1 hr2
 unfold cQ
 apply Cf
 unfold Ma
 have ex:(t.says.toList==(⟨#[120]⟩:P0).toList)=decide (t.l=G.kX):=cU
 have ey:(t.says.toList==(⟨#[121]⟩:P0).toList)=decide (t.l=G.kY):=cU
 rw[ex,ey]
 intro hv
 have Y1:Sy h (ao C) hv (stC gl b s A σ d++[Ck.fx mo fs]):=Y0.gr (Fr.push h _)
 have s1:hv.size=h.size+1:=by simp[hv]
 clear_value hv
 intro K
 have go:∀(c:Bool),t.l=(if c=true then G.kY else G.kX)->K hv:=by
  intro c hc
  subst e3
  have hn:=Y1.mapF 7 rfl
  have hml:m<h.size:=iW (Y0.mapF 7 rfl)
  have hbn:v<σ.n:=hb
  have hsl:=ri.sl
  refine⟨xM,0,rfl,some m,Y1.factF 7 rfl 0 (by rw[e5];rfl),?_⟩
  refine aK [m] (Lo hn e4.1) PH (fun _ _ r=>r.2.2.1) (fun _ _ r=>r.2.2) (fun v2 hv3 r=>?_) fun v2 hv3 r=>?_
  ·obtain⟨r1,rfl,f3,hm3⟩:=r
   have Y3:Sy h (ao C) hv3 (stC gl b s A σ d++[Ck.fx (some (m,ks++[t.l])) fs]):=Y1.seeF 7 rfl f3 hm3
   have s3:hv.size<=hv3.size:=f3.size
   obtain⟨g,hg,-,-⟩:=Y3.atS 3 rfl (i:=(v:Int)) PA PA
   refine⟨rfl,xR,0,rfl,_,Y3.factF 7 rfl 1 (by rw[e5];rfl),b,0,rfl,A.aS,σ.spots.length,A.cS,Y3.cellO 0 rfl 12 rfl,xV,0,rfl,(v:Int),Y3.factF 7 rfl 2 (by rw[e5];rfl),g,0,hg,PA,PA,?_⟩
   intro hv4
   have Y4:Sy h (ao C) hv4 (stC gl b s A σ d++[Ck.fx (some (m,ks++[t.l])) fs,Ck.ob hv3.size 187 [PW none]]):=Y3.newO [PW none]
   have s4:hv4.size=hv3.size+1:=by simp[hv4]
   refine⟨Fr.push _ _,PA,⟨_,Y4.cellO 8 rfl 0 rfl⟩,Y4.freeO 8 rfl 0,?_⟩
   intro hv5
   have Y5:Sy h (ao C) hv5 (stC gl b s A σ d++[Ck.fx (some (m,ks++[t.l])) fs,Ck.ob hv3.size 187 [PW (some ⟨g,0+(v:Int).toNat*2,none⟩)]]):=Y4.stO 8 rfl 0 _
   have s5:hv5.size=hv3.size+1:=by simp[hv5,s4]
   clear_value hv5
   clear_value hv4
   refine⟨fun _ h'=>Sy h (ao C) h' (stC gl b s A σ d++[Ck.fx (some (m,ks++[t.l])) fs,Ck.ob hv3.size 187 [PW (some ⟨g,v*2+c.toNat,none⟩)]]),?_,?_⟩
   ·refine ae (fun q=>?_) fun q=>?_
    ·have hc1:c=true:=by
      cases c with
      | true=>rfl
      | false=>rw[hc]at q;exact absurd q PB
     subst hc1
     refine⟨xR,0,rfl,_,Y5.factF 7 rfl 1 (by rw[e5];rfl),b,0,rfl,A.aS,σ.spots.length,A.cS,Y5.cellO 0 rfl 12 rfl,xV,0,rfl,(v:Int),Y5.factF 7 rfl 2 (by rw[e5];rfl),g,0,hg,PA,PA,PA,⟨_,Y5.cellO 8 rfl 0 rfl⟩,Y5.freeO 8 rfl 0,?_⟩
     have Y6:=Y5.stO 8 rfl 0 (PW (some ⟨g,((0+(v:Int).toNat*2)+1),none⟩))
     have eo:(0+(v:Int).toNat*2)+1=v*2+true.toNat:=by simp
     rw[eo]at Y6 ⊢
     exact Y6
    ·have hc1:c=false:=by
      cases c with
      | false=>rfl
      | true=>exact absurd hc q
     subst hc1
     have eo:0+(v:Int).toNat*2=v*2+false.toNat:=by simp
     rw[eo]at Y5
     exact Y5
   ·intro hv7 Y7 hv8
    have Y8:Sy h (ao C) hv8 (stC gl b s A σ d++[Ck.fx (some (m,ks++[t.l])) fs,Ck.ob hv3.size 187 [PW (some ⟨g,v*2+c.toNat,none⟩)],
      Ck.ob hv7.size 108 [PN 4,fnV 145 #[pt hv3.size,pt xR],.nilFunc,.nilFunc]]):=Y7.newO [PN 4,fnV 145 #[pt hv3.size,pt xR],.nilFunc,.nilFunc]
    have s7:h.size<=hv7.size:=Y7.le
    have hseen:t.l∉ks:=r1
    refine⟨.spot v c,if c=true then .spot v x true else .spot v true y,σ,A,some (m,ks++[t.l]),none,[],[(hv7.size,0,PN 4),(hv7.size,1,fnV 145 #[pt hv3.size,pt xR]),(xR,0,pt b),(hv3.size,0,PW (some ⟨g,v*2+c.toNat,none⟩))],some ⟨hv7.size,0,none⟩,?_,rfl,?_,?_,?_,Gr.refl σ,?_,hbn⟩
    ·cases c with
     | false=>
      have hc:t.l=G.kX:=hc
      have hx:x=false:=by
       cases x with
       | false=>rfl
       | true=>exact absurd ((e4.2 _).2 (by simp[kts,hc])) r1
      subst hx
      simp[G.key,hc,G.aB]
     | true=>
      have hc:t.l=G.kY:=hc
      have hx:y=false:=by
       cases y with
       | false=>rfl
       | true=>exact absurd ((e4.2 _).2 (by simp[kts,hc])) r1
      subst hx
      have hne:G.kY≠G.kX:=by decide
      simp[G.key,hc,hne,G.aB]
    ·refine oV (rest:=[_,_]) Y8 (fun x hx=>.inl (hr1 x hx)) hr2 (fun p hp=>by cases hp) (fun f hf=>by cases hf) fun f hf=>?_
     simp only[Qd,Qh,or_false]at hf
     rcases hf with rfl | rfl | rfl | rfl
     ·exact⟨Y8.cellO 9 rfl 0 rfl,.inr ⟨s7,1,108,_,rfl⟩⟩
     ·exact⟨Y8.cellO 9 rfl 1 rfl,.inr ⟨s7,1,108,_,rfl⟩⟩
     ·exact⟨Y8.factF 7 rfl 1 (by rw[e5];rfl),.inl (by rw[e5];simp)⟩
     ·exact⟨Y8.cellO 8 rfl 0 rfl,.inr ⟨by show h.size<=hv3.size;omega,0,187,_,rfl⟩⟩
    ·cases c with
     | false=>
      have hc:t.l=G.kX:=hc
      exact⟨xM,xR,xV,m,ks++[t.l],e1,e2,rfl,eZ e4 r1 (fun k'=>by rw[hc];simp[kts]<;>grind),e5⟩
     | true=>
      have hc:t.l=G.kY:=hc
      exact⟨xM,xR,xV,m,ks++[t.l],e1,e2,rfl,eZ e4 r1 (fun k'=>by rw[hc];simp[kts]<;>grind),e5⟩
    ·exact⟨hv7.size,hv3.size,xR,g,rfl,rfl,rfl,hg,rfl⟩
    ·cases c<;>exact hbn
  ·obtain⟨r1,rfl,f3⟩:=r
   refine⟨_,?_,rfl,Y1.fr.trans ?_⟩
   ·have:=(e4.2 _).1 r1
    cases c with
    | false=>
     have hc:t.l=G.kX:=hc
     have hx:x=true:=by
      rw[hc]at this
      have hne:G.kX≠G.kY:=by decide
      simpa[kts,hne,Ne.symm hne]using this
     simp[G.key,hc,G.aB,hx]
    | true=>
     have hc:t.l=G.kY:=hc
     have hne:G.kY≠G.kX:=by decide
     have hx:y=true:=by
      rw[hc]at this
      simpa[kts,hne,Ne.symm hne]using this
     simp[G.key,hc,hne,G.aB,hx]
   ·exact f3.mono fun z hz=>by
     simp only[Qi]at hz
     subst hz
     rw[<-hC]
     exact bD.2 ⟨7,_,rfl,by simp[Ck.fx]⟩
 refine bj (fun q=>?_) fun q=>?_
 ·refine bj (fun q2=>?_) fun q2=>?_
  ·have q:=of_decide_eq_false q
   have q2:=of_decide_eq_false q2
   refine⟨.none,.spot v x y,σ,A,mo,none,[],[],none,by simp[G.key,q,q2],rfl,zX Y1 (fun x hx=>.inl (hr1 x hx)) hr2,⟨xM,xR,xV,m,ks,e1,e2,e3,e4,e5⟩,⟨rfl,rfl,rfl,rfl⟩,Gr.refl σ,hb,trivial⟩
  ·exact go true (of_decide_eq_true q2)
 ·exact go false (of_decide_eq_true q)
end
theorem rv {h0 hv:ab} {M H:List Nat} {cs:List Ck} {m:Nat} {ks:List PZ} {fs:Fs} {t:G.Tok} {K E:Value->ab->Prop} (Y:Sy h0 M hv cs) (k:Nat) (hk:cs[k]? =some (Ck.fx (some (m,ks)) fs)) (nd:ks.Nodup) (hH:m∉H)
  (k1:t.l∉ks->∀h',Fr [m] hv h'->Sy h0 M h' (cs.set k (Ck.fx (some (m,ks++[t.l])) fs))->K (.tuple #[]) h') (k2:t.l∈ks->∀h',Fr [m] hv h'->E (flt (t.at_,18)) h'):
  PK 74 #[.map (some m),cQ t] hv H K E:=
 aK [m] (Lo (Y.mapF k hk) nd) (fun x hx q=>hH (by simp at q;subst q;exact hx)) (fun _ _ r=>r.2.2.1) (fun _ _ r=>r.2.2)
  (fun v h' r=>by obtain⟨r1,rfl,f,hm⟩:=r;exact k1 r1 h' f (Y.seeF k hk f hm)) fun v h' r=>by obtain⟨r1,rfl,f⟩:=r;exact k2 r1 h' f
section
variable {gl:GL} {b d:Nat} {s:P0} {A:AD} {σ:G.Rd}
theorem frM {h hv h':ab} {C:List Ck} {m:Nat} {ks:List PZ} {fs:Fs} (hC:stC gl b s A σ d++[Ck.fx (some (m,ks)) fs]=C) (f1:Fr (ao C) h hv) (f:Fr [m] hv h'):Fr (ao C) h h':=
 f1.trans (f.mono fun z hz=>by
  simp only[Qi]at hz
  subst hz
  rw[<-hC]
  exact bD.2 ⟨7,_,rfl,by simp[Ck.fx]⟩)
theorem IW {cl:Nat->Nat} {k:Nat} {x y z:Bool} {t:G.Tok} {kv ov:Value} {mo:Option (Nat × List PZ)} {fs:Fs} {h:ab} {xM xR xK m:Nat} {ks:List PZ}
  (H:Hp h (stC gl b s A σ d++[Ck.fx mo fs])) (ri:G.RI cl s σ) (hb:LvB σ (.edge k x y z)) (e1:kv=fnV 106 #[pt xM,pt xK,pt xR]) (e2:ov=fnV 110 #[pt xM]) (e3:mo=some (m,ks)) (e4:Seen (.edge k x y z) ks)
  (e5:fs=[(xM,0,.map (some m)),(xK,0,PN (k:Int)),(xR,0,pt b)]):
  PM 106 #[cQ t,pt xM,pt xK,pt xR] h (kR gl b d s (stC gl b s A σ d++[Ck.fx mo fs]) h (.edge k x y z) t σ kv ov fs) (kE (stC gl b s A σ d++[Ck.fx mo fs]) h (.edge k x y z) t σ):=by
 generalize hC:stC gl b s A σ d++[Ck.fx mo fs]=C at H ⊢
 have Y0:Sy h (ao C) h (stC gl b s A σ d++[Ck.fx mo fs]):=by rw[hC];exact Sy.start H
 obtain⟨hr1,hr2⟩:=xb (gl:=gl) (b:=b) (s:=s) (A:=A) (σ:=σ) (d:=d) (mo:=mo) (fs:=fs)
 rw[hC]at hr1 hr2
 unfold cQ
 apply Cb
 unfold LZ
 have ex:(t.says.toList==(⟨#[115,111,117,114,99,101]⟩:P0).toList)=decide (t.l=G.bp):=cU
 have ey:(t.says.toList==(⟨#[116,97,114,103,101,116]⟩:P0).toList)=decide (t.l=G.bw):=cU
 have ez:(t.says.toList==(⟨#[119,101,105,103,104,116]⟩:P0).toList)=decide (t.l=G.cN):=cU
 rw[ex,ey,ez]
 intro hv
 have Y1:Sy h (ao C) hv (stC gl b s A σ d++[Ck.fx mo fs]):=Y0.gr (Fr.push h _)
 have s1:hv.size=h.size+1:=by simp[hv]
 clear_value hv
 intro K
 have n1:G.bw≠G.bp:=by decide
 have n2:G.cN≠G.bp:=by decide
 have n3:G.cN≠G.bw:=by decide
 subst e3
 have hml:m<h.size:=iW (Y0.mapF 7 rfl)
 have hb1:k+1<σ.ends.length:=hb.1
 have hel:=ri.el
 have hwl:=ri.wl
 have go:∀(c:Bool),t.l=(if c=true then G.bw else G.bp)->K true hv:=by
  intro c hc
  refine aJ rfl ?_
  refine⟨xM,0,rfl,some m,Y1.factF 7 rfl 0 (by rw[e5];rfl),?_⟩
  refine rv Y1 7 rfl e4.1 PH (fun r1 hv3 f3 Y3=>?_) fun r1 hv3 f3=>?_
  ·have Y3:Sy h (ao C) hv3 (stC gl b s A σ d++[Ck.fx (some (m,ks++[t.l])) fs]):=Y3
   have s3:hv.size<=hv3.size:=f3.size
   refine⟨rfl,xK,0,rfl,(k:Int),Y3.factF 7 rfl 1 (by rw[e5];rfl),?_⟩
   intro hv4
   have Y4:Sy h (ao C) hv4 (stC gl b s A σ d++[Ck.fx (some (m,ks++[t.l])) fs,Ck.ob hv3.size 3 [PN 0]]):=Y3.newO [PN 0]
   have s4:hv4.size=hv3.size+1:=by simp[hv4]
   refine⟨PA,⟨_,Y4.cellO 8 rfl 0 rfl⟩,Y4.freeO 8 rfl 0,?_⟩
   intro hv5
   have Y5:Sy h (ao C) hv5 (stC gl b s A σ d++[Ck.fx (some (m,ks++[t.l])) fs,Ck.ob hv3.size 3 [PN (k:Int)]]):=Y4.stO 8 rfl 0 _
   clear_value hv5
   clear_value hv4
   refine⟨fun _ h'=>Sy h (ao C) h' (stC gl b s A σ d++[Ck.fx (some (m,ks++[t.l])) fs,Ck.ob hv3.size 3 [PN ((k+c.toNat:Nat):Int)]]),?_,?_⟩
   ·refine ae (fun q=>?_) fun q=>?_
    ·have hc1:c=true:=by
      cases c with
      | true=>rfl
      | false=>rw[hc]at q;exact absurd q PB
     subst hc1
     refine⟨xK,0,rfl,(k:Int),Y5.factF 7 rfl 1 (by rw[e5];rfl),PA,⟨_,Y5.cellO 8 rfl 0 rfl⟩,Y5.freeO 8 rfl 0,?_⟩
     rw[wrN PA]
     exact Y5.stO 8 rfl 0 _
    ·have hc1:c=false:=by
      cases c with
      | false=>rfl
      | true=>exact absurd hc q
     subst hc1
     exact Y5
   ·intro hv7 Y7 hv8
    have Y8:Sy h (ao C) hv8 (stC gl b s A σ d++[Ck.fx (some (m,ks++[t.l])) fs,Ck.ob hv3.size 3 [PN ((k+c.toNat:Nat):Int)],
      Ck.ob hv7.size 108 [PN 4,fnV 107 #[pt xR,pt hv3.size],.nilFunc,.nilFunc]]):=Y7.newO [PN 4,fnV 107 #[pt xR,pt hv3.size],.nilFunc,.nilFunc]
    have s7:h.size<=hv7.size:=Y7.le
    refine⟨.fin (k+c.toNat),if c=true then .edge k x true z else .edge k true y z,σ,A,some (m,ks++[t.l]),none,[],[(hv7.size,0,PN 4),(hv7.size,1,fnV 107 #[pt xR,pt hv3.size]),(xR,0,pt b),(hv3.size,0,PN ((k+c.toNat:Nat):Int))],some ⟨hv7.size,0,none⟩,?_,rfl,?_,?_,?_,Gr.refl σ,?_,?_⟩
    ·cases c with
     | false=>
      have hc:t.l=G.bp:=hc
      have hx:x=false:=by
       cases x with
       | false=>rfl
       | true=>exact absurd ((e4.2 _).2 (by simp[kts,hc])) r1
      subst hx
      simp[G.key,hc,G.aB]
     | true=>
      have hc:t.l=G.bw:=hc
      have hx:y=false:=by
       cases y with
       | false=>rfl
       | true=>exact absurd ((e4.2 _).2 (by simp[kts,hc])) r1
      subst hx
      simp[G.key,hc,n1,G.aB]
    ·refine oV (rest:=[_,_]) Y8 (fun x hx=>.inl (hr1 x hx)) hr2 (fun p hp=>by cases hp) (fun f hf=>by cases hf) fun f hf=>?_
     simp only[Qd,Qh,or_false]at hf
     rcases hf with rfl | rfl | rfl | rfl
     ·exact⟨Y8.cellO 9 rfl 0 rfl,.inr ⟨s7,1,108,_,rfl⟩⟩
     ·exact⟨Y8.cellO 9 rfl 1 rfl,.inr ⟨s7,1,108,_,rfl⟩⟩
     ·exact⟨Y8.factF 7 rfl 2 (by rw[e5];rfl),.inl (by rw[e5];simp)⟩
     ·exact⟨Y8.cellO 8 rfl 0 rfl,.inr ⟨by show h.size<=hv3.size;omega,0,3,_,rfl⟩⟩
    ·cases c with
     | false=>
      have hc:t.l=G.bp:=hc
      exact⟨xM,xK,xR,m,ks++[t.l],e1,e2,rfl,eZ e4 r1 (fun k'=>by rw[hc];simp[kts]<;>grind),e5⟩
     | true=>
      have hc:t.l=G.bw:=hc
      exact⟨xM,xK,xR,m,ks++[t.l],e1,e2,rfl,eZ e4 r1 (fun k'=>by rw[hc];simp[kts]<;>grind),e5⟩
    ·exact⟨hv7.size,xR,hv3.size,rfl,rfl,rfl,rfl⟩
    ·cases c<;>exact hb
    ·cases c
     ·show k<_;omega
     ·exact hb1
  ·refine⟨_,?_,rfl,frM hC Y1.fr f3⟩
   have:=(e4.2 _).1 r1
   cases c with
   | false=>
    have hc:t.l=G.bp:=hc
    have hx:x=true:=by
     rw[hc]at this
     simpa[kts,n1,n2,n3,Ne.symm n1,Ne.symm n2,Ne.symm n3]using this
    simp[G.key,hc,G.aB,hx]
   | true=>
    have hc:t.l=G.bw:=hc
    have hx:y=true:=by
     rw[hc]at this
     simpa[kts,n1,n2,n3,Ne.symm n1,Ne.symm n2,Ne.symm n3]using this
    simp[G.key,hc,n1,G.aB,hx]
 refine ae (fun q=>?_) fun q=>?_
 ·rw[decide_eq_true q]
  exact go false q
 ·by_cases q2:t.l=G.bw
  ·rw[decide_eq_true q2]
   exact go true q2
  ·rw[decide_eq_false q2]
   refine az rfl ?_
   refine ae (fun q3=>?_) fun q3=>?_
   ·refine⟨xM,0,rfl,some m,Y1.factF 7 rfl 0 (by rw[e5];rfl),?_⟩
    refine rv Y1 7 rfl e4.1 PH (fun r1 hv3 f3 Y3=>?_) fun r1 hv3 f3=>?_
    ·refine⟨rfl,?_⟩
     intro hv8
     have Y8:Sy h (ao C) hv8 (stC gl b s A σ d++[Ck.fx (some (m,ks++[t.l])) fs,Ck.ob hv3.size 108 [PN 4,fnV 108 #[pt xR,pt xK],.nilFunc,.nilFunc]]):=Sy.newO Y3 [PN 4,fnV 108 #[pt xR,pt xK],.nilFunc,.nilFunc]
     have s7:h.size<=hv3.size:=Y3.le
     refine⟨.weight k,.edge k x y true,σ,A,some (m,ks++[t.l]),none,[],[(hv3.size,0,PN 4),(hv3.size,1,fnV 108 #[pt xR,pt xK]),(xR,0,pt b),(xK,0,PN (k:Int))],some ⟨hv3.size,0,none⟩,?_,rfl,?_,?_,?_,Gr.refl σ,hb,hb.2⟩
     ·have hx:z=false:=by
       cases z with
       | false=>rfl
       | true=>exact absurd ((e4.2 _).2 (by simp[kts,q3])) r1
      subst hx
      simp[G.key,q3,n2,n3,G.aB]
     ·refine oV (rest:=[_]) Y8 (fun x hx=>.inl (hr1 x hx)) hr2 (fun p hp=>by cases hp) (fun f hf=>by cases hf) fun f hf=>?_
      simp only[Qd,Qh,or_false]at hf
      rcases hf with rfl | rfl | rfl | rfl
      ·exact⟨Y8.cellO 8 rfl 0 rfl,.inr ⟨s7,0,108,_,rfl⟩⟩
      ·exact⟨Y8.cellO 8 rfl 1 rfl,.inr ⟨s7,0,108,_,rfl⟩⟩
      ·exact⟨Y8.factF 7 rfl 2 (by rw[e5];rfl),.inl (by rw[e5];simp)⟩
      ·exact⟨Y8.factF 7 rfl 1 (by rw[e5];rfl),.inl (by rw[e5];simp)⟩
     ·exact⟨xM,xK,xR,m,ks++[t.l],e1,e2,rfl,eZ e4 r1 (fun k'=>by rw[q3];simp[kts]<;>grind),e5⟩
     ·exact⟨hv3.size,xR,xK,rfl,rfl,rfl,rfl⟩
    ·refine⟨_,?_,rfl,frM hC Y1.fr f3⟩
     have:=(e4.2 _).1 r1
     have hx:z=true:=by
      rw[q3]at this
      simpa[kts,n1,n2,n3,Ne.symm n1,Ne.symm n2,Ne.symm n3]using this
     simp[G.key,q3,n2,n3,G.aB,hx]
   ·exact⟨.none,.edge k x y z,σ,A,some (m,ks),none,[],[],none,by simp[G.key,q,q2,q3],rfl,zX Y1 (fun x hx=>.inl (hr1 x hx)) hr2,⟨xM,xK,xR,m,ks,e1,e2,rfl,e4,e5⟩,⟨rfl,rfl,rfl,rfl⟩,Gr.refl σ,hb,trivial⟩
end
theorem Li {b v:Nat} {h:ab}:PJ 104 #[pt b,PN (v:Int)] h fun w h'=>Fr [] h h'/\∃xR xV m xM t,h.size<=xR/\h.size<=xV/\h.size<=m/\h.size<=xM/\h.size<=t/\w=pt t/\
  ∀h0 M cs,Sy h0 M h cs->Sy h0 M h' (cs++[Ck.ob xR 42 [pt b]]++[Ck.ob xV 3 [PN (v:Int)]]++[Ck.mp m []]++[Ck.ob xM 103 [.map (some m)]]++[Ck.ob t 108 [PN 1,.nilFunc,fnV 144 #[pt xM,pt xR,pt xV],fnV 52 #[]]]):=by
 apply B9
 unfold LX
 intro hv hv2 hv3 hv4
 have s1:hv.size=h.size+1:=by simp[hv]
 have s2:hv2.size=h.size+2:=by simp[hv2,hv]
 have s3:hv3.size=h.size+3:=by grind
 have s4:hv4.size=h.size+4:=by grind
 have Z4:∀h0 M cs,Sy h0 M h cs->Sy h0 M hv4 (cs++[Ck.ob h.size 42 [pt b]]++[Ck.ob hv.size 3 [PN (v:Int)]]++[Ck.mp hv2.size []]++[Ck.ob hv3.size 103 [.map none]]):=
  fun h0 M cs Y=>Sy.newO (Sy.newM (Sy.newO (Sy.newO Y [pt b]) [PN (v:Int)])) [.map none]
 have f4:Fr [] h hv4:=(((Fr.push h _).pushr _).pushr _).pushr _
 have Z:=Z4 h [] [] ⟨Fr.refl _ _,Hp.nil _,fun k c hk=>by simp at hk⟩
 refine⟨⟨_,Z.cellO 3 rfl 0 rfl⟩,Z.freeO 3 rfl 0,?_⟩
 intro hv5 hv6
 have s5:hv5.size=h.size+4:=by simp[hv5,s4]
 refine⟨(f4.hsetL PA).pushr _,h.size,hv.size,hv2.size,hv3.size,hv5.size,PA,PA,PA,PA,PA,rfl,fun h0 M cs Y=>?_⟩
 have Y4:=Z4 h0 M cs Y
 have hk:(cs++[Ck.ob h.size 42 [pt b]]++[Ck.ob hv.size 3 [PN (v:Int)]]++[Ck.mp hv2.size []]++[Ck.ob hv3.size 103 [.map none]])[cs.length+3]? =some (Ck.ob hv3.size 103 [.map none]):=by simp
 have Y5:=Y4.stO (cs.length+3) hk 0 (.map (some hv2.size))
 have es:(cs++[Ck.ob h.size 42 [pt b]]++[Ck.ob hv.size 3 [PN (v:Int)]]++[Ck.mp hv2.size []]++[Ck.ob hv3.size 103 [.map none]]).set (cs.length+3) (Ck.ob hv3.size 103 ([Value.map none].set 0 (.map (some hv2.size))))=
   cs++[Ck.ob h.size 42 [pt b]]++[Ck.ob hv.size 3 [PN (v:Int)]]++[Ck.mp hv2.size []]++[Ck.ob hv3.size 103 [.map (some hv2.size)]]:=by
  simp_all
 rw[es]at Y5
 exact Sy.newO (ty:=108) Y5 [PN 1,.nilFunc,fnV 144 #[pt hv3.size,pt h.size,pt hv.size],fnV 52 #[]]
section
variable {gl:GL} {b d:Nat} {s:P0} {A:AD} {σ:G.Rd}
theorem IX {cl:Nat->Nat} {v:Nat} {x y z:Bool} {t:G.Tok} {kv ov:Value} {mo:Option (Nat × List PZ)} {fs:Fs} {h:ab} {xM xR xV m:Nat} {ks:List PZ}
  (H:Hp h (stC gl b s A σ d++[Ck.fx mo fs])) (ri:G.RI cl s σ) (hb:LvB σ (.node v x y z)) (e1:kv=fnV 101 #[pt xM,pt xR,pt xV]) (e2:ov=fnV 105 #[pt xM]) (e3:mo=some (m,ks)) (e4:Seen (.node v x y z) ks)
  (e5:fs=[(xM,0,.map (some m)),(xR,0,pt b),(xV,0,PN (v:Int))]):
  PM 101 #[cQ t,pt xM,pt xR,pt xV] h (kR gl b d s (stC gl b s A σ d++[Ck.fx mo fs]) h (.node v x y z) t σ kv ov fs) (kE (stC gl b s A σ d++[Ck.fx mo fs]) h (.node v x y z) t σ):=by
 generalize hC:stC gl b s A σ d++[Ck.fx mo fs]=C at H ⊢
 have Y0:Sy h (ao C) h (stC gl b s A σ d++[Ck.fx mo fs]):=by rw[hC];exact Sy.start H
 obtain⟨hr1,hr2⟩:=xb (gl:=gl) (b:=b) (s:=s) (A:=A) (σ:=σ) (d:=d) (mo:=mo) (fs:=fs)
 rw[hC]at hr1 hr2
 unfold cQ
 apply B6
 unfold LU
 have ex:(t.says.toList==(⟨#[105,100]⟩:P0).toList)=decide (t.l=G.kId):=cU
 have ey:(t.says.toList==(⟨#[108,97,98,101,108]⟩:P0).toList)=decide (t.l=G.eU):=cU
 have ez:(t.says.toList==(⟨#[103,114,97,112,104,105,99,115]⟩:P0).toList)=decide (t.l=G.bm):=cU
 rw[ex,ey,ez]
 intro hv
 have Y1:Sy h (ao C) hv (stC gl b s A σ d++[Ck.fx mo fs]):=Y0.gr (Fr.push h _)
 have s1:hv.size=h.size+1:=by simp[hv]
 clear_value hv
 have n1:G.eU≠G.kId:=by decide
 have n2:G.bm≠G.kId:=by decide
 have n3:G.bm≠G.eU:=by decide
 subst e3
 have hml:m<h.size:=iW (Y0.mapF 7 rfl)
 refine ae (fun q=>?_) fun q1=>?_
 ·refine⟨xM,0,rfl,some m,Y1.factF 7 rfl 0 (by rw[e5];rfl),?_⟩
  refine rv Y1 7 rfl e4.1 PH (fun r1 hv3 f3 Y3=>?_) fun r1 hv3 f3=>?_
  ·refine⟨rfl,?_⟩
   intro hv8
   have Y8:Sy h (ao C) hv8 (stC gl b s A σ d++[Ck.fx (some (m,ks++[t.l])) fs,Ck.ob hv3.size 108 [PN 4,fnV 102 #[pt xR,pt xV],.nilFunc,.nilFunc]]):=Sy.newO Y3 [PN 4,fnV 102 #[pt xR,pt xV],.nilFunc,.nilFunc]
   have s7:h.size<=hv3.size:=Y3.le
   refine⟨.id v,.node v true y z,σ,A,some (m,ks++[t.l]),none,[],[(hv3.size,0,PN 4),(hv3.size,1,fnV 102 #[pt xR,pt xV]),(xR,0,pt b),(xV,0,PN (v:Int))],some ⟨hv3.size,0,none⟩,?_,rfl,?_,?_,?_,Gr.refl σ,hb,hb⟩
   ·have hx:x=false:=by
     cases x with
     | false=>rfl
     | true=>exact absurd ((e4.2 _).2 (by simp[kts,q])) r1
    grind [G.key,G.aB]
   ·refine oV (rest:=[_]) Y8 (fun x hx=>.inl (hr1 x hx)) hr2 (fun p hp=>by cases hp) (fun f hf=>by cases hf) fun f hf=>?_
    simp only[Qd,Qh,or_false]at hf
    rcases hf with rfl | rfl | rfl | rfl
    ·exact⟨Y8.cellO 8 rfl 0 rfl,.inr ⟨s7,0,108,_,rfl⟩⟩
    ·exact⟨Y8.cellO 8 rfl 1 rfl,.inr ⟨s7,0,108,_,rfl⟩⟩
    ·exact⟨Y8.factF 7 rfl 1 (by rw[e5];rfl),.inl (by rw[e5];simp)⟩
    ·exact⟨Y8.factF 7 rfl 2 (by rw[e5];rfl),.inl (by rw[e5];simp)⟩
   ·exact⟨xM,xR,xV,m,ks++[t.l],e1,e2,rfl,eZ e4 r1 (fun k'=>by rw[q];simp[kts]<;>grind),e5⟩
   ·exact⟨hv3.size,xR,xV,rfl,rfl,rfl,rfl⟩
  ·refine⟨_,?_,rfl,frM hC Y1.fr f3⟩
   have:=(e4.2 _).1 r1
   have hx:x=true:=by
    rw[q]at this
    simpa[kts,n1,n2,n3,Ne.symm n1,Ne.symm n2,Ne.symm n3]using this
   simp[G.key,q,n1,n2,n3,G.aB,hx]
 refine ae (fun q=>?_) fun q2=>?_
 ·refine⟨xM,0,rfl,some m,Y1.factF 7 rfl 0 (by rw[e5];rfl),?_⟩
  refine rv Y1 7 rfl e4.1 PH (fun r1 hv3 f3 Y3=>?_) fun r1 hv3 f3=>?_
  ·refine⟨rfl,?_⟩
   intro hv8
   have Y8:Sy h (ao C) hv8 (stC gl b s A σ d++[Ck.fx (some (m,ks++[t.l])) fs,Ck.ob hv3.size 108 [PN 5,fnV 103 #[pt xR,pt xV],.nilFunc,.nilFunc]]):=Sy.newO Y3 [PN 5,fnV 103 #[pt xR,pt xV],.nilFunc,.nilFunc]
   have s7:h.size<=hv3.size:=Y3.le
   refine⟨.label v,.node v x true z,σ,A,some (m,ks++[t.l]),none,[],[(hv3.size,0,PN 5),(hv3.size,1,fnV 103 #[pt xR,pt xV]),(xR,0,pt b),(xV,0,PN (v:Int))],some ⟨hv3.size,0,none⟩,?_,rfl,?_,?_,?_,Gr.refl σ,hb,hb⟩
   ·have hx:y=false:=by
     cases y with
     | false=>rfl
     | true=>exact absurd ((e4.2 _).2 (by simp[kts,q])) r1
    grind [G.key,G.aB]
   ·refine oV (rest:=[_]) Y8 (fun x hx=>.inl (hr1 x hx)) hr2 (fun p hp=>by cases hp) (fun f hf=>by cases hf) fun f hf=>?_
    simp only[Qd,Qh,or_false]at hf
    rcases hf with rfl | rfl | rfl | rfl
    ·exact⟨Y8.cellO 8 rfl 0 rfl,.inr ⟨s7,0,108,_,rfl⟩⟩
    ·exact⟨Y8.cellO 8 rfl 1 rfl,.inr ⟨s7,0,108,_,rfl⟩⟩
    ·exact⟨Y8.factF 7 rfl 1 (by rw[e5];rfl),.inl (by rw[e5];simp)⟩
    ·exact⟨Y8.factF 7 rfl 2 (by rw[e5];rfl),.inl (by rw[e5];simp)⟩
   ·exact⟨xM,xR,xV,m,ks++[t.l],e1,e2,rfl,eZ e4 r1 (fun k'=>by rw[q];simp[kts]<;>grind),e5⟩
   ·exact⟨hv3.size,xR,xV,rfl,rfl,rfl,rfl⟩
  ·refine⟨_,?_,rfl,frM hC Y1.fr f3⟩
   have:=(e4.2 _).1 r1
   have hx:y=true:=by
    rw[q]at this
    simpa[kts,n1,n2,n3,Ne.symm n1,Ne.symm n2,Ne.symm n3]using this
   simp[G.key,q,n1,n2,n3,G.aB,hx]
 refine ae (fun q=>?_) fun q3=>?_
 ·refine⟨xM,0,rfl,some m,Y1.factF 7 rfl 0 (by rw[e5];rfl),?_⟩
  refine rv Y1 7 rfl e4.1 PH (fun r1 hv3 f3 Y3=>?_) fun r1 hv3 f3=>?_
  ·refine⟨rfl,?_⟩
   have Y3:Sy h (ao C) hv3 (stC gl b s A σ d++[Ck.fx (some (m,ks++[t.l])) fs]):=Y3
   refine⟨xR,0,rfl,_,Y3.factF 7 rfl 1 (by rw[e5];rfl),xV,0,rfl,(v:Int),Y3.factF 7 rfl 2 (by rw[e5];rfl),?_⟩
   refine ak [] Li PC (fun _ _ r=>r.1) fun w h' r=>?_
   obtain⟨f8,xR2,xV2,m2,xM2,t2,z1,z2,z3,z4,z5,rfl,Z⟩:=r
   have Y8:Sy h (ao C) h' (stC gl b s A σ d++Ck.fx (some (m,ks++[t.l])) fs::[Ck.ob xR2 42 [pt b],Ck.ob xV2 3 [PN (v:Int)],Ck.mp m2 [],Ck.ob xM2 103 [.map (some m2)],Ck.ob t2 108 [PN 1,.nilFunc,fnV 144 #[pt xM2,pt xR2,pt xV2],fnV 52 #[]]]):=Z _ _ _ Y3
   have s7:h.size<=hv3.size:=Y3.le
   refine⟨some ⟨t2,0,none⟩,rfl,.list (.spot v false false),.node v x y true,σ,A,some (m,ks++[t.l]),some (m2,[]),[(xM2,0,.map (some m2)),(xR2,0,pt b),(xV2,0,PN (v:Int))],[(t2,0,PN 1),(t2,2,fnV 144 #[pt xM2,pt xR2,pt xV2]),(t2,3,fnV 52 #[])],some ⟨t2,0,none⟩,?_,rfl,?_,?_,?_,Gr.refl σ,hb,hb⟩
   ·have hx:z=false:=by
     cases z with
     | false=>rfl
     | true=>exact absurd ((e4.2 _).2 (by simp[kts,q])) r1
    grind [G.key,G.aB]
   ·refine oV Y8 (fun x hx=>.inl (hr1 x hx)) hr2 (fun p hp=>by cases hp;exact⟨2,rfl⟩) (fun f hf=>?_) fun f hf=>?_
    ·simp only[Qd,Qh,or_false]at hf
     rcases hf with rfl | rfl | rfl
     ·exact⟨Y8.cellO 11 rfl 0 rfl,.inr ⟨Qg s7 z4,3,103,_,rfl⟩⟩
     ·exact⟨Y8.cellO 8 rfl 0 rfl,.inr ⟨Qg s7 z1,0,42,_,rfl⟩⟩
     ·exact⟨Y8.cellO 9 rfl 0 rfl,.inr ⟨Qg s7 z2,1,3,_,rfl⟩⟩
    ·simp only[Qd,Qh,or_false]at hf
     rcases hf with rfl | rfl | rfl
     ·exact⟨Y8.cellO 12 rfl 0 rfl,.inr ⟨Qg s7 z5,4,108,_,rfl⟩⟩
     ·exact⟨Y8.cellO 12 rfl 2 rfl,.inr ⟨Qg s7 z5,4,108,_,rfl⟩⟩
     ·exact⟨Y8.cellO 12 rfl 3 rfl,.inr ⟨Qg s7 z5,4,108,_,rfl⟩⟩
   ·exact⟨xM,xR,xV,m,ks++[t.l],e1,e2,rfl,eZ e4 r1 (fun k'=>by rw[q];simp[kts]<;>grind),e5⟩
   ·exact⟨t2,_,_,_,rfl,⟨xM2,xR2,xV2,m2,[],rfl,rfl,rfl,⟨PC,by simp[kts]⟩,rfl⟩,rfl⟩
  ·refine⟨_,?_,rfl,frM hC Y1.fr f3⟩
   have:=(e4.2 _).1 r1
   have hx:z=true:=by
    rw[q]at this
    simpa[kts,n1,n2,n3,Ne.symm n1,Ne.symm n2,Ne.symm n3]using this
   simp[G.key,q,n1,n2,n3,G.aB,hx]
 ·exact⟨.none,.node v x y z,σ,A,some (m,ks),none,[],[],none,by simp[G.key,q1,q2,q3],rfl,zX Y1 (fun x hx=>.inl (hr1 x hx)) hr2,⟨xM,xR,xV,m,ks,e1,e2,rfl,e4,e5⟩,⟨rfl,rfl,rfl,rfl⟩,Gr.refl σ,hb,trivial⟩
end
section
variable {gl:GL} {b d:Nat} {s:P0} {A:AD} {σ:G.Rd}
theorem fN {h0 h:ab} {M:List Nat} {cs:List Ck} (Y:Sy h0 M h cs) (k:Nat) {c:Ck} (hk:cs[k]? =some c):∀x∈c.own,x<h.size:=(c.lt h (Y.ok hk)).1
theorem OD {cl:Nat->Nat} {h0 h:ab} {M:List Nat} {c7 c8:Ck} (Y:Sy h0 M h (stC gl b s A σ d++[c7,c8])) (ri:G.RI cl s σ) (hn:σ.n<1024):
  PJ 76 #[pt b] h fun w h'=>Fr (ao (stC gl b s A σ d)) h h'/\∃A' xR xV m xM t,h.size<=xR/\h.size<=xV/\h.size<=m/\h.size<=xM/\h.size<=t/\w=pt t/\
   Sy h0 M h' (stC gl b s A' {σ with n:=σ.n+1,labels:=σ.labels++[G.noB],spots:=σ.spots++[(0,0)]} d++[c7,c8,Ck.ob xR 42 [pt b],Ck.ob xV 3 [PN (σ.n:Int)],Ck.mp m [],Ck.ob xM 103 [.map (some m)],
    Ck.ob t 108 [PN 1,.nilFunc,fnV 101 #[pt xM,pt xR,pt xV],fnV 105 #[pt xM]]]):=by
 apply F6
 unfold S76
 intro hv
 have Y1:Sy h0 M hv (stC gl b s A σ d++[c7,c8,Ck.ob h.size 42 [pt b]]):=Sy.newO Y [pt b]
 have s1:hv.size=h.size+1:=by simp[hv]
 have f1:Fr (ao (stC gl b s A σ d)) h hv:=(Fr.push h _).nil
 clear_value hv
 refine⟨_,Y1.cellO 9 rfl 0 rfl,b,0,rfl,(σ.n:Int),Y1.cellO 0 rfl 3 rfl,?_⟩
 intro hv2
 have Y2:Sy h0 M hv2 (stC gl b s A σ d++[c7,c8,Ck.ob h.size 42 [pt b],Ck.ob hv.size 3 [PN 0]]):=Sy.newO Y1 [PN 0]
 have s2:hv2.size=h.size+2:=by simp[hv2,s1]
 refine⟨⟨_,Y2.cellO 10 rfl 0 rfl⟩,Y2.freeO 10 rfl 0,?_⟩
 intro hv3
 have Y3:Sy h0 M hv3 (stC gl b s A σ d++[c7,c8,Ck.ob h.size 42 [pt b],Ck.ob hv.size 3 [PN (σ.n:Int)]]):=Y2.stO 10 rfl 0 _
 have s3:hv3.size=h.size+2:=by simp[hv3,s2]
 have f3:Fr (ao (stC gl b s A σ d)) h hv3:=(f1.pushr _).hsetL PA
 clear_value hv3
 clear hv2 Y2 s2
 refine⟨_,Y3.cellO 9 rfl 0 rfl,b,0,rfl,(σ.n:Int),Y3.cellO 0 rfl 3 rfl,b,0,rfl,⟨_,Y3.cellO 0 rfl 3 rfl⟩,Y3.freeO 0 rfl 3,?_⟩
 rw[wrN PA]
 intro hv4
 have Y4:Sy h0 M hv4 (stC gl b s A {σ with n:=σ.n+1} d++[c7,c8,Ck.ob h.size 42 [pt b],Ck.ob hv.size 3 [PN (σ.n:Int)]]):=Y3.stO 0 rfl 3 _
 have s4:hv4.size=h.size+2:=by simp[hv4,s3]
 have f4:Fr (ao (stC gl b s A σ d)) h hv4:=f3.hsetr (.inr (by simp[ao,stC,Ck.ob]))
 clear_value hv4
 clear Y3 s3 f3
 intro K
 have fin:∀(p:Nat) (hvx:ab) (A':AD),p<hvx.size->Fr (ao (stC gl b s A σ d)) h hvx->hv4.size<=hvx.size->Sy h0 M hvx (stC gl b s A' {σ with n:=σ.n+1,labels:=σ.labels++[G.noB],spots:=σ.spots++[(0,0)]} d++[c7,c8,Ck.ob h.size 42 [pt b],Ck.ob hv.size 3 [PN (σ.n:Int)]])->K p hvx:=by
  intro p hvx A' hp fx sx Yx
  dsimp-zeta only[K]
  intro hv23 hv24
  have Y23:Sy h0 M hv23 (stC gl b s A' {σ with n:=σ.n+1,labels:=σ.labels++[G.noB],spots:=σ.spots++[(0,0)]} d++[c7,c8,Ck.ob h.size 42 [pt b],Ck.ob hv.size 3 [PN (σ.n:Int)],Ck.mp hvx.size []]):=Sy.newM Yx
  have s23:hv23.size=hvx.size+1:=by simp[hv23]
  have Y24:Sy h0 M hv24 (stC gl b s A' {σ with n:=σ.n+1,labels:=σ.labels++[G.noB],spots:=σ.spots++[(0,0)]} d++[c7,c8,Ck.ob h.size 42 [pt b],Ck.ob hv.size 3 [PN (σ.n:Int)],Ck.mp hvx.size [],Ck.ob hv23.size 103 [.map none]]):=Sy.newO Y23 [.map none]
  have f24:Fr (ao (stC gl b s A σ d)) h hv24:=(fx.pushr _).pushr _
  have hs:h.size<=hvx.size:=by omega
  refine⟨PA,PA,⟨_,Y24.cellO 12 rfl 0 rfl⟩,Y24.freeO 12 rfl 0,?_⟩
  intro hv25 hv26
  have s25:hv25.size=hvx.size+2:=by simp[hv25,hv24,s23]
  have Y25:Sy h0 M hv25 (stC gl b s A' {σ with n:=σ.n+1,labels:=σ.labels++[G.noB],spots:=σ.spots++[(0,0)]} d++[c7,c8,Ck.ob h.size 42 [pt b],Ck.ob hv.size 3 [PN (σ.n:Int)],Ck.mp hvx.size [],Ck.ob hv23.size 103 [.map (some hvx.size)]]):=Y24.stO 12 rfl 0 _
  have Y26:=Sy.newO (ty:=108) Y25 [PN 1,.nilFunc,fnV 101 #[pt hv23.size,pt h.size,pt hv.size],fnV 105 #[pt hv23.size]]
  exact⟨(f24.hsetL PA).pushr _,A',h.size,hv.size,hvx.size,hv23.size,hv25.size,PA,PA,PA,PA,PA,rfl,Y26⟩
 have hL:∀x∈ai A.aL,x<h.size/\x≠b:=fun x hx=>⟨fN Y 2 rfl x hx,fun e=>(Y.hp.ap 2 0 _ _ PB rfl rfl x hx).1 (by simp[Ck.ob,e])⟩
 have hS:∀x∈ai A.aS,x<h.size/\x≠b:=fun x hx=>⟨fN Y 3 rfl x hx,fun e=>(Y.hp.ap 3 0 _ _ PB rfl rfl x hx).1 (by simp[Ck.ob,e])⟩
 have hbl:b<h.size:=fN Y 0 rfl b (by simp[Ck.ob])
 have hM1:∀x,(x=b\/h.size<=x)->x∉ai A.aL++ai A.aS:=by
  intro x hx q
  rcases Qe.1 q with q | q
  ·have:=hL x q;omega
  ·have:=hS x q;omega
 have hM2:∀x,h.size<=x->x∉b::(ai A.aL++ai A.aS):=by
  intro x hx q
  rcases Qd.1 q with rfl | q
  ·omega
  simp_all
 have hll:=ri.ll
 have hsl:=ri.sl
 refine⟨ai A.aL++ai A.aS,b::(ai A.aL++ai A.aS),fun x q=>QQ _ q,PC,hM1 _ (.inr (P3 _)),_,Y4.cellO 9 rfl 0 rfl,hM2 _ (P3 _),_,Y4.cellO 9 rfl 0 rfl,hM1 _ (.inr (P3 _)),_,Y4.cellO 9 rfl 0 rfl,
  b,0,rfl,hM1 _ (.inl rfl),A.aL,σ.labels.length,A.cL,Y4.cellO 0 rfl 11 rfl,hM2 _ (P3 _),_,Y4.cellO 9 rfl 0 rfl,b,0,rfl,hM1 _ (.inl rfl),A.aS,σ.spots.length,A.cS,Y4.cellO 0 rfl 12 rfl,?_,?_⟩
 ·intro hp1
  have sp1:hp1.size=hv4.size+1:=by simp[hp1]
  have Z1:Sy h0 M hp1 (stC gl b s A {σ with n:=σ.n+1} d++[c7,c8,Ck.ob h.size 42 [pt b],Ck.ob hv.size 3 [PN (σ.n:Int)]]):=Sy.gr Y4 (Fr.push _ _)
  have g1:Fr (ai A.aL++ai A.aS) hv4 hp1:=(Fr.refl _ _).trans (Fr.push _ _).nil
  clear_value hp1
  refine⟨g1,?_,?_⟩
  ·refine⟨_,Z1.ownS 2 rfl,fun x hx q=>?_,PA,by simp only[maxLen];omega,fun sA sC ha ow f gg _=>?_⟩
   ·simp_all
   have Za:=Z1.appS 2 rfl [G.noB] ow f gg rfl rfl
   have ga:Fr (ai A.aL++ai A.aS) hv4 ha:=g1.trans (f.mono fun x q=>Qe.2 (.inl q))
   have sa:hp1.size<=ha.size:=f.size
   refine⟨ga,?_⟩
   intro hp2
   have sp2:hp2.size=ha.size+1:=by simp[hp2]
   have Z2:=Sy.gr Za (Fr.push ha (.cells #[PS 0,PS 0] 53))
   have g2:Fr (ai A.aL++ai A.aS) hv4 hp2:=ga.trans (Fr.push _ _).nil
   refine⟨g2,?_⟩
   refine⟨_,Z2.ownS 3 rfl,fun x hx q=>?_,PA,by simp only[maxLen];omega,fun sA2 sC2 hb ow2 f2 gg2 _=>?_⟩
   ·have:=(hS x q).1
    simp only[Qd,Qh,or_false]at hx
    omega
   have Zb:=Z2.appS 3 rfl [((0:Nat),(0:Nat))] ow2 f2 gg2 rfl rfl
   have gb:Fr (ai A.aL++ai A.aS) hv4 hb:=g2.trans (f2.mono fun x q=>Qe.2 (.inr q))
   have sb:hp2.size<=hb.size:=f2.size
   refine⟨gb,b,0,rfl,PA,PA,⟨_,Zb.cellO 0 rfl 11 rfl⟩,Zb.freeO 0 rfl 11,?_⟩
   intro hc
   have Zc:=Zb.stO 0 rfl 11 (PT sA (σ.labels.length+1) sC)
   have gc:Fr (b::(ai A.aL++ai A.aS)) hv4 hc:=(gb.mono fun x q=>QQ _ q).hsetr (.inr PC)
   have sc:hc.size=hb.size:=by simp[hc]
   refine⟨gc,b,0,rfl,PA,PA,⟨_,Zc.cellO 0 rfl 12 rfl⟩,Zc.freeO 0 rfl 12,?_⟩
   intro hd
   have Zd:=Zc.stO 0 rfl 12 (PT sA2 (σ.spots.length+1) sC2)
   have gd:Fr (b::(ai A.aL++ai A.aS)) hv4 hd:=gc.hsetr (.inr PC)
   have sd:hd.size=hc.size:=by simp[hd]
   refine⟨gd,?_⟩
   have Ze:Sy h0 M hd ([Ck.ob b 49 [PU s,PN (σ.i:Int),PN (d:Int),PN ((σ.n+1:Nat):Int),PT none 0 0,PV σ.dir,PT none 0 0,PT none 0 0,PT none 0 0,PV σ.graph,.map (some A.mp),
     PT sA (σ.labels.length+1) sC,PT sA2 (σ.spots.length+1) sC2,PT A.aW σ.weights.length A.cW,PV σ.h0,PV σ.h1,PV σ.h2,PT A.aE σ.ends.length A.cE],
     Ck.mp A.mp (iu σ.ids),Ck.sl eS 9 sA (σ.labels.length+1) sC (σ.labels++[G.noB]),Ck.sl eFF 53 sA2 (σ.spots.length+1) sC2 (σ.spots++[((0:Nat),(0:Nat))]),Ck.sl eF 51 A.aW σ.weights.length A.cW σ.weights,
     Ck.sl eT 81 A.aE σ.ends.length A.cE σ.ends,Ck.glob gl]++[c7,c8,Ck.ob h.size 42 [pt b],Ck.ob hv.size 3 [PN (σ.n:Int)]]):=Zd
   have l1:σ.labels.length+1=(σ.labels++[G.noB]).length:=by simp
   have l2:σ.spots.length+1=(σ.spots++[((0:Nat),(0:Nat))]).length:=by simp
   rw[l1,l2]at Ze
   refine fin ha.size hd {A with aL:=sA,cL:=sC,aS:=sA2,cS:=sC2} PA (f4.trans (gd.mono fun x q=>?_)) PA Ze
   ·simp only[Qd,Qe]at q
    simp only[ao,stC,QM,Ck.ob,Ck.mp,Ck.sl,Qe,Qd,Qh,or_false]
    grind
  ·intro hp2
   have sp2:hp2.size=hp1.size+1:=by simp[hp2]
   have Z2:Sy h0 M hp2 (stC gl b s A {σ with n:=σ.n+1} d++[c7,c8,Ck.ob h.size 42 [pt b],Ck.ob hv.size 3 [PN (σ.n:Int)]]):=Sy.gr Z1 (Fr.push _ _)
   have g2:Fr (ai A.aL++ai A.aS) hv4 hp2:=g1.trans (Fr.push _ _).nil
   clear_value hp2
   refine⟨g2,?_⟩
   refine⟨_,Z2.ownS 2 rfl,fun x hx q=>?_,PA,by simp only[maxLen];omega,fun sA sC ha ow f gg _=>?_⟩
   ·have:=(hL x q).1
    simp only[Qd,Qh,or_false]at hx
    omega
   have Za:=Z2.appS 2 rfl [G.noB] ow f gg rfl rfl
   have ga:Fr (ai A.aL++ai A.aS) hv4 ha:=g2.trans (f.mono fun x q=>Qe.2 (.inl q))
   have sa:hp2.size<=ha.size:=f.size
   refine⟨ga,?_⟩
   refine⟨_,Za.ownS 3 rfl,fun x hx q=>?_,PA,by simp only[maxLen];omega,fun sA2 sC2 hb ow2 f2 gg2 _=>?_⟩
   ·have:=(hS x q).1
    simp only[Qd,Qh,or_false]at hx
    omega
   have Zb:=Za.appS 3 rfl [((0:Nat),(0:Nat))] ow2 f2 gg2 rfl rfl
   have gb:Fr (ai A.aL++ai A.aS) hv4 hb:=ga.trans (f2.mono fun x q=>Qe.2 (.inr q))
   have sb:ha.size<=hb.size:=f2.size
   refine⟨gb,b,0,rfl,PA,PA,⟨_,Zb.cellO 0 rfl 11 rfl⟩,Zb.freeO 0 rfl 11,?_⟩
   intro hc
   have Zc:=Zb.stO 0 rfl 11 (PT sA (σ.labels.length+1) sC)
   have gc:Fr (b::(ai A.aL++ai A.aS)) hv4 hc:=(gb.mono fun x q=>QQ _ q).hsetr (.inr PC)
   have sc:hc.size=hb.size:=by simp[hc]
   refine⟨gc,b,0,rfl,PA,PA,⟨_,Zc.cellO 0 rfl 12 rfl⟩,Zc.freeO 0 rfl 12,?_⟩
   intro hd
   have Zd:=Zc.stO 0 rfl 12 (PT sA2 (σ.spots.length+1) sC2)
   have gd:Fr (b::(ai A.aL++ai A.aS)) hv4 hd:=gc.hsetr (.inr PC)
   have sd:hd.size=hc.size:=by simp[hd]
   refine⟨gd,?_⟩
   have Ze:Sy h0 M hd ([Ck.ob b 49 [PU s,PN (σ.i:Int),PN (d:Int),PN ((σ.n+1:Nat):Int),PT none 0 0,PV σ.dir,PT none 0 0,PT none 0 0,PT none 0 0,PV σ.graph,.map (some A.mp),
     PT sA (σ.labels.length+1) sC,PT sA2 (σ.spots.length+1) sC2,PT A.aW σ.weights.length A.cW,PV σ.h0,PV σ.h1,PV σ.h2,PT A.aE σ.ends.length A.cE],
     Ck.mp A.mp (iu σ.ids),Ck.sl eS 9 sA (σ.labels.length+1) sC (σ.labels++[G.noB]),Ck.sl eFF 53 sA2 (σ.spots.length+1) sC2 (σ.spots++[((0:Nat),(0:Nat))]),Ck.sl eF 51 A.aW σ.weights.length A.cW σ.weights,
     Ck.sl eT 81 A.aE σ.ends.length A.cE σ.ends,Ck.glob gl]++[c7,c8,Ck.ob h.size 42 [pt b],Ck.ob hv.size 3 [PN (σ.n:Int)]]):=Zd
   have l1:σ.labels.length+1=(σ.labels++[G.noB]).length:=by simp
   have l2:σ.spots.length+1=(σ.spots++[((0:Nat),(0:Nat))]).length:=by simp
   rw[l1,l2]at Ze
   refine fin hp1.size hd {A with aL:=sA,cL:=sC,aS:=sA2,cS:=sC2} PA (f4.trans (gd.mono fun x q=>?_)) PA Ze
   ·simp only[Qd,Qe]at q
    simp only[ao,stC,QM,Ck.ob,Ck.mp,Ck.sl,Qe,Qd,Qh,or_false]
    grind
 ·intro hp1
  have sp1:hp1.size=hv4.size+1:=by simp[hp1]
  have Z1:Sy h0 M hp1 (stC gl b s A {σ with n:=σ.n+1} d++[c7,c8,Ck.ob h.size 42 [pt b],Ck.ob hv.size 3 [PN (σ.n:Int)]]):=Sy.gr Y4 (Fr.push _ _)
  have g1:Fr (ai A.aL++ai A.aS) hv4 hp1:=(Fr.refl _ _).trans (Fr.push _ _).nil
  clear_value hp1
  refine⟨g1,?_⟩
  intro hp2
  have sp2:hp2.size=hp1.size+1:=by simp[hp2]
  have Z2:Sy h0 M hp2 (stC gl b s A {σ with n:=σ.n+1} d++[c7,c8,Ck.ob h.size 42 [pt b],Ck.ob hv.size 3 [PN (σ.n:Int)]]):=Sy.gr Z1 (Fr.push _ _)
  have g2:Fr (ai A.aL++ai A.aS) hv4 hp2:=g1.trans (Fr.push _ _).nil
  clear_value hp2
  refine⟨g2,?_⟩
  refine⟨_,Z2.ownS 2 rfl,fun x hx q=>?_,PA,by simp only[maxLen];omega,fun sA sC ha ow f gg _=>?_⟩
  ·have:=(hL x q).1
   simp only[Qd,Qh,or_false]at hx
   omega
  have Za:=Z2.appS 2 rfl [G.noB] ow f gg rfl rfl
  have ga:Fr (ai A.aL++ai A.aS) hv4 ha:=g2.trans (f.mono fun x q=>Qe.2 (.inl q))
  have sa:hp2.size<=ha.size:=f.size
  refine⟨ga,?_⟩
  refine⟨_,Za.ownS 3 rfl,fun x hx q=>?_,PA,by simp only[maxLen];omega,fun sA2 sC2 hb ow2 f2 gg2 _=>?_⟩
  ·have:=(hS x q).1
   simp only[Qd,Qh,or_false]at hx
   omega
  have Zb:=Za.appS 3 rfl [((0:Nat),(0:Nat))] ow2 f2 gg2 rfl rfl
  have gb:Fr (ai A.aL++ai A.aS) hv4 hb:=ga.trans (f2.mono fun x q=>Qe.2 (.inr q))
  have sb:ha.size<=hb.size:=f2.size
  refine⟨gb,b,0,rfl,PA,PA,⟨_,Zb.cellO 0 rfl 11 rfl⟩,Zb.freeO 0 rfl 11,?_⟩
  intro hc
  have Zc:=Zb.stO 0 rfl 11 (PT sA (σ.labels.length+1) sC)
  have gc:Fr (b::(ai A.aL++ai A.aS)) hv4 hc:=(gb.mono fun x q=>QQ _ q).hsetr (.inr PC)
  have sc:hc.size=hb.size:=by simp[hc]
  refine⟨gc,b,0,rfl,PA,PA,⟨_,Zc.cellO 0 rfl 12 rfl⟩,Zc.freeO 0 rfl 12,?_⟩
  intro hd
  have Zd:=Zc.stO 0 rfl 12 (PT sA2 (σ.spots.length+1) sC2)
  have gd:Fr (b::(ai A.aL++ai A.aS)) hv4 hd:=gc.hsetr (.inr PC)
  have sd:hd.size=hc.size:=by simp[hd]
  refine⟨gd,?_⟩
  have Ze:Sy h0 M hd ([Ck.ob b 49 [PU s,PN (σ.i:Int),PN (d:Int),PN ((σ.n+1:Nat):Int),PT none 0 0,PV σ.dir,PT none 0 0,PT none 0 0,PT none 0 0,PV σ.graph,.map (some A.mp),
    PT sA (σ.labels.length+1) sC,PT sA2 (σ.spots.length+1) sC2,PT A.aW σ.weights.length A.cW,PV σ.h0,PV σ.h1,PV σ.h2,PT A.aE σ.ends.length A.cE],
    Ck.mp A.mp (iu σ.ids),Ck.sl eS 9 sA (σ.labels.length+1) sC (σ.labels++[G.noB]),Ck.sl eFF 53 sA2 (σ.spots.length+1) sC2 (σ.spots++[((0:Nat),(0:Nat))]),Ck.sl eF 51 A.aW σ.weights.length A.cW σ.weights,
    Ck.sl eT 81 A.aE σ.ends.length A.cE σ.ends,Ck.glob gl]++[c7,c8,Ck.ob h.size 42 [pt b],Ck.ob hv.size 3 [PN (σ.n:Int)]]):=Zd
  have l1:σ.labels.length+1=(σ.labels++[G.noB]).length:=by simp
  have l2:σ.spots.length+1=(σ.spots++[((0:Nat),(0:Nat))]).length:=by simp
  rw[l1,l2]at Ze
  refine fin hp1.size hd {A with aL:=sA,cL:=sC,aS:=sA2,cS:=sC2} PA (f4.trans (gd.mono fun x q=>?_)) PA Ze
  ·simp only[Qd,Qe]at q
   simp only[ao,stC,QM,Ck.ob,Ck.mp,Ck.sl,Qe,Qd,Qh,or_false]
   grind
theorem OE {cl:Nat->Nat} {h0 h:ab} {M:List Nat} {c7 c8:Ck} (Y:Sy h0 M h (stC gl b s A σ d++[c7,c8])) (ri:G.RI cl s σ) (hn:σ.ends.length/2<3072):
  PJ 77 #[pt b] h fun w h'=>Fr (ao (stC gl b s A σ d)) h h'/\∃A' xR xK m xM t,h.size<=xR/\h.size<=xK/\h.size<=m/\h.size<=xM/\h.size<=t/\w=pt t/\
   Sy h0 M h' (stC gl b s A' {σ with ends:=σ.ends++[⟨0,0,G.noB,0⟩,⟨0,0,G.noB,0⟩],weights:=σ.weights++[4607182418800017408]} d++[c7,c8,Ck.ob xR 42 [pt b],Ck.ob xK 3 [PN (σ.ends.length:Int)],Ck.mp m [],Ck.ob xM 103 [.map (some m)],
    Ck.ob t 108 [PN 1,.nilFunc,fnV 106 #[pt xM,pt xK,pt xR],fnV 110 #[pt xM]]]):=by
 apply F8
 unfold S77
 intro hv
 have Y1:Sy h0 M hv (stC gl b s A σ d++[c7,c8,Ck.ob h.size 42 [pt b]]):=Sy.newO Y [pt b]
 have s1:hv.size=h.size+1:=by simp[hv]
 have f1:Fr (ao (stC gl b s A σ d)) h hv:=(Fr.push h _).nil
 clear_value hv
 refine⟨_,Y1.cellO 9 rfl 0 rfl,b,0,rfl,A.aE,σ.ends.length,A.cE,Y1.cellO 0 rfl 17 rfl,?_⟩
 intro hv2
 have Y2:Sy h0 M hv2 (stC gl b s A σ d++[c7,c8,Ck.ob h.size 42 [pt b],Ck.ob hv.size 3 [PN 0]]):=Sy.newO Y1 [PN 0]
 have s2:hv2.size=h.size+2:=by simp[hv2,s1]
 refine⟨⟨_,Y2.cellO 10 rfl 0 rfl⟩,Y2.freeO 10 rfl 0,?_⟩
 intro hv3
 have Y3:Sy h0 M hv3 (stC gl b s A σ d++[c7,c8,Ck.ob h.size 42 [pt b],Ck.ob hv.size 3 [PN (σ.ends.length:Int)]]):=Y2.stO 10 rfl 0 _
 have s3:hv3.size=h.size+2:=by simp[hv3,s2]
 have f3:Fr (ao (stC gl b s A σ d)) h hv3:=(f1.pushr _).hsetL PA
 clear_value hv3
 clear hv2 Y2 s2
 have hE:∀x∈ai A.aE,x<h.size/\x≠b:=fun x hx=>⟨fN Y 5 rfl x hx,fun e=>(Y.hp.ap 5 0 _ _ PB rfl rfl x hx).1 (by simp[Ck.ob,e])⟩
 have hW:∀x∈ai A.aW,x<h.size/\x≠b:=fun x hx=>⟨fN Y 4 rfl x hx,fun e=>(Y.hp.ap 4 0 _ _ PB rfl rfl x hx).1 (by simp[Ck.ob,e])⟩
 have hbl:b<h.size:=fN Y 0 rfl b (by simp[Ck.ob])
 have nE:∀x,(x=b\/h.size<=x)->x∉ai A.aE:=fun x hx q=>by grind
 have nW:∀x,(x=b\/h.size<=x)->x∉ai A.aW:=fun x hx q=>by grind
 have hel:=ri.el
 have hwl:=ri.wl
 have inO:∀x,(x=b\/x∈ai A.aE\/x∈ai A.aW)->x∈ao (stC gl b s A σ d):=by
  intro x q
  simp only[ao,stC,QM,Ck.ob,Ck.mp,Ck.sl,Qe,Qd,Qh,or_false]
  grind
 refine⟨ai A.aE,PC,nE _ (.inr (P3 _)),_,Y3.cellO 9 rfl 0 rfl,nE _ (.inr (P3 _)),_,Y3.cellO 9 rfl 0 rfl,b,0,rfl,nE _ (.inl rfl),A.aE,σ.ends.length,A.cE,Y3.cellO 0 rfl 17 rfl,?_⟩
 intro hv4
 have s4:hv4.size=hv3.size+1:=by simp[hv4]
 have Y4:Sy h0 M hv4 (stC gl b s A σ d++[c7,c8,Ck.ob h.size 42 [pt b],Ck.ob hv.size 3 [PN (σ.ends.length:Int)]]):=Sy.gr Y3 (Fr.push _ _)
 have g4:Fr (ai A.aE) hv3 hv4:=(Fr.push _ _).nil
 clear_value hv4
 refine⟨g4,_,Y4.ownS 5 rfl,fun x hx q=>?_,PA,by simp only[maxLen];omega,fun sA sC hv5 ow f gg _=>?_⟩
 ·grind
 have Y5:=Y4.appS 5 rfl [⟨0,0,G.noB,0⟩,⟨0,0,G.noB,0⟩] ow f gg rfl rfl
 have g5:Fr (ai A.aE) hv3 hv5:=g4.trans f
 have s5:hv4.size<=hv5.size:=f.size
 refine⟨g5,b,0,rfl,PA,⟨_,Y5.cellO 0 rfl 17 rfl⟩,Y5.freeO 0 rfl 17,?_⟩
 intro hv6
 have Y6:Sy h0 M hv6 _:=Y5.stO 0 rfl 17 (PT sA (σ.ends.length+2) sC)
 have s6:hv6.size=hv5.size:=by simp[hv6]
 have f6:Fr (ao (stC gl b s A σ d)) h hv6:=(f3.trans (g5.mono fun x q=>inO x (.inr (.inl q)))).hsetr (.inr (inO b (.inl rfl)))
 clear_value hv6
 refine⟨ai A.aW,fun x hx=>nW x (.inr PE),nW _ (.inr (P3 _)),_,Y6.cellO 9 rfl 0 rfl,nW _ (.inr (P3 _)),_,Y6.cellO 9 rfl 0 rfl,b,0,rfl,nW _ (.inl rfl),A.aW,σ.weights.length,A.cW,Y6.cellO 0 rfl 13 rfl,?_⟩
 intro hv7
 have s7:hv7.size=hv6.size+1:=by simp[hv7]
 have Y7:Sy h0 M hv7 _:=Sy.gr Y6 (Fr.push hv6 (.cells #[PS 4607182418800017408] 51))
 have g7:Fr (ai A.aW) hv6 hv7:=(Fr.push _ _).nil
 refine⟨g7,_,Y7.ownS 4 rfl,fun x hx q=>?_,PA,by simp only[maxLen];omega,fun sA2 sC2 hv8 ow2 f2 gg2 _=>?_⟩
 ·grind
 have Y8:=Y7.appS 4 rfl [(4607182418800017408:Nat)] ow2 f2 gg2 rfl rfl
 have g8:Fr (ai A.aW) hv6 hv8:=g7.trans f2
 have s8:hv7.size<=hv8.size:=f2.size
 refine⟨g8,b,0,rfl,PA,PA,⟨_,Y8.cellO 0 rfl 13 rfl⟩,Y8.freeO 0 rfl 13,?_⟩
 intro hv9
 have Y9:Sy h0 M hv9 _:=Y8.stO 0 rfl 13 (PT sA2 (σ.weights.length+1) sC2)
 have s9:hv9.size=hv8.size:=by simp[hv9]
 have f9:Fr (ao (stC gl b s A σ d)) h hv9:=(f6.trans (g8.mono fun x q=>inO x (.inr (.inr q)))).hsetr (.inr (inO b (.inl rfl)))
 have Ze:Sy h0 M hv9 ([Ck.ob b 49 [PU s,PN (σ.i:Int),PN (d:Int),PN (σ.n:Int),PT none 0 0,PV σ.dir,PT none 0 0,PT none 0 0,PT none 0 0,PV σ.graph,.map (some A.mp),
   PT A.aL σ.labels.length A.cL,PT A.aS σ.spots.length A.cS,PT sA2 (σ.weights.length+1) sC2,PV σ.h0,PV σ.h1,PV σ.h2,PT sA (σ.ends.length+2) sC],
   Ck.mp A.mp (iu σ.ids),Ck.sl eS 9 A.aL σ.labels.length A.cL σ.labels,Ck.sl eFF 53 A.aS σ.spots.length A.cS σ.spots,Ck.sl eF 51 sA2 (σ.weights.length+1) sC2 (σ.weights++[(4607182418800017408:Nat)]),
   Ck.sl eT 81 sA (σ.ends.length+2) sC (σ.ends++[⟨0,0,G.noB,0⟩,⟨0,0,G.noB,0⟩]),Ck.glob gl]++[c7,c8,Ck.ob h.size 42 [pt b],Ck.ob hv.size 3 [PN (σ.ends.length:Int)]]):=Y9
 have l1:σ.ends.length+2=(σ.ends++[(⟨0,0,G.noB,0⟩:G.Tok),⟨0,0,G.noB,0⟩]).length:=by simp
 have l2:σ.weights.length+1=(σ.weights++[(4607182418800017408:Nat)]).length:=by simp
 rw[l1,l2]at Ze
 clear_value hv9
 have Yx:Sy h0 M hv9 (stC gl b s {A with aW:=sA2,cW:=sC2,aE:=sA,cE:=sC} {σ with ends:=σ.ends++[⟨0,0,G.noB,0⟩,⟨0,0,G.noB,0⟩],weights:=σ.weights++[4607182418800017408]} d++[c7,c8,Ck.ob h.size 42 [pt b],Ck.ob hv.size 3 [PN (σ.ends.length:Int)]]):=Ze
 clear Ze Y9 Y8 Y7 Y6 Y5
 generalize ({A with aW:=sA2,cW:=sC2,aE:=sA,cE:=sC}:AD)=A' at Yx
 have hs:h.size+2<=hv9.size:=by omega
 have hs2:hv6.size<=hv9.size:=by omega
 intro hv10 hv11
 have Y10:=Sy.newM Yx
 have s10:hv10.size=hv9.size+1:=by simp[hv10]
 have Y11:Sy h0 M hv11 (stC gl b s A' {σ with ends:=σ.ends++[⟨0,0,G.noB,0⟩,⟨0,0,G.noB,0⟩],weights:=σ.weights++[4607182418800017408]} d++[c7,c8,Ck.ob h.size 42 [pt b],Ck.ob hv.size 3 [PN (σ.ends.length:Int)],Ck.mp hv9.size [],Ck.ob hv10.size 103 [.map none]]):=Sy.newO Y10 [.map none]
 refine⟨PA,PA,⟨_,Y11.cellO 12 rfl 0 rfl⟩,Y11.freeO 12 rfl 0,?_⟩
 intro hv12 hv13
 have s12:hv12.size=hv9.size+2:=by simp[hv12,hv11,s10]
 have Y12:Sy h0 M hv12 (stC gl b s A' {σ with ends:=σ.ends++[⟨0,0,G.noB,0⟩,⟨0,0,G.noB,0⟩],weights:=σ.weights++[4607182418800017408]} d++[c7,c8,Ck.ob h.size 42 [pt b],Ck.ob hv.size 3 [PN (σ.ends.length:Int)],Ck.mp hv9.size [],Ck.ob hv10.size 103 [.map (some hv9.size)]]):=Y11.stO 12 rfl 0 _
 have Y13:=Sy.newO (ty:=108) Y12 [PN 1,.nilFunc,fnV 106 #[pt hv10.size,pt hv.size,pt h.size],fnV 110 #[pt hv10.size]]
 exact⟨(((f9.pushr _).pushr _).hsetL PA).pushr _,A',h.size,hv.size,hv9.size,hv10.size,hv12.size,PA,PA,PA,PA,PA,rfl,Y13⟩
end
end Go.Proofs.YtmmmmjcfojhiaaaGreatDoor.N
