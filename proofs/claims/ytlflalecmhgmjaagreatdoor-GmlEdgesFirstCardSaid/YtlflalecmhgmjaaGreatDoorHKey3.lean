/- The keys of a node's graphics. Conditions: none. -/
import Derived.Test.YtlflalecmhgmjaaGreatDoorHLv
set_option linter.unusedVariables false
set_option linter.unusedSimpArgs false
namespace Go.Proofs.YtlflalecmhgmjaaGreatDoor.N
open Go.Proofs.YtlflalecmhgmjaaGreatDoor
open Go.X
set_option maxRecDepth 100000
def kR (gl:GL) (b d:Nat) (s:ByteArray) (C:List Ck) (h:Heap) (l:G.Lv) (t:G.Tok) (σ:G.Rd) (kv ov:Value) (fs:Fs) (v:Value) (h':Heap):Prop:=
 ∃x l' σ' A' mo' mo1 fs1 tfs p,G.key l t σ= .ok (x,l',σ')/\v= .pointer p/\Sq h C h' (stC gl b s A' σ' d++[Ck.fx mo' fs,Ck.fx mo1 fs1,Ck.fx none tfs])/\
  LvR b l' kv ov mo' fs/\TkR b A' x p mo1 fs1 tfs/\Gr σ σ'/\LvB σ' l'/\TkB σ' x
def kE (C:List Ck) (h:Heap) (l:G.Lv) (t:G.Tok) (σ:G.Rd) (v:Value) (h':Heap):Prop:=∃f,G.key l t σ= .no f/\v=flt f/\Fr (owns C) h h'
theorem seen_put {l l':G.Lv} {ks:List (List UInt8)} {k:List UInt8} (h:Seen l ks) (hk:k∉ks) (hl:∀k',(k',true)∈kts l' ↔ ((k',true)∈kts l\/k'=k)):Seen l' (ks++[k]):=by
 refine⟨?_,fun k'=>?_⟩
 ·rw [List.nodup_append]
  exact⟨h.1,by simp,fun a ha b hb=>by simp at hb;subst hb;exact fun e=>hk (e▸ha)⟩
 ·rw [hl,List.mem_append,h.2];simp
section
variable {gl:GL} {b d:Nat} {s:ByteArray} {A:AD} {σ:G.Rd}
theorem rdsC {mo:Option (Nat × List (List UInt8))} {fs:Fs}:(∀x∈fs.map (·.1),x∈rds (stC gl b s A σ d++[Ck.fx mo fs]))/\∀x∈glB gl,x∈rds (stC gl b s A σ d++[Ck.fx mo fs]):=by
 constructor
 ·intro x hx
  exact mem_rds.2 ⟨7,_,rfl,hx⟩
 ·intro x hx
  exact mem_rds.2 ⟨6,_,rfl,hx⟩
theorem fin0 {h h3:Heap} {C:List Ck} {mo:Option (Nat × List (List UInt8))} {fs:Fs} (Y:Sy h (owns C) h3 (stC gl b s A σ d++[Ck.fx mo fs]))
  (hl:∀x∈fs.map (·.1),x∈rds C\/h.size<=x) (hg:∀x∈glB gl,x∈rds C):Sq h C h3 (stC gl b s A σ d++[Ck.fx mo fs,Ck.fx none [],Ck.fx none []]):=
 fin3 (rest:=[]) Y hl hg (fun p hp=>by cases hp) (fun f hf=>by cases hf) (fun f hf=>by cases hf)
theorem okSpot {cl:Nat->Nat} {v:Nat} {x y:Bool} {t:G.Tok} {kv ov:Value} {mo:Option (Nat × List (List UInt8))} {fs:Fs} {h:Heap} {xM xR xV m:Nat} {ks:List (List UInt8)}
  (H:Hp h (stC gl b s A σ d++[Ck.fx mo fs])) (ri:G.RI cl s σ) (hb:LvB σ (.spot v x y)) (e1:kv=fnV 317 #[pt xM,pt xR,pt xV]) (e2:ov=fnV 151 #[]) (e3:mo=some (m,ks)) (e4:Seen (.spot v x y) ks)
  (e5:fs=[(xM,0,.map (some m)),(xR,0,pt b),(xV,0,.int .i64 (v:Int))]):
  CallsP Tryz.prog 317 #[tokV t,pt xM,pt xR,pt xV] h (kR gl b d s (stC gl b s A σ d++[Ck.fx mo fs]) h (.spot v x y) t σ kv ov fs) (kE (stC gl b s A σ d++[Ck.fx mo fs]) h (.spot v x y) t σ):=by
 generalize hC:stC gl b s A σ d++[Ck.fx mo fs]=C at H ⊢
 have Y0:Sy h (owns C) h (stC gl b s A σ d++[Ck.fx mo fs]):=by rw[hC];exact Sy.start H
 obtain⟨hr1,hr2⟩:=rdsC (gl:=gl) (b:=b) (s:=s) (A:=A) (σ:=σ) (d:=d) (mo:=mo) (fs:=fs)
 rw[hC]at hr1 hr2
 unfold tokV
 apply calls317
 unfold S317
 have ex:(t.says.toList==(⟨#[120]⟩:ByteArray).toList)=decide (t.l=G.kX):=str_eq
 have ey:(t.says.toList==(⟨#[121]⟩:ByteArray).toList)=decide (t.l=G.kY):=str_eq
 rw[ex,ey]
 intro hv
 have Y1:Sy h (owns C) hv (stC gl b s A σ d++[Ck.fx mo fs]):=Y0.gr (Fr.push h _)
 have s1:hv.size=h.size+1:=by simp[hv]
 clear_value hv
 intro K
 have go:∀(c:Bool),t.l=(if c=true then G.kY else G.kX)->K hv:=by
  intro c hc
  subst e3
  have hn:=Y1.mapF 7 rfl
  have hml:m<h.size:=hmap_lt (Y0.mapF 7 rfl)
  have hbn:v<σ.n:=hb
  have hsl:=ri.sl
  refine⟨xM,0,rfl,some m,Y1.factF 7 rfl 0 (by rw[e5];rfl),?_⟩
  refine callP_of [m] (ok209 hn e4.1) (by simp;omega) (fun _ _ r=>r.2.2.1) (fun _ _ r=>r.2.2) (fun v2 hv3 r=>?_) fun v2 hv3 r=>?_
  ·obtain ⟨r1,rfl,f3,hm3⟩:=r
   have Y3:Sy h (owns C) hv3 (stC gl b s A σ d++[Ck.fx (some (m,ks++[t.l])) fs]):=Y1.seeF 7 rfl f3 hm3
   have s3:hv.size<=hv3.size:=f3.size
   obtain⟨g,hg,-,-⟩:=Y3.atS 3 rfl (i:=(v:Int)) (by omega) (by omega)
   refine⟨rfl,xR,0,rfl,_,Y3.factF 7 rfl 1 (by rw[e5];rfl),b,0,rfl,A.aS,σ.spots.length,A.cS,Y3.cellO 0 rfl 12 rfl,xV,0,rfl,(v:Int),Y3.factF 7 rfl 2 (by rw[e5];rfl),g,0,hg,by omega,by omega,?_⟩
   intro hv4
   have Y4:Sy h (owns C) hv4 (stC gl b s A σ d++[Ck.fx (some (m,ks++[t.l])) fs,Ck.ob hv3.size 340 [.pointer none]]):=Y3.newO [.pointer none]
   have s4:hv4.size=hv3.size+1:=by simp[hv4]
   refine⟨Fr.push _ _,by omega,⟨_,Y4.cellO 8 rfl 0 rfl⟩,Y4.freeO 8 rfl 0,?_⟩
   intro hv5
   have Y5:Sy h (owns C) hv5 (stC gl b s A σ d++[Ck.fx (some (m,ks++[t.l])) fs,Ck.ob hv3.size 340 [.pointer (some ⟨g,0+(v:Int).toNat*2,none⟩)]]):=Y4.stO 8 rfl 0 _
   have s5:hv5.size=hv3.size+1:=by simp[hv5,s4]
   clear_value hv5
   clear_value hv4
   refine⟨fun _ h'=>Sy h (owns C) h' (stC gl b s A σ d++[Ck.fx (some (m,ks++[t.l])) fs,Ck.ob hv3.size 340 [.pointer (some ⟨g,v*2+c.toNat,none⟩)]]),?_,?_⟩
   ·refine cnd_dec (fun q=>?_) fun q=>?_
    ·have hc1:c=true:=by
      cases c with
      | true=>rfl
      | false=>rw[hc]at q;exact absurd q (by decide)
     subst hc1
     refine⟨xR,0,rfl,_,Y5.factF 7 rfl 1 (by rw[e5];rfl),b,0,rfl,A.aS,σ.spots.length,A.cS,Y5.cellO 0 rfl 12 rfl,xV,0,rfl,(v:Int),Y5.factF 7 rfl 2 (by rw[e5];rfl),g,0,hg,by omega,by omega,by omega,⟨_,Y5.cellO 8 rfl 0 rfl⟩,Y5.freeO 8 rfl 0,?_⟩
     have Y6:=Y5.stO 8 rfl 0 (.pointer (some ⟨g,((0+(v:Int).toNat*2)+1),none⟩))
     have eo:(0+(v:Int).toNat*2)+1=v*2+true.toNat:=by simp
     rw[eo]at Y6 ⊢
     exact Y6
    ·have hc1:c=false:=by
      cases c with
      | false=>rfl
      | true=>exact absurd hc q
     subst hc1
     have eo:0+(v:Int).toNat*2=v*2+false.toNat:=by simp
     rw[eo]at Y5
     exact Y5
   ·intro hv7 Y7 hv8
    have Y8:Sy h (owns C) hv8 (stC gl b s A σ d++[Ck.fx (some (m,ks++[t.l])) fs,Ck.ob hv3.size 340 [.pointer (some ⟨g,v*2+c.toNat,none⟩)],
      Ck.ob hv7.size 193 [.int .i64 4,fnV 318 #[pt hv3.size,pt xR],.nilFunc,.nilFunc]]):=Y7.newO [.int .i64 4,fnV 318 #[pt hv3.size,pt xR],.nilFunc,.nilFunc]
    have s7:h.size<=hv7.size:=Y7.le
    have hseen:t.l∉ks:=r1
    refine⟨.spot v c,if c=true then .spot v x true else .spot v true y,σ,A,some (m,ks++[t.l]),none,[],[(hv7.size,0,.int .i64 4),(hv7.size,1,fnV 318 #[pt hv3.size,pt xR]),(xR,0,pt b),(hv3.size,0,.pointer (some ⟨g,v*2+c.toNat,none⟩))],some ⟨hv7.size,0,none⟩,?_,rfl,?_,?_,?_,Gr.refl σ,?_,hbn⟩
    ·cases c with
     | false=>
      have hc:t.l=G.kX:=hc
      have hx:x=false:=by
       cases x with
       | false=>rfl
       | true=>exact absurd ((e4.2 _).2 (by simp[kts,hc])) r1
      subst hx
      simp[G.key,hc,G.must]
     | true=>
      have hc:t.l=G.kY:=hc
      have hx:y=false:=by
       cases y with
       | false=>rfl
       | true=>exact absurd ((e4.2 _).2 (by simp[kts,hc])) r1
      subst hx
      have hne:G.kY≠G.kX:=by decide
      simp[G.key,hc,hne,G.must]
    ·refine fin3 (rest:=[_,_]) Y8 (fun x hx=>.inl (hr1 x hx)) hr2 (fun p hp=>by cases hp) (fun f hf=>by cases hf) fun f hf=>?_
     simp only[List.mem_cons,List.not_mem_nil,or_false]at hf
     rcases hf with rfl | rfl | rfl | rfl
     ·exact ⟨Y8.cellO 9 rfl 0 rfl,.inr ⟨s7,1,193,_,rfl⟩⟩
     ·exact ⟨Y8.cellO 9 rfl 1 rfl,.inr ⟨s7,1,193,_,rfl⟩⟩
     ·exact ⟨Y8.factF 7 rfl 1 (by rw[e5];rfl),.inl (by rw[e5];simp)⟩
     ·exact ⟨Y8.cellO 8 rfl 0 rfl,.inr ⟨by show h.size<=hv3.size;omega,0,340,_,rfl⟩⟩
    ·cases c with
     | false=>
      have hc:t.l=G.kX:=hc
      exact⟨xM,xR,xV,m,ks++[t.l],e1,e2,rfl,seen_put e4 r1 (fun k'=>by rw[hc];simp[kts]<;>grind),e5⟩
     | true=>
      have hc:t.l=G.kY:=hc
      exact⟨xM,xR,xV,m,ks++[t.l],e1,e2,rfl,seen_put e4 r1 (fun k'=>by rw[hc];simp[kts]<;>grind),e5⟩
    ·exact ⟨hv7.size,hv3.size,xR,g,rfl,rfl,rfl,hg,rfl⟩
    ·cases c<;>exact hbn
  ·obtain ⟨r1,rfl,f3⟩:=r
   refine⟨_,?_,rfl,Y1.fr.trans ?_⟩
   ·have:=(e4.2 _).1 r1
    cases c with
    | false=>
     have hc:t.l=G.kX:=hc
     have hx:x=true:=by
      rw[hc]at this
      have hne:G.kX≠G.kY:=by decide
      simpa[kts,hne,Ne.symm hne]using this
     simp[G.key,hc,G.must,hx]
    | true=>
     have hc:t.l=G.kY:=hc
     have hne:G.kY≠G.kX:=by decide
     have hx:y=true:=by
      rw[hc]at this
      simpa[kts,hne,Ne.symm hne]using this
     simp[G.key,hc,hne,G.must,hx]
   ·exact f3.mono fun z hz=>by
     simp only[List.mem_singleton]at hz
     subst hz
     rw[<-hC]
     exact memOwns.2 ⟨7,_,rfl,by simp[Ck.fx]⟩
 refine cnd_not (fun q=>?_) fun q=>?_
 ·refine cnd_not (fun q2=>?_) fun q2=>?_
  ·have q:=of_decide_eq_false q
   have q2:=of_decide_eq_false q2
   refine⟨.none,.spot v x y,σ,A,mo,none,[],[],none,by simp[G.key,q,q2],rfl,fin0 Y1 (fun x hx=>.inl (hr1 x hx)) hr2,⟨xM,xR,xV,m,ks,e1,e2,e3,e4,e5⟩,⟨rfl,rfl,rfl,rfl⟩,Gr.refl σ,hb,trivial⟩
  ·exact go true (of_decide_eq_true q2)
 ·exact go false (of_decide_eq_true q)
end
end Go.Proofs.YtlflalecmhgmjaaGreatDoor.N
namespace Go.Proofs.YtlflalecmhgmjaaGreatDoor.N
open Go.Proofs.YtlflalecmhgmjaaGreatDoor
open Go.X
set_option maxRecDepth 100000
theorem onceP {h0 hv:Heap} {M H:List Nat} {cs:List Ck} {m:Nat} {ks:List (List UInt8)} {fs:Fs} {t:G.Tok} {K E:Value->Heap->Prop} (Y:Sy h0 M hv cs) (k:Nat) (hk:cs[k]? =some (Ck.fx (some (m,ks)) fs)) (nd:ks.Nodup) (hH:m∉H)
  (k1:t.l∉ks->∀h',Fr [m] hv h'->Sy h0 M h' (cs.set k (Ck.fx (some (m,ks++[t.l])) fs))->K (.tuple #[]) h') (k2:t.l∈ks->∀h',Fr [m] hv h'->E (flt (t.at_,18)) h'):
  callP Tryz.prog 209 #[.map (some m),tokV t] hv H K E:=
 callP_of [m] (ok209 (Y.mapF k hk) nd) (fun x hx q=>hH (by simp at q;subst q;exact hx)) (fun _ _ r=>r.2.2.1) (fun _ _ r=>r.2.2)
  (fun v h' r=>by obtain⟨r1,rfl,f,hm⟩:=r;exact k1 r1 h' f (Y.seeF k hk f hm)) fun v h' r=>by obtain⟨r1,rfl,f⟩:=r;exact k2 r1 h' f
section
variable {gl:GL} {b d:Nat} {s:ByteArray} {A:AD} {σ:G.Rd}
theorem frM {h hv h':Heap} {C:List Ck} {m:Nat} {ks:List (List UInt8)} {fs:Fs} (hC:stC gl b s A σ d++[Ck.fx (some (m,ks)) fs]=C) (f1:Fr (owns C) h hv) (f:Fr [m] hv h'):Fr (owns C) h h':=
 f1.trans (f.mono fun z hz=>by
  simp only[List.mem_singleton]at hz
  subst hz
  rw[<-hC]
  exact memOwns.2 ⟨7,_,rfl,by simp[Ck.fx]⟩)
theorem okEdge {cl:Nat->Nat} {k:Nat} {x y z:Bool} {t:G.Tok} {kv ov:Value} {mo:Option (Nat × List (List UInt8))} {fs:Fs} {h:Heap} {xM xR xK m:Nat} {ks:List (List UInt8)}
  (H:Hp h (stC gl b s A σ d++[Ck.fx mo fs])) (ri:G.RI cl s σ) (hb:LvB σ (.edge k x y z)) (e1:kv=fnV 266 #[pt xM,pt xK,pt xR]) (e2:ov=fnV 270 #[pt xM]) (e3:mo=some (m,ks)) (e4:Seen (.edge k x y z) ks)
  (e5:fs=[(xM,0,.map (some m)),(xK,0,.int .i64 (k:Int)),(xR,0,pt b)]):
  CallsP Tryz.prog 266 #[tokV t,pt xM,pt xK,pt xR] h (kR gl b d s (stC gl b s A σ d++[Ck.fx mo fs]) h (.edge k x y z) t σ kv ov fs) (kE (stC gl b s A σ d++[Ck.fx mo fs]) h (.edge k x y z) t σ):=by
 generalize hC:stC gl b s A σ d++[Ck.fx mo fs]=C at H ⊢
 have Y0:Sy h (owns C) h (stC gl b s A σ d++[Ck.fx mo fs]):=by rw[hC];exact Sy.start H
 obtain⟨hr1,hr2⟩:=rdsC (gl:=gl) (b:=b) (s:=s) (A:=A) (σ:=σ) (d:=d) (mo:=mo) (fs:=fs)
 rw[hC]at hr1 hr2
 unfold tokV
 apply calls266
 unfold S266
 have ex:(t.says.toList==(⟨#[115,111,117,114,99,101]⟩:ByteArray).toList)=decide (t.l=G.kSource):=str_eq
 have ey:(t.says.toList==(⟨#[116,97,114,103,101,116]⟩:ByteArray).toList)=decide (t.l=G.kTarget):=str_eq
 have ez:(t.says.toList==(⟨#[119,101,105,103,104,116]⟩:ByteArray).toList)=decide (t.l=G.kWeight):=str_eq
 rw[ex,ey,ez]
 intro hv
 have Y1:Sy h (owns C) hv (stC gl b s A σ d++[Ck.fx mo fs]):=Y0.gr (Fr.push h _)
 have s1:hv.size=h.size+1:=by simp[hv]
 clear_value hv
 intro K
 have n1:G.kTarget≠G.kSource:=by decide
 have n2:G.kWeight≠G.kSource:=by decide
 have n3:G.kWeight≠G.kTarget:=by decide
 subst e3
 have hml:m<h.size:=hmap_lt (Y0.mapF 7 rfl)
 have hb1:k+1<σ.ends.length:=hb.1
 have hel:=ri.el
 have hwl:=ri.wl
 have go:∀(c:Bool),t.l=(if c=true then G.kTarget else G.kSource)->K true hv:=by
  intro c hc
  refine cnd_t rfl ?_
  refine⟨xM,0,rfl,some m,Y1.factF 7 rfl 0 (by rw[e5];rfl),?_⟩
  refine onceP Y1 7 rfl e4.1 (by simp;omega) (fun r1 hv3 f3 Y3=>?_) fun r1 hv3 f3=>?_
  ·have Y3:Sy h (owns C) hv3 (stC gl b s A σ d++[Ck.fx (some (m,ks++[t.l])) fs]):=Y3
   have s3:hv.size<=hv3.size:=f3.size
   refine⟨rfl,xK,0,rfl,(k:Int),Y3.factF 7 rfl 1 (by rw[e5];rfl),?_⟩
   intro hv4
   have Y4:Sy h (owns C) hv4 (stC gl b s A σ d++[Ck.fx (some (m,ks++[t.l])) fs,Ck.ob hv3.size 3 [.int .i64 0]]):=Y3.newO [.int .i64 0]
   have s4:hv4.size=hv3.size+1:=by simp[hv4]
   refine⟨by omega,⟨_,Y4.cellO 8 rfl 0 rfl⟩,Y4.freeO 8 rfl 0,?_⟩
   intro hv5
   have Y5:Sy h (owns C) hv5 (stC gl b s A σ d++[Ck.fx (some (m,ks++[t.l])) fs,Ck.ob hv3.size 3 [.int .i64 (k:Int)]]):=Y4.stO 8 rfl 0 _
   clear_value hv5
   clear_value hv4
   refine⟨fun _ h'=>Sy h (owns C) h' (stC gl b s A σ d++[Ck.fx (some (m,ks++[t.l])) fs,Ck.ob hv3.size 3 [.int .i64 ((k+c.toNat:Nat):Int)]]),?_,?_⟩
   ·refine cnd_dec (fun q=>?_) fun q=>?_
    ·have hc1:c=true:=by
      cases c with
      | true=>rfl
      | false=>rw[hc]at q;exact absurd q (by decide)
     subst hc1
     refine⟨xK,0,rfl,(k:Int),Y5.factF 7 rfl 1 (by rw[e5];rfl),by omega,⟨_,Y5.cellO 8 rfl 0 rfl⟩,Y5.freeO 8 rfl 0,?_⟩
     rw[wrN (by omega)]
     exact Y5.stO 8 rfl 0 _
    ·have hc1:c=false:=by
      cases c with
      | false=>rfl
      | true=>exact absurd hc q
     subst hc1
     exact Y5
   ·intro hv7 Y7 hv8
    have Y8:Sy h (owns C) hv8 (stC gl b s A σ d++[Ck.fx (some (m,ks++[t.l])) fs,Ck.ob hv3.size 3 [.int .i64 ((k+c.toNat:Nat):Int)],
      Ck.ob hv7.size 193 [.int .i64 4,fnV 267 #[pt xR,pt hv3.size],.nilFunc,.nilFunc]]):=Y7.newO [.int .i64 4,fnV 267 #[pt xR,pt hv3.size],.nilFunc,.nilFunc]
    have s7:h.size<=hv7.size:=Y7.le
    refine⟨.fin (k+c.toNat),if c=true then .edge k x true z else .edge k true y z,σ,A,some (m,ks++[t.l]),none,[],[(hv7.size,0,.int .i64 4),(hv7.size,1,fnV 267 #[pt xR,pt hv3.size]),(xR,0,pt b),(hv3.size,0,.int .i64 ((k+c.toNat:Nat):Int))],some ⟨hv7.size,0,none⟩,?_,rfl,?_,?_,?_,Gr.refl σ,?_,?_⟩
    ·cases c with
     | false=>
      have hc:t.l=G.kSource:=hc
      have hx:x=false:=by
       cases x with
       | false=>rfl
       | true=>exact absurd ((e4.2 _).2 (by simp[kts,hc])) r1
      subst hx
      simp[G.key,hc,G.must]
     | true=>
      have hc:t.l=G.kTarget:=hc
      have hx:y=false:=by
       cases y with
       | false=>rfl
       | true=>exact absurd ((e4.2 _).2 (by simp[kts,hc])) r1
      subst hx
      simp[G.key,hc,n1,G.must]
    ·refine fin3 (rest:=[_,_]) Y8 (fun x hx=>.inl (hr1 x hx)) hr2 (fun p hp=>by cases hp) (fun f hf=>by cases hf) fun f hf=>?_
     simp only[List.mem_cons,List.not_mem_nil,or_false]at hf
     rcases hf with rfl | rfl | rfl | rfl
     ·exact ⟨Y8.cellO 9 rfl 0 rfl,.inr ⟨s7,1,193,_,rfl⟩⟩
     ·exact ⟨Y8.cellO 9 rfl 1 rfl,.inr ⟨s7,1,193,_,rfl⟩⟩
     ·exact ⟨Y8.factF 7 rfl 2 (by rw[e5];rfl),.inl (by rw[e5];simp)⟩
     ·exact ⟨Y8.cellO 8 rfl 0 rfl,.inr ⟨by show h.size<=hv3.size;omega,0,3,_,rfl⟩⟩
    ·cases c with
     | false=>
      have hc:t.l=G.kSource:=hc
      exact⟨xM,xK,xR,m,ks++[t.l],e1,e2,rfl,seen_put e4 r1 (fun k'=>by rw[hc];simp[kts]<;>grind),e5⟩
     | true=>
      have hc:t.l=G.kTarget:=hc
      exact⟨xM,xK,xR,m,ks++[t.l],e1,e2,rfl,seen_put e4 r1 (fun k'=>by rw[hc];simp[kts]<;>grind),e5⟩
    ·exact ⟨hv7.size,xR,hv3.size,rfl,rfl,rfl,rfl⟩
    ·cases c<;>exact hb
    ·cases c
     ·show k<_;omega
     ·exact hb1
  ·refine ⟨_,?_,rfl,frM hC Y1.fr f3⟩
   have:=(e4.2 _).1 r1
   cases c with
   | false=>
    have hc:t.l=G.kSource:=hc
    have hx:x=true:=by
     rw[hc]at this
     simpa[kts,n1,n2,n3,Ne.symm n1,Ne.symm n2,Ne.symm n3]using this
    simp[G.key,hc,G.must,hx]
   | true=>
    have hc:t.l=G.kTarget:=hc
    have hx:y=true:=by
     rw[hc]at this
     simpa[kts,n1,n2,n3,Ne.symm n1,Ne.symm n2,Ne.symm n3]using this
    simp[G.key,hc,n1,G.must,hx]
 refine cnd_dec (fun q=>?_) fun q=>?_
 ·rw [decide_eq_true q]
  exact go false q
 ·by_cases q2:t.l=G.kTarget
  ·rw [decide_eq_true q2]
   exact go true q2
  ·rw [decide_eq_false q2]
   refine cnd_f rfl ?_
   refine cnd_dec (fun q3=>?_) fun q3=>?_
   ·refine ⟨xM,0,rfl,some m,Y1.factF 7 rfl 0 (by rw[e5];rfl),?_⟩
    refine onceP Y1 7 rfl e4.1 (by simp;omega) (fun r1 hv3 f3 Y3=>?_) fun r1 hv3 f3=>?_
    ·refine ⟨rfl,?_⟩
     intro hv8
     have Y8:Sy h (owns C) hv8 (stC gl b s A σ d++[Ck.fx (some (m,ks++[t.l])) fs,Ck.ob hv3.size 193 [.int .i64 4,fnV 268 #[pt xR,pt xK],.nilFunc,.nilFunc]]):=Sy.newO Y3 [.int .i64 4,fnV 268 #[pt xR,pt xK],.nilFunc,.nilFunc]
     have s7:h.size<=hv3.size:=Y3.le
     refine⟨.weight k,.edge k x y true,σ,A,some (m,ks++[t.l]),none,[],[(hv3.size,0,.int .i64 4),(hv3.size,1,fnV 268 #[pt xR,pt xK]),(xR,0,pt b),(xK,0,.int .i64 (k:Int))],some ⟨hv3.size,0,none⟩,?_,rfl,?_,?_,?_,Gr.refl σ,hb,hb.2⟩
     ·have hx:z=false:=by
       cases z with
       | false=>rfl
       | true=>exact absurd ((e4.2 _).2 (by simp[kts,q3])) r1
      subst hx
      simp[G.key,q3,n2,n3,G.must]
     ·refine fin3 (rest:=[_]) Y8 (fun x hx=>.inl (hr1 x hx)) hr2 (fun p hp=>by cases hp) (fun f hf=>by cases hf) fun f hf=>?_
      simp only[List.mem_cons,List.not_mem_nil,or_false]at hf
      rcases hf with rfl | rfl | rfl | rfl
      ·exact ⟨Y8.cellO 8 rfl 0 rfl,.inr ⟨s7,0,193,_,rfl⟩⟩
      ·exact ⟨Y8.cellO 8 rfl 1 rfl,.inr ⟨s7,0,193,_,rfl⟩⟩
      ·exact ⟨Y8.factF 7 rfl 2 (by rw[e5];rfl),.inl (by rw[e5];simp)⟩
      ·exact ⟨Y8.factF 7 rfl 1 (by rw[e5];rfl),.inl (by rw[e5];simp)⟩
     ·exact ⟨xM,xK,xR,m,ks++[t.l],e1,e2,rfl,seen_put e4 r1 (fun k'=>by rw[q3];simp[kts]<;>grind),e5⟩
     ·exact ⟨hv3.size,xR,xK,rfl,rfl,rfl,rfl⟩
    ·refine ⟨_,?_,rfl,frM hC Y1.fr f3⟩
     have:=(e4.2 _).1 r1
     have hx:z=true:=by
      rw[q3]at this
      simpa[kts,n1,n2,n3,Ne.symm n1,Ne.symm n2,Ne.symm n3]using this
     simp[G.key,q3,n2,n3,G.must,hx]
   ·exact ⟨.none,.edge k x y z,σ,A,some (m,ks),none,[],[],none,by simp[G.key,q,q2,q3],rfl,fin0 Y1 (fun x hx=>.inl (hr1 x hx)) hr2,⟨xM,xK,xR,m,ks,e1,e2,rfl,e4,e5⟩,⟨rfl,rfl,rfl,rfl⟩,Gr.refl σ,hb,trivial⟩
end
end Go.Proofs.YtlflalecmhgmjaaGreatDoor.N
namespace Go.Proofs.YtlflalecmhgmjaaGreatDoor.N
open Go.Proofs.YtlflalecmhgmjaaGreatDoor
open Go.X
set_option maxRecDepth 100000
theorem ok264 {b v:Nat} {h:Heap}:CallsH Tryz.prog 264 #[pt b,.int .i64 (v:Int)] h fun w h'=>Fr [] h h'/\∃xR xV m xM t,h.size<=xR/\h.size<=xV/\h.size<=m/\h.size<=xM/\h.size<=t/\w=pt t/\
  ∀h0 M cs,Sy h0 M h cs->Sy h0 M h' (cs++[Ck.ob xR 89 [pt b]]++[Ck.ob xV 3 [.int .i64 (v:Int)]]++[Ck.mp m []]++[Ck.ob xM 69 [.map (some m)]]++[Ck.ob t 193 [.int .i64 1,.nilFunc,fnV 317 #[pt xM,pt xR,pt xV],fnV 151 #[]]]):=by
 apply calls264
 unfold S264
 intro hv hv2 hv3 hv4
 have s1:hv.size=h.size+1:=by simp[hv]
 have s2:hv2.size=h.size+2:=by simp[hv2,hv]
 have s3:hv3.size=h.size+3:=by simp[hv3,hv2,hv]
 have s4:hv4.size=h.size+4:=by simp[hv4,hv3,hv2,hv]
 have Z4:∀h0 M cs,Sy h0 M h cs->Sy h0 M hv4 (cs++[Ck.ob h.size 89 [pt b]]++[Ck.ob hv.size 3 [.int .i64 (v:Int)]]++[Ck.mp hv2.size []]++[Ck.ob hv3.size 69 [.map none]]):=
  fun h0 M cs Y=>Sy.newO (Sy.newM (Sy.newO (Sy.newO Y [pt b]) [.int .i64 (v:Int)])) [.map none]
 have f4:Fr [] h hv4:=(((Fr.push h _).pushr _).pushr _).pushr _
 have Z:=Z4 h [] [] ⟨Fr.refl _ _,Hp.nil _,fun k c hk=>by simp at hk⟩
 refine⟨⟨_,Z.cellO 3 rfl 0 rfl⟩,Z.freeO 3 rfl 0,?_⟩
 intro hv5 hv6
 have s5:hv5.size=h.size+4:=by simp[hv5,s4]
 refine⟨(f4.hsetL (by omega)).pushr _,h.size,hv.size,hv2.size,hv3.size,hv5.size,by omega,by omega,by omega,by omega,by omega,rfl,fun h0 M cs Y=>?_⟩
 have Y4:=Z4 h0 M cs Y
 have hk:(cs++[Ck.ob h.size 89 [pt b]]++[Ck.ob hv.size 3 [.int .i64 (v:Int)]]++[Ck.mp hv2.size []]++[Ck.ob hv3.size 69 [.map none]])[cs.length+3]? =some (Ck.ob hv3.size 69 [.map none]):=by simp
 have Y5:=Y4.stO (cs.length+3) hk 0 (.map (some hv2.size))
 have es:(cs++[Ck.ob h.size 89 [pt b]]++[Ck.ob hv.size 3 [.int .i64 (v:Int)]]++[Ck.mp hv2.size []]++[Ck.ob hv3.size 69 [.map none]]).set (cs.length+3) (Ck.ob hv3.size 69 ([Value.map none].set 0 (.map (some hv2.size))))=
   cs++[Ck.ob h.size 89 [pt b]]++[Ck.ob hv.size 3 [.int .i64 (v:Int)]]++[Ck.mp hv2.size []]++[Ck.ob hv3.size 69 [.map (some hv2.size)]]:=by
  simp[List.set_append]
 rw[es]at Y5
 exact Sy.newO (ty:=193) Y5 [.int .i64 1,.nilFunc,fnV 317 #[pt hv3.size,pt h.size,pt hv.size],fnV 151 #[]]
section
variable {gl:GL} {b d:Nat} {s:ByteArray} {A:AD} {σ:G.Rd}
theorem okNode {cl:Nat->Nat} {v:Nat} {x y z:Bool} {t:G.Tok} {kv ov:Value} {mo:Option (Nat × List (List UInt8))} {fs:Fs} {h:Heap} {xM xR xV m:Nat} {ks:List (List UInt8)}
  (H:Hp h (stC gl b s A σ d++[Ck.fx mo fs])) (ri:G.RI cl s σ) (hb:LvB σ (.node v x y z)) (e1:kv=fnV 261 #[pt xM,pt xR,pt xV]) (e2:ov=fnV 265 #[pt xM]) (e3:mo=some (m,ks)) (e4:Seen (.node v x y z) ks)
  (e5:fs=[(xM,0,.map (some m)),(xR,0,pt b),(xV,0,.int .i64 (v:Int))]):
  CallsP Tryz.prog 261 #[tokV t,pt xM,pt xR,pt xV] h (kR gl b d s (stC gl b s A σ d++[Ck.fx mo fs]) h (.node v x y z) t σ kv ov fs) (kE (stC gl b s A σ d++[Ck.fx mo fs]) h (.node v x y z) t σ):=by
 generalize hC:stC gl b s A σ d++[Ck.fx mo fs]=C at H ⊢
 have Y0:Sy h (owns C) h (stC gl b s A σ d++[Ck.fx mo fs]):=by rw[hC];exact Sy.start H
 obtain⟨hr1,hr2⟩:=rdsC (gl:=gl) (b:=b) (s:=s) (A:=A) (σ:=σ) (d:=d) (mo:=mo) (fs:=fs)
 rw[hC]at hr1 hr2
 unfold tokV
 apply calls261
 unfold S261
 have ex:(t.says.toList==(⟨#[105,100]⟩:ByteArray).toList)=decide (t.l=G.kId):=str_eq
 have ey:(t.says.toList==(⟨#[108,97,98,101,108]⟩:ByteArray).toList)=decide (t.l=G.kLabel):=str_eq
 have ez:(t.says.toList==(⟨#[103,114,97,112,104,105,99,115]⟩:ByteArray).toList)=decide (t.l=G.kGraphics):=str_eq
 rw[ex,ey,ez]
 intro hv
 have Y1:Sy h (owns C) hv (stC gl b s A σ d++[Ck.fx mo fs]):=Y0.gr (Fr.push h _)
 have s1:hv.size=h.size+1:=by simp[hv]
 clear_value hv
 have n1:G.kLabel≠G.kId:=by decide
 have n2:G.kGraphics≠G.kId:=by decide
 have n3:G.kGraphics≠G.kLabel:=by decide
 subst e3
 have hml:m<h.size:=hmap_lt (Y0.mapF 7 rfl)
 refine cnd_dec (fun q=>?_) fun q1=>?_
 ·refine ⟨xM,0,rfl,some m,Y1.factF 7 rfl 0 (by rw[e5];rfl),?_⟩
  refine onceP Y1 7 rfl e4.1 (by simp;omega) (fun r1 hv3 f3 Y3=>?_) fun r1 hv3 f3=>?_
  ·refine ⟨rfl,?_⟩
   intro hv8
   have Y8:Sy h (owns C) hv8 (stC gl b s A σ d++[Ck.fx (some (m,ks++[t.l])) fs,Ck.ob hv3.size 193 [.int .i64 4,fnV 262 #[pt xR,pt xV],.nilFunc,.nilFunc]]):=Sy.newO Y3 [.int .i64 4,fnV 262 #[pt xR,pt xV],.nilFunc,.nilFunc]
   have s7:h.size<=hv3.size:=Y3.le
   refine⟨.id v,.node v true y z,σ,A,some (m,ks++[t.l]),none,[],[(hv3.size,0,.int .i64 4),(hv3.size,1,fnV 262 #[pt xR,pt xV]),(xR,0,pt b),(xV,0,.int .i64 (v:Int))],some ⟨hv3.size,0,none⟩,?_,rfl,?_,?_,?_,Gr.refl σ,hb,hb⟩
   ·have hx:x=false:=by
     cases x with
     | false=>rfl
     | true=>exact absurd ((e4.2 _).2 (by simp[kts,q])) r1
    subst hx
    simp[G.key,q,n1,n2,n3,G.must]
   ·refine fin3 (rest:=[_]) Y8 (fun x hx=>.inl (hr1 x hx)) hr2 (fun p hp=>by cases hp) (fun f hf=>by cases hf) fun f hf=>?_
    simp only[List.mem_cons,List.not_mem_nil,or_false]at hf
    rcases hf with rfl | rfl | rfl | rfl
    ·exact ⟨Y8.cellO 8 rfl 0 rfl,.inr ⟨s7,0,193,_,rfl⟩⟩
    ·exact ⟨Y8.cellO 8 rfl 1 rfl,.inr ⟨s7,0,193,_,rfl⟩⟩
    ·exact ⟨Y8.factF 7 rfl 1 (by rw[e5];rfl),.inl (by rw[e5];simp)⟩
    ·exact ⟨Y8.factF 7 rfl 2 (by rw[e5];rfl),.inl (by rw[e5];simp)⟩
   ·exact ⟨xM,xR,xV,m,ks++[t.l],e1,e2,rfl,seen_put e4 r1 (fun k'=>by rw[q];simp[kts]<;>grind),e5⟩
   ·exact ⟨hv3.size,xR,xV,rfl,rfl,rfl,rfl⟩
  ·refine ⟨_,?_,rfl,frM hC Y1.fr f3⟩
   have:=(e4.2 _).1 r1
   have hx:x=true:=by
    rw[q]at this
    simpa[kts,n1,n2,n3,Ne.symm n1,Ne.symm n2,Ne.symm n3]using this
   simp[G.key,q,n1,n2,n3,G.must,hx]
 refine cnd_dec (fun q=>?_) fun q2=>?_
 ·refine ⟨xM,0,rfl,some m,Y1.factF 7 rfl 0 (by rw[e5];rfl),?_⟩
  refine onceP Y1 7 rfl e4.1 (by simp;omega) (fun r1 hv3 f3 Y3=>?_) fun r1 hv3 f3=>?_
  ·refine ⟨rfl,?_⟩
   intro hv8
   have Y8:Sy h (owns C) hv8 (stC gl b s A σ d++[Ck.fx (some (m,ks++[t.l])) fs,Ck.ob hv3.size 193 [.int .i64 5,fnV 263 #[pt xR,pt xV],.nilFunc,.nilFunc]]):=Sy.newO Y3 [.int .i64 5,fnV 263 #[pt xR,pt xV],.nilFunc,.nilFunc]
   have s7:h.size<=hv3.size:=Y3.le
   refine⟨.label v,.node v x true z,σ,A,some (m,ks++[t.l]),none,[],[(hv3.size,0,.int .i64 5),(hv3.size,1,fnV 263 #[pt xR,pt xV]),(xR,0,pt b),(xV,0,.int .i64 (v:Int))],some ⟨hv3.size,0,none⟩,?_,rfl,?_,?_,?_,Gr.refl σ,hb,hb⟩
   ·have hx:y=false:=by
     cases y with
     | false=>rfl
     | true=>exact absurd ((e4.2 _).2 (by simp[kts,q])) r1
    subst hx
    simp[G.key,q,n1,n2,n3,G.must]
   ·refine fin3 (rest:=[_]) Y8 (fun x hx=>.inl (hr1 x hx)) hr2 (fun p hp=>by cases hp) (fun f hf=>by cases hf) fun f hf=>?_
    simp only[List.mem_cons,List.not_mem_nil,or_false]at hf
    rcases hf with rfl | rfl | rfl | rfl
    ·exact ⟨Y8.cellO 8 rfl 0 rfl,.inr ⟨s7,0,193,_,rfl⟩⟩
    ·exact ⟨Y8.cellO 8 rfl 1 rfl,.inr ⟨s7,0,193,_,rfl⟩⟩
    ·exact ⟨Y8.factF 7 rfl 1 (by rw[e5];rfl),.inl (by rw[e5];simp)⟩
    ·exact ⟨Y8.factF 7 rfl 2 (by rw[e5];rfl),.inl (by rw[e5];simp)⟩
   ·exact ⟨xM,xR,xV,m,ks++[t.l],e1,e2,rfl,seen_put e4 r1 (fun k'=>by rw[q];simp[kts]<;>grind),e5⟩
   ·exact ⟨hv3.size,xR,xV,rfl,rfl,rfl,rfl⟩
  ·refine ⟨_,?_,rfl,frM hC Y1.fr f3⟩
   have:=(e4.2 _).1 r1
   have hx:y=true:=by
    rw[q]at this
    simpa[kts,n1,n2,n3,Ne.symm n1,Ne.symm n2,Ne.symm n3]using this
   simp[G.key,q,n1,n2,n3,G.must,hx]
 refine cnd_dec (fun q=>?_) fun q3=>?_
 ·refine ⟨xM,0,rfl,some m,Y1.factF 7 rfl 0 (by rw[e5];rfl),?_⟩
  refine onceP Y1 7 rfl e4.1 (by simp;omega) (fun r1 hv3 f3 Y3=>?_) fun r1 hv3 f3=>?_
  ·refine ⟨rfl,?_⟩
   have Y3:Sy h (owns C) hv3 (stC gl b s A σ d++[Ck.fx (some (m,ks++[t.l])) fs]):=Y3
   refine⟨xR,0,rfl,_,Y3.factF 7 rfl 1 (by rw[e5];rfl),xV,0,rfl,(v:Int),Y3.factF 7 rfl 2 (by rw[e5];rfl),?_⟩
   refine callX_ofR [] ok264 (by simp) (fun _ _ r=>r.1) fun w h' r=>?_
   obtain⟨f8,xR2,xV2,m2,xM2,t2,z1,z2,z3,z4,z5,rfl,Z⟩:=r
   have Y8:Sy h (owns C) h' (stC gl b s A σ d++Ck.fx (some (m,ks++[t.l])) fs::[Ck.ob xR2 89 [pt b],Ck.ob xV2 3 [.int .i64 (v:Int)],Ck.mp m2 [],Ck.ob xM2 69 [.map (some m2)],Ck.ob t2 193 [.int .i64 1,.nilFunc,fnV 317 #[pt xM2,pt xR2,pt xV2],fnV 151 #[]]]):=Z _ _ _ Y3
   have s7:h.size<=hv3.size:=Y3.le
   refine⟨some ⟨t2,0,none⟩,rfl,.list (.spot v false false),.node v x y true,σ,A,some (m,ks++[t.l]),some (m2,[]),[(xM2,0,.map (some m2)),(xR2,0,pt b),(xV2,0,.int .i64 (v:Int))],[(t2,0,.int .i64 1),(t2,2,fnV 317 #[pt xM2,pt xR2,pt xV2]),(t2,3,fnV 151 #[])],some ⟨t2,0,none⟩,?_,rfl,?_,?_,?_,Gr.refl σ,hb,hb⟩
   ·have hx:z=false:=by
     cases z with
     | false=>rfl
     | true=>exact absurd ((e4.2 _).2 (by simp[kts,q])) r1
    subst hx
    simp[G.key,q,n1,n2,n3,G.must]
   ·refine fin3 Y8 (fun x hx=>.inl (hr1 x hx)) hr2 (fun p hp=>by cases hp;exact⟨2,rfl⟩) (fun f hf=>?_) fun f hf=>?_
    ·simp only[List.mem_cons,List.not_mem_nil,or_false]at hf
     rcases hf with rfl | rfl | rfl
     ·exact ⟨Y8.cellO 11 rfl 0 rfl,.inr ⟨Nat.le_trans s7 z4,3,69,_,rfl⟩⟩
     ·exact ⟨Y8.cellO 8 rfl 0 rfl,.inr ⟨Nat.le_trans s7 z1,0,89,_,rfl⟩⟩
     ·exact ⟨Y8.cellO 9 rfl 0 rfl,.inr ⟨Nat.le_trans s7 z2,1,3,_,rfl⟩⟩
    ·simp only[List.mem_cons,List.not_mem_nil,or_false]at hf
     rcases hf with rfl | rfl | rfl
     ·exact ⟨Y8.cellO 12 rfl 0 rfl,.inr ⟨Nat.le_trans s7 z5,4,193,_,rfl⟩⟩
     ·exact ⟨Y8.cellO 12 rfl 2 rfl,.inr ⟨Nat.le_trans s7 z5,4,193,_,rfl⟩⟩
     ·exact ⟨Y8.cellO 12 rfl 3 rfl,.inr ⟨Nat.le_trans s7 z5,4,193,_,rfl⟩⟩
   ·exact ⟨xM,xR,xV,m,ks++[t.l],e1,e2,rfl,seen_put e4 r1 (fun k'=>by rw[q];simp[kts]<;>grind),e5⟩
   ·exact ⟨t2,_,_,_,rfl,⟨xM2,xR2,xV2,m2,[],rfl,rfl,rfl,⟨by simp,by simp[kts]⟩,rfl⟩,rfl⟩
  ·refine ⟨_,?_,rfl,frM hC Y1.fr f3⟩
   have:=(e4.2 _).1 r1
   have hx:z=true:=by
    rw[q]at this
    simpa[kts,n1,n2,n3,Ne.symm n1,Ne.symm n2,Ne.symm n3]using this
   simp[G.key,q,n1,n2,n3,G.must,hx]
 ·exact ⟨.none,.node v x y z,σ,A,some (m,ks),none,[],[],none,by simp[G.key,q1,q2,q3],rfl,fin0 Y1 (fun x hx=>.inl (hr1 x hx)) hr2,⟨xM,xR,xV,m,ks,e1,e2,rfl,e4,e5⟩,⟨rfl,rfl,rfl,rfl⟩,Gr.refl σ,hb,trivial⟩
end
end Go.Proofs.YtlflalecmhgmjaaGreatDoor.N
