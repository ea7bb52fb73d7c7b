/- Takers and levels, as list and value meet them. Conditions: what Clean tells. -/
import Derived.Test.YtlflalecmhgmjaaGreatDoorKNodeW
set_option linter.unusedVariables false
set_option linter.unusedSimpArgs false
namespace Go.Proofs.YtlflalecmhgmjaaGreatDoor.N
open Go.Proofs.YtlflalecmhgmjaaGreatDoor
open Go.X
set_option maxRecDepth 100000
section
variable {gl:GL} {b d:Nat} {s:ByteArray} {A:AD} {σ:G.Rd} {cl:Nat->Nat} {h:Heap}
theorem tkKind {x:G.Tk} {p:Option Addr} {mo:Option (Nat × List (List UInt8))} {fs tfs:Fs} (tk:TkR b A x p mo fs tfs):
  (p=none/\x= .none/\mo=none/\fs=[]/\tfs=[])\/∃t,p=some ⟨t,0,none⟩/\tfs[0]? =some (t,0,.int .i64 (x.kind:Int))/\x.kind≠0:=by
 cases x with
 | none=>obtain⟨a,b,c,d⟩:=tk;exact .inl ⟨a,rfl,b,c,d⟩
 | list l=>obtain⟨t,kf,kc,ov,a1,a2,rfl⟩:=tk;exact .inr ⟨t,a1,rfl,by simp[G.Tk.kind]⟩
 | dir=>obtain⟨t,xR,a1,a2,a3,rfl⟩:=tk;exact .inr ⟨t,a1,rfl,by decide⟩
 | id v=>obtain⟨t,xR,xV,a1,a2,a3,rfl⟩:=tk;exact .inr ⟨t,a1,rfl,by simp[G.Tk.kind]⟩
 | label v=>obtain⟨t,xR,xV,a1,a2,a3,rfl⟩:=tk;exact .inr ⟨t,a1,rfl,by simp[G.Tk.kind]⟩
 | spot v y=>obtain⟨t,xP,xR,g,a1,a2,a3,a4,rfl⟩:=tk;exact .inr ⟨t,a1,rfl,by simp[G.Tk.kind]⟩
 | fin k=>obtain⟨t,xR,xT,a1,a2,a3,rfl⟩:=tk;exact .inr ⟨t,a1,rfl,by simp[G.Tk.kind]⟩
 | weight k=>obtain⟨t,xR,xK,a1,a2,a3,rfl⟩:=tk;exact .inr ⟨t,a1,rfl,by simp[G.Tk.kind]⟩
theorem frR {C:List Ck} {x:G.Tk} {v:G.Tok} {w:Value} {h':Heap} (r:tR gl b d s C h cl x v A σ w h'):Fr (owns C) h h':=by
 obtain⟨_,_,_,q,_⟩:=r;exact q.fr
theorem frE {C:List Ck} {x:G.Tk} {v:G.Tok} {w:Value} {h':Heap} (r:tE C h cl x v σ w h'):Fr (owns C) h h':=by
 obtain⟨_,_,_,q⟩:=r;exact q
theorem takeV {x:G.Tk} {v:G.Tok} {p:Option Addr} {mo:Option (Nat × List (List UInt8))} {fs tfs:Fs} (hcl:ClFn cl) (tk:TkR b A x p mo fs tfs) (H:Hp h (stC gl b s A σ d++[Ck.fx none tfs])) (ri:G.RI cl s σ) (hb:TkB σ x)
  (hk:x.kind=v.kind) (h0:x.kind≠0) (h1:x.kind≠1) (hv:v.kind=4->v.says.size<=262144) {Hd:List Nat} {K E:Value->Heap->Prop} (hH:∀z∈Hd,z∉owns (stC gl b s A σ d++[Ck.fx none tfs]))
  (k1:∀w h',tR gl b d s (stC gl b s A σ d++[Ck.fx none tfs]) h cl x v A σ w h'->K w h') (k2:∀w h',tE (stC gl b s A σ d++[Ck.fx none tfs]) h cl x v σ w h'->E w h'):
  ∃t f c,p=some ⟨t,0,none⟩/\tfs[1]? =some (t,1,.func f #[] c)/\callV Tryz.prog fnsX fnsP (some E) f #[] c [tokV v] h Hd K:=by
 cases x with
 | none=>exact absurd rfl h0
 | list l=>exact absurd rfl h1
 | dir=>
  obtain⟨t,xR,a1,a2,a3,a4⟩:=tk
  refine⟨t,_,_,a1,by rw[a4];rfl,?_⟩
  exact callP_of _ (okDir (cl:=cl) H a4) hH (fun _ _ r=>frR r) (fun _ _ r=>frE r) k1 k2
 | id k=>
  obtain⟨t,xR,xV,a1,a2,a3,a4⟩:=tk
  refine⟨t,_,_,a1,by rw[a4];rfl,?_⟩
  exact callP_of _ (okId (cl:=cl) H (hv hk.symm) a4) hH (fun _ _ r=>frR r) (fun _ _ r=>frE r) k1 k2
 | label k=>
  obtain⟨t,xR,xV,a1,a2,a3,a4⟩:=tk
  refine⟨t,_,_,a1,by rw[a4];rfl,?_⟩
  exact callP_of _ (okLabel (cl:=cl) H ri hb a4) hH (fun _ _ r=>frR r) (fun _ _ r=>frE r) k1 k2
 | spot k y=>
  obtain⟨t,xP,xR,g,a1,a2,a3,a4,a5⟩:=tk
  refine⟨t,_,_,a1,by rw[a5];rfl,?_⟩
  exact callX_ofR _ (okSpotT (y:=y) hcl H ri hb a4 a5) hH (fun _ _ r=>frR r) k1
 | fin k=>
  obtain⟨t,xR,xT,a1,a2,a3,a4⟩:=tk
  refine⟨t,_,_,a1,by rw[a4];rfl,?_⟩
  exact callP_of _ (okFin (cl:=cl) H (hv hk.symm) hb a4) hH (fun _ _ r=>frR r) (fun _ _ r=>frE r) k1 k2
 | weight k=>
  obtain⟨t,xR,xK,a1,a2,a3,a4⟩:=tk
  refine⟨t,_,_,a1,by rw[a4];rfl,?_⟩
  have:=ri.el
  have hb':k/2<σ.weights.length:=hb
  exact callX_ofR _ (okWeight hcl H ri hb (by omega) a4) hH (fun _ _ r=>frR r) k1
theorem lookS {m:Nat} {ks:List (List UInt8)} {k:ByteArray} {P:Int->Prop} {Q:Prop} (hm:hmap h m=some (Ent (ek ks),(ek ks).length)) (k1:k.data.toList∈ks->P 1) (k2:k.data.toList∉ks->Q):
  ∃mr,some m=some mr/\∃es c,hmap h mr=some (es,c)/\keysB tiStr es/\(∀ev∈es.toList,ev.key= .string k->∃r:Int,ev.val= .int .i64 r/\P r)/\((∀e∈es.toList,e.key≠ .string k)->Q):=by
 refine⟨m,rfl,_,_,hm,ek_keys _,fun ev he hk=>?_,fun q=>k2 fun hin=>?_⟩
 ·obtain ⟨j,p,h3,rfl⟩:=Ent_mem he
  obtain⟨k',h4,rfl⟩:=ek_get h3
  have:k'=k.data.toList:=mkB_eq.1 hk
  subst this
  exact⟨1,rfl,k1 (List.mem_of_getElem? h4)⟩
 ·obtain ⟨j,hj⟩:=List.mem_iff_getElem?.1 hin
  refine q ⟨.string (G.mkB k.data.toList),.int .i64 1,j⟩ (Array.mem_def.1 (Array.mem_of_getElem? (i:=j) ?_)) (mkB_eq.2 rfl)
  rw[Ent_get]
  simp[ek,hj]
theorem behindV {l:G.Lv} {kf:Fn} {kc:Array Value} {ov:Value} {mo:Option (Nat × List (List UInt8))} {fs:Fs} {h0:Heap} {M:List Nat} {cs:List Ck} {k e:Nat} (lv:LvR b l (.func kf #[] kc) ov mo fs) (Y:Sy h0 M h cs) (hk:cs[k]? =some (Ck.fx mo fs))
  {Hd:List Nat} {K E:Value->Heap->Prop} (k1:G.behind l e σ= .ok σ->K (.tuple #[]) h) (k2:∀f,G.behind l e σ= .no f->E (flt f) h):
  ∃f c,ov= .func f #[] c/\callV Tryz.prog fnsX fnsP (some E) f #[] c [.int .i64 (e:Int)] h Hd K:=by
 have none:(G.behind l e σ= .ok σ)->∀n,n=151->callX Tryz.prog n #[.int .i64 (e:Int)] h Hd K:=by
  rintro q n rfl
  refine callX_same (v0:=.tuple #[]) ?_ (k1 q)
  apply calls151
  exact⟨rfl,rfl⟩
 cases l with
 | over=>exact absurd lv.1 (by intro q;cases q)
 | top=>exact absurd lv.1 (by intro q;cases q)
 | graph dd=>
  obtain⟨xR,xM,m,ks,a1,a2,a3,a4,a5⟩:=lv
  exact⟨_,_,a2,none rfl 151 rfl⟩
 | spot v x y=>
  obtain⟨xM,xR,xV,m,ks,a1,a2,a3,a4,a5⟩:=lv
  exact⟨_,_,a2,none rfl 151 rfl⟩
 | node v x y z=>
  obtain⟨xM,xR,xV,m,ks,a1,a2,a3,a4,a5⟩:=lv
  refine⟨_,_,a2,?_⟩
  subst a3
  have hm:=Y.mapF k hk
  refine callP_of (R:=fun w h'=>x=true/\w= .tuple #[]/\h'=h) (Rp:=fun w h'=>x=false/\w=flt (e,14)/\h'=h) [] ?_ (by simp) (fun _ _ r=>Fr.of_eq r.2.2) (fun _ _ r=>Fr.of_eq r.2.2) (fun w h' r=>?_) fun w h' r=>?_
  ·apply calls265
   unfold S265
   refine⟨xM,0,rfl,some m,Y.factF k hk 0 (by rw[a5];rfl),lookS hm (fun q=>?_) fun q=>?_⟩
   ·refine callMust (fun _=>⟨rfl,?_,rfl,rfl⟩) fun z=>absurd z (by decide)
    have:=(a4.2 _).1 q
    have n1:G.kId≠G.kLabel:=by decide
    have n2:G.kId≠G.kGraphics:=by decide
    have n0:(⟨#[105,100]⟩:ByteArray).data.toList=G.kId:=rfl
    rw[n0]at this
    simpa[kts,n1,n2]using this
   ·refine callMust (fun z=>absurd z (by decide)) fun _=>⟨?_,rfl,rfl⟩
    cases x with
    | false=>rfl
    | true=>exact absurd ((a4.2 _).2 (by simp[kts];exact .inl rfl)) q
  ·obtain ⟨q,rfl,rfl⟩:=r
   exact k1 (by simp[G.behind,G.must,q])
  ·obtain ⟨q,rfl,rfl⟩:=r
   exact k2 _ (by simp[G.behind,G.must,q])
 | edge v x y z=>
  obtain⟨xM,xK,xR,m,ks,a1,a2,a3,a4,a5⟩:=lv
  refine⟨_,_,a2,?_⟩
  subst a3
  have hm:=Y.mapF k hk
  have c0:=Y.factF k hk 0 (b:=xM) (o:=0) (v:=.map (some m)) (by rw[a5];rfl)
  have n1:G.kSource≠G.kTarget:=by decide
  have n2:G.kSource≠G.kWeight:=by decide
  have n3:G.kTarget≠G.kWeight:=by decide
  have s0:(⟨#[115,111,117,114,99,101]⟩:ByteArray).data.toList=G.kSource:=rfl
  have t0:(⟨#[116,97,114,103,101,116]⟩:ByteArray).data.toList=G.kTarget:=rfl
  have hs:G.kSource∈ks ↔ x=true:=by rw[a4.2];simp[kts,n1,n2]
  have ht:G.kTarget∈ks ↔ y=true:=by rw[a4.2];simp[kts,n3,Ne.symm n1]
  refine callP_of (R:=fun w h'=>(x&&y)=true/\w= .tuple #[]/\h'=h) (Rp:=fun w h'=>(x&&y)=false/\w=flt (e,14)/\h'=h) [] ?_ (by simp) (fun _ _ r=>Fr.of_eq r.2.2) (fun _ _ r=>Fr.of_eq r.2.2) (fun w h' r=>?_) fun w h' r=>?_
  ·apply calls270
   unfold S270
   intro K k' k2'
   refine⟨xM,0,rfl,some m,c0,lookS hm (fun q=>?_) fun q=>?_⟩
   ·rw [s0]at q
    refine cnd_t rfl ?_
    refine⟨xM,0,rfl,some m,c0,lookS hm (fun q2=>?_) fun q2=>?_⟩
    ·rw [t0]at q2
     exact callMust (fun _=>⟨rfl,by rw[hs.1 q,ht.1 q2];rfl,rfl,rfl⟩) fun z=>absurd z (by decide)
    ·rw [t0]at q2
     refine callMust (fun z=>absurd z (by decide)) fun _=>⟨?_,rfl,rfl⟩
     have:y=false:=by
      cases y with
      | false=>rfl
      | true=>exact absurd (ht.2 rfl) q2
     rw[this];simp
   ·rw [s0]at q
    refine cnd_f rfl ?_
    refine callMust (fun z=>absurd z (by decide)) fun _=>⟨?_,rfl,rfl⟩
    have:x=false:=by
     cases x with
     | false=>rfl
     | true=>exact absurd (hs.2 rfl) q
    rw[this];rfl
  ·obtain ⟨q,rfl,rfl⟩:=r
   exact k1 (by simp only[G.behind,G.must,q])
  ·obtain ⟨q,rfl,rfl⟩:=r
   exact k2 _ (by simp only[G.behind,G.must,q])
theorem frkR {C:List Ck} {l:G.Lv} {t:G.Tok} {kv ov w:Value} {fs:Fs} {h':Heap} (r:kR gl b d s C h l t σ kv ov fs w h'):Fr (owns C) h h':=by
 obtain⟨_,_,_,_,_,_,_,_,_,_,_,q,_⟩:=r;exact q.fr
theorem frkE {C:List Ck} {l:G.Lv} {t:G.Tok} {w:Value} {h':Heap} (r:kE C h l t σ w h'):Fr (owns C) h h':=by
 obtain⟨_,_,_,f⟩:=r;exact f
theorem keyV {l:G.Lv} {t:G.Tok} {kF:Fn} {kX kY:Array Value} {ov:Value} {mo:Option (Nat × List (List UInt8))} {fs:Fs} (lv:LvR b l (.func kF kX kY) ov mo fs) (H:Hp h (stC gl b s A σ d++[Ck.fx mo fs])) (ri:G.RI cl s σ) (hb:LvB σ l)
  {Hd:List Nat} {K E:Value->Heap->Prop} (hH:∀z∈Hd,z∉owns (stC gl b s A σ d++[Ck.fx mo fs]))
  (k1:∀w h',kR gl b d s (stC gl b s A σ d++[Ck.fx mo fs]) h l t σ (.func kF kX kY) ov fs w h'->K w h') (k2:∀w h',kE (stC gl b s A σ d++[Ck.fx mo fs]) h l t σ w h'->E w h'):
  callV Tryz.prog fnsX fnsP (some E) kF kX kY [tokV t] h Hd K:=by
 cases l with
 | over=>exact absurd lv.1 (by intro q;cases q)
 | top=>
  obtain⟨a1,a2,a3⟩:=lv
  have e:=a1
  cases a1
  exact callP_of _ (okTop (cl:=cl) H ri e a2 a3) hH (fun _ _ r=>frkR r) (fun _ _ r=>frkE r) k1 k2
 | graph dd=>
  obtain⟨xR,xM,m,ks,a1,a2,a3,a4,a5⟩:=lv
  have e:=a1
  cases a1
  exact callP_of _ (okGraph (cl:=cl) H ri e a2 a3 a4 a5) hH (fun _ _ r=>frkR r) (fun _ _ r=>frkE r) k1 k2
 | spot v x y=>
  obtain⟨xM,xR,xV,m,ks,a1,a2,a3,a4,a5⟩:=lv
  have e:=a1
  cases a1
  exact callP_of _ (okSpot (cl:=cl) H ri hb e a2 a3 a4 a5) hH (fun _ _ r=>frkR r) (fun _ _ r=>frkE r) k1 k2
 | node v x y z=>
  obtain⟨xM,xR,xV,m,ks,a1,a2,a3,a4,a5⟩:=lv
  have e:=a1
  cases a1
  exact callP_of _ (okNode (cl:=cl) H ri hb e a2 a3 a4 a5) hH (fun _ _ r=>frkR r) (fun _ _ r=>frkE r) k1 k2
 | edge k x y z=>
  obtain⟨xM,xK,xR,m,ks,a1,a2,a3,a4,a5⟩:=lv
  have e:=a1
  cases a1
  exact callP_of _ (okEdge (cl:=cl) H ri hb e a2 a3 a4 a5) hH (fun _ _ r=>frkR r) (fun _ _ r=>frkE r) k1 k2
end
theorem next_says {s:ByteArray} {i j:Nat} {t:G.Tok} (h:G.next s i= .ok (t,j)):t.kind=5\/t.says.size<=s.size:=by
 rw[next_eq]at h
 unfold nextP at h
 have ex:∀a b:Nat,(s.extract a b).size<=s.size:=by intro a b;simp[ByteArray.size_extract];omega
 have n0:G.noB.size<=s.size:=Nat.zero_le _
 split at h
 ·cases h;exact .inr n0
 split at h
 ·cases h;exact .inr n0
 split at h
 ·cases h;exact .inr n0
 split at h
 ·cases q:G.str s (G.skp s i) (G.skp s i+1) []with
  | ok a=>rw[q]at h;obtain⟨l,k⟩:=a;cases h;exact .inl rfl
  | no f=>rw[q]at h;cases h
  | un=>rw[q]at h;cases h
 split at h
 ·cases h;exact .inr (ex _ _)
 split at h
 ·cases h;exact .inr (ex _ _)
 ·cases h
theorem valued_says {rd:ByteArray->Option (Nat × Nat)} {t v:G.Tok} (h:G.valued rd t= .ok v) (hv:v.kind=4):v.says=t.says/\t.kind≠5:=by
 unfold G.valued at h
 split at h
 ·cases h
 split at h
 ·split at h
  ·split at h
   ·cases h;exact⟨rfl,by simp_all⟩
   ·cases h
  ·cases h
 split at h
 ·split at h
  ·cases h;exact⟨rfl,by simp_all⟩
  ·cases h
  ·cases h
 ·cases h
  exact absurd hv (by assumption)
end Go.Proofs.YtlflalecmhgmjaaGreatDoor.N
namespace Go.Proofs.YtlflalecmhgmjaaGreatDoor.N
open Go.Proofs.YtlflalecmhgmjaaGreatDoor
open Go.X
set_option maxRecDepth 100000
theorem LvB.I {σ:G.Rd} {l:G.Lv} (h:LvB σ l):G.LvI σ l:=by
 cases l<;>first | trivial | exact h
theorem TkB.I {σ:G.Rd} {x:G.Tk} (h:TkB σ x):G.TkI σ x:=by
 cases x with
 | list l=>exact LvB.I h
 | _=>first | trivial | exact h
theorem TkB.at {σ:G.Rd} {x:G.Tk} (h:TkB σ x) (i:Nat):TkB {σ with i:=i} x:=by
 cases x with
 | list l=>cases l<;>exact h
 | _=>exact h
theorem LvB.at {σ:G.Rd} {l:G.Lv} (h:LvB σ l) (i:Nat):LvB {σ with i:=i} l:=by
 cases l<;>exact h
section
variable (gl:GL) (b:Nat) (s:ByteArray) (rd:ByteArray->Option (Nat × Nat)) (cl:Nat->Nat)
def lR (C:List Ck) (h:Heap) (n:Nat) (l:G.Lv) (d:Nat) (σ:G.Rd) (kv ov:Value) (fs:Fs) (v:Value) (h':Heap):Prop:=
 ∃e l' σ' A' mo',G.list s rd cl n l d σ= .ok (e,l',σ')/\v= .int .i64 (e:Int)/\Sq h C h' (stC gl b s A' σ' d++[Ck.fx mo' fs])/\LvR b l' kv ov mo' fs/\Gr σ σ'
def lE (C:List Ck) (h:Heap) (n:Nat) (l:G.Lv) (d:Nat) (σ:G.Rd) (v:Value) (h':Heap):Prop:=
 ∃f,G.list s rd cl n l d σ= .no f/\v=flt f/\Fr (owns C) h h'
def ListC (n:Nat):Prop:=∀(l:G.Lv) (d:Nat) (σ:G.Rd) (A:AD) (h:Heap) (kv ov:Value) (mo:Option (Nat × List (List UInt8))) (fs:Fs),Hp h (stC gl b s A σ d++[Ck.fx mo fs])->LvR b l kv ov mo fs->G.RI cl s σ->LvB σ l->d<=16->
 G.list s rd cl n l d σ≠ .un->CallsP Tryz.prog 110 #[pt b,.bool (G.isTop l),kv] h (lR gl b s rd cl (stC gl b s A σ d++[Ck.fx mo fs]) h n l d σ kv ov fs) (lE s rd cl (stC gl b s A σ d++[Ck.fx mo fs]) h n l d σ)
def vR (C:List Ck) (h:Heap) (n:Nat) (x:G.Tk) (d:Nat) (σ:G.Rd) (v:Value) (h':Heap):Prop:=
 ∃σ' A',G.value s rd cl (G.list s rd cl n) x d σ= .ok σ'/\v= .tuple #[]/\Sq h C h' (stC gl b s A' σ' d)/\Gr σ σ'
def vE (C:List Ck) (h:Heap) (n:Nat) (x:G.Tk) (d:Nat) (σ:G.Rd) (v:Value) (h':Heap):Prop:=
 ∃f,G.value s rd cl (G.list s rd cl n) x d σ= .no f/\v=flt f/\Fr (owns C) h h'
def ValC (n:Nat):Prop:=∀(x:G.Tk) (d:Nat) (σ:G.Rd) (A:AD) (h:Heap) (p:Option Addr) (mo:Option (Nat × List (List UInt8))) (fs tfs:Fs),Hp h (stC gl b s A σ d++[Ck.fx mo fs,Ck.fx none tfs])->TkR b A x p mo fs tfs->G.RI cl s σ->TkB σ x->d<=16->
 G.value s rd cl (G.list s rd cl n) x d σ≠ .un->CallsP Tryz.prog 150 #[pt b,.pointer p] h (vR gl b s rd cl (stC gl b s A σ d++[Ck.fx mo fs,Ck.fx none tfs]) h n x d σ) (vE s rd cl (stC gl b s A σ d++[Ck.fx mo fs,Ck.fx none tfs]) h n x d σ)
end
section
variable {gl:GL} {b:Nat} {s:ByteArray} {rd:ByteArray->Option (Nat × Nat)} {cl:Nat->Nat}
theorem inB {A:AD} {σ:G.Rd} {d:Nat} {rest:List Ck} {x:Nat} (h:x∈[b]):x∈owns (stC gl b s A σ d++rest):=by
 simp only[List.mem_singleton]at h
 subst h
 exact memOwns.2 ⟨0,_,rfl,by simp[Ck.ob]⟩
theorem Sq.mvB {h0 h h':Heap} {C rest:List Ck} {A:AD} {σ:G.Rd} {d j:Nat} (q:Sq h0 C h (stC gl b s A σ d++rest)) (m:Mv b h h' j):Sq h0 C h' (stC gl b s A {σ with i:=j} d++rest):=
 ⟨q.sy.mv 0 rfl m,q.ri⟩
theorem Sq.dep {h0 h:Heap} {C rest:List Ck} {A:AD} {σ:G.Rd} {d:Nat} (q:Sq h0 C h (stC gl b s A σ d++rest)) (d':Nat):Sq h0 C (hset h b 2 (.int .i64 (d':Int))) (stC gl b s A σ d'++rest):=
 ⟨q.sy.stO 0 rfl 2 _,q.ri⟩
theorem Sq.dep0 {h0 h:Heap} {C:List Ck} {A:AD} {σ:G.Rd} {d:Nat} (q:Sq h0 C h (stC gl b s A σ d)) (d':Nat):Sq h0 C (hset h b 2 (.int .i64 (d':Int))) (stC gl b s A σ d'):=
 ⟨q.sy.stO 0 rfl 2 _,q.ri⟩
theorem okValue {n:Nat} (hr:RdOK rd gl) (hcl:ClFn cl) (hs:s.size<=262144) (IH:ListC gl b s rd cl n):ValC gl b s rd cl n:=by
 intro x d σ A h p mo1 fs1 tfs H tk ri hb hd hu
 generalize hC:stC gl b s A σ d++[Ck.fx mo1 fs1,Ck.fx none tfs]=C at H ⊢
 have Q0:Sq h C h (stC gl b s A σ d++[Ck.fx mo1 fs1,Ck.fx none tfs]):=by rw[hC];exact Sq.start H
 apply calls150
 unfold S150
 refine⟨b,0,rfl,?_⟩
 refine callP_of [b] (ok149 (Q0.sy.lx 0 rfl) ri.i hs) (by simp) (fun _ _ r=>by obtain⟨_,_,_,_,M⟩:=r;exact M.fr) (fun _ _ r=>by obtain⟨_,_,_,f⟩:=r;exact f) (fun v hv r=>?_) fun v hv r=>?_
 rotate_left
 ·obtain ⟨f,e,rfl,fr⟩:=r
  exact⟨f,by simp[G.value,e,G.Er.bind],rfl,by rw[<-hC];exact fr.mono fun x hx=>inB hx⟩
 obtain⟨t,i,e1,rfl,M⟩:=r
 have ni:=(G.next_le ri.i).1 t i e1
 have Q1:Sq h C hv (stC gl b s A {σ with i:=i} d++[Ck.fx mo1 fs1,Ck.fx none tfs]):=Sq.mvB Q0 M
 have ri1:G.RI cl s {σ with i:=i}:=ri.at ni.2.1
 have hb1:TkB {σ with i:=i} x:=hb.at i
 have g1:Gr σ {σ with i:=i}:=⟨Nat.le_refl _,Nat.le_refl _,Nat.le_refl _⟩
 have ev1:G.value s rd cl (G.list s rd cl n) x d σ=(G.valued rd t).bind fun v=>G.must (decide (v.kind=1->d<16)) (v.at_,3) <| G.must (decide (x.kind=0\/x.kind=v.kind)) (v.at_,22) <|
   if v.kind=1 then
    match x with
    | .list l=>(G.list s rd cl n l (d+1) {σ with i:=i}).bind fun(e,l',r2)=>G.behind l' e r2
    | _=>(G.list s rd cl n .over (d+1) {σ with i:=i}).bind fun(_,_,r2)=>.ok r2
   else G.take cl x v {σ with i:=i}:=by
  unfold G.value
  rw[e1]
  rfl
 generalize hσ:({σ with i:=i}:G.Rd)=σ1 at*
 refine⟨_,_,_,_,rfl,?_⟩
 have hu1:G.valued rd t≠ .un:=by
  intro q
  rw[ev1,q]at hu
  exact hu rfl
 refine callP_of [] (ok208 hr (Q1.sy.glo 6 rfl) hu1) (by simp) (fun _ _ r=>by obtain⟨_,_,_,f⟩:=r;exact f) (fun _ _ r=>by obtain⟨_,_,_,f⟩:=r;exact f) (fun v hv2 r=>?_) fun v hv2 r=>?_
 rotate_left
 ·obtain ⟨f,e,rfl,fr⟩:=r
  exact⟨f,by rw[ev1,e];rfl,rfl,Q1.frT fr.nil⟩
 obtain⟨v,e2,rfl,f2⟩:=r
 have says:v.kind=4->v.says.size<=262144:=by
  intro q
  obtain⟨z1,z2⟩:=valued_says e2 q
  rcases next_says e1 with w | w
  ·exact absurd w z2
  ·rw [z1];omega
 have Q2:Sq h C hv2 (stC gl b s A σ1 d++[Ck.fx mo1 fs1,Ck.fx none tfs]):=Q1.gr f2
 have ev2:G.value s rd cl (G.list s rd cl n) x d σ=(G.must (decide (v.kind=1->d<16)) (v.at_,3) <| G.must (decide (x.kind=0\/x.kind=v.kind)) (v.at_,22) <|
   if v.kind=1 then
    match x with
    | .list l=>(G.list s rd cl n l (d+1) σ1).bind fun(e,l',r2)=>G.behind l' e r2
    | _=>(G.list s rd cl n .over (d+1) σ1).bind fun(_,_,r2)=>.ok r2
   else G.take cl x v σ1):=by rw[ev1,e2];rfl
 clear ev1
 refine⟨_,_,_,_,rfl,?_⟩
 intro hv3 hv4
 have Q4:Sq h C hv4 (stC gl b s A σ1 d++[Ck.fx mo1 fs1,Ck.fx none tfs]):=Q2.gr ((((((Fr.push hv2 _).hsetL (Nat.le_refl _)).hsetL (Nat.le_refl _)).hsetL (Nat.le_refl _)).hsetL (Nat.le_refl _)))
 have s4:hv4.size=hv2.size+1:=by simp[hv4,hv3]
 have hbl:b<hv2.size:=sybl Q2.sy 0 rfl b (by simp[Ck.ob])
 have nin:∀z∈([hv2.size]:List Nat),z∉owns (stC gl b s A σ1 d++[Ck.fx mo1 fs1,Ck.fx none tfs]):=by
  intro z hz q
  simp only[List.mem_singleton]at hz
  subst hz
  obtain⟨k,c,h1,h2⟩:=memOwns.1 q
  have:=sybl Q2.sy k h1 _ h2
  omega
 clear_value hv4
 clear hv3
 by_cases hk:v.kind=1
 ·--a list
  have ek:((v.kind:Int)==(1:Int))=true:=by rw[hk];rfl
  rw[ek]
  refine⟨fun _ h'=>d<16/\hv2.size<h'.size/\Sq h C h' (stC gl b s A σ1 (d+1)++[Ck.fx mo1 fs1,Ck.fx none tfs]),?_,?_⟩
  ·refine cnd_t rfl ?_
   refine⟨b,0,rfl,(d:Int),Q4.sy.cellO 0 rfl 2 rfl,b,0,rfl,by omega,⟨_,Q4.sy.cellO 0 rfl 2 rfl⟩,Q4.sy.freeO 0 rfl 2,?_⟩
   rw[wrN (by omega)]
   intro hv5
   have Q5:Sq h C hv5 (stC gl b s A σ1 (d+1)++[Ck.fx mo1 fs1,Ck.fx none tfs]):=Sq.dep Q4 (d+1)
   refine⟨b,0,rfl,((d+1:Nat):Int),Q5.sy.cellO 0 rfl 2 rfl,?_⟩
   refine callMust (fun q=>⟨rfl,Fr.refl _ _,?_,by simp[hv5,s4],Q5⟩) fun q=>⟨_,?_,rfl,Q5.fr⟩
   ·have:=of_decide_eq_true q;omega
   ·have hd':¬d<16:=by have:=of_decide_eq_false q;omega
    rw[ev2]
    simp[hk,G.must,hd']
  ·rintro hv7 ⟨hd16,s7,Q7⟩ K
   have ev3:G.value s rd cl (G.list s rd cl n) x d σ=(G.must (decide (x.kind=0\/x.kind=v.kind)) (v.at_,22) <|
     match x with
     | .list l=>(G.list s rd cl n l (d+1) σ1).bind fun(e,l',r2)=>G.behind l' e r2
     | _=>(G.list s rd cl n .over (d+1) σ1).bind fun(_,_,r2)=>.ok r2):=by
    rw[ev2,if_pos hk]
    simp only[G.must,hd16,implies_true,decide_true]
   clear ev2
   have ninA:∀z∈([hv2.size]:List Nat),z∉owns (stC gl b s A σ1 d++[Ck.fx mo1 fs1]):=fun z hz q=>by
    obtain⟨j,c,h1,h2⟩:=memOwns.1 q
    refine nin z hz (memOwns.2 ⟨j,c,?_,h2⟩)
    show((stC gl b s A σ1 d++[Ck.fx mo1 fs1])++[Ck.fx none tfs])[j]? =some c
    exact app_l h1
   have Q7':Sq h C hv7 ((stC gl b s A σ1 (d+1)++[Ck.fx mo1 fs1])++[Ck.fx none tfs]):=Q7
   have HA:Hp hv7 (stC gl b s A σ1 (d+1)++[Ck.fx mo1 fs1]):=(Q7.pick [0,1,2,3,4,5,6,7] rfl).hp
   have k:(x.kind=0\/x.kind=v.kind)->K hv7:=by
    intro hxk
    rw[decide_eq_true hxk]at ev3
    simp only[G.must]at ev3
    dsimp-zeta only[K]
    intro K2
    have k2:∀(hv22:Heap) (σ':G.Rd) (A':AD),G.value s rd cl (G.list s rd cl n) x d σ= .ok σ'->Sq h C hv22 (stC gl b s A' σ' (d+1))->Gr σ σ'->K2 hv22:=by
     intro hv22 σ' A' a1 a2 a3
     dsimp-zeta only[K2]
     refine⟨fun _ h'=>Sq h C h' (stC gl b s A' σ' d),?_,fun hv24 q=>⟨σ',A',a1,rfl,q,a3⟩⟩
     refine cnd_t rfl ⟨b,0,rfl,((d+1:Nat):Int),a2.sy.cellO 0 rfl 2 rfl,b,0,rfl,by omega,⟨_,a2.sy.cellO 0 rfl 2 rfl⟩,a2.sy.freeO 0 rfl 2,?_⟩
     have ew:IntKind.i64.wrap (((d+1:Nat):Int)-(1:Int))=(d:Int):=by rw[wr (by omega) (by omega)];omega
     rw[ew]
     exact Sq.dep0 a2 d
    refine cnd_t rfl ?_
    refine⟨fun _ h'=>∃σ' A',G.value s rd cl (G.list s rd cl n) x d σ= .ok σ'/\Sq h C h' (stC gl b s A' σ' (d+1))/\Gr σ σ',?_,fun hv17 ⟨σ',A',a1,a2,a3⟩=>k2 _ σ' A' a1 a2 a3⟩
    by_cases hxl:∃l,x= .list l
    ·obtain ⟨l,rfl⟩:=hxl
     obtain⟨t0,kf,kc,ov,rfl,lv,a3⟩:=tk
     have ev3:G.value s rd cl (G.list s rd cl n) (.list l) d σ=(G.list s rd cl n l (d+1) σ1).bind fun(e,l',r2)=>G.behind l' e r2:=ev3
     have htop:G.isTop l=false:=by
      cases l with
      | top=>
       have:=lv.1
       injection this with _ q _
       cases q
      | _=>rfl
     have hun:G.list s rd cl n l (d+1) σ1≠ .un:=by
      intro q
      rw[ev3,q]at hu
      exact hu rfl
     refine cnd_t rfl ⟨t0,0,rfl,.func kf,#[],kc,Q7.sy.factF 8 rfl 1 (by rw[a3];rfl),?_⟩
     have c:=IH l (d+1) σ1 A hv7 _ ov mo1 fs1 HA lv ri1 hb1 (by omega) hun
     rw[htop]at c
     refine callP_of _ c ninA (fun _ _ r=>by obtain⟨_,_,_,_,_,_,_,q,_⟩:=r;exact q.fr) (fun _ _ r=>by obtain⟨_,_,_,q⟩:=r;exact q) (fun w hv11 r=>?_) fun w hv11 r=>?_
     ·obtain ⟨e,l',σ',A',mo',q1,rfl,q2,q3,q4⟩:=r
      have Q11:Sq h C hv11 ((stC gl b s A' σ' (d+1)++[Ck.fx mo' fs1])++[Ck.fx none tfs]):=Sq.call Q7' q2
      have ev4:G.value s rd cl (G.list s rd cl n) (.list l) d σ=G.behind l' e σ':=by rw[ev3,q1];rfl
      refine⟨(e:Int),rfl,t0,0,rfl,?_⟩
      obtain⟨f,c,hov,hcall⟩:=behindV (σ:=σ') (e:=e) (Hd:=[hv2.size]) (K:=fun v7 hv12=>v7= .tuple #[]/\∃σ' A',G.value s rd cl (G.list s rd cl n) (.list l) d σ= .ok σ'/\Sq h C hv12 (stC gl b s A' σ' (d+1))/\Gr σ σ') (E:=vE s rd cl C h n (.list l) d σ) q3 Q11.sy (k:=7) rfl
       (fun q=>⟨rfl,σ',A',ev4.trans q,Q11.pick [0,1,2,3,4,5,6] rfl,g1.trans q4⟩) fun f q=>⟨f,ev4.trans q,rfl,Q11.fr⟩
      exact⟨_,_,_,Q11.sy.factF 8 rfl 2 (by rw[a3,hov];rfl),hcall⟩
     ·obtain ⟨f,q1,rfl,q2⟩:=r
      exact⟨f,by rw[ev3,q1];rfl,rfl,Q7'.frA q2⟩
    ·have hx0:x= .none:=by
      rcases tkKind tk with⟨_,q,_⟩ | ⟨_,_,_,q⟩
      ·exact q
      ·exfalso
       cases x with
       | list l=>exact hxl ⟨l,rfl⟩
       | none=>exact q rfl
       | _=>simp[G.Tk.kind,hk]at hxk
     subst hx0
     obtain⟨rfl,rfl,rfl,rfl⟩:=tk
     have ev3:G.value s rd cl (G.list s rd cl n) .none d σ=(G.list s rd cl n .over (d+1) σ1).bind fun(_,_,r2)=>.ok r2:=ev3
     have hun:G.list s rd cl n .over (d+1) σ1≠ .un:=by
      intro q
      rw[ev3,q]at hu
      exact hu rfl
     refine cnd_f rfl ⟨fun _ h'=>∃σ' A',G.value s rd cl (G.list s rd cl n) .none d σ= .ok σ'/\Sq h C h' (stC gl b s A' σ' (d+1))/\Gr σ σ',?_,fun _ q=>q⟩
     refine cnd_t rfl ?_
     refine callP_of _ (IH .over (d+1) σ1 A hv7 .nilFunc .nilFunc none [] HA ⟨rfl,rfl,rfl⟩ ri1 trivial (by omega) hun) ninA (fun _ _ r=>by obtain⟨_,_,_,_,_,_,_,q,_⟩:=r;exact q.fr) (fun _ _ r=>by obtain⟨_,_,_,q⟩:=r;exact q) (fun w hv11 r=>?_) fun w hv11 r=>?_
     ·obtain ⟨e,l',σ',A',mo',q1,rfl,q2,q3,q4⟩:=r
      have Q11:Sq h C hv11 ((stC gl b s A' σ' (d+1)++[Ck.fx mo' []])++[Ck.fx none []]):=Sq.call Q7' q2
      exact⟨(e:Int),rfl,σ',A',by rw[ev3,q1];rfl,Q11.pick [0,1,2,3,4,5,6] rfl,g1.trans q4⟩
     ·obtain ⟨f,q1,rfl,q2⟩:=r
      exact⟨f,by rw[ev3,q1];rfl,rfl,Q7'.frA q2⟩
   rcases tkKind tk with⟨rfl,hx,-⟩ | ⟨t0,rfl,hf,hx0⟩
   ·exact cnd_t rfl (callMust (fun _=>⟨rfl,Fr.refl _ _,k (.inl (by rw[hx];rfl))⟩) fun z=>absurd z (by decide))
   ·refine cnd_f rfl ⟨t0,0,rfl,(x.kind:Int),Q7.sy.factF 8 rfl 0 hf,callMust (fun q=>⟨rfl,Fr.refl _ _,k (.inr (by have:=eq_of_beq q;omega))⟩) fun q=>⟨_,?_,rfl,Q7.fr⟩⟩
    have hne:x.kind≠v.kind:=fun z=>by rw[z]at q;simp at q
    rw[ev3]
    simp[G.must,hx0,hne]
 ·--no list
  have ek:((v.kind:Int)==(1:Int))=false:=by simpa using fun q=>hk (by omega)
  rw[ek]
  have ev3:G.value s rd cl (G.list s rd cl n) x d σ=(G.must (decide (x.kind=0\/x.kind=v.kind)) (v.at_,22) <| G.take cl x v σ1):=by
   rw[ev2,if_neg hk]
   simp[G.must,hk]
  clear ev2
  refine⟨fun _ h'=>hv2.size<h'.size/\Sq h C h' (stC gl b s A σ1 d++[Ck.fx mo1 fs1,Ck.fx none tfs]),cnd_f rfl ⟨by omega,Q4⟩,?_⟩
  rintro hv7 ⟨s7,Q7⟩ K
  have Q7':Sq h C hv7 ((stC gl b s A σ1 d++[Ck.fx none tfs])++[Ck.fx mo1 fs1]):=Q7.pick [0,1,2,3,4,5,6,8,7] rfl
  have HA:Hp hv7 (stC gl b s A σ1 d++[Ck.fx none tfs]):=(Q7.pick [0,1,2,3,4,5,6,8] rfl).hp
  have ninA:∀z∈([hv2.size]:List Nat),z∉owns (stC gl b s A σ1 d++[Ck.fx none tfs]):=fun z hz q=>by
   obtain⟨j,c,h1,h2⟩:=memOwns.1 q
   rcases app_or h1 with h1 | ⟨_,h1⟩
   ·exact nin z hz (memOwns.2 ⟨j,c,app_l h1,h2⟩)
   ·obtain ⟨e,rfl⟩:=List.getElem?_eq_some_iff.1 h1
    simp[Ck.fx]at h2
  have k:(x.kind=0\/x.kind=v.kind)->K hv7:=by
   intro hxk
   rw[decide_eq_true hxk]at ev3
   simp only[G.must]at ev3
   dsimp-zeta only[K]
   intro K2
   have k2:∀(hv22:Heap) (σ':G.Rd) (A':AD),G.value s rd cl (G.list s rd cl n) x d σ= .ok σ'->Sq h C hv22 (stC gl b s A' σ' d)->Gr σ σ'->K2 hv22:=by
    intro hv22 σ' A' a1 a2 a3
    dsimp-zeta only[K2]
    exact⟨fun _ h'=>Sq h C h' (stC gl b s A' σ' d),cnd_f rfl a2,fun hv24 q=>⟨σ',A',a1,rfl,q,a3⟩⟩
   refine cnd_f rfl ?_
   refine⟨fun _ h'=>∃σ' A',G.value s rd cl (G.list s rd cl n) x d σ= .ok σ'/\Sq h C h' (stC gl b s A' σ' d)/\Gr σ σ',cnd_f rfl ⟨fun _ h'=>∃σ' A',G.value s rd cl (G.list s rd cl n) x d σ= .ok σ'/\Sq h C h' (stC gl b s A' σ' d)/\Gr σ σ',?_,fun _ q=>q⟩,fun hv17 ⟨σ',A',a1,a2,a3⟩=>k2 _ σ' A' a1 a2 a3⟩
   rcases tkKind tk with⟨rfl,rfl,-⟩ | ⟨t0,rfl,hf,hx0⟩
   ·exact cnd_f rfl ⟨σ1,A,ev3,Q7.pick [0,1,2,3,4,5,6] rfl,g1⟩
   ·have hxv:x.kind=v.kind:=hxk.resolve_left hx0
    obtain⟨t1,f,c,hp,hf1,hcall⟩:=takeV (Hd:=[hv2.size]) (K:=fun v9 hv14=>v9= .tuple #[]/\∃σ' A',G.value s rd cl (G.list s rd cl n) x d σ= .ok σ'/\Sq h C hv14 (stC gl b s A' σ' d)/\Gr σ σ') (E:=vE s rd cl C h n x d σ) hcl tk HA ri1 hb1 hxv hx0 (by omega) says ninA
     (fun w h' r=>by
      obtain⟨σ',q1,rfl,q2,q3⟩:=r
      have Q9:Sq h C h' (stC gl b s A σ' d++[Ck.fx mo1 fs1]):=Sq.call Q7' q2
      exact⟨rfl,σ',A,ev3.trans q1,Q9.pick [0,1,2,3,4,5,6] rfl,g1.trans q3⟩)
     (fun w h' r=>by
      obtain⟨f,q1,rfl,q2⟩:=r
      exact⟨f,ev3.trans q1,rfl,Q7'.frA q2⟩)
    cases hp
    exact cnd_t rfl ⟨t0,0,rfl,_,_,_,Q7.sy.factF 8 rfl 1 hf1,hcall⟩
  rcases tkKind tk with⟨rfl,hx,-⟩ | ⟨t0,rfl,hf,hx0⟩
  ·exact cnd_t rfl (callMust (fun _=>⟨rfl,Fr.refl _ _,k (.inl (by rw[hx];rfl))⟩) fun z=>absurd z (by decide))
  ·refine cnd_f rfl ⟨t0,0,rfl,(x.kind:Int),Q7.sy.factF 8 rfl 0 hf,callMust (fun q=>⟨rfl,Fr.refl _ _,k (.inr (by have:=eq_of_beq q;omega))⟩) fun q=>⟨_,?_,rfl,Q7.fr⟩⟩
   have hne:x.kind≠v.kind:=fun z=>by rw[z]at q;simp at q
   rw[ev3]
   simp[G.must,hx0,hne]
end
end Go.Proofs.YtlflalecmhgmjaaGreatDoor.N
namespace Go.Proofs.YtlflalecmhgmjaaGreatDoor.N
open Go.Proofs.YtlflalecmhgmjaaGreatDoor
open Go.X
set_option maxRecDepth 100000
theorem LvR.top {b:Nat} {l:G.Lv} {kv ov:Value} {mo:Option (Nat × List (List UInt8))} {fs:Fs} (lv:LvR b l kv ov mo fs):G.isTop l=true ↔ kv= .func (.func 111) #[pt b] #[]:=by
 cases l with
 | top=>exact⟨fun _=>lv.1,fun _=>rfl⟩
 | over=>exact⟨fun q=>(by cases q),fun q=>(by rw[lv.1]at q;cases q)⟩
 | graph d=>obtain⟨_,_,_,_,a,_⟩:=lv;exact⟨fun q=>(by cases q),fun q=>by rw[a]at q;cases q⟩
 | node _ _ _ _=>obtain⟨_,_,_,_,_,a,_⟩:=lv;exact⟨fun q=>(by cases q),fun q=>by rw[a]at q;cases q⟩
 | spot _ _ _=>obtain⟨_,_,_,_,_,a,_⟩:=lv;exact⟨fun q=>(by cases q),fun q=>by rw[a]at q;cases q⟩
 | edge _ _ _ _=>obtain⟨_,_,_,_,_,a,_⟩:=lv;exact⟨fun q=>(by cases q),fun q=>by rw[a]at q;cases q⟩
theorem LvR.tops {b:Nat} {l l':G.Lv} {kv ov:Value} {mo mo':Option (Nat × List (List UInt8))} {fs fs':Fs} (lv:LvR b l kv ov mo fs) (lv':LvR b l' kv ov mo' fs'):G.isTop l'=G.isTop l:=by
 rw[Bool.eq_iff_iff,LvR.top lv,LvR.top lv']
section
variable {gl:GL} {b:Nat} {s:ByteArray} {rd:ByteArray->Option (Nat × Nat)} {cl:Nat->Nat}
theorem okListF {n:Nat} (hr:RdOK rd gl) (hc:G.ClOK cl) (hcl:ClFn cl) (hs:s.size<=262144) (IH:∀k,k<n->ListC gl b s rd cl k) (l:G.Lv) (d:Nat) (σ:G.Rd) (A:AD) (h:Heap) (kF:Fn) (kX kY:Array Value) (ov:Value) (mo:Option (Nat × List (List UInt8))) (fs:Fs)
  (H:Hp h (stC gl b s A σ d++[Ck.fx mo fs])) (lv:LvR b l (.func kF kX kY) ov mo fs) (ri:G.RI cl s σ) (hb:LvB σ l) (hd:d<=16) (hu:G.list s rd cl n l d σ≠ .un):
  CallsP Tryz.prog 110 #[pt b,.bool (G.isTop l),.func kF kX kY] h (lR gl b s rd cl (stC gl b s A σ d++[Ck.fx mo fs]) h n l d σ (.func kF kX kY) ov fs) (lE s rd cl (stC gl b s A σ d++[Ck.fx mo fs]) h n l d σ):=by
 generalize hC:stC gl b s A σ d++[Ck.fx mo fs]=C at H ⊢
 have Q0:Sq h C h (stC gl b s A σ d++[Ck.fx mo fs]):=by rw[hC];exact Sq.start H
 obtain⟨hr1,hr2⟩:=rdsC (gl:=gl) (b:=b) (s:=s) (A:=A) (σ:=σ) (d:=d) (mo:=mo) (fs:=fs)
 rw[hC]at hr1 hr2
 apply calls110
 unfold S110
 have htl:G.isTop l=true\/G.isTop l=false:=by cases G.isTop l<;>simp
 refine⟨fun _ hv=>∃n' l' σ' A' mo',Sq h C hv (stC gl b s A' σ' d++[Ck.fx mo' fs])/\LvR b l' (.func kF kX kY) ov mo' fs/\G.isTop l'=G.isTop l/\G.RI cl s σ'/\LvB σ' l'/\Gr σ σ'/\n'<=n/\G.list s rd cl n l d σ=G.list s rd cl n' l' d σ',
  fun _ hv=>match hcell hv b 1 with
   | some (.int _ i)=>s.size-i.toNat
   | _=>0,⟨n,l,σ,A,mo,Q0,lv,rfl,ri,hb,Gr.refl σ,Nat.le_refl _,rfl⟩,?_⟩
 rintro hv ⟨n',l',σ',A',mo',Q,lv',ht,ri',hb',g',hn,hl⟩
 cases n' with
 | zero=>exact absurd (hl.trans rfl) hu
 | succ k=>
 rw[G.list]at hl
 refine⟨b,0,rfl,?_⟩
 refine callP_of [b] (ok149 (Q.sy.lx 0 rfl) ri'.i hs) (by simp) (fun _ _ r=>by obtain⟨_,_,_,_,M⟩:=r;exact M.fr) (fun _ _ r=>by obtain⟨_,_,_,f⟩:=r;exact f) (fun v hv2 r=>?_) fun v hv2 r=>?_
 rotate_left
 ·obtain ⟨f,e,rfl,fr⟩:=r
  exact⟨f,by rw[hl,e];rfl,rfl,Q.frT (fr.mono fun x hx=>inB hx)⟩
 obtain⟨t,i,e1,rfl,M⟩:=r
 have ni:=(G.next_le ri'.i).1 t i e1
 have Q2:Sq h C hv2 (stC gl b s A' {σ' with i:=i} d++[Ck.fx mo' fs]):=Sq.mvB Q M
 have ri2:G.RI cl s {σ' with i:=i}:=ri'.at ni.2.1
 have hb2:LvB {σ' with i:=i} l':=hb'.at i
 have g2:Gr σ {σ' with i:=i}:=⟨g'.n,g'.e,g'.w⟩
 have i2:({σ' with i:=i}:G.Rd).i=i:=rfl
 have ei:s.size-((σ'.i:Nat):Int).toNat=s.size-σ'.i:=by simp
 have m0:hcell hv b 1=some (.int .i64 (σ'.i:Int)):=Q.sy.cellO 0 rfl 1 rfl
 rw[e1]at hl
 simp only[G.Er.bind]at hl
 generalize hσ:({σ' with i:=i}:G.Rd)=σ2 at*
 refine⟨_,_,_,_,rfl,?_⟩
 intro hv3 hv4
 have Q4:Sq h C hv4 (stC gl b s A' σ2 d++[Ck.fx mo' fs]):=Q2.gr ((((((Fr.push hv2 _).hsetL (Nat.le_refl _)).hsetL (Nat.le_refl _)).hsetL (Nat.le_refl _)).hsetL (Nat.le_refl _)))
 have nin:∀z∈([hv2.size]:List Nat),z∉owns (stC gl b s A' σ2 d++[Ck.fx mo' fs]):=by
  intro z hz q
  simp only[List.mem_singleton]at hz
  subst hz
  obtain⟨k,c,h1,h2⟩:=memOwns.1 q
  have:=sybl Q2.sy k h1 _ h2
  omega
 clear_value hv4
 clear hv3
 intro K
 have ret:((G.isTop l'=true/\t.kind=0)\/(G.isTop l'=false/\t.kind=2))->lR gl b s rd cl C h n l d σ (.func kF kX kY) ov fs (.int .i64 (t.at_:Int)) hv4:=by
  intro q
  rw[if_pos q]at hl
  exact⟨t.at_,l',σ2,A',mo',hl,rfl,Q4,lv',g2⟩
 have kk:¬((G.isTop l'=true/\t.kind=0)\/(G.isTop l'=false/\t.kind=2))->K hv4:=by
  intro q
  rw[if_neg q]at hl
  refine callMust (fun q3=>?_) fun q3=>⟨_,?_,rfl,Q4.fr⟩
  rotate_left
  ·have h3:¬t.kind=3:=fun z=>by rw[z]at q3;cases q3
   rw[hl]
   simp[G.must,h3]
  have h3:t.kind=3:=by have:=eq_of_beq q3;omega
  rw[decide_eq_true h3]at hl
  simp only[G.must]at hl
  refine⟨rfl,?_⟩
  refine⟨fun lst hx=>∃x l'' σ3 A3 mo3 mo1 fs1 tfs p,lst=[.pointer p]/\G.key l' t σ2= .ok (x,l'',σ3)/\Sq h C hx (stC gl b s A3 σ3 d++[Ck.fx mo3 fs,Ck.fx mo1 fs1,Ck.fx none tfs])/\
   LvR b l'' (.func kF kX kY) ov mo3 fs/\TkR b A3 x p mo1 fs1 tfs/\Gr σ2 σ3/\LvB σ3 l''/\TkB σ3 x,?_,?_⟩
  ·refine cnd_t rfl ?_
   refine keyV (t:=t) lv' Q4.hp ri2 hb2 nin (fun w h' r=>?_) fun w h' r=>?_
   ·obtain ⟨x,l'',σ3,A3,mo3,mo1,fs1,tfs,p,a1,rfl,a3,a4,a5,a6,a7,a8⟩:=r
    exact⟨p,rfl,x,l'',σ3,A3,mo3,mo1,fs1,tfs,p,rfl,a1,Q4.callT a3,a4,a5,a6,a7,a8⟩
   ·obtain ⟨f,a1,rfl,a3⟩:=r
    rw[a1]at hl
    exact⟨f,hl,rfl,Q4.frT a3⟩
  ·rintro xP hv8 ⟨x,l'',σ3,A3,mo3,mo1,fs1,tfs,p,ep,ek,Q8,lv3,tk,g3,lb3,tb3⟩
   cases ep
   obtain⟨-,-,ri3,-,i3⟩:=(G.key_all hc ri2 hb2.I ni.2.2.1).1 _ ek
   simp only at ri3 i3
   rw[ek]at hl
   simp only[G.Er.bind]at hl
   have Q8':Sq h C hv8 ((stC gl b s A3 σ3 d++[Ck.fx mo1 fs1,Ck.fx none tfs])++[Ck.fx mo3 fs]):=Q8.pick [0,1,2,3,4,5,6,8,9,7] rfl
   have HA:Hp hv8 (stC gl b s A3 σ3 d++[Ck.fx mo1 fs1,Ck.fx none tfs]):=(Q8.pick [0,1,2,3,4,5,6,8,9] rfl).hp
   have hun:G.value s rd cl (G.list s rd cl k) x d σ3≠ .un:=by
    intro z
    rw[hl,z]at hu
    exact hu rfl
   refine callP_of _ (okValue hr hcl hs (IH k (by omega)) x d σ3 A3 hv8 xP mo1 fs1 tfs HA tk ri3 tb3 hd hun) (by simp) (fun _ _ r=>by obtain⟨_,_,_,_,z,_⟩:=r;exact z.fr) (fun _ _ r=>by obtain⟨_,_,_,z⟩:=r;exact z) (fun w hv9 r=>?_) fun w hv9 r=>?_
   ·obtain ⟨σ4,A4,q1,rfl,q2,q3⟩:=r
    have Q9:Sq h C hv9 (stC gl b s A4 σ4 d++[Ck.fx mo3 fs]):=Sq.call Q8' q2
    obtain⟨ri4,-,i4⟩:=(G.value_all hc (fun l d σ=>G.list_all (rd:=rd) hc k l d σ) ri3 tb3.I).1 _ q1
    rw[q1]at hl
    refine⟨rfl,⟨k,l'',σ4,A4,mo3,Q9,lv3,(LvR.tops lv' lv3).trans ht,ri4,lb3.gr q3,(g2.trans g3).trans q3,by omega,hl⟩,?_⟩
    have m9:hcell hv9 b 1=some (.int .i64 (σ4.i:Int)):=Q9.sy.cellO 0 rfl 1 rfl
    dsimp only
    rw[m9,m0]
    have k0:σ'.i<i:=ni.2.2.2 (by omega)
    have:=ri4.i
    show s.size-(σ4.i:Int).toNat<s.size-(σ'.i:Int).toNat
    omega
   ·obtain ⟨f,q1,rfl,q2⟩:=r
    rw[q1]at hl
    exact⟨f,hl,rfl,Q8'.frA q2⟩
 rcases htl with htl | htl
 ·rw [htl]at ht ⊢
  refine cnd_t rfl (cnd_eq (fun q=>ret (.inl ⟨ht,by omega⟩)) fun q=>cnd_f rfl (kk ?_))
  rintro(⟨_,z⟩ | ⟨z,_⟩)
  ·omega
  ·rw [ht]at z;cases z
 ·rw [htl]at ht ⊢
  refine cnd_f rfl (cnd_t rfl (cnd_eq (fun q=>ret (.inr ⟨ht,by omega⟩)) fun q=>kk ?_))
  rintro(⟨z,_⟩ | ⟨_,z⟩)
  ·rw [ht]at z;cases z
  ·omega
theorem okListN {n:Nat} (hr:RdOK rd gl) (hc:G.ClOK cl) (hcl:ClFn cl) (hs:s.size<=262144) (IH:∀k,k<n->ListC gl b s rd cl k) (l:G.Lv) (d:Nat) (σ:G.Rd) (A:AD) (h:Heap) (ov:Value) (mo:Option (Nat × List (List UInt8))) (fs:Fs)
  (H:Hp h (stC gl b s A σ d++[Ck.fx mo fs])) (lv:LvR b l (.nilFunc) ov mo fs) (ri:G.RI cl s σ) (hb:LvB σ l) (hd:d<=16) (hu:G.list s rd cl n l d σ≠ .un):
  CallsP Tryz.prog 110 #[pt b,.bool (G.isTop l),.nilFunc] h (lR gl b s rd cl (stC gl b s A σ d++[Ck.fx mo fs]) h n l d σ (.nilFunc) ov fs) (lE s rd cl (stC gl b s A σ d++[Ck.fx mo fs]) h n l d σ):=by
 generalize hC:stC gl b s A σ d++[Ck.fx mo fs]=C at H ⊢
 have Q0:Sq h C h (stC gl b s A σ d++[Ck.fx mo fs]):=by rw[hC];exact Sq.start H
 obtain⟨hr1,hr2⟩:=rdsC (gl:=gl) (b:=b) (s:=s) (A:=A) (σ:=σ) (d:=d) (mo:=mo) (fs:=fs)
 rw[hC]at hr1 hr2
 apply calls110n
 unfold S110n
 have htl:G.isTop l=true\/G.isTop l=false:=by cases G.isTop l<;>simp
 refine⟨fun _ hv=>∃n' l' σ' A' mo',Sq h C hv (stC gl b s A' σ' d++[Ck.fx mo' fs])/\LvR b l' (.nilFunc) ov mo' fs/\G.isTop l'=G.isTop l/\G.RI cl s σ'/\LvB σ' l'/\Gr σ σ'/\n'<=n/\G.list s rd cl n l d σ=G.list s rd cl n' l' d σ',
  fun _ hv=>match hcell hv b 1 with
   | some (.int _ i)=>s.size-i.toNat
   | _=>0,⟨n,l,σ,A,mo,Q0,lv,rfl,ri,hb,Gr.refl σ,Nat.le_refl _,rfl⟩,?_⟩
 rintro hv ⟨n',l',σ',A',mo',Q,lv',ht,ri',hb',g',hn,hl⟩
 cases n' with
 | zero=>exact absurd (hl.trans rfl) hu
 | succ k=>
 rw[G.list]at hl
 refine⟨b,0,rfl,?_⟩
 refine callP_of [b] (ok149 (Q.sy.lx 0 rfl) ri'.i hs) (by simp) (fun _ _ r=>by obtain⟨_,_,_,_,M⟩:=r;exact M.fr) (fun _ _ r=>by obtain⟨_,_,_,f⟩:=r;exact f) (fun v hv2 r=>?_) fun v hv2 r=>?_
 rotate_left
 ·obtain ⟨f,e,rfl,fr⟩:=r
  exact⟨f,by rw[hl,e];rfl,rfl,Q.frT (fr.mono fun x hx=>inB hx)⟩
 obtain⟨t,i,e1,rfl,M⟩:=r
 have ni:=(G.next_le ri'.i).1 t i e1
 have Q2:Sq h C hv2 (stC gl b s A' {σ' with i:=i} d++[Ck.fx mo' fs]):=Sq.mvB Q M
 have ri2:G.RI cl s {σ' with i:=i}:=ri'.at ni.2.1
 have hb2:LvB {σ' with i:=i} l':=hb'.at i
 have g2:Gr σ {σ' with i:=i}:=⟨g'.n,g'.e,g'.w⟩
 have i2:({σ' with i:=i}:G.Rd).i=i:=rfl
 have ei:s.size-((σ'.i:Nat):Int).toNat=s.size-σ'.i:=by simp
 have m0:hcell hv b 1=some (.int .i64 (σ'.i:Int)):=Q.sy.cellO 0 rfl 1 rfl
 rw[e1]at hl
 simp only[G.Er.bind]at hl
 generalize hσ:({σ' with i:=i}:G.Rd)=σ2 at*
 refine⟨_,_,_,_,rfl,?_⟩
 intro hv3 hv4
 have Q4:Sq h C hv4 (stC gl b s A' σ2 d++[Ck.fx mo' fs]):=Q2.gr ((((((Fr.push hv2 _).hsetL (Nat.le_refl _)).hsetL (Nat.le_refl _)).hsetL (Nat.le_refl _)).hsetL (Nat.le_refl _)))
 have nin:∀z∈([hv2.size]:List Nat),z∉owns (stC gl b s A' σ2 d++[Ck.fx mo' fs]):=by
  intro z hz q
  simp only[List.mem_singleton]at hz
  subst hz
  obtain⟨k,c,h1,h2⟩:=memOwns.1 q
  have:=sybl Q2.sy k h1 _ h2
  omega
 clear_value hv4
 clear hv3
 intro K
 have ret:((G.isTop l'=true/\t.kind=0)\/(G.isTop l'=false/\t.kind=2))->lR gl b s rd cl C h n l d σ (.nilFunc) ov fs (.int .i64 (t.at_:Int)) hv4:=by
  intro q
  rw[if_pos q]at hl
  exact⟨t.at_,l',σ2,A',mo',hl,rfl,Q4,lv',g2⟩
 have kk:¬((G.isTop l'=true/\t.kind=0)\/(G.isTop l'=false/\t.kind=2))->K hv4:=by
  intro q
  rw[if_neg q]at hl
  refine callMust (fun q3=>?_) fun q3=>⟨_,?_,rfl,Q4.fr⟩
  rotate_left
  ·have h3:¬t.kind=3:=fun z=>by rw[z]at q3;cases q3
   rw[hl]
   simp[G.must,h3]
  have h3:t.kind=3:=by have:=eq_of_beq q3;omega
  rw[decide_eq_true h3]at hl
  simp only[G.must]at hl
  refine⟨rfl,?_⟩
  refine⟨fun lst hx=>∃x l'' σ3 A3 mo3 mo1 fs1 tfs p,lst=[.pointer p]/\G.key l' t σ2= .ok (x,l'',σ3)/\Sq h C hx (stC gl b s A3 σ3 d++[Ck.fx mo3 fs,Ck.fx mo1 fs1,Ck.fx none tfs])/\
   LvR b l'' (.nilFunc) ov mo3 fs/\TkR b A3 x p mo1 fs1 tfs/\Gr σ2 σ3/\LvB σ3 l''/\TkB σ3 x,?_,?_⟩
  ·refine cnd_f rfl ?_
   have hov:l'= .over:=by
    cases l' with
    | over=>rfl
    | top=>exact absurd lv'.1 (by intro z;cases z)
    | graph d=>obtain⟨_,_,_,_,a,_⟩:=lv';cases a
    | node _ _ _ _=>obtain⟨_,_,_,_,_,a,_⟩:=lv';cases a
    | spot _ _ _=>obtain⟨_,_,_,_,_,a,_⟩:=lv';cases a
    | edge _ _ _ _=>obtain⟨_,_,_,_,_,a,_⟩:=lv';cases a
   subst hov
   exact⟨.none,.over,σ2,A',mo',none,[],[],none,rfl,rfl,fin0 Q4.sy (fun x hx=>.inl (hr1 x hx)) hr2,lv',⟨rfl,rfl,rfl,rfl⟩,Gr.refl _,trivial,trivial⟩
  ·rintro xP hv8 ⟨x,l'',σ3,A3,mo3,mo1,fs1,tfs,p,ep,ek,Q8,lv3,tk,g3,lb3,tb3⟩
   cases ep
   obtain⟨-,-,ri3,-,i3⟩:=(G.key_all hc ri2 hb2.I ni.2.2.1).1 _ ek
   simp only at ri3 i3
   rw[ek]at hl
   simp only[G.Er.bind]at hl
   have Q8':Sq h C hv8 ((stC gl b s A3 σ3 d++[Ck.fx mo1 fs1,Ck.fx none tfs])++[Ck.fx mo3 fs]):=Q8.pick [0,1,2,3,4,5,6,8,9,7] rfl
   have HA:Hp hv8 (stC gl b s A3 σ3 d++[Ck.fx mo1 fs1,Ck.fx none tfs]):=(Q8.pick [0,1,2,3,4,5,6,8,9] rfl).hp
   have hun:G.value s rd cl (G.list s rd cl k) x d σ3≠ .un:=by
    intro z
    rw[hl,z]at hu
    exact hu rfl
   refine callP_of _ (okValue hr hcl hs (IH k (by omega)) x d σ3 A3 hv8 xP mo1 fs1 tfs HA tk ri3 tb3 hd hun) (by simp) (fun _ _ r=>by obtain⟨_,_,_,_,z,_⟩:=r;exact z.fr) (fun _ _ r=>by obtain⟨_,_,_,z⟩:=r;exact z) (fun w hv9 r=>?_) fun w hv9 r=>?_
   ·obtain ⟨σ4,A4,q1,rfl,q2,q3⟩:=r
    have Q9:Sq h C hv9 (stC gl b s A4 σ4 d++[Ck.fx mo3 fs]):=Sq.call Q8' q2
    obtain⟨ri4,-,i4⟩:=(G.value_all hc (fun l d σ=>G.list_all (rd:=rd) hc k l d σ) ri3 tb3.I).1 _ q1
    rw[q1]at hl
    refine⟨rfl,⟨k,l'',σ4,A4,mo3,Q9,lv3,(LvR.tops lv' lv3).trans ht,ri4,lb3.gr q3,(g2.trans g3).trans q3,by omega,hl⟩,?_⟩
    have m9:hcell hv9 b 1=some (.int .i64 (σ4.i:Int)):=Q9.sy.cellO 0 rfl 1 rfl
    dsimp only
    rw[m9,m0]
    have k0:σ'.i<i:=ni.2.2.2 (by omega)
    have:=ri4.i
    show s.size-(σ4.i:Int).toNat<s.size-(σ'.i:Int).toNat
    omega
   ·obtain ⟨f,q1,rfl,q2⟩:=r
    rw[q1]at hl
    exact⟨f,hl,rfl,Q8'.frA q2⟩
 rcases htl with htl | htl
 ·rw [htl]at ht ⊢
  refine cnd_t rfl (cnd_eq (fun q=>ret (.inl ⟨ht,by omega⟩)) fun q=>cnd_f rfl (kk ?_))
  rintro(⟨_,z⟩ | ⟨z,_⟩)
  ·omega
  ·rw [ht]at z;cases z
 ·rw [htl]at ht ⊢
  refine cnd_f rfl (cnd_t rfl (cnd_eq (fun q=>ret (.inr ⟨ht,by omega⟩)) fun q=>kk ?_))
  rintro(⟨z,_⟩ | ⟨_,z⟩)
  ·rw [ht]at z;cases z
  ·omega
theorem okList (hr:RdOK rd gl) (hc:G.ClOK cl) (hcl:ClFn cl) (hs:s.size<=262144) (n:Nat):ListC gl b s rd cl n:=by
 induction n using Nat.strongRecOn with
 | _ n IH=>
  intro l d σ A h kv ov mo fs H lv ri hb hd hu
  cases kv with
  | func kF kX kY=>exact okListF hr hc hcl hs IH l d σ A h kF kX kY ov mo fs H lv ri hb hd hu
  | nilFunc=>exact okListN hr hc hcl hs IH l d σ A h ov mo fs H lv ri hb hd hu
  | _=>
   exfalso
   cases l with
   | over=>exact absurd lv.1 (by intro z;cases z)
   | top=>exact absurd lv.1 (by intro z;cases z)
   | graph d=>obtain⟨_,_,_,_,a,_⟩:=lv;cases a
   | node _ _ _ _=>obtain⟨_,_,_,_,_,a,_⟩:=lv;cases a
   | spot _ _ _=>obtain⟨_,_,_,_,_,a,_⟩:=lv;cases a
   | edge _ _ _ _=>obtain⟨_,_,_,_,_,a,_⟩:=lv;cases a
end
end Go.Proofs.YtlflalecmhgmjaaGreatDoor.N
namespace Go.Proofs.YtlflalecmhgmjaaGreatDoor.G
def EA (σ:Rd):Prop:=(∀t∈σ.ends,t.says.size<=16)/\(σ.ids.map (·.1)).Nodup
def Er.al {α:Type} (x:Er α) (P:α->Prop):Prop:=∀a,x= .ok a->P a
theorem Er.al_ok {α:Type} {a:α} {P:α->Prop} (h:P a):(Er.ok a).al P:=fun b e=>by cases e;exact h
theorem Er.al_no {α:Type} {f:F} {P:α->Prop}:(Er.no f:Er α).al P:=fun b e=>by cases e
theorem Er.al_un {α:Type} {P:α->Prop}:(Er.un:Er α).al P:=fun b e=>by cases e
theorem Er.al_bind {α β:Type} {x:Er α} {k:α->Er β} {P:α->Prop} {Q:β->Prop} (h:x.al P) (hk:∀a,P a->(k a).al Q):(x.bind k).al Q:=by
 cases x with
 | ok a=>exact hk a (h a rfl)
 | no f=>exact Er.al_no
 | un=>exact Er.al_un
theorem Er.al_must {α:Type} {b:Bool} {f:F} {k:Er α} {P:α->Prop} (h:k.al P):(must b f k).al P:=by
 cases b
 ·exact Er.al_no
 ·exact h
theorem Er.al_mustT {α:Type} {b:Bool} {f:F} {k:Er α} {P:α->Prop} (h:b=true->k.al P):(must b f k).al P:=by
 cases b
 ·exact Er.al_no
 ·exact h rfl
theorem Er.al_any {α:Type} {x:Er α}:x.al fun _=>True:=fun _ _=>trivial
variable {s:ByteArray} {rd:ByteArray->Option (Nat × Nat)} {cl:Nat->Nat}
theorem key_ea {l:Lv} {t:Tok} {σ:Rd} (h:EA σ):(key l t σ).al fun x=>EA x.2.2:=by
 have h2:EA {σ with ends:=σ.ends++[⟨0,0,noB,0⟩,⟨0,0,noB,0⟩],weights:=σ.weights++[4607182418800017408]}:=by
  refine⟨fun t ht=>?_,h.2⟩
  simp only[List.mem_append,List.mem_cons,List.not_mem_nil,or_false]at ht
  rcases ht with ht | rfl | rfl
  ·exact h.1 t ht
  ·exact Nat.zero_le _
  ·exact Nat.zero_le _
 unfold key
 repeat' split
 all_goals first | exact Er.al_ok h | exact Er.al_must (Er.al_ok h) | exact Er.al_must (Er.al_ok h2)
theorem whole_len {l:List UInt8} {n:Int} (h:whole l=some n):l.length<=16:=by
 have hd:∀{ng:Bool} {r:List UInt8},wholeD ng r=some n->r.length<=10:=by
  intro ng r q
  unfold wholeD at q
  split at q
  ·cases q
  ·rename_i z;simp only[not_or]at z;omega
 unfold whole at h
 split at h
 ·have:=hd h;simp;omega
 ·have:=hd h;omega
theorem take_ea {x:Tk} {v:Tok} {σ:Rd} (h:EA σ):(take cl x v σ).al EA:=by
 unfold take
 split
 ·exact Er.al_must (Er.al_ok h)
 ·split
  ·rename_i n _
   refine Er.al_mustT fun q=>Er.al_ok ⟨h.1,?_⟩
   rw[Bool.not_eq_true']at q
   rw[List.any_eq_false]at q
   simp only[List.map_append,List.map_cons,List.map_nil]
   rw[List.nodup_append]
   refine⟨h.2,by simp,fun a ha b hb e=>?_⟩
   subst e
   simp only[List.mem_singleton]at hb
   obtain⟨w,h1,h2⟩:=List.mem_map.1 ha
   exact q w h1 (by rw[h2,hb];simp)
  ·exact Er.al_no
 ·exact Er.al_must (Er.al_must (Er.al_ok h))
 ·exact Er.al_ok h
 ·split
  ·rename_i n q
   refine Er.al_ok ⟨fun t ht=>?_,h.2⟩
   rcases List.mem_or_eq_of_mem_set ht with ht | rfl
   ·exact h.1 t ht
   ·have:=whole_len q
    exact this
  ·exact Er.al_no
 ·exact Er.al_ok h
 ·exact Er.al_ok h
theorem behind_ea {l:Lv} {e:Nat} {σ:Rd} (h:EA σ):(behind l e σ).al EA:=by
 unfold behind
 split<;>first | exact Er.al_must (Er.al_ok h) | exact Er.al_ok h
theorem value_ea {L:Lv->Nat->Rd->Er (Nat × Lv × Rd)} (hL:∀l d σ,EA σ->(L l d σ).al fun x=>EA x.2.2) {x:Tk} {d:Nat} {σ:Rd} (h:EA σ):(value s rd cl L x d σ).al EA:=by
 unfold value
 refine Er.al_bind Er.al_any ?_
 rintro⟨v0,i⟩-
 refine Er.al_bind Er.al_any fun v _=>Er.al_must (Er.al_must ?_)
 split
 ·split
  ·exact Er.al_bind (hL _ _ _ h) fun a ha=>behind_ea ha
  ·exact Er.al_bind (hL _ _ _ h) fun a ha=>Er.al_ok ha
 ·exact take_ea h
theorem list_ea :∀(n:Nat) (l:Lv) (d:Nat) (σ:Rd),EA σ->(list s rd cl n l d σ).al fun x=>EA x.2.2:=by
 intro n
 induction n with
 | zero=>intro l d σ h;exact Er.al_un
 | succ n ih=>
  intro l d σ h
  rw[list]
  refine Er.al_bind Er.al_any ?_
  rintro⟨t,i⟩-
  dsimp only
  split
  ·exact Er.al_ok h
  ·refine Er.al_must (Er.al_bind (key_ea h) ?_)
   rintro⟨x,l',r1⟩ h1
   exact Er.al_bind (value_ea ih h1) fun r2 h2=>ih l' d r2 h2
theorem edges_step {ids:List (Int × Nat)} {ts:List Tok} {k:Nat} (h:2*k+1<ts.length):
  edges ids (ts.drop (2*k))=(endOf ids ts[2*k]).bind fun x=>(endOf ids ts[2*k+1]).bind fun y=>(edges ids (ts.drop (2*(k+1)))).bind fun l=>.ok ((x,y)::l):=by
 rw[List.drop_eq_getElem_cons (by omega:2*k<ts.length),List.drop_eq_getElem_cons (by omega:2*k+1<ts.length),edges]
 rfl
def readL (rd:ByteArray->Option (Nat × Nat)) (cl:Nat->Nat) (s:ByteArray):Er Dc:=
 (list s rd cl (s.size+1) .top 0 start).bind fun(e,_,r)=>must r.graph (e,14) <| (edges r.ids r.ends).bind fun es=>
  .ok ⟨r.n,r.dir,es,if r.h0=true then r.labels else [],if r.h1=true then r.spots else [],if r.h2=true then r.weights else []⟩
theorem read_eq :read rd cl s=must (decide (s.size<=262144)) (0,23) (readL rd cl s):=rfl
end Go.Proofs.YtlflalecmhgmjaaGreatDoor.G
