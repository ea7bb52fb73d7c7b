/- The reader's state, its levels and takers in memory. Conditions: none. -/
import Derived.Test.YtemclecmafjjfaaGreatDoorHOnce
set_option linter.unusedVariables false
set_option linter.unusedSimpArgs false
namespace Go.X
theorem Sy.two {h0 h:ab} {M:List Nat} {X:List Ck} {a c:Ck} (Y:Sy h0 M h (X++[a])) (Z:Sy h0 M h (X++[c])) (ho:c.own=[]) (ha:∀b∈a.own,b∉c.rd):Sy h0 M h (X++[a,c]):=by
 have last:∀{k:Nat} {d:Ck},(X++[a,c])[k]? =some d->(X++[a])[k]? =some d\/(k=X.length+1/\d=c):=by
  intro k d hk
  rcases dq hk with hk | ⟨hl,hk⟩
  ·exact .inl (fH hk)
  ·obtain⟨j,e⟩:∃j,k=X.length+j:=⟨k-X.length,by omega⟩
   subst e
   simp only[Nat.add_sub_cancel_left]at hk
   match j,hk with
   | 0,hk=>exact .inl (by simp at hk;subst hk;simp)
   | 1,hk=>exact .inr ⟨rfl,by simpa using hk.symm⟩
   | j+2,hk=>simp at hk
 have zl:(X++[c])[X.length]? =some c:=by simp
 have vs:∀{k:Nat} {d:Ck},(X++[a])[k]? =some d->Ap d c:=by
  intro k d hk b hb
  refine⟨by simp[ho],fun x=>?_⟩
  rcases dq hk with hk | ⟨hl,hk⟩
  ·exact(Z.hp.ap k X.length d c (by have:=(List.getElem?_eq_some_iff.1 hk).1;omega) (fH hk) zl b hb).2 x
  ·have e:d=a:=by
    cases q:k-X.length with
    | zero=>rw[q]at hk;simpa using hk.symm
    | succ n=>rw[q]at hk;simp at hk
   subst e
   exact ha b hb x
 refine⟨Y.fr,⟨fun k d hk=>?_,fun i j d e hij hi hj=>?_⟩,fun k d hk b hb=>?_⟩
 ·rcases last hk with hk | ⟨_,rfl⟩
  ·exact Y.hp.ok k d hk
  ·exact Z.hp.ok _ _ zl
 ·rcases last hi with hi2 | ⟨e1,e1'⟩
  ·rcases last hj with hj2 | ⟨e2,e2'⟩
   ·exact Y.hp.ap i j d e hij hi2 hj2
   ·subst e2';exact vs hi2
  ·subst e1';intro b hb;rw[ho]at hb;cases hb
 ·rcases last hk with hk | ⟨_,rfl⟩
  ·exact Y.ow k d hk b hb
  ·rw[ho]at hb;cases hb
end Go.X
namespace Go.Proofs.YtemclecmafjjfaaGreatDoor.N
open Go.Proofs.YtemclecmafjjfaaGreatDoor
open Go.X
set_option maxRecDepth 100000
def eT :En G.Tok:=⟨4,DT,by decide,fun _=>rfl,fun t v h=>by simp[DT]at h;rcases h with rfl | rfl | rfl | rfl<;>rfl⟩
structure AD where
 mp:Nat
 aL:Option Addr
 cL:Nat
 aS:Option Addr
 cS:Nat
 aW:Option Addr
 cW:Nat
 aE:Option Addr
 cE:Nat
def gY (l:List (Int × Nat)):List (Value × Value):=l.map fun p=>(.int .i64 p.1,.int .i64 (p.2:Int))
def rc (s:ByteArray) (A:AD) (σ:G.Rd) (d:Nat):List Value:=
 [.string s,.int .i64 (σ.i:Int),.int .i64 (d:Int),.int .i64 (σ.n:Int),.slice none 0 0,.bool σ.dir,.slice none 0 0,.slice none 0 0,.slice none 0 0,.bool σ.graph,.map (some A.mp),
  .slice A.aL σ.labels.length A.cL,.slice A.aS σ.spots.length A.cS,.slice A.aW σ.weights.length A.cW,.bool σ.h0,.bool σ.h1,.bool σ.h2,.slice A.aE σ.ends.length A.cE]
def stC (gl:GL) (b:Nat) (s:ByteArray) (A:AD) (σ:G.Rd) (d:Nat):List Ck:=
 [Ck.ob b 67 (rc s A σ d),Ck.mp A.mp (gY σ.ids),Ck.sl eS 9 A.aL σ.labels.length A.cL σ.labels,Ck.sl eFF 71 A.aS σ.spots.length A.cS σ.spots,Ck.sl eF 54 A.aW σ.weights.length A.cW σ.weights,
  Ck.sl eT 97 A.aE σ.ends.length A.cE σ.ends,Ck.glob gl]
def kts :G.Lv->List (List UInt8 × Bool)
 | .graph d=>[(G.cr,d)]
 | .node _ a b c=>[(G.kId,a),(G.dj,b),(G.aZ,c)]
 | .spot _ a b=>[(G.kX,a),(G.kY,b)]
 | .edge _ a b c=>[(G.bc,a),(G.bi,b),(G.cb,c)]
 | _=>[]
def Seen (l:G.Lv) (ks:List (List UInt8)):Prop:=ks.Nodup/\∀k,k∈ks ↔ (k,true)∈kts l
abbrev pt (b:Nat):Value:=.pointer (some ⟨b,0,none⟩)
abbrev fnV (n:Nat) (c:Array Value):Value:=.func (.func n) #[] c
def LvR (b:Nat) (l:G.Lv) (kv ov:Value) (mo:Option (Nat × List (List UInt8))) (fs:Fs):Prop:=
 match l with
 | .over=>kv= .nilFunc/\mo=none/\fs=[]
 | .top=>kv= .func (.func 49) #[pt b] #[]/\mo=none/\fs=[]
 | .graph _=>∃xR xM m ks,kv=fnV 69 #[pt xR,pt xM]/\ov=fnV 68 #[]/\mo=some (m,ks)/\Seen l ks/\fs=[(xR,0,pt b),(xM,0,.map (some m))]
 | .node v _ _ _=>∃xM xR xV m ks,kv=fnV 132 #[pt xM,pt xR,pt xV]/\ov=fnV 136 #[pt xM]/\mo=some (m,ks)/\Seen l ks/\fs=[(xM,0,.map (some m)),(xR,0,pt b),(xV,0,.int .i64 (v:Int))]
 | .spot v _ _=>∃xM xR xV m ks,kv=fnV 176 #[pt xM,pt xR,pt xV]/\ov=fnV 68 #[]/\mo=some (m,ks)/\Seen l ks/\fs=[(xM,0,.map (some m)),(xR,0,pt b),(xV,0,.int .i64 (v:Int))]
 | .edge k _ _ _=>∃xM xK xR m ks,kv=fnV 137 #[pt xM,pt xK,pt xR]/\ov=fnV 141 #[pt xM]/\mo=some (m,ks)/\Seen l ks/\fs=[(xM,0,.map (some m)),(xK,0,.int .i64 (k:Int)),(xR,0,pt b)]
def TkR (b:Nat) (A:AD) (x:G.Tk) (p:Option Addr) (mo:Option (Nat × List (List UInt8))) (fs tfs:Fs):Prop:=
 match x with
 | .none=>p=none/\mo=none/\fs=[]/\tfs=[]
 | .list l=>∃t kf kc ov,p=some ⟨t,0,none⟩/\LvR b l (fnV kf kc) ov mo fs/\tfs=[(t,0,.int .i64 1),(t,2,fnV kf kc),(t,3,ov)]
 | .dir=>∃t xR,p=some ⟨t,0,none⟩/\mo=none/\fs=[]/\tfs=[(t,0,.int .i64 4),(t,1,fnV 99 #[pt xR]),(xR,0,pt b)]
 | .id v=>∃t xR xV,p=some ⟨t,0,none⟩/\mo=none/\fs=[]/\tfs=[(t,0,.int .i64 4),(t,1,fnV 133 #[pt xR,pt xV]),(xR,0,pt b),(xV,0,.int .i64 (v:Int))]
 | .label v=>∃t xR xV,p=some ⟨t,0,none⟩/\mo=none/\fs=[]/\tfs=[(t,0,.int .i64 5),(t,1,fnV 134 #[pt xR,pt xV]),(xR,0,pt b),(xV,0,.int .i64 (v:Int))]
 | .spot v y=>∃t xP xR g,p=some ⟨t,0,none⟩/\mo=none/\fs=[]/\A.aS=some ⟨g,0,none⟩/\tfs=[(t,0,.int .i64 4),(t,1,fnV 177 #[pt xP,pt xR]),(xR,0,pt b),(xP,0,.pointer (some ⟨g,v*2+y.toNat,none⟩))]
 | .fin k=>∃t xR xT,p=some ⟨t,0,none⟩/\mo=none/\fs=[]/\tfs=[(t,0,.int .i64 4),(t,1,fnV 138 #[pt xR,pt xT]),(xR,0,pt b),(xT,0,.int .i64 (k:Int))]
 | .weight k=>∃t xR xK,p=some ⟨t,0,none⟩/\mo=none/\fs=[]/\tfs=[(t,0,.int .i64 4),(t,1,fnV 139 #[pt xR,pt xK]),(xR,0,pt b),(xK,0,.int .i64 (k:Int))]
def LvB (σ:G.Rd):G.Lv->Prop
 | .node v _ _ _=>v<σ.n
 | .spot v _ _=>v<σ.n
 | .edge k _ _ _=>k+1<σ.ends.length/\k/2<σ.weights.length
 | _=>True
def TkB (σ:G.Rd):G.Tk->Prop
 | .id v=>v<σ.n
 | .label v=>v<σ.n
 | .spot v _=>v<σ.n
 | .fin k=>k<σ.ends.length
 | .weight k=>k/2<σ.weights.length
 | .list l=>LvB σ l
 | _=>True
structure Gr (σ σ':G.Rd):Prop where
 n:σ.n<=σ'.n
 e:σ.ends.length<=σ'.ends.length
 w:σ.weights.length<=σ'.weights.length
theorem Gr.refl (σ:G.Rd):Gr σ σ:=⟨Nat.le_refl _,Nat.le_refl _,Nat.le_refl _⟩
theorem Gr.trans {a b c:G.Rd} (x:Gr a b) (y:Gr b c):Gr a c:=⟨Nat.le_trans x.n y.n,Nat.le_trans x.e y.e,Nat.le_trans x.w y.w⟩
theorem LvB.gr {σ σ':G.Rd} {l:G.Lv} (h:LvB σ l) (g:Gr σ σ'):LvB σ' l:=by
 have:=g.n;have:=g.e;have:=g.w
 cases l<;>simp only[LvB]at h ⊢ <;>omega
section
variable {gl:GL} {b d:Nat} {s:ByteArray} {A:AD} {σ:G.Rd}
theorem oe {h h3:ab} {C rest:List Ck} {mo mo1:Option (Nat × List (List UInt8))} {fs fs1 tfs:Fs} (Y:Sy h (ao C) h3 (stC gl b s A σ d++Ck.fx mo fs::rest))
  (hl:∀x∈fs.map (·.1),x∈rds C\/h.size<=x) (hg:∀x∈glB gl,x∈rds C)
  (hm:∀p:Nat × List (List UInt8),mo1=some p->∃k:Nat,rest[k]? =some (Ck.mp p.1 (ek p.2)))
  (hf1:∀f∈fs1,ac h3 f.1 f.2.1=some f.2.2/\(f.1∈fs.map (·.1)\/(h.size<=f.1/\∃(k:Nat) (ty:TypeId) (vs:List Value),rest[k]? =some (Ck.ob f.1 ty vs))))
  (hf2:∀f∈tfs,ac h3 f.1 f.2.1=some f.2.2/\(f.1∈fs.map (·.1)\/(h.size<=f.1/\∃(k:Nat) (ty:TypeId) (vs:List Value),rest[k]? =some (Ck.ob f.1 ty vs)))):
  Sq h C h3 (stC gl b s A σ d++[Ck.fx mo fs,Ck.fx mo1 fs1,Ck.fx none tfs]):=by
 have hc:fT (stC gl b s A σ d++Ck.fx mo fs::rest).length [0,1,2,3,4,5,6,7]=true:=by
  simp[fT,stC]
  decide
 have at8:∀{k:Nat} {c:Ck},rest[k]? =some c->(stC gl b s A σ d++Ck.fx mo fs::rest)[k+8]? =some c:=by
  intro k c hk
  show(_::_::_::_::_::_::_::_::rest:List Ck)[k+8]? =some c
  simpa using hk
 have nin:∀k,k+8∉[0,1,2,3,4,5,6,7]:=by intro k;simp
 have conv:∀{g:Fs},(∀f∈g,ac h3 f.1 f.2.1=some f.2.2/\(f.1∈fs.map (·.1)\/(h.size<=f.1/\∃(k:Nat) (ty:TypeId) (vs:List Value),rest[k]? =some (Ck.ob f.1 ty vs))))->
   ∀f∈g,ac h3 f.1 f.2.1=some f.2.2/\∃(k:Nat) (c:Ck),(stC gl b s A σ d++Ck.fx mo fs::rest)[k]? =some c/\((f.1∈c.own/\k∉[0,1,2,3,4,5,6,7])\/(f.1∈c.rd/\∃mo fs,c=Ck.fx mo fs)):=by
  intro g hg f hf
  obtain⟨h1,h2⟩:=hg f hf
  refine⟨h1,?_⟩
  rcases h2 with h2 | ⟨_,k,ty,vs,h2⟩
  ·exact⟨7,Ck.fx mo fs,rfl,.inr ⟨h2,mo,fs,rfl⟩⟩
  ·exact⟨k+8,_,at8 h2,.inl ⟨by simp[Ck.ob],nin k⟩⟩
 have Z1:Sy h (ao C) h3 ((stC gl b s A σ d++[Ck.fx mo fs])++[Ck.fx mo1 fs1]):=Y.cutF [0,1,2,3,4,5,6,7] hc mo1 fs1 (fun p hp=>by
  obtain⟨k,h1⟩:=hm p hp
  exact⟨k+8,at8 h1,nin k⟩) (conv hf1)
 have Z2:Sy h (ao C) h3 ((stC gl b s A σ d++[Ck.fx mo fs])++[Ck.fx none tfs]):=Y.cutF [0,1,2,3,4,5,6,7] hc none tfs (fun p hp=>by cases hp) (conv hf2)
 have Z:Sy h (ao C) h3 ((stC gl b s A σ d++[Ck.fx mo fs])++[Ck.fx mo1 fs1,Ck.fx none tfs]):=Sy.two Z1 Z2 rfl (by
  intro x hx q
  cases mo1 with
  | none=>simp[Ck.fx]at hx
  | some p=>
   simp only[Ck.fx,Option.map_some,Option.toList_some,List.mem_singleton]at hx
   subst hx
   obtain⟨f,h1,h2⟩:=List.mem_map.1 (show p.1∈tfs.map (·.1)from q)
   obtain⟨k,h3⟩:=hm p rfl
   have:=Y.mapM _ (at8 h3)
   exact ji this (hf2 f h1).1 h2.symm)
 refine⟨Z,fun x hx=>?_⟩
 have inl:∀{g:Fs},(∀f∈g,ac h3 f.1 f.2.1=some f.2.2/\(f.1∈fs.map (·.1)\/(h.size<=f.1/\∃(k:Nat) (ty:TypeId) (vs:List Value),rest[k]? =some (Ck.ob f.1 ty vs))))->x∈g.map (·.1)->x∈rds C\/x∈ao C\/h.size<=x:=by
  intro g hg hx
  obtain⟨f,h1,rfl⟩:=List.mem_map.1 hx
  rcases(hg f h1).2 with q | q
  ·exact(hl _ q).imp id .inr
  ·exact .inr (.inr q.1)
 have:x∈glB gl\/x∈fs.map (·.1)\/x∈fs1.map (·.1)\/x∈tfs.map (·.1):=by
  simpa[rds,stC,Ck.ob,Ck.mp,Ck.sl,Ck.glob,Ck.fx]using hx
 rcases this with q | q | q | q
 ·exact .inl (hg x q)
 ·exact(hl x q).imp id .inr
 ·exact inl hf1 q
 ·exact inl hf2 q
end
def kR (gl:GL) (b d:Nat) (s:ByteArray) (C:List Ck) (h:ab) (l:G.Lv) (t:G.Tok) (σ:G.Rd) (kv ov:Value) (fs:Fs) (v:Value) (h':ab):Prop:=
 ∃x l' σ' A' mo' mo1 fs1 tfs p,G.key l t σ= .ok (x,l',σ')/\v= .pointer p/\Sq h C h' (stC gl b s A' σ' d++[Ck.fx mo' fs,Ck.fx mo1 fs1,Ck.fx none tfs])/\
  LvR b l' kv ov mo' fs/\TkR b A' x p mo1 fs1 tfs/\Gr σ σ'/\LvB σ' l'/\TkB σ' x
def kE (C:List Ck) (h:ab) (l:G.Lv) (t:G.Tok) (σ:G.Rd) (v:Value) (h':ab):Prop:=∃f,G.key l t σ= .no f/\v=flt f/\Fr (ao C) h h'
theorem dK {l l':G.Lv} {ks:List (List UInt8)} {k:List UInt8} (h:Seen l ks) (hk:k∉ks) (hl:∀k',(k',true)∈kts l' ↔ ((k',true)∈kts l\/k'=k)):Seen l' (ks++[k]):=by
 refine⟨?_,fun k'=>?_⟩
 ·rw[List.nodup_append]
  exact⟨h.1,by simp,fun a ha b hb=>by simp at hb;subst hb;exact fun e=>hk (e▸ha)⟩
 ·rw[hl,List.mem_append,h.2];simp
section
variable {gl:GL} {b d:Nat} {s:ByteArray} {A:AD} {σ:G.Rd}
theorem vQ {mo:Option (Nat × List (List UInt8))} {fs:Fs}:(∀x∈fs.map (·.1),x∈rds (stC gl b s A σ d++[Ck.fx mo fs]))/\∀x∈glB gl,x∈rds (stC gl b s A σ d++[Ck.fx mo fs]):=by
 constructor
 ·intro x hx
  exact cd.2 ⟨7,_,rfl,hx⟩
 ·intro x hx
  exact cd.2 ⟨6,_,rfl,hx⟩
theorem yT {h h3:ab} {C:List Ck} {mo:Option (Nat × List (List UInt8))} {fs:Fs} (Y:Sy h (ao C) h3 (stC gl b s A σ d++[Ck.fx mo fs]))
  (hl:∀x∈fs.map (·.1),x∈rds C\/h.size<=x) (hg:∀x∈glB gl,x∈rds C):Sq h C h3 (stC gl b s A σ d++[Ck.fx mo fs,Ck.fx none [],Ck.fx none []]):=
 oe (rest:=[]) Y hl hg (fun p hp=>by cases hp) (fun f hf=>by cases hf) (fun f hf=>by cases hf)
theorem He {cl:Nat->Nat} {v:Nat} {x y:Bool} {t:G.Tok} {kv ov:Value} {mo:Option (Nat × List (List UInt8))} {fs:Fs} {h:ab} {xM xR xV m:Nat} {ks:List (List UInt8)}
  (H:Hp h (stC gl b s A σ d++[Ck.fx mo fs])) (ri:G.RI cl s σ) (hb:LvB σ (.spot v x y)) (e1:kv=fnV 176 #[pt xM,pt xR,pt xV]) (e2:ov=fnV 68 #[]) (e3:mo=some (m,ks)) (e4:Seen (.spot v x y) ks)
  (e5:fs=[(xM,0,.map (some m)),(xR,0,pt b),(xV,0,.int .i64 (v:Int))]):
  aB Tryz.prog 176 #[cF t,pt xM,pt xR,pt xV] h (kR gl b d s (stC gl b s A σ d++[Ck.fx mo fs]) h (.spot v x y) t σ kv ov fs) (kE (stC gl b s A σ d++[Ck.fx mo fs]) h (.spot v x y) t σ):=by
 generalize hC:stC gl b s A σ d++[Ck.fx mo fs]=C at H ⊢
 have Y0:Sy h (ao C) h (stC gl b s A σ d++[Ck.fx mo fs]):=by rw[hC];exact Sy.start H
 obtain⟨hr1,hr2⟩:=vQ (gl:=gl) (b:=b) (s:=s) (A:=A) (σ:=σ) (d:=d) (mo:=mo) (fs:=fs)
 rw[hC]at hr1 hr2
 unfold cF
 apply Bc
 unfold Kj
 have ex:(t.says.toList==(⟨#[120]⟩:ByteArray).toList)=decide (t.l=G.kX):=cH
 have ey:(t.says.toList==(⟨#[121]⟩:ByteArray).toList)=decide (t.l=G.kY):=cH
 rw[ex,ey]
 intro hv
 have Y1:Sy h (ao C) hv (stC gl b s A σ d++[Ck.fx mo fs]):=Y0.gr (Fr.push h _)
 have s1:hv.size=h.size+1:=by simp[hv]
 clear_value hv
 intro K
 have go:∀(c:Bool),t.l=(if c=true then G.kY else G.kX)->K hv:=by
  intro c hc
  subst e3
  have hn:=Y1.mapF 7 rfl
  have hml:m<h.size:=iA (Y0.mapF 7 rfl)
  have hbn:v<σ.n:=hb
  have hsl:=ri.sl
  refine⟨xM,0,rfl,some m,Y1.factF 7 rfl 0 (by rw[e5];rfl),?_⟩
  refine aK [m] (JC hn e4.1) (by simp;omega) (fun _ _ r=>r.2.2.1) (fun _ _ r=>r.2.2) (fun v2 hv3 r=>?_) fun v2 hv3 r=>?_
  ·obtain⟨r1,rfl,f3,hm3⟩:=r
   have Y3:Sy h (ao C) hv3 (stC gl b s A σ d++[Ck.fx (some (m,ks++[t.l])) fs]):=Y1.seeF 7 rfl f3 hm3
   have s3:hv.size<=hv3.size:=f3.size
   obtain⟨g,hg,-,-⟩:=Y3.atS 3 rfl (i:=(v:Int)) (by omega) (by omega)
   refine⟨rfl,xR,0,rfl,_,Y3.factF 7 rfl 1 (by rw[e5];rfl),b,0,rfl,A.aS,σ.spots.length,A.cS,Y3.cellO 0 rfl 12 rfl,xV,0,rfl,(v:Int),Y3.factF 7 rfl 2 (by rw[e5];rfl),g,0,hg,by omega,by omega,?_⟩
   intro hv4
   have Y4:Sy h (ao C) hv4 (stC gl b s A σ d++[Ck.fx (some (m,ks++[t.l])) fs,Ck.ob hv3.size 208 [.pointer none]]):=Y3.newO [.pointer none]
   have s4:hv4.size=hv3.size+1:=by simp[hv4]
   refine⟨Fr.push _ _,by omega,⟨_,Y4.cellO 8 rfl 0 rfl⟩,Y4.freeO 8 rfl 0,?_⟩
   intro hv5
   have Y5:Sy h (ao C) hv5 (stC gl b s A σ d++[Ck.fx (some (m,ks++[t.l])) fs,Ck.ob hv3.size 208 [.pointer (some ⟨g,0+(v:Int).toNat*2,none⟩)]]):=Y4.stO 8 rfl 0 _
   have s5:hv5.size=hv3.size+1:=by simp[hv5,s4]
   clear_value hv5
   clear_value hv4
   refine⟨fun _ h'=>Sy h (ao C) h' (stC gl b s A σ d++[Ck.fx (some (m,ks++[t.l])) fs,Ck.ob hv3.size 208 [.pointer (some ⟨g,v*2+c.toNat,none⟩)]]),?_,?_⟩
   ·refine ag (fun q=>?_) fun q=>?_
    ·have hc1:c=true:=by
      cases c with
      | true=>rfl
      | false=>rw[hc]at q;exact absurd q (by decide)
     subst hc1
     refine⟨xR,0,rfl,_,Y5.factF 7 rfl 1 (by rw[e5];rfl),b,0,rfl,A.aS,σ.spots.length,A.cS,Y5.cellO 0 rfl 12 rfl,xV,0,rfl,(v:Int),Y5.factF 7 rfl 2 (by rw[e5];rfl),g,0,hg,by omega,by omega,by omega,⟨_,Y5.cellO 8 rfl 0 rfl⟩,Y5.freeO 8 rfl 0,?_⟩
     have Y6:=Y5.stO 8 rfl 0 (.pointer (some ⟨g,((0+(v:Int).toNat*2)+1),none⟩))
     have eo:(0+(v:Int).toNat*2)+1=v*2+true.toNat:=by simp
     rw[eo]at Y6 ⊢
     exact Y6
    ·have hc1:c=false:=by
      cases c with
      | false=>rfl
      | true=>exact absurd hc q
     subst hc1
     have eo:0+(v:Int).toNat*2=v*2+false.toNat:=by simp
     rw[eo]at Y5
     exact Y5
   ·intro hv7 Y7 hv8
    have Y8:Sy h (ao C) hv8 (stC gl b s A σ d++[Ck.fx (some (m,ks++[t.l])) fs,Ck.ob hv3.size 208 [.pointer (some ⟨g,v*2+c.toNat,none⟩)],
      Ck.ob hv7.size 119 [.int .i64 4,fnV 177 #[pt hv3.size,pt xR],.nilFunc,.nilFunc]]):=Y7.newO [.int .i64 4,fnV 177 #[pt hv3.size,pt xR],.nilFunc,.nilFunc]
    have s7:h.size<=hv7.size:=Y7.le
    have hseen:t.l∉ks:=r1
    refine⟨.spot v c,if c=true then .spot v x true else .spot v true y,σ,A,some (m,ks++[t.l]),none,[],[(hv7.size,0,.int .i64 4),(hv7.size,1,fnV 177 #[pt hv3.size,pt xR]),(xR,0,pt b),(hv3.size,0,.pointer (some ⟨g,v*2+c.toNat,none⟩))],some ⟨hv7.size,0,none⟩,?_,rfl,?_,?_,?_,Gr.refl σ,?_,hbn⟩
    ·cases c with
     | false=>
      have hc:t.l=G.kX:=hc
      have hx:x=false:=by
       cases x with
       | false=>rfl
       | true=>exact absurd ((e4.2 _).2 (by simp[kts,hc])) r1
      subst hx
      simp[G.key,hc,G.az]
     | true=>
      have hc:t.l=G.kY:=hc
      have hx:y=false:=by
       cases y with
       | false=>rfl
       | true=>exact absurd ((e4.2 _).2 (by simp[kts,hc])) r1
      subst hx
      have hne:G.kY≠G.kX:=by decide
      simp[G.key,hc,hne,G.az]
    ·refine oe (rest:=[_,_]) Y8 (fun x hx=>.inl (hr1 x hx)) hr2 (fun p hp=>by cases hp) (fun f hf=>by cases hf) fun f hf=>?_
     simp only[List.mem_cons,List.not_mem_nil,or_false]at hf
     rcases hf with rfl | rfl | rfl | rfl
     ·exact⟨Y8.cellO 9 rfl 0 rfl,.inr ⟨s7,1,119,_,rfl⟩⟩
     ·exact⟨Y8.cellO 9 rfl 1 rfl,.inr ⟨s7,1,119,_,rfl⟩⟩
     ·exact⟨Y8.factF 7 rfl 1 (by rw[e5];rfl),.inl (by rw[e5];simp)⟩
     ·exact⟨Y8.cellO 8 rfl 0 rfl,.inr ⟨by show h.size<=hv3.size;omega,0,208,_,rfl⟩⟩
    ·cases c with
     | false=>
      have hc:t.l=G.kX:=hc
      exact⟨xM,xR,xV,m,ks++[t.l],e1,e2,rfl,dK e4 r1 (fun k'=>by rw[hc];simp[kts]<;>grind),e5⟩
     | true=>
      have hc:t.l=G.kY:=hc
      exact⟨xM,xR,xV,m,ks++[t.l],e1,e2,rfl,dK e4 r1 (fun k'=>by rw[hc];simp[kts]<;>grind),e5⟩
    ·exact⟨hv7.size,hv3.size,xR,g,rfl,rfl,rfl,hg,rfl⟩
    ·cases c<;>exact hbn
  ·obtain⟨r1,rfl,f3⟩:=r
   refine⟨_,?_,rfl,Y1.fr.trans ?_⟩
   ·have:=(e4.2 _).1 r1
    cases c with
    | false=>
     have hc:t.l=G.kX:=hc
     have hx:x=true:=by
      rw[hc]at this
      have hne:G.kX≠G.kY:=by decide
      simpa[kts,hne,Ne.symm hne]using this
     simp[G.key,hc,G.az,hx]
    | true=>
     have hc:t.l=G.kY:=hc
     have hne:G.kY≠G.kX:=by decide
     have hx:y=true:=by
      rw[hc]at this
      simpa[kts,hne,Ne.symm hne]using this
     simp[G.key,hc,hne,G.az,hx]
   ·exact f3.mono fun z hz=>by
     simp only[List.mem_singleton]at hz
     subst hz
     rw[<-hC]
     exact br.2 ⟨7,_,rfl,by simp[Ck.fx]⟩
 refine aV (fun q=>?_) fun q=>?_
 ·refine aV (fun q2=>?_) fun q2=>?_
  ·have q:=of_decide_eq_false q
   have q2:=of_decide_eq_false q2
   refine⟨.none,.spot v x y,σ,A,mo,none,[],[],none,by simp[G.key,q,q2],rfl,yT Y1 (fun x hx=>.inl (hr1 x hx)) hr2,⟨xM,xR,xV,m,ks,e1,e2,e3,e4,e5⟩,⟨rfl,rfl,rfl,rfl⟩,Gr.refl σ,hb,trivial⟩
  ·exact go true (of_decide_eq_true q2)
 ·exact go false (of_decide_eq_true q)
end
theorem qu {h0 hv:ab} {M H:List Nat} {cs:List Ck} {m:Nat} {ks:List (List UInt8)} {fs:Fs} {t:G.Tok} {K E:Value->ab->Prop} (Y:Sy h0 M hv cs) (k:Nat) (hk:cs[k]? =some (Ck.fx (some (m,ks)) fs)) (nd:ks.Nodup) (hH:m∉H)
  (k1:t.l∉ks->∀h',Fr [m] hv h'->Sy h0 M h' (cs.set k (Ck.fx (some (m,ks++[t.l])) fs))->K (.tuple #[]) h') (k2:t.l∈ks->∀h',Fr [m] hv h'->E (flt (t.at_,18)) h'):
  aF Tryz.prog 98 #[.map (some m),cF t] hv H K E:=
 aK [m] (JC (Y.mapF k hk) nd) (fun x hx q=>hH (by simp at q;subst q;exact hx)) (fun _ _ r=>r.2.2.1) (fun _ _ r=>r.2.2)
  (fun v h' r=>by obtain⟨r1,rfl,f,hm⟩:=r;exact k1 r1 h' f (Y.seeF k hk f hm)) fun v h' r=>by obtain⟨r1,rfl,f⟩:=r;exact k2 r1 h' f
section
variable {gl:GL} {b d:Nat} {s:ByteArray} {A:AD} {σ:G.Rd}
theorem frM {h hv h':ab} {C:List Ck} {m:Nat} {ks:List (List UInt8)} {fs:Fs} (hC:stC gl b s A σ d++[Ck.fx (some (m,ks)) fs]=C) (f1:Fr (ao C) h hv) (f:Fr [m] hv h'):Fr (ao C) h h':=
 f1.trans (f.mono fun z hz=>by
  simp only[List.mem_singleton]at hz
  subst hz
  rw[<-hC]
  exact br.2 ⟨7,_,rfl,by simp[Ck.fx]⟩)
theorem Hf {cl:Nat->Nat} {k:Nat} {x y z:Bool} {t:G.Tok} {kv ov:Value} {mo:Option (Nat × List (List UInt8))} {fs:Fs} {h:ab} {xM xR xK m:Nat} {ks:List (List UInt8)}
  (H:Hp h (stC gl b s A σ d++[Ck.fx mo fs])) (ri:G.RI cl s σ) (hb:LvB σ (.edge k x y z)) (e1:kv=fnV 137 #[pt xM,pt xK,pt xR]) (e2:ov=fnV 141 #[pt xM]) (e3:mo=some (m,ks)) (e4:Seen (.edge k x y z) ks)
  (e5:fs=[(xM,0,.map (some m)),(xK,0,.int .i64 (k:Int)),(xR,0,pt b)]):
  aB Tryz.prog 137 #[cF t,pt xM,pt xK,pt xR] h (kR gl b d s (stC gl b s A σ d++[Ck.fx mo fs]) h (.edge k x y z) t σ kv ov fs) (kE (stC gl b s A σ d++[Ck.fx mo fs]) h (.edge k x y z) t σ):=by
 generalize hC:stC gl b s A σ d++[Ck.fx mo fs]=C at H ⊢
 have Y0:Sy h (ao C) h (stC gl b s A σ d++[Ck.fx mo fs]):=by rw[hC];exact Sy.start H
 obtain⟨hr1,hr2⟩:=vQ (gl:=gl) (b:=b) (s:=s) (A:=A) (σ:=σ) (d:=d) (mo:=mo) (fs:=fs)
 rw[hC]at hr1 hr2
 unfold cF
 apply AZ
 unfold Kf
 have ex:(t.says.toList==(⟨#[115,111,117,114,99,101]⟩:ByteArray).toList)=decide (t.l=G.bc):=cH
 have ey:(t.says.toList==(⟨#[116,97,114,103,101,116]⟩:ByteArray).toList)=decide (t.l=G.bi):=cH
 have ez:(t.says.toList==(⟨#[119,101,105,103,104,116]⟩:ByteArray).toList)=decide (t.l=G.cb):=cH
 rw[ex,ey,ez]
 intro hv
 have Y1:Sy h (ao C) hv (stC gl b s A σ d++[Ck.fx mo fs]):=Y0.gr (Fr.push h _)
 have s1:hv.size=h.size+1:=by simp[hv]
 clear_value hv
 intro K
 have n1:G.bi≠G.bc:=by decide
 have n2:G.cb≠G.bc:=by decide
 have n3:G.cb≠G.bi:=by decide
 subst e3
 have hml:m<h.size:=iA (Y0.mapF 7 rfl)
 have hb1:k+1<σ.ends.length:=hb.1
 have hel:=ri.el
 have hwl:=ri.wl
 have go:∀(c:Bool),t.l=(if c=true then G.bi else G.bc)->K true hv:=by
  intro c hc
  refine aO rfl ?_
  refine⟨xM,0,rfl,some m,Y1.factF 7 rfl 0 (by rw[e5];rfl),?_⟩
  refine qu Y1 7 rfl e4.1 (by simp;omega) (fun r1 hv3 f3 Y3=>?_) fun r1 hv3 f3=>?_
  ·have Y3:Sy h (ao C) hv3 (stC gl b s A σ d++[Ck.fx (some (m,ks++[t.l])) fs]):=Y3
   have s3:hv.size<=hv3.size:=f3.size
   refine⟨rfl,xK,0,rfl,(k:Int),Y3.factF 7 rfl 1 (by rw[e5];rfl),?_⟩
   intro hv4
   have Y4:Sy h (ao C) hv4 (stC gl b s A σ d++[Ck.fx (some (m,ks++[t.l])) fs,Ck.ob hv3.size 3 [.int .i64 0]]):=Y3.newO [.int .i64 0]
   have s4:hv4.size=hv3.size+1:=by simp[hv4]
   refine⟨by omega,⟨_,Y4.cellO 8 rfl 0 rfl⟩,Y4.freeO 8 rfl 0,?_⟩
   intro hv5
   have Y5:Sy h (ao C) hv5 (stC gl b s A σ d++[Ck.fx (some (m,ks++[t.l])) fs,Ck.ob hv3.size 3 [.int .i64 (k:Int)]]):=Y4.stO 8 rfl 0 _
   clear_value hv5
   clear_value hv4
   refine⟨fun _ h'=>Sy h (ao C) h' (stC gl b s A σ d++[Ck.fx (some (m,ks++[t.l])) fs,Ck.ob hv3.size 3 [.int .i64 ((k+c.toNat:Nat):Int)]]),?_,?_⟩
   ·refine ag (fun q=>?_) fun q=>?_
    ·have hc1:c=true:=by
      cases c with
      | true=>rfl
      | false=>rw[hc]at q;exact absurd q (by decide)
     subst hc1
     refine⟨xK,0,rfl,(k:Int),Y5.factF 7 rfl 1 (by rw[e5];rfl),by omega,⟨_,Y5.cellO 8 rfl 0 rfl⟩,Y5.freeO 8 rfl 0,?_⟩
     rw[wrN (by omega)]
     exact Y5.stO 8 rfl 0 _
    ·have hc1:c=false:=by
      cases c with
      | false=>rfl
      | true=>exact absurd hc q
     subst hc1
     exact Y5
   ·intro hv7 Y7 hv8
    have Y8:Sy h (ao C) hv8 (stC gl b s A σ d++[Ck.fx (some (m,ks++[t.l])) fs,Ck.ob hv3.size 3 [.int .i64 ((k+c.toNat:Nat):Int)],
      Ck.ob hv7.size 119 [.int .i64 4,fnV 138 #[pt xR,pt hv3.size],.nilFunc,.nilFunc]]):=Y7.newO [.int .i64 4,fnV 138 #[pt xR,pt hv3.size],.nilFunc,.nilFunc]
    have s7:h.size<=hv7.size:=Y7.le
    refine⟨.fin (k+c.toNat),if c=true then .edge k x true z else .edge k true y z,σ,A,some (m,ks++[t.l]),none,[],[(hv7.size,0,.int .i64 4),(hv7.size,1,fnV 138 #[pt xR,pt hv3.size]),(xR,0,pt b),(hv3.size,0,.int .i64 ((k+c.toNat:Nat):Int))],some ⟨hv7.size,0,none⟩,?_,rfl,?_,?_,?_,Gr.refl σ,?_,?_⟩
    ·cases c with
     | false=>
      have hc:t.l=G.bc:=hc
      have hx:x=false:=by
       cases x with
       | false=>rfl
       | true=>exact absurd ((e4.2 _).2 (by simp[kts,hc])) r1
      subst hx
      simp[G.key,hc,G.az]
     | true=>
      have hc:t.l=G.bi:=hc
      have hx:y=false:=by
       cases y with
       | false=>rfl
       | true=>exact absurd ((e4.2 _).2 (by simp[kts,hc])) r1
      subst hx
      simp[G.key,hc,n1,G.az]
    ·refine oe (rest:=[_,_]) Y8 (fun x hx=>.inl (hr1 x hx)) hr2 (fun p hp=>by cases hp) (fun f hf=>by cases hf) fun f hf=>?_
     simp only[List.mem_cons,List.not_mem_nil,or_false]at hf
     rcases hf with rfl | rfl | rfl | rfl
     ·exact⟨Y8.cellO 9 rfl 0 rfl,.inr ⟨s7,1,119,_,rfl⟩⟩
     ·exact⟨Y8.cellO 9 rfl 1 rfl,.inr ⟨s7,1,119,_,rfl⟩⟩
     ·exact⟨Y8.factF 7 rfl 2 (by rw[e5];rfl),.inl (by rw[e5];simp)⟩
     ·exact⟨Y8.cellO 8 rfl 0 rfl,.inr ⟨by show h.size<=hv3.size;omega,0,3,_,rfl⟩⟩
    ·cases c with
     | false=>
      have hc:t.l=G.bc:=hc
      exact⟨xM,xK,xR,m,ks++[t.l],e1,e2,rfl,dK e4 r1 (fun k'=>by rw[hc];simp[kts]<;>grind),e5⟩
     | true=>
      have hc:t.l=G.bi:=hc
      exact⟨xM,xK,xR,m,ks++[t.l],e1,e2,rfl,dK e4 r1 (fun k'=>by rw[hc];simp[kts]<;>grind),e5⟩
    ·exact⟨hv7.size,xR,hv3.size,rfl,rfl,rfl,rfl⟩
    ·cases c<;>exact hb
    ·cases c
     ·show k<_;omega
     ·exact hb1
  ·refine⟨_,?_,rfl,frM hC Y1.fr f3⟩
   have:=(e4.2 _).1 r1
   cases c with
   | false=>
    have hc:t.l=G.bc:=hc
    have hx:x=true:=by
     rw[hc]at this
     simpa[kts,n1,n2,n3,Ne.symm n1,Ne.symm n2,Ne.symm n3]using this
    simp[G.key,hc,G.az,hx]
   | true=>
    have hc:t.l=G.bi:=hc
    have hx:y=true:=by
     rw[hc]at this
     simpa[kts,n1,n2,n3,Ne.symm n1,Ne.symm n2,Ne.symm n3]using this
    simp[G.key,hc,n1,G.az,hx]
 refine ag (fun q=>?_) fun q=>?_
 ·rw[decide_eq_true q]
  exact go false q
 ·by_cases q2:t.l=G.bi
  ·rw[decide_eq_true q2]
   exact go true q2
  ·rw[decide_eq_false q2]
   refine aG rfl ?_
   refine ag (fun q3=>?_) fun q3=>?_
   ·refine⟨xM,0,rfl,some m,Y1.factF 7 rfl 0 (by rw[e5];rfl),?_⟩
    refine qu Y1 7 rfl e4.1 (by simp;omega) (fun r1 hv3 f3 Y3=>?_) fun r1 hv3 f3=>?_
    ·refine⟨rfl,?_⟩
     intro hv8
     have Y8:Sy h (ao C) hv8 (stC gl b s A σ d++[Ck.fx (some (m,ks++[t.l])) fs,Ck.ob hv3.size 119 [.int .i64 4,fnV 139 #[pt xR,pt xK],.nilFunc,.nilFunc]]):=Sy.newO Y3 [.int .i64 4,fnV 139 #[pt xR,pt xK],.nilFunc,.nilFunc]
     have s7:h.size<=hv3.size:=Y3.le
     refine⟨.weight k,.edge k x y true,σ,A,some (m,ks++[t.l]),none,[],[(hv3.size,0,.int .i64 4),(hv3.size,1,fnV 139 #[pt xR,pt xK]),(xR,0,pt b),(xK,0,.int .i64 (k:Int))],some ⟨hv3.size,0,none⟩,?_,rfl,?_,?_,?_,Gr.refl σ,hb,hb.2⟩
     ·have hx:z=false:=by
       cases z with
       | false=>rfl
       | true=>exact absurd ((e4.2 _).2 (by simp[kts,q3])) r1
      subst hx
      simp[G.key,q3,n2,n3,G.az]
     ·refine oe (rest:=[_]) Y8 (fun x hx=>.inl (hr1 x hx)) hr2 (fun p hp=>by cases hp) (fun f hf=>by cases hf) fun f hf=>?_
      simp only[List.mem_cons,List.not_mem_nil,or_false]at hf
      rcases hf with rfl | rfl | rfl | rfl
      ·exact⟨Y8.cellO 8 rfl 0 rfl,.inr ⟨s7,0,119,_,rfl⟩⟩
      ·exact⟨Y8.cellO 8 rfl 1 rfl,.inr ⟨s7,0,119,_,rfl⟩⟩
      ·exact⟨Y8.factF 7 rfl 2 (by rw[e5];rfl),.inl (by rw[e5];simp)⟩
      ·exact⟨Y8.factF 7 rfl 1 (by rw[e5];rfl),.inl (by rw[e5];simp)⟩
     ·exact⟨xM,xK,xR,m,ks++[t.l],e1,e2,rfl,dK e4 r1 (fun k'=>by rw[q3];simp[kts]<;>grind),e5⟩
     ·exact⟨hv3.size,xR,xK,rfl,rfl,rfl,rfl⟩
    ·refine⟨_,?_,rfl,frM hC Y1.fr f3⟩
     have:=(e4.2 _).1 r1
     have hx:z=true:=by
      rw[q3]at this
      simpa[kts,n1,n2,n3,Ne.symm n1,Ne.symm n2,Ne.symm n3]using this
     simp[G.key,q3,n2,n3,G.az,hx]
   ·exact⟨.none,.edge k x y z,σ,A,some (m,ks),none,[],[],none,by simp[G.key,q,q2,q3],rfl,yT Y1 (fun x hx=>.inl (hr1 x hx)) hr2,⟨xM,xK,xR,m,ks,e1,e2,rfl,e4,e5⟩,⟨rfl,rfl,rfl,rfl⟩,Gr.refl σ,hb,trivial⟩
end
theorem Jx {b v:Nat} {h:ab}:ae Tryz.prog 135 #[pt b,.int .i64 (v:Int)] h fun w h'=>Fr [] h h'/\∃xR xV m xM t,h.size<=xR/\h.size<=xV/\h.size<=m/\h.size<=xM/\h.size<=t/\w=pt t/\
  ∀h0 M cs,Sy h0 M h cs->Sy h0 M h' (cs++[Ck.ob xR 60 [pt b]]++[Ck.ob xV 3 [.int .i64 (v:Int)]]++[Ck.mp m []]++[Ck.ob xM 115 [.map (some m)]]++[Ck.ob t 119 [.int .i64 1,.nilFunc,fnV 176 #[pt xM,pt xR,pt xV],fnV 68 #[]]]):=by
 apply AW
 unfold Kc
 intro hv hv2 hv3 hv4
 have s1:hv.size=h.size+1:=by simp[hv]
 have s2:hv2.size=h.size+2:=by simp[hv2,hv]
 have s3:hv3.size=h.size+3:=by grind
 have s4:hv4.size=h.size+4:=by grind
 have Z4:∀h0 M cs,Sy h0 M h cs->Sy h0 M hv4 (cs++[Ck.ob h.size 60 [pt b]]++[Ck.ob hv.size 3 [.int .i64 (v:Int)]]++[Ck.mp hv2.size []]++[Ck.ob hv3.size 115 [.map none]]):=
  fun h0 M cs Y=>Sy.newO (Sy.newM (Sy.newO (Sy.newO Y [pt b]) [.int .i64 (v:Int)])) [.map none]
 have f4:Fr [] h hv4:=(((Fr.push h _).pushr _).pushr _).pushr _
 have Z:=Z4 h [] [] ⟨Fr.refl _ _,Hp.nil _,fun k c hk=>by simp at hk⟩
 refine⟨⟨_,Z.cellO 3 rfl 0 rfl⟩,Z.freeO 3 rfl 0,?_⟩
 intro hv5 hv6
 have s5:hv5.size=h.size+4:=by simp[hv5,s4]
 refine⟨(f4.hsetL (by omega)).pushr _,h.size,hv.size,hv2.size,hv3.size,hv5.size,by omega,by omega,by omega,by omega,by omega,rfl,fun h0 M cs Y=>?_⟩
 have Y4:=Z4 h0 M cs Y
 have hk:(cs++[Ck.ob h.size 60 [pt b]]++[Ck.ob hv.size 3 [.int .i64 (v:Int)]]++[Ck.mp hv2.size []]++[Ck.ob hv3.size 115 [.map none]])[cs.length+3]? =some (Ck.ob hv3.size 115 [.map none]):=by simp
 have Y5:=Y4.stO (cs.length+3) hk 0 (.map (some hv2.size))
 have es:(cs++[Ck.ob h.size 60 [pt b]]++[Ck.ob hv.size 3 [.int .i64 (v:Int)]]++[Ck.mp hv2.size []]++[Ck.ob hv3.size 115 [.map none]]).set (cs.length+3) (Ck.ob hv3.size 115 ([Value.map none].set 0 (.map (some hv2.size))))=
   cs++[Ck.ob h.size 60 [pt b]]++[Ck.ob hv.size 3 [.int .i64 (v:Int)]]++[Ck.mp hv2.size []]++[Ck.ob hv3.size 115 [.map (some hv2.size)]]:=by
  simp_all
 rw[es]at Y5
 exact Sy.newO (ty:=119) Y5 [.int .i64 1,.nilFunc,fnV 176 #[pt hv3.size,pt h.size,pt hv.size],fnV 68 #[]]
section
variable {gl:GL} {b d:Nat} {s:ByteArray} {A:AD} {σ:G.Rd}
theorem Hg {cl:Nat->Nat} {v:Nat} {x y z:Bool} {t:G.Tok} {kv ov:Value} {mo:Option (Nat × List (List UInt8))} {fs:Fs} {h:ab} {xM xR xV m:Nat} {ks:List (List UInt8)}
  (H:Hp h (stC gl b s A σ d++[Ck.fx mo fs])) (ri:G.RI cl s σ) (hb:LvB σ (.node v x y z)) (e1:kv=fnV 132 #[pt xM,pt xR,pt xV]) (e2:ov=fnV 136 #[pt xM]) (e3:mo=some (m,ks)) (e4:Seen (.node v x y z) ks)
  (e5:fs=[(xM,0,.map (some m)),(xR,0,pt b),(xV,0,.int .i64 (v:Int))]):
  aB Tryz.prog 132 #[cF t,pt xM,pt xR,pt xV] h (kR gl b d s (stC gl b s A σ d++[Ck.fx mo fs]) h (.node v x y z) t σ kv ov fs) (kE (stC gl b s A σ d++[Ck.fx mo fs]) h (.node v x y z) t σ):=by
 generalize hC:stC gl b s A σ d++[Ck.fx mo fs]=C at H ⊢
 have Y0:Sy h (ao C) h (stC gl b s A σ d++[Ck.fx mo fs]):=by rw[hC];exact Sy.start H
 obtain⟨hr1,hr2⟩:=vQ (gl:=gl) (b:=b) (s:=s) (A:=A) (σ:=σ) (d:=d) (mo:=mo) (fs:=fs)
 rw[hC]at hr1 hr2
 unfold cF
 apply AR
 unfold J9
 have ex:(t.says.toList==(⟨#[105,100]⟩:ByteArray).toList)=decide (t.l=G.kId):=cH
 have ey:(t.says.toList==(⟨#[108,97,98,101,108]⟩:ByteArray).toList)=decide (t.l=G.dj):=cH
 have ez:(t.says.toList==(⟨#[103,114,97,112,104,105,99,115]⟩:ByteArray).toList)=decide (t.l=G.aZ):=cH
 rw[ex,ey,ez]
 intro hv
 have Y1:Sy h (ao C) hv (stC gl b s A σ d++[Ck.fx mo fs]):=Y0.gr (Fr.push h _)
 have s1:hv.size=h.size+1:=by simp[hv]
 clear_value hv
 have n1:G.dj≠G.kId:=by decide
 have n2:G.aZ≠G.kId:=by decide
 have n3:G.aZ≠G.dj:=by decide
 subst e3
 have hml:m<h.size:=iA (Y0.mapF 7 rfl)
 refine ag (fun q=>?_) fun q1=>?_
 ·refine⟨xM,0,rfl,some m,Y1.factF 7 rfl 0 (by rw[e5];rfl),?_⟩
  refine qu Y1 7 rfl e4.1 (by simp;omega) (fun r1 hv3 f3 Y3=>?_) fun r1 hv3 f3=>?_
  ·refine⟨rfl,?_⟩
   intro hv8
   have Y8:Sy h (ao C) hv8 (stC gl b s A σ d++[Ck.fx (some (m,ks++[t.l])) fs,Ck.ob hv3.size 119 [.int .i64 4,fnV 133 #[pt xR,pt xV],.nilFunc,.nilFunc]]):=Sy.newO Y3 [.int .i64 4,fnV 133 #[pt xR,pt xV],.nilFunc,.nilFunc]
   have s7:h.size<=hv3.size:=Y3.le
   refine⟨.id v,.node v true y z,σ,A,some (m,ks++[t.l]),none,[],[(hv3.size,0,.int .i64 4),(hv3.size,1,fnV 133 #[pt xR,pt xV]),(xR,0,pt b),(xV,0,.int .i64 (v:Int))],some ⟨hv3.size,0,none⟩,?_,rfl,?_,?_,?_,Gr.refl σ,hb,hb⟩
   ·have hx:x=false:=by
     cases x with
     | false=>rfl
     | true=>exact absurd ((e4.2 _).2 (by simp[kts,q])) r1
    grind [G.key,G.az]
   ·refine oe (rest:=[_]) Y8 (fun x hx=>.inl (hr1 x hx)) hr2 (fun p hp=>by cases hp) (fun f hf=>by cases hf) fun f hf=>?_
    simp only[List.mem_cons,List.not_mem_nil,or_false]at hf
    rcases hf with rfl | rfl | rfl | rfl
    ·exact⟨Y8.cellO 8 rfl 0 rfl,.inr ⟨s7,0,119,_,rfl⟩⟩
    ·exact⟨Y8.cellO 8 rfl 1 rfl,.inr ⟨s7,0,119,_,rfl⟩⟩
    ·exact⟨Y8.factF 7 rfl 1 (by rw[e5];rfl),.inl (by rw[e5];simp)⟩
    ·exact⟨Y8.factF 7 rfl 2 (by rw[e5];rfl),.inl (by rw[e5];simp)⟩
   ·exact⟨xM,xR,xV,m,ks++[t.l],e1,e2,rfl,dK e4 r1 (fun k'=>by rw[q];simp[kts]<;>grind),e5⟩
   ·exact⟨hv3.size,xR,xV,rfl,rfl,rfl,rfl⟩
  ·refine⟨_,?_,rfl,frM hC Y1.fr f3⟩
   have:=(e4.2 _).1 r1
   have hx:x=true:=by
    rw[q]at this
    simpa[kts,n1,n2,n3,Ne.symm n1,Ne.symm n2,Ne.symm n3]using this
   simp[G.key,q,n1,n2,n3,G.az,hx]
 refine ag (fun q=>?_) fun q2=>?_
 ·refine⟨xM,0,rfl,some m,Y1.factF 7 rfl 0 (by rw[e5];rfl),?_⟩
  refine qu Y1 7 rfl e4.1 (by simp;omega) (fun r1 hv3 f3 Y3=>?_) fun r1 hv3 f3=>?_
  ·refine⟨rfl,?_⟩
   intro hv8
   have Y8:Sy h (ao C) hv8 (stC gl b s A σ d++[Ck.fx (some (m,ks++[t.l])) fs,Ck.ob hv3.size 119 [.int .i64 5,fnV 134 #[pt xR,pt xV],.nilFunc,.nilFunc]]):=Sy.newO Y3 [.int .i64 5,fnV 134 #[pt xR,pt xV],.nilFunc,.nilFunc]
   have s7:h.size<=hv3.size:=Y3.le
   refine⟨.label v,.node v x true z,σ,A,some (m,ks++[t.l]),none,[],[(hv3.size,0,.int .i64 5),(hv3.size,1,fnV 134 #[pt xR,pt xV]),(xR,0,pt b),(xV,0,.int .i64 (v:Int))],some ⟨hv3.size,0,none⟩,?_,rfl,?_,?_,?_,Gr.refl σ,hb,hb⟩
   ·have hx:y=false:=by
     cases y with
     | false=>rfl
     | true=>exact absurd ((e4.2 _).2 (by simp[kts,q])) r1
    grind [G.key,G.az]
   ·refine oe (rest:=[_]) Y8 (fun x hx=>.inl (hr1 x hx)) hr2 (fun p hp=>by cases hp) (fun f hf=>by cases hf) fun f hf=>?_
    simp only[List.mem_cons,List.not_mem_nil,or_false]at hf
    rcases hf with rfl | rfl | rfl | rfl
    ·exact⟨Y8.cellO 8 rfl 0 rfl,.inr ⟨s7,0,119,_,rfl⟩⟩
    ·exact⟨Y8.cellO 8 rfl 1 rfl,.inr ⟨s7,0,119,_,rfl⟩⟩
    ·exact⟨Y8.factF 7 rfl 1 (by rw[e5];rfl),.inl (by rw[e5];simp)⟩
    ·exact⟨Y8.factF 7 rfl 2 (by rw[e5];rfl),.inl (by rw[e5];simp)⟩
   ·exact⟨xM,xR,xV,m,ks++[t.l],e1,e2,rfl,dK e4 r1 (fun k'=>by rw[q];simp[kts]<;>grind),e5⟩
   ·exact⟨hv3.size,xR,xV,rfl,rfl,rfl,rfl⟩
  ·refine⟨_,?_,rfl,frM hC Y1.fr f3⟩
   have:=(e4.2 _).1 r1
   have hx:y=true:=by
    rw[q]at this
    simpa[kts,n1,n2,n3,Ne.symm n1,Ne.symm n2,Ne.symm n3]using this
   simp[G.key,q,n1,n2,n3,G.az,hx]
 refine ag (fun q=>?_) fun q3=>?_
 ·refine⟨xM,0,rfl,some m,Y1.factF 7 rfl 0 (by rw[e5];rfl),?_⟩
  refine qu Y1 7 rfl e4.1 (by simp;omega) (fun r1 hv3 f3 Y3=>?_) fun r1 hv3 f3=>?_
  ·refine⟨rfl,?_⟩
   have Y3:Sy h (ao C) hv3 (stC gl b s A σ d++[Ck.fx (some (m,ks++[t.l])) fs]):=Y3
   refine⟨xR,0,rfl,_,Y3.factF 7 rfl 1 (by rw[e5];rfl),xV,0,rfl,(v:Int),Y3.factF 7 rfl 2 (by rw[e5];rfl),?_⟩
   refine ak [] Jx (by simp) (fun _ _ r=>r.1) fun w h' r=>?_
   obtain⟨f8,xR2,xV2,m2,xM2,t2,z1,z2,z3,z4,z5,rfl,Z⟩:=r
   have Y8:Sy h (ao C) h' (stC gl b s A σ d++Ck.fx (some (m,ks++[t.l])) fs::[Ck.ob xR2 60 [pt b],Ck.ob xV2 3 [.int .i64 (v:Int)],Ck.mp m2 [],Ck.ob xM2 115 [.map (some m2)],Ck.ob t2 119 [.int .i64 1,.nilFunc,fnV 176 #[pt xM2,pt xR2,pt xV2],fnV 68 #[]]]):=Z _ _ _ Y3
   have s7:h.size<=hv3.size:=Y3.le
   refine⟨some ⟨t2,0,none⟩,rfl,.list (.spot v false false),.node v x y true,σ,A,some (m,ks++[t.l]),some (m2,[]),[(xM2,0,.map (some m2)),(xR2,0,pt b),(xV2,0,.int .i64 (v:Int))],[(t2,0,.int .i64 1),(t2,2,fnV 176 #[pt xM2,pt xR2,pt xV2]),(t2,3,fnV 68 #[])],some ⟨t2,0,none⟩,?_,rfl,?_,?_,?_,Gr.refl σ,hb,hb⟩
   ·have hx:z=false:=by
     cases z with
     | false=>rfl
     | true=>exact absurd ((e4.2 _).2 (by simp[kts,q])) r1
    grind [G.key,G.az]
   ·refine oe Y8 (fun x hx=>.inl (hr1 x hx)) hr2 (fun p hp=>by cases hp;exact⟨2,rfl⟩) (fun f hf=>?_) fun f hf=>?_
    ·simp only[List.mem_cons,List.not_mem_nil,or_false]at hf
     rcases hf with rfl | rfl | rfl
     ·exact⟨Y8.cellO 11 rfl 0 rfl,.inr ⟨Nat.le_trans s7 z4,3,115,_,rfl⟩⟩
     ·exact⟨Y8.cellO 8 rfl 0 rfl,.inr ⟨Nat.le_trans s7 z1,0,60,_,rfl⟩⟩
     ·exact⟨Y8.cellO 9 rfl 0 rfl,.inr ⟨Nat.le_trans s7 z2,1,3,_,rfl⟩⟩
    ·simp only[List.mem_cons,List.not_mem_nil,or_false]at hf
     rcases hf with rfl | rfl | rfl
     ·exact⟨Y8.cellO 12 rfl 0 rfl,.inr ⟨Nat.le_trans s7 z5,4,119,_,rfl⟩⟩
     ·exact⟨Y8.cellO 12 rfl 2 rfl,.inr ⟨Nat.le_trans s7 z5,4,119,_,rfl⟩⟩
     ·exact⟨Y8.cellO 12 rfl 3 rfl,.inr ⟨Nat.le_trans s7 z5,4,119,_,rfl⟩⟩
   ·exact⟨xM,xR,xV,m,ks++[t.l],e1,e2,rfl,dK e4 r1 (fun k'=>by rw[q];simp[kts]<;>grind),e5⟩
   ·exact⟨t2,_,_,_,rfl,⟨xM2,xR2,xV2,m2,[],rfl,rfl,rfl,⟨by simp,by simp[kts]⟩,rfl⟩,rfl⟩
  ·refine⟨_,?_,rfl,frM hC Y1.fr f3⟩
   have:=(e4.2 _).1 r1
   have hx:z=true:=by
    rw[q]at this
    simpa[kts,n1,n2,n3,Ne.symm n1,Ne.symm n2,Ne.symm n3]using this
   simp[G.key,q,n1,n2,n3,G.az,hx]
 ·exact⟨.none,.node v x y z,σ,A,some (m,ks),none,[],[],none,by simp[G.key,q1,q2,q3],rfl,yT Y1 (fun x hx=>.inl (hr1 x hx)) hr2,⟨xM,xR,xV,m,ks,e1,e2,rfl,e4,e5⟩,⟨rfl,rfl,rfl,rfl⟩,Gr.refl σ,hb,trivial⟩
end
end Go.Proofs.YtemclecmafjjfaaGreatDoor.N
