/- The numbers of what is read are of 64 bits, where what a text reads as is. Conditions: none. -/
import Derived.Test.YtmmmmjcfojhiaaaGreatDoorWSlow
import Derived.Test.YtmmmmjcfojhiaaaGreatDoorRows
import Derived.ProofKit
import Derived.OpenShut
import Derived.Lib.LaidU8
import Derived.MakeChecks
import Derived.Lay
import Derived.Shelf.Vars
import Derived.Handed
import Derived.Below
import Derived.Deep.Slices
import Derived.ChangeOld
import Derived.JoinedCond
import Derived.Deep.DeepHandedRow
import Derived.Test.YtmmmmjcfojhiaaaGreatDoorCards
import Derived.SevenTiedAt
set_option linter.unusedVariables false
set_option linter.unusedSimpArgs false
set_option maxRecDepth 100000
set_option maxHeartbeats 2000000
open Go.IntKind (i64 u64 u8 i32)
namespace Go.Proofs.YtmmmmjcfojhiaaaGreatDoor.G
def B64 (x:Nat):Prop:=x<18446744073709551616
def NB (σ:Rd):Prop:=(∀p∈σ.spots,B64 p.1/\B64 p.2)/\∀x∈σ.weights,B64 x
section
variable {s:P0} {rd:P0->Option (Nat × Nat)} {cl:Nat->Nat}
theorem zH (hr:∀b x e,rd b=some (x,e)->B64 x) {t:Tok} (ht:t.num=0):(bn rd t).al fun v=>B64 v.num:=by
 have h0:B64 0:=by unfold B64;omega
 intro v h
 unfold bn at h
 split at h
 ·cases h
 split at h
 ·split at h
  ·split at h
   ·rename_i x e q;cases h;exact hr _ _ _ q
   ·cases h
  ·cases h
 split at h
 ·split at h
  ·rename_i x q;cases h;exact hr _ _ _ q
  ·cases h
  ·cases h
 ·cases h;rw[ht];exact h0
theorem II {l:Lv} {t:Tok} {σ:Rd} (h:NB σ):(key l t σ).al fun x=>NB x.2.2:=by
 have h1:NB {σ with n:=σ.n+1,labels:=σ.labels++[noB],spots:=σ.spots++[(0,0)]}:=by
  refine⟨fun p hp=>?_,h.2⟩
  rcases Qe.1 hp with hp | hp
  ·exact h.1 p hp
  ·rw[Qi.1 hp];unfold B64;exact⟨PB,PB⟩
 have h2:NB {σ with ends:=σ.ends++[⟨0,0,noB,0⟩,⟨0,0,noB,0⟩],weights:=σ.weights++[4607182418800017408]}:=by
  refine⟨h.1,fun x hx=>?_⟩
  rcases Qe.1 hx with hx | hx
  ·exact h.2 x hx
  ·rw[Qi.1 hx];unfold B64;decide
 unfold key
 repeat' split
 all_goals first | exact Er.al_ok h | exact Er.al_must (Er.al_ok h) | exact Er.al_must (Er.al_ok h1) | exact Er.al_must (Er.al_ok h2)
theorem EX (hb:∀x,B64 x->B64 (cl x)) {x:Tk} {v:Tok} {σ:Rd} (hv:B64 v.num) (h:NB σ):(bX cl x v σ).al NB:=by
 unfold bX
 split
 ·exact Er.al_must (Er.al_ok h)
 ·split
  ·exact Er.al_must (Er.al_ok h)
  ·exact Er.al_no
 ·exact Er.al_must (Er.al_must (Er.al_ok h))
 ·rename_i k y
  refine Er.al_ok ⟨fun p hp=>?_,h.2⟩
  obtain⟨j,hj,hp⟩:=List.getElem_of_mem hp
  have hp:(σ.spots.modify k fun p=>if y=true then(p.1,cl v.num)else(cl v.num,p.2))[j]? =some p:=by grind
  rw[List.getElem?_modify]at hp
  cases q:σ.spots[j]? with
  | none=>grind
  | some p0=>
   have h0:=h.1 p0 (Qa q)
   rw[q]at hp
   obtain rfl:=Option.some.inj hp
   split
   ·split
    ·exact⟨h0.1,hb _ hv⟩
    ·exact⟨hb _ hv,h0.2⟩
   ·exact h0
 ·split
  ·exact Er.al_ok h
  ·exact Er.al_no
 ·refine Er.al_ok ⟨h.1,fun x hx=>?_⟩
  rcases Rm hx with hx | rfl
  ·exact h.2 x hx
  ·exact hb _ hv
 ·exact Er.al_ok h
theorem zI {l:Lv} {e:Nat} {σ:Rd} (h:NB σ):(behind l e σ).al NB:=by
 unfold behind
 split<;>first | exact Er.al_must (Er.al_ok h) | exact Er.al_ok h
theorem EY (hr:∀b x e,rd b=some (x,e)->B64 x) (hb:∀x,B64 x->B64 (cl x)):∀(n:Nat) (l:Lv) (d:Nat) (σ:Rd),NB σ->(list s rd cl n l d σ).al fun x=>NB x.2.2:=by
 intro n
 induction n with
 | zero=>intro l d σ h;exact Er.al_un
 | succ n ih=>
  intro l d σ h
  rw[list]
  refine Er.al_bind Er.al_any ?_
  rintro⟨t,i⟩-
  dsimp only
  split
  ·exact Er.al_ok h
  ·refine Er.al_must (Er.al_bind (II (σ:={σ with i:=i}) h) ?_)
   rintro⟨x,l',r1⟩ h1
   refine Er.al_bind (P:=NB) ?_ fun r2 h2=>ih l' d r2 h2
   unfold value
   refine Er.al_bind (P:=fun a=>a.1.num=0) (fun a e=>(uK e).1) ?_
   rintro⟨v0,j⟩ hv0
   refine Er.al_bind (zH hr hv0) fun v hv=>Er.al_must (Er.al_must ?_)
   split
   ·split
    ·exact Er.al_bind (ih _ _ _ h1) fun a ha=>zI ha
    ·exact Er.al_bind (ih _ _ _ h1) fun a ha=>Er.al_ok ha
   ·exact EX hb hv h1
theorem EZ (hr:∀b x e,rd b=some (x,e)->B64 x) (hb:∀x,B64 x->B64 (cl x)):(read rd cl s).al fun d=>(∀p∈d.spots,B64 p.1/\B64 p.2)/\∀x∈d.weights,B64 x:=by
 unfold read
 refine Er.al_must (Er.al_bind (EY hr hb _ _ _ _ ⟨by simp[start],by simp[start]⟩) ?_)
 rintro⟨e,l,r⟩ h
 refine Er.al_must (Er.al_bind Er.al_any fun es _=>Er.al_ok ⟨?_,?_⟩)
 ·dsimp only
  split
  ·exact h.1
  ·simp
 ·dsimp only
  split
  ·exact h.2
  ·simp
end
end Go.Proofs.YtmmmmjcfojhiaaaGreatDoor.G
namespace Go.Proofs.YtmmmmjcfojhiaaaGreatDoor.N
open Go.X Go.Proofs.YtmmmmjcfojhiaaaGreatDoor
theorem Dl {op:BinOp} {a b:Int}:G.B64 (bits op .u64 a b).toNat:=by
 have h:(bits op .u64 a b).toNat<2^64:=by
  have:∀x:Int,(u64.wrap x).toNat<2^64:=fun x=>by
   rw[IntKind.wrap_u64];omega
  unfold bits
  exact this _
 exact h
theorem lF {op:BinOp} {a b:Int} {o:Option Int}:G.B64 (((bits op .u64 a b).toNat,o):Nat × Option Int).1:=Dl
theorem Dm {s:Bool} {r:Nat} (h:r<=2047*2^52):G.B64 (F64.word s r):=by
 unfold G.B64 Ieee.Format.word
 rw[jE]
 split<;>omega
theorem Kb (s:Bool) (m:Nat) (i:Int):G.B64 (F64.nearest s m i):=by rw[db];exact Dm (mS m i)
theorem tw {d:Ieee.Datum} (h:d.isNaN=false):G.B64 (F64.write d):=by
 cases d with
 | nan s t=>cases h
 | infinity s=>exact Dm (by rw[<-ky];exact P3 _)
 | number s m i=>exact Kb s m i
theorem NF {x:Nat} (h:G.B64 x):G.B64 (fh x):=Dk h
theorem NG {a b n:Nat} {t:Bool} {j:Int} (ha:isNaN a=false) (hb:F64.read b= .number t n j) (hn:n≠0):G.B64 (eQ a b):=by
 have:∃d,(F64.read a).product (F64.read b)=some d/\d.isNaN=false:=by
  rcases dZ ha with⟨s,e⟩ | ⟨s,m,i,e⟩
  ·rw[e,hb];exact⟨_,if_neg hn,rfl⟩
  ·rw[e,hb];exact⟨_,rfl,rfl⟩
 obtain⟨d,e,hd⟩:=this
 have e2:F64.mul a b=some (F64.write d):=by unfold Ieee.Format.mul;rw[e];rfl
 unfold eQ;rw[e2]
 exact tw hd
theorem NH {a b n:Nat} {t:Bool} {j:Int} (ha:isNaN a=false) (hb:F64.read b= .number t n j) (hn:n≠0):G.B64 (mP a b):=by
 have:∃d,Ieee.Datum.quotient (F64.fractionBits+2) (F64.read a) (F64.read b)=some d/\d.isNaN=false:=by
  rcases dZ ha with⟨s,e⟩ | ⟨s,m,i,e⟩
  ·rw[e,hb];exact⟨_,rfl,rfl⟩
  ·rw[e,hb];exact⟨_,if_neg hn,rfl⟩
 obtain⟨d,e,hd⟩:=this
 have e2:F64.div a b=some (F64.write d):=by unfold Ieee.Format.div;rw[e];rfl
 unfold mP;rw[e2]
 exact tw hd
theorem G7 (m:Nat) (e:Int) (ng:Bool):G.B64 (cm m e ng).1:=by
 have z:G.B64 0:=by unfold G.B64;decide
 have hf:∀{f:Nat},f=(if ng then Op.negFloat .f64 (FloatKind.f64.nearest (m:Int))else FloatKind.f64.nearest (m:Int))->isNaN f=false/\G.B64 f:=by
  rintro f rfl
  have h1:G.B64 (FloatKind.f64.nearest (m:Int)):=by
   unfold FloatKind.nearest FloatKind.encode
   exact tw rfl
  split
  ·exact⟨za (xw _),NF h1⟩
  ·exact⟨xw _,h1⟩
 unfold cm
 split
 ·exact z
 generalize hF:(if ng then Op.negFloat .f64 (FloatKind.f64.nearest (m:Int))else FloatKind.f64.nearest (m:Int))=f
 obtain⟨f1,f2⟩:=hf hF.symm
 have mul:∀{x:Nat} {k:Nat},k<23->isNaN x=false->G.B64 (eQ x (tF.getD k 0))/\isNaN (eQ x (tF.getD k 0))=false:=fun{x k} hk hx=>by
  obtain⟨s,n,j,h1,h2⟩:=(rU hk).2
  exact⟨NG hx h1 h2,(lM hx h1 h2).2⟩
 dsimp only
 split
 ·exact f2
 split
 ·rename_i he
  have h2:isNaN (if e>22 then eQ f (tF.getD (e-22).toNat 0)else f)=false/\G.B64 (if e>22 then eQ f (tF.getD (e-22).toNat 0)else f):=by
   split
   ·have:=mul (x:=f) (k:=(e-22).toNat) PA f1;exact⟨this.2,this.1⟩
   ·exact⟨f1,f2⟩
  have hk:(if e>22 then(22:Int)else e).toNat<23:=by split<;>omega
  generalize (if e>22 then eQ f (tF.getD (e-22).toNat 0)else f)=f2 at h2 ⊢
  generalize (if e>22 then(22:Int)else e)=e2 at hk ⊢
  split
  ·exact h2.2
  split
  ·exact h2.2
  ·exact(mul hk h2.1).1
 split
 ·rename_i he
  obtain⟨s,n,j,h1,h2⟩:=(rU (k:=(-e).toNat) PA).2
  exact NH f1 h1 h2
 ·exact f2
theorem yW (d:Nat) (p:Int) (sg:Nat):G.B64 (bc d p sg).1:=by
 unfold bc pk
 split
 ·exact lF
 split
 ·exact lF
 split<;>exact lF
theorem Kc (m:Nat) (e:Int) (ng:Bool):G.B64 (fp m e ng).1:=by
 unfold fp
 split
 ·exact lF
 split
 ·exact lF
 split
 ·exact lF
 split
 ·exact G7 _ _ _
 ·exact yW _ _ _
theorem vk (m e:Int) (ng:Bool):G.B64 (fbB m e ng).toNat:=by
 unfold fbB
 split<;>exact Dl
theorem NI (ng:Bool) (s:DF):G.B64 (fbF ng s).1.toNat:=by
 have z:∀ex r,G.B64 (fbZ ng ex r).1.toNat:=fun ex r=>vk _ _ _
 have mm:∀ex r,G.B64 (fbM ng ex r).1.toNat:=fun ex r=>by
  unfold fbM
  split
  ·split
   ·exact vk _ _ _
   ·exact z _ _
  ·exact z _ _
 have ee:∀s ex,G.B64 (fbE ng s ex).1.toNat:=fun s ex=>by
  unfold fbE
  split
  ·exact vk _ _ _
  ·exact mm _ _
 unfold fbF
 split
 ·exact vk _ _ _
 split
 ·exact vk _ _ _
 ·dsimp only
  unfold fbL
  split<;>exact ee _ _
theorem Kd (s:P0) (st:RS) (rest:PZ):G.B64 (iJ s st rest).1:=by
 unfold iJ
 split
 ·exact lF
 split
 ·exact lF
 split
 ·exact lF
 split
 ·exact yW _ _ _
 ·exact NI _ _
theorem tz (s:P0):∃V,G.B64 V/\(fF s.data.toList=true->s.size<=64->P37 s V):=by
 by_cases h:fF s.data.toList=true/\s.size<=64
 ·obtain⟨st,rest,T⟩:=kK PA h.1
  cases ht:st.tr with
  | false=>exact⟨_,Kc _ _ _,fun _ _=>P37.of T ht⟩
  | true=>exact⟨_,Kd s st rest,fun _ _=>⟨_,Ar _ _ _,fun _ r=>Ob T ht PA r⟩⟩
 ·exact⟨0,by unfold G.B64;decide,fun a b=>absurd ⟨a,b⟩ h⟩
noncomputable def vA (b : ByteArray) : Nat := Classical.choose (tz b)
noncomputable def rdA (b : ByteArray) : Option (Nat × Nat) := if b.size <= 262144 then some ((cf b.data.toList (vA b)).1, (cf b.data.toList (vA b)).2.toNat) else none
theorem Ke (gl:GL):qO rdA gl:=by
 intro t x e ht h g
 unfold rdA at ht
 split at ht
 ·grind [Int.toNat_of_nonneg,pN,xD,vA,Classical.choose_spec (tz t)]
 ·cases ht
theorem NJ {b:P0} {x e:Nat} (h:rdA b=some (x,e)):G.B64 x:=by
 have v:=(Classical.choose_spec (tz b)).1
 have v:G.B64 (vA b):=v
 unfold rdA at h
 split at h
 ·cases h
  unfold cf
  split
  ·unfold G.B64;decide
  split
  ·unfold G.B64;decide
  split
  ·unfold G.B64;decide
  split
  ·unfold G.B64;decide
  split
  ·unfold G.B64;decide
  split
  ·unfold G.B64;decide
  ·exact v
 ·cases h
end Go.Proofs.YtmmmmjcfojhiaaaGreatDoor.N
namespace Go.Proofs.YtmmmmjcfojhiaaaGreatDoor.G
def Er.fz {α:Type} (x:Er α):Prop:=∀f,x= .no f->f.2≠0
theorem Er.fz_ok {α:Type} {a:α}:(Er.ok a).fz:=fun f e=>by cases e
theorem Er.fz_no {α:Type} {f:F} (h:f.2≠0):(Er.no f:Er α).fz:=fun g e=>by cases e;exact h
theorem Er.fz_un {α:Type}:(Er.un:Er α).fz:=fun f e=>by cases e
theorem Er.fz_bind {α β:Type} {x:Er α} {k:α->Er β} (h:x.fz) (hk:∀a,(k a).fz):(x.bind k).fz:=by
 cases x with
 | ok a=>exact hk a
 | no f=>exact Er.fz_no (h f rfl)
 | un=>exact Er.fz_un
theorem Er.fz_must {α:Type} {b:Bool} {f:F} {k:Er α} (hf:f.2≠0) (hk:k.fz):(aB b f k).fz:=by
 cases b
 ·exact Er.fz_no hf
 ·exact hk
section
variable {s:P0} {rd:P0->Option (Nat × Nat)} {cl:Nat->Nat}
theorem IJ {fr:Nat}:∀n i out,s.size-i<=n->(str s fr i out).fz:=by
 have z:∀p:Nat,((p,15):F).2≠0:=fun p=>by simp
 intro n
 induction n with
 | zero=>
  intro i out h1
  rw[str,if_neg PA]
  exact Er.fz_no (z _)
 | succ n ih=>
  intro i out h1
  rw[str]
  split
  ·rename_i hlt
   split
   ·exact Er.fz_ok
   ·split
    ·split
     ·rename_i c m hp
      have:=sY hlt hp
      exact ih _ _ PA
     ·exact Er.fz_no (z _)
    ·split
     ·exact ih _ _ PA
     ·exact Er.fz_no (z _)
  ·exact Er.fz_no (z _)
theorem yt (i:Nat):(next s i).fz:=by
 unfold next
 dsimp only
 repeat' split
 all_goals first | exact Er.fz_ok | exact Er.fz_no PC | exact Er.fz_bind (IJ _ _ _ (P3 _)) fun _=>Er.fz_ok
theorem zJ (t:Tok):(bn rd t).fz:=by
 unfold bn
 repeat' split
 all_goals first | exact Er.fz_ok | exact Er.fz_un | exact Er.fz_no PC
theorem IK (l:Lv) (t:Tok) (σ:Rd):(key l t σ).fz:=by
 unfold key
 repeat' split
 all_goals first | exact Er.fz_ok | exact Er.fz_must PC Er.fz_ok
theorem E0 (x:Tk) (v:Tok) (σ:Rd):(bX cl x v σ).fz:=by
 unfold bX
 repeat' split
 all_goals first | exact Er.fz_ok | exact Er.fz_no PC | exact Er.fz_must PC Er.fz_ok | exact Er.fz_must PC (Er.fz_must PC Er.fz_ok)
theorem zK (l:Lv) (e:Nat) (σ:Rd):(behind l e σ).fz:=by
 unfold behind
 split<;>first | exact Er.fz_must PC Er.fz_ok | exact Er.fz_ok
theorem E1 :∀(n:Nat) (l:Lv) (d:Nat) (σ:Rd),(list s rd cl n l d σ).fz:=by
 intro n
 induction n with
 | zero=>intro l d σ;exact Er.fz_un
 | succ n ih=>
  intro l d σ
  rw[list]
  refine Er.fz_bind (yt _) ?_
  rintro⟨t,i⟩
  dsimp only
  split
  ·exact Er.fz_ok
  ·refine Er.fz_must PC (Er.fz_bind (IK _ _ _) ?_)
   rintro⟨x,l',r1⟩
   refine Er.fz_bind ?_ fun r2=>ih l' d r2
   unfold value
   refine Er.fz_bind (yt _) ?_
   rintro⟨v0,j⟩
   refine Er.fz_bind (zJ _) fun v=>Er.fz_must PC (Er.fz_must PC ?_)
   split
   ·split
    ·exact Er.fz_bind (ih _ _ _) fun a=>zK _ _ _
    ·exact Er.fz_bind (ih _ _ _) fun a=>Er.fz_ok
   ·exact E0 _ _ _
theorem uC (ids:List (Int × Nat)) (t:Tok):(eV ids t).fz:=by
 unfold eV
 repeat' split
 all_goals first | exact Er.fz_ok | exact Er.fz_no PC
theorem uD (ids:List (Int × Nat)):∀n,∀ts:List Tok,ts.length<=n->(edges ids ts).fz
 | _,[],_=>by simp only[edges];exact Er.fz_ok
 | _,[a],_=>by simp only[edges];exact Er.fz_ok
 | n+1,a::b::ts,h=>by
  rw[edges]
  exact Er.fz_bind (uC _ _) fun x=>Er.fz_bind (uC _ _) fun y=>Er.fz_bind (uD ids n ts (by simp at h;omega)) fun l=>Er.fz_ok
 | 0,a::b::ts,h=>by simp at h
theorem E2 :(read rd cl s).fz:=by
 unfold read
 refine Er.fz_must PC (Er.fz_bind (E1 _ _ _ _) ?_)
 rintro⟨e,l,r⟩
 exact Er.fz_must PC (Er.fz_bind (uD _ _ _ (P3 _)) fun es=>Er.fz_ok)
end
end Go.Proofs.YtmmmmjcfojhiaaaGreatDoor.G
namespace Go.Proofs.YtmmmmjcfojhiaaaGreatDoor.N
open Go.Proofs.YtmmmmjcfojhiaaaGreatDoor
open Go.X
open Go.Proofs
def dcM (d:G.Dc):MD:=⟨d.n,d.dir,d.edges.map pr,d.labels,d.spots,d.weights⟩
theorem BJ (d:G.Dc):iY (dcM d).n (dcM d).dir (dcM d).es (dcM d).ls (dcM d).ss (dcM d).ws=d:=by
 obtain⟨n,dir,es,ls,ss,ws⟩:=d
 unfold iY dcM
 congr 1
 dsimp only
 rw[List.map_map]
 refine(List.map_congr_left (g:=id) fun e _=>?_).trans (List.map_id es)
 simp[pr]
theorem Fv {d:G.Dc} (ok:G.Ok d):gn (dcM d).n (dcM d).es (dcM d).ls (dcM d).ss (dcM d).ws=true:=by
 obtain⟨h1,h2,h3,h4,h5,h6,h7⟩:=ok
 have non:∀{a b:Nat},a=0\/a=b->jA (a:Int) (b:Int)=true:=fun{a b} h=>by unfold jA;grind
 unfold gn dcM
 dsimp only
 have le:(d.edges.map pr).length=d.edges.length:=Rg _
 have m1:lr (d.n:Int) (d.edges.map pr)=true:=by
  rw[oY]
  refine⟨PA,PA,fun e he=>?_⟩
  obtain⟨x,hx,rfl⟩:=Rj.1 he
  have:=h3 x hx
  rw[lu]
  simp only[pr];omega
 rw[m1,le,non (h4.imp (fun e=>by rw[e];rfl) id),non (h6.imp (fun e=>by rw[e];rfl) id),non (h7.imp (fun e=>by rw[e];rfl) id)]
 simp only[Rn]
 rw[Qx]
 intro l hl
 have:=h5 l hl
 unfold xf
 simp only[P6,decide_eq_true_eq,Qx]
 exact⟨this.2,this.1⟩
theorem BK {d:G.Dc} (h1:∀p∈d.spots,bF p.1=p.1/\bF p.2=p.2) (h2:∀x∈d.weights,bF x=x):clD (dcM d)=dcM d:=by
 unfold clD dcM
 dsimp only
 congr 1
 ·refine(List.map_congr_left (g:=id) fun p hp=>?_).trans (List.map_id _)
  rw[(h1 p hp).1,(h1 p hp).2];rfl
 ·exact(List.map_congr_left (g:=id) fun x hx=>h2 x hx).trans (List.map_id _)
section
variable {gl:GL} {h:ab} {s:P0}
theorem Fw (Hm:Hp h [Ck.glob gl]) (hs:s.size<=9223372036854775807):PJ 3 #[PU s] h fun v h'=>v= PV true/\Fr [] h h':=by
 apply I9
 unfold S3
 have g:=Hm.ok 0 (Ck.glob gl) rfl
 refine ak [] (hd1 g) PC (fun _ _ r=>r.2) ?_
 rintro v h2 ⟨rfl,f2⟩
 have Y2:Sy h [] h2 [Ck.glob gl]:=(Sy.startM Hm rfl).gr f2
 refine⟨_,rfl,az rfl (ae (fun _=>⟨rfl,Y2.fr⟩) fun hsz=>?_)⟩
 have hsz:s.size<=16384:=by omega
 have hun:G.read rdA bF s≠ .un:=G.E8 iD fun b hb=>by
  unfold rdA;rw[if_pos PA];simp
 have all:=G.Bd (s:=s) (rd:=rdA) iD
 refine ak (R:=rdR gl s rdA bF h2) [] (ok5 (Ke gl) iD yA (Y2.ok (k:=0) (c:=Ck.glob gl) rfl) PA hun) PC ?_ ?_
 ·rintro v h' (⟨dc,aD,aL,aS,aW,nD,cD,nL,cL,nS,cS,nW,cW,_,_,q⟩ | ⟨f,_,_,q⟩)
  ·exact q.fr
  ·exact q
 rintro v h3 (⟨dc,aD,aL,aS,aW,nD,cD,nL,cL,nS,cS,nW,cW,e,rfl,q3⟩ | ⟨f,e,rfl,f3⟩)
 rotate_left
 ·refine⟨_,_,_,_,_,_,_,_,_,_,_,_,_,_,_,_,rfl,?_⟩
  intro h4 h5
  have f5:Fr [] h3 h5:=((((((Fr.push h3 _).hsetL (P3 _)).hsetL (P3 _)).hsetL (P3 _)).hsetL (P3 _)).hsetL (P3 _)).hsetL (P3 _)
  have Y5:=(Y2.gr f3).gr f5
  clear_value h5
  have hz:f.2≠0:=G.E2 f e
  have hle:f.1<=s.size:=all.2 f e
  refine aJ (by simpa using hz) ?_
  have Hz:Hp h5 ((⟨0,false,[],[],[],[]⟩:MD).vw ⟨none,0,0,none,0,0,none,0,0,none,0,0⟩++(⟨0,false,[],[],[],[]⟩:MD).vw ⟨none,0,0,none,0,0,none,0,0,none,0,0⟩):=by
   have Z:=(((((((Y5.nilS eP 70).nilS eS 9).nilS eFF 53).nilS eF 51).nilS eP 70).nilS eS 9).nilS eFF 53).nilS eF 51
   exact((((((((Z.turn 1 rfl To.slvw).turn 2 rfl To.slvw).turn 3 rfl To.slvw).turn 4 rfl To.slvw).turn 5 rfl To.slvw).turn 6 rfl To.slvw).turn 7 rfl To.slvw).turn 8 rfl To.slvw).pick [1,2,3,4,5,6,7,8] rfl |>.hp
  refine ak [] (ok6 Hz ⟨PC,PC,PC,PC⟩) PC (fun _ _ r=>r.2) ?_
  rintro v h6 ⟨rfl,f6⟩
  refine⟨_,rfl,aJ (rF _) (ae (fun _=>⟨by rw[decide_eq_true PA],(Y5.gr f6).fr⟩) fun q=>absurd PA q)⟩
 obtain⟨ok,c1,c2⟩:=all.1 dc e
 obtain⟨b1,b2⟩:=G.EZ (s:=s) (rd:=rdA) (cl:=bF) (fun b x e hb=>NJ hb) (fun x hx=>BO hx) dc e
 have self:=BK c1 c2
 have qd:=Fv ok
 obtain⟨a,ha⟩:∃a,a=dcM dc:=⟨_,rfl⟩
 have hback:=BJ dc
 rw[<-ha]at self qd hback
 have hss:∀p∈a.ss,p.1<18446744073709551616/\p.2<18446744073709551616:=by rw[ha];exact b1
 have hws:∀x∈a.ws,x<18446744073709551616:=by rw[ha];exact b2
 have hls:∀x∈a.ls,x.size<=9223372036854775807:=fun x hx=>by
  have:=ok.p x (by rw[ha]at hx;exact hx)
  omega
 have hln:a.ls.length<=1024/\a.ss.length<=1024/\a.es.length<=3072/\a.ws.length<=3072:=by
  have e1:a.ls=dc.labels/\a.ss=dc.spots/\a.es.length=dc.edges.length/\a.ws=dc.weights:=by rw[ha];exact⟨rfl,rfl,Rg _,rfl⟩
  have n:=ok.n
  have m:=ok.m
  rw[e1.1,e1.2.1,e1.2.2.1,e1.2.2.2]
  refine⟨ok.l.elim (fun e=>by rw[e];simp) fun e=>by omega,ok.s.elim (fun e=>by rw[e];simp) fun e=>by omega,m,ok.w.elim (fun e=>by rw[e];simp) fun e=>by omega⟩
 obtain⟨u,hu⟩:∃u:MDs,u=⟨aD,nD,cD,aL,nL,cL,aS,nS,cS,aW,nW,cW⟩:=⟨_,rfl⟩
 have Z3:Sy h2 [] h3 [Ck.sl eP 70 u.aE u.nE u.cE a.es,Ck.sl eS 9 u.aL u.nL u.cL a.ls,Ck.sl eFF 53 u.aS u.nS u.cS a.ss,Ck.sl eF 51 u.aW u.nW u.cW a.ws]:=by
  rw[ha,hu];exact q3.sy.pick [0,1,2,3] rfl
 have Y3:Sy h [] h3 ([Ck.glob gl]++a.vw u):=((((Y2.callV Z3 ⟨rfl,rfl,rfl,rfl,trivial⟩).turn 1 rfl To.slvw).turn 2 rfl To.slvw).turn 3 rfl To.slvw).turn 4 rfl To.slvw
 refine⟨(dc.n:Int),aD,nD,cD,dc.dir,aL,nL,cL,aS,nS,cS,aW,nW,cW,0,0,rfl,?_⟩
 have hav:(Value.agg #[PN (dc.n:Int),PT aD nD cD,PV dc.dir,PT aL nL cL,PT aS nS cS,PT aW nW cW])=a.v u:=by rw[ha,hu];rfl
 rw[hav]
 intro h4 h5
 have f5:Fr [] h3 h5:=((((((Fr.push h3 _).hsetL (P3 _)).hsetL (P3 _)).hsetL (P3 _)).hsetL (P3 _)).hsetL (P3 _)).hsetL (P3 _)
 have Y5:=Y3.gr f5
 clear_value h5
 refine az rfl ?_
 have tx:(∀p∈a.ss,tj gl txM p.1/\tj gl txM p.2)/\∀x∈a.ws,tj gl txM x:=
  ⟨fun p hp=>⟨xh (hss p hp).1,xh (hss p hp).2⟩,fun x hx=>xh (hws x hx)⟩
 refine ak [] (ok7 (tx:=txM) (n:=a.n) (dir:=a.dir) Y5.hp hls PA tx.1 tx.2) PC (fun _ _ r=>r.2) ?_
 rintro v h6 ⟨rfl,f6⟩
 have Y6:=Y5.gr f6
 refine⟨_,_,rfl,?_⟩
 by_cases hl:262144<(G.wr txM (iY a.n a.dir a.es a.ls a.ss a.ws)).length
 ·have ew:wrV txM a.n a.dir a.es a.ls a.ss a.ws=([],23):=by unfold wrV;grind
  rw[ew]
  exact aJ rfl ⟨rfl,Y6.fr⟩
 have ew:wrV txM a.n a.dir a.es a.ls a.ss a.ws=(G.wr txM (iY a.n a.dir a.es a.ls a.ss a.ws),0):=by unfold wrV;grind
 rw[ew]
 refine az rfl ?_
 have rb:=OY (a:=a) (Y6.ok (k:=0) (c:=Ck.glob gl) rfl) qd PA hss hws
 rw[self]at rb
 refine ak [] rb PC (fun _ _ ⟨_,_,r⟩=>r.fr) ?_
 rintro v h7 ⟨t,rfl,Z7⟩
 have Y7:=((((Y6.callV Z7 ⟨rfl,rfl,rfl,rfl,trivial⟩).turn 5 rfl To.slvw).turn 6 rfl To.slvw).turn 7 rfl To.slvw).turn 8 rfl To.slvw
 refine⟨a.n,t.aE,t.nE,t.cE,a.dir,t.aL,t.nL,t.cL,t.aS,t.nS,t.cS,t.aW,t.nW,t.cW,0,0,rfl,?_⟩
 intro h8 h9 K
 have f9:Fr [] h7 h9:=((((((Fr.push h7 _).hsetL (P3 _)).hsetL (P3 _)).hsetL (P3 _)).hsetL (P3 _)).hsetL (P3 _)).hsetL (P3 _)
 have Y9:=Y7.gr f9
 clear_value h9
 refine aJ rfl (aJ rfl (aJ rfl (aJ rfl ?_)))
 refine ak [] (Fx (a:=a) (s:=t) (t:=u) (Y9.pick [5,6,7,8,1,2,3,4] rfl).hp PA) PC (fun _ _ r=>r.2) ?_
 rintro v h10 ⟨rfl,f10⟩
 have Y10:=Y9.gr f10
 refine⟨_,rfl,aJ rfl ?_⟩
 refine ak (R:=fun v h'=>v= PV true/\Fr [] h10 h') [] ?_ PC (fun _ _ r=>r.2) ?_
 ·refine(BS (n:=a.n) (es:=a.es) (dr:=a.dir) (ls:=a.ls) (ss:=a.ss) (ws:=a.ws) (R:=fun r=>r=true) hls PA qd h10 _ _ _ _ _ _ _ _ _ _ _ _ (Y10.pick [1,2,3,4] rfl).hp).mono ?_
  rintro v h' ⟨r,Y,rfl,rfl⟩
  exact⟨rfl,Y.fr⟩
 rintro v h11 ⟨rfl,f11⟩
 exact⟨_,rfl,rfl,(Y10.gr f11).fr⟩
end
end Go.Proofs.YtmmmmjcfojhiaaaGreatDoor.N
namespace Go.X
open Go.ChangeShapes Go.WideShapes Go.ChangeAt Go.RowKit
theorem tM {w:World} {b o:Nat} {s:Option Nat} {v:Value} (h:w.cell? ⟨b,o,s⟩=some v):ac w.heap b o=some v:=by
 grind [Go.Proofs.cell_spot,bz]
section
variable {H:Type} {enc:TypeId × Value->H} {P:Program} {w:World} {base:Nat} {spare:Nat->Bool}
theorem pB {α:Type} (E:En α) (D:α->DataW H) {t e:TypeId} {fuel:Nat} {cs:List Value} {p:List MemPlace} {l:List α} (ht:P.underlying t=some (.slice e)) (hc:P.cellsOf e=E.sz)
  (hel:∀(n:Nat) (cs:List Value) (x:α) (p:List MemPlace),DataW.trod enc P w base spare false n e cs=some (D x,p)->cs=E.enc x)
  (hl:0<l.length) (h:DataW.trod enc P w base spare false fuel t cs=some (.slice (l.map D) [],p)):
  ∃b o c,cs=[.slice (some ⟨b,o,none⟩) l.length c]/\∀(i:Nat) (x:α),l[i]? =some x->∀(j:Nat) (v:Value),(E.enc x)[j]? =some v->ac w.heap b (o+i*E.sz+j)=some v:=by
 rcases DataW.trod_slice ht h with⟨_,hx⟩ | ⟨a,len,cap,el,rs,m,rfl,hcs,hx,_,hlc,_,hel',helem,_,_⟩
 ·cases hx
 have e0:=congrArg Prod.fst hx
 simp only[DataW.slice.injEq]at e0
 obtain⟨eE,_⟩:=e0
 have hlen:len=l.length:=by
  have:=congrArg List.length eE
  grind
 have ac:∀(i:Nat) (x:α),l[i]? =some x->∀(j:Nat) (v:Value),(E.enc x)[j]? =some v->w.cell? ((a.add (i*E.sz)).add j)=some v:=by
  intro i x hi j v hv
  have hil:i<l.length:=(List.getElem?_eq_some_iff.1 hi).1
  have h1:=helem i PA
  rw[hc]at h1
  obtain⟨b,hb⟩:∃b,el[i]? =some b:=⟨el[i]' PA,List.getElem?_eq_getElem PA⟩
  rw[hb]at h1
  obtain⟨ce,hce,hte⟩:=Option.bind_eq_some_iff.1 h1
  have hb1:b.1=D x:=by
   have:=congrArg (·[i]?) eE
   grind
  obtain⟨b1,b2⟩:=b
  simp only at hb1;subst hb1
  have:=hel _ _ _ _ hte
  subst this
  have hj:j<E.sz:=by
   have:=(List.getElem?_eq_some_iff.1 hv).1
   rwa[E.len]at this
  rw[<-hv]
  exact(World.cells?_some hce).2.2 j hj
 obtain⟨R,o,sR⟩:=a
 have hs:sR=none:=by
  obtain⟨x,hx0⟩:∃x,l[0]? =some x:=⟨l[0]'hl,List.getElem?_eq_getElem hl⟩
  have hp:0<(E.enc x).length:=by rw[E.len];exact E.pos
  have h00:=ac 0 x hx0 0 _ (List.getElem?_eq_getElem hp)
  grind [Addr.add,Go.Proofs.cell_spot]
 subst hs
 refine⟨R,o,cap,by rw[hcs,hlen],fun i x hi j v hv=>?_⟩
 grind [dM,tM]
theorem pC {α:Type} (E:En α) (D:α->DataW H) {t e:TypeId} {n fuel:Nat} {cs:List Value} {p:List MemPlace} {l:List α} (ht:P.underlying t=some (.array n e)) (hc:P.cellsOf e=E.sz)
  (hel:∀(n:Nat) (cs:List Value) (x:α) (p:List MemPlace),DataW.trod enc P w base spare false n e cs=some (D x,p)->cs=E.enc x)
  (h:DataW.trod enc P w base spare false fuel t cs=some (.agg (l.map D),p)):
  ∀(i:Nat) (x:α),l[i]? =some x->∀(j:Nat) (v:Value),(E.enc x)[j]? =some v->cs[i*E.sz+j]? =some v:=by
 intro i x hi j v hv
 obtain⟨xs,m,rfl,hx,hl,hxl,hall⟩:=DataW.trod_array ht h
 have e0:=congrArg Prod.fst hx
 simp only[DataW.agg.injEq]at e0
 have hn:n=l.length:=by
  have:=congrArg List.length e0
  grind
 have hil:i<l.length:=(List.getElem?_eq_some_iff.1 hi).1
 have h1:=hall i PA
 obtain⟨b,hb⟩:∃b,xs[i]? =some b:=⟨xs[i]' PA,List.getElem?_eq_getElem PA⟩
 rw[hb,hc]at h1
 have hb1:b.1=D x:=by
  have:=congrArg (·[i]?) e0
  grind
 grind
theorem jb {k:IntKind} {e:TypeId} (he:P.underlying e=some (.int k)) (n:Nat) (cs:List Value) (x:Int) (p:List MemPlace) (h:DataW.trod enc P w base spare false n e cs=some (.lit (.int k x),p)):cs=(eK k).enc x:=by
 obtain⟨m,rfl,hm,_⟩:=DataW.trod_int he h
 cases hm;rfl
theorem Al {k:FloatKind} {e:TypeId} (he:P.underlying e=some (.float k)) (n:Nat) (cs:List Value) (x:Nat) (p:List MemPlace) (h:DataW.trod enc P w base spare false n e cs=some (.lit (.float k x),p)):cs=[.float k x]:=by
 cases n with
 | zero=>simp[DataW.trod]at h
 | succ m=>
  unfold DataW.trod at h
  rw[he]at h
  split at h<;>simp_all
theorem Hq {e:TypeId} (he:P.underlying e=some .string) (n:Nat) (cs:List Value) (x:PZ) (p:List MemPlace) (h:DataW.trod enc P w base spare false n e cs=some (.lit (.string x),p)):cs=[.string ⟨x.toArray⟩]:=by
 obtain⟨m,rfl,hm,_⟩:=DataW.trod_string he h
 cases hm;rfl
theorem DK {e:TypeId} (he:P.underlying e=some .bool) (n:Nat) (cs:List Value) (x:Bool) (p:List MemPlace) (h:DataW.trod enc P w base spare false n e cs=some (.lit (.bool x),p)):cs=[.bool x]:=by
 grind [DataW.trod_bool]
theorem mT {t:TypeId} {fs:Array Field} {ds:List (DataW H)} {n:Nat} {cs:List Value} {p:List MemPlace} (ht:P.underlying t=some (.struct fs)) (h:DataW.trod enc P w base spare false n t cs=some (.agg ds,p)):
  cs.length=P.cellsOf t/\∀(i:Nat) (f:Field),fs[i]? =some f->f.offset=i->P.cellsOf f.type=1->∃m d q,ds[i]? =some d/\DataW.trod enc P w base spare false m f.type ((cs.drop i).take 1)=some (d,q):=by
 obtain⟨xs,m,rfl,hx,hl,hxl,hall⟩:=DataW.trod_struct ht h
 grind
end
theorem at_one {l:List Value} {i:Nat} {v:Value} (h:(l.drop i).take 1=[v]):l[i]? =some v:=by
 have:=congrArg (·[0]?) h
 grind
theorem DL {l:List Value} {a b:Value} (hl:l.length=2) (h0:l[0]? =some a) (h1:l[1]? =some b):l=[a,b]:=by
 match l,hl with
 | [x,y],_=>grind
theorem jm {H:Type} {enc:TypeId × Value->H} {a:Assume} {C:Checked} {os:Os} {f:FuncId} {fn:Func} {s:ChangeSpec} {conds:List PathCond} {apart fresh handsOn again:Bool} {X:World->Array Value->Prop}
  (hX:∀(w w':World) (args:Array Value),w.heap=w'.heap->X w args->X w' args)
  (own:ownKnob C.prog.godebug=none) (started:os.Started) (noInit:C.prog.inits.idxOf? f=none) (hfn:C.prog.funcs[f]? =some fn)
  (witness:∃(w:World) (tape:Tape) (i:Input),w.os=os/\(w.forCall tape i).Shaped C.prog/\i.vars=[]/\Input.okWide C.prog (w.forCall tape i) .any w.heap.size f i/\
   ((s.pre enc C.prog fn conds apart (w.forCall tape i).memory i.args/\X (w.forCall tape i).memory i.args)/\sizedMet enc C.prog fn (OpenSpec.ofChange s) apart (w.forCall tape i).memory i.args)/\a.holds C.prog (lone (Frame.enter C.prog f i.args .normal) [] (w.forCall tape i)))
  (contract:∀(W:World) (base:Nat) (args:Array Value) (ds gs:List (DataW H)) (before:List MemPlace),
   (∀(j:Nat) t v,fn.params[j]? =some t->args[j]? =some v->Value.okWide C.prog W .any base t v)->
   DataW.Whole enc C.prog fn.params.toList s.vars apart W args.toList ds gs before->
   X W args->W.ShapedOpen C.prog->
   Calls C.prog f args W fun e W'=>∃v,e= .returned v/\s.post enc C.prog fn apart fresh handsOn again W args v W'):
  ReturnsInHanded a C os f .any (fun w args=>(s.pre enc C.prog fn conds apart w args/\X w args)/\sizedMet enc C.prog fn (OpenSpec.ofChange s) apart w args) (s.post enc C.prog fn apart fresh handsOn again):=by
 refine returnsInHanded_of_calls own started noInit witness ?_
 intro w tape i _ hsh _ hok hpre hholds
 obtain⟨_,_,_,fn',hfn',_,_,_,_,hval⟩:=hok
 have e:fn'=fn:=Option.some.inj (hfn'.symm.trans hfn)
 subst e
 obtain⟨⟨⟨ds,gs,before,hw,hc⟩,hx⟩,hz⟩:=hpre
 have hw':=DataW.Whole.of_heap (w':=w.forCall tape i) PF hw
 refine(contract (w.forCall tape i) w.heap.size i.args ds gs before hval hw' (hX _ _ _ PF hx) hsh).mono fun e W' ⟨v,he,hp⟩=>?_
 grind [ChangeSpec.post_blind]
end Go.X
namespace Go.Proofs.YtmmmmjcfojhiaaaGreatDoor.N
open Go.X Go.Lib
def dF (x:Nat):DataW Unit:=.lit (.float .f64 x)
def dU (x:Int):DataW Unit:=.lit (.int .u64 x)
def dI (x:Int):DataW Unit:=.lit (.int .i64 x)
def dR (x:Nat × Nat):DataW Unit:=.agg [.lit (.int .u64 x.1),.lit (.int .u64 x.2)]
def NY (x:Nat × PZ):DataW Unit:=.agg [.lit (.int .i64 x.1),.lit (.string x.2)]
def eR2 :En (Nat × Nat):=⟨2,fun x=>[.int .u64 x.1,.int .u64 x.2],PB,fun _=>rfl,fun x v h=>by simp at h;rcases h with rfl | rfl<;>rfl⟩
def eC2 :En (Nat × PZ):=⟨2,fun x=>[.int .i64 x.1,.string ⟨x.2.toArray⟩],PB,fun _=>rfl,fun x v h=>by simp at h;rcases h with rfl | rfl<;>rfl⟩
theorem isU :(Rows.laid_internal_strconv_uint64pow10:DataW Unit)= .agg (tU.map dU):=by kernel_rfl
theorem isP :(Rows.laid_internal_strconv_powtab:DataW Unit)= .slice (tP.map dI) []:=by kernel_rfl
theorem isF :(Rows.laid_internal_strconv_float64pow10:DataW Unit)= .slice (tF.map dF) []:=by kernel_rfl
theorem isT :Rows.laid_internal_strconv_pow10Tab= .agg (Go.Pinned.pow10Rows.map dR):=rfl
theorem isL :Rows.laid_internal_strconv_leftcheats= .slice (Go.Pinned.cheatRows.map NY) []:=rfl
theorem Pt :0<Go.Pinned.cheatRows.length:=by decide+kernel
theorem Iu :∀(l:List (Nat × Nat)) (i:Nat) (v:Int),(l.flatMap fun x=>[(x.1:Int),(x.2:Int)])[i]? =some v->∃x,l[i/2]? =some x/\(eR2.enc x)[i % 2]? =some (.int .u64 v)
 | [],i,v,h=>by simp at h
 | x::l,0,v,h=>by simp at h;subst h;exact⟨x,rfl,rfl⟩
 | x::l,1,v,h=>by simp at h;subst h;exact⟨x,rfl,rfl⟩
 | x::l,i+2,v,h=>by
  simp only[QM,QB,Rq,List.getElem?_cons_succ]at h
  obtain⟨y,h1,h2⟩:=Iu l i v h
  grind
section
variable {W:World}
theorem gv {n:String} {g:Nat} {t:TypeId} {d:DataW Unit} (hn:Tryz.prog.globalNamed n=some g) (ht:(Tryz.prog.globals[g]?).map (·.type)=some t) (h:VarReads Tryz.prog W n d):
  ∃cs fuel p,DataW.trod (fun _=>()) Tryz.prog W 0 (fun _=>true) false fuel t cs=some (d,p)/\∀(i:Nat) (v:Value),cs[i]? =some v->ac W.heap g i=some v:=by
 obtain⟨g',t',cs,fuel,p,h1,h2,h3,h4⟩:=h
 obtain rfl:=Option.some.inj (hn.symm.trans h1)
 obtain rfl:=Option.some.inj (ht.symm.trans h2)
 refine⟨cs.toList,fuel,p,h4,fun i v hi=>tM (s:=none) ?_⟩
 rw[World.var?_cell hn h3 i,<-Array.getElem?_toList];exact hi
theorem NZ (h:VarReads Tryz.prog W "internal/strconv.uint64pow10" (.agg (tU.map dU))):∃e f,W.heap[1]? =some (.cells (tU.map fun z=>Value.int .u64 z).toArray e f):=by
 obtain⟨g',t',cs,fuel,p,h1,h2,h3,h4⟩:=h
 obtain rfl:=Option.some.inj ((show Tryz.prog.globalNamed "internal/strconv.uint64pow10" =some 1 by kernel_rfl).symm.trans h1)
 obtain rfl:=Option.some.inj ((show(Tryz.prog.globals[1]?).map (·.type)=some 164 by kernel_rfl).symm.trans h2)
 have u6:=pC (eK .u64) dU Tryz.underlying164 PD (jb PD) h4
 obtain⟨xs,m,_,_,hl,_⟩:=DataW.trod_array Tryz.underlying164 h4
 have hl:cs.toList.length=20:=hl.trans PD
 have e:cs.toList=tU.map fun z=>Value.int .u64 z:=by
  apply Re
  intro i
  by_cases hi:i<20
  ·obtain⟨z,hz⟩:∃z,tU[i]? =some z:=⟨tU[i]'hi,List.getElem?_eq_getElem _⟩
   have:=u6 i z hz 0 _ rfl
   rw[show i*(eK IntKind.u64).sz+0=i from Qy i]at this
   grind
  grind [List.length_map]
 unfold World.var? at h3
 rw[h1,Option.bind_some]at h3
 split at h3
 ·rename_i c el fr hh
  obtain rfl:=Option.some.inj h3
  refine⟨el,fr,hh.trans ?_⟩
  have e2:c=(tU.map fun z=>Value.int .u64 z).toArray:=by rw[<-e]
  rw[e2]
 ·cases h3
theorem Pu (h:laidMetH Tryz.prog Rows.gmlAgainRow.laid W) (hS:W.ShapedOpen Tryz.prog):∃gl,Gl gl W.heap:=by
 rw[MakeChecks.laidMetH_plain _ _ _ PD]at h
 have r:∀{n d},(n,d)∈Rows.gmlAgainRow.laid->VarReads Tryz.prog W n d:=fun hm=>laidMet.reads h hm
 obtain⟨c3,f3,p3,t3,k3⟩:=gv (g:=2) (t:=4) PD PD (r (n:= "internal/strconv.optimize") (d:=Rows.laid_internal_strconv_optimize) (by simp[Rows.gmlAgainRow]))
 obtain⟨c5,f5,p5,t5,k5⟩:=gv (g:=13) (t:=238) PD PD (r (n:= "internal/strconv.float64info") (d:=Rows.laid_internal_strconv_float64info) (by simp[Rows.gmlAgainRow]))
 obtain⟨c6,f6,p6,t6,k6⟩:=gv (g:=1) (t:=164) PD PD (r (n:= "internal/strconv.uint64pow10") (d:=Rows.laid_internal_strconv_uint64pow10) (by simp[Rows.gmlAgainRow]))
 obtain⟨c9,f9,p9,t9,k9⟩:=gv (g:=15) (t:=253) PD PD (r (n:= "internal/strconv.powtab") (d:=Rows.laid_internal_strconv_powtab) (by simp[Rows.gmlAgainRow]))
 obtain⟨c10,f10,p10,t10,k10⟩:=gv (g:=16) (t:=28) PD PD (r (n:= "internal/strconv.float64pow10") (d:=Rows.laid_internal_strconv_float64pow10) (by simp[Rows.gmlAgainRow]))
 obtain⟨c11,f11,p11,t11,k11⟩:=gv (g:=10) (t:=218) PD PD (r (n:= "internal/strconv.pow10Tab") (d:=Rows.laid_internal_strconv_pow10Tab) (by simp[Rows.gmlAgainRow]))
 obtain⟨c12,f12,p12,t12,k12⟩:=gv (g:=11) (t:=223) PD PD (r (n:= "internal/strconv.leftcheats") (d:=Rows.laid_internal_strconv_leftcheats) (by simp[Rows.gmlAgainRow]))
 obtain⟨c1,f1,p1,t1,k1⟩:=gv (g:=3) (t:=88) PD PD (r (n:= "strconv.ErrSyntax") (d:=Rows.laid_strconv_ErrSyntax) (by simp[Rows.gmlAgainRow]))
 obtain⟨c2,f2,p2,t2,k2⟩:=gv (g:=4) (t:=88) PD PD (r (n:= "strconv.ErrRange") (d:=Rows.laid_strconv_ErrRange) (by simp[Rows.gmlAgainRow]))
 have uu:=NZ (by have:=r (n:= "internal/strconv.uint64pow10") (d:=Rows.laid_internal_strconv_uint64pow10) (by simp[Rows.gmlAgainRow]);rwa[isU]at this)
 obtain⟨m1,hm1⟩:=cell_of_shapedOpen_int (g:=5) (t:=3) (k:=.i64) hS (of_decide_eq_true PD) (zero:=#[.int .i64 0]) PD rfl PD PD PD
 clear h r
 rw[isU]at t6
 rw[isP]at t9
 rw[isF]at t10
 rw[isT]at t11
 rw[isL]at t12
 have u6:=pC (eK .u64) dU Tryz.underlying164 PD (jb PD) t6
 obtain⟨pb,po,pc,rfl,u9⟩:=pB (eK .i64) dI Tryz.underlying253 PD (jb PD) PB t9
 obtain⟨fb,fo,fc,rfl,u10⟩:=pB (⟨1,fun x=>[.float .f64 x],PB,fun _=>rfl,fun x v h=>by simp at h;subst h;rfl⟩:En Nat) dF Tryz.underlying28 PD (Al PD) PB t10
 have u11:=pC eR2 dR Tryz.underlying218 PD (fun n cs x p q=>by
  obtain⟨hl,ha⟩:=mT Tryz.underlying217 q
  obtain⟨m0,d0,q0,e0,h0⟩:=ha 0 _ rfl rfl PD
  obtain⟨m1,d1,q1,e1,h1⟩:=ha 1 _ rfl rfl PD
  cases e0;cases e1
  exact DL hl (at_one (jb Tryz.underlying84 _ _ _ _ h0)) (at_one (jb Tryz.underlying84 _ _ _ _ h1))) t11
 obtain⟨lb,lo,lc,rfl,u12⟩:=pB eC2 NY Tryz.underlying223 PD (fun n cs x p q=>by
  obtain⟨hl,ha⟩:=mT Tryz.underlying222 q
  obtain⟨m0,d0,q0,e0,h0⟩:=ha 0 _ rfl rfl PD
  obtain⟨m1,d1,q1,e1,h1⟩:=ha 1 _ rfl rfl PD
  cases e0;cases e1
  exact DL hl (at_one (jb Tryz.underlying3 _ _ _ _ h0)) (at_one (Hq Tryz.underlying9 _ _ _ _ h1))) Pt t12
 obtain⟨_,ha⟩:=mT Tryz.underlying238 t5
 have s5:∀(i:Nat) (f:Field) (k:IntKind) (x:Int),#[{name:= "mantbits",type:=112,offset:=0,embedded:=false,tag:= "",pkgPath:= "internal/strconv",byteOffset:=0},{name:= "expbits",type:=112,offset:=1,embedded:=false,tag:= "",pkgPath:= "internal/strconv",byteOffset:=8},{name:= "bias",type:=3,offset:=2,embedded:=false,tag:= "",pkgPath:= "internal/strconv",byteOffset:=16}][i]? =some f->f.offset=i->Tryz.prog.cellsOf f.type=1->
   Tryz.prog.underlying f.type=some (.int k)->([.lit (.int .u64 52),.lit (.int .u64 11),.lit (.int .i64 (-1023))]:List (DataW Unit))[i]? =some (.lit (.int k x))->ac W.heap 13 i=some (.int k x):=fun i f k x hf ho hc hu hx=>by
  obtain⟨m,d,q,e,h⟩:=ha i f hf ho hc
  obtain rfl:=Option.some.inj (hx.symm.trans e)
  exact k5 i _ (at_one (jb hu _ _ _ _ h))
 have ifc:∀{g f p cs} {d:DataW Unit} {s:String},DataW.trod (fun _=>()) Tryz.prog W 0 (fun _=>true) false f 88 cs=some (.iface s d,p)->(∀(i:Nat) (v:Value),cs[i]? =some v->ac W.heap g i=some v)->∃t v,ac W.heap g 0=some (.iface t v):=by
  intro g f p cs d s h k
  cases f with
  | zero=>simp[DataW.trod]at h
  | succ m=>
   unfold DataW.trod at h
   rw[Tryz.underlying88]at h
   split at h<;>simp_all
 refine⟨⟨pb,po,pc,fb,fo,fc,lb,lo,lc⟩,?_⟩
 exact{
  opt:=k3 0 _ (by rw[DK Tryz.underlying4 _ _ _ _ t3];rfl)
  i0:=s5 0 _ _ _ rfl rfl PD Tryz.underlying112 rfl
  i1:=s5 1 _ _ _ rfl rfl PD Tryz.underlying112 rfl
  i2:=s5 2 _ _ _ rfl rfl PD Tryz.underlying3 rfl
  u:=fun i v hv=>by rw[Qu];exact k6 i _ (by have:=u6 i v hv 0 _ rfl;rwa[show i*(eK IntKind.u64).sz+0=i from Qy i]at this)
  t:=fun i v hv=>by
   rw[Qu]
   obtain⟨x,hx,hv2⟩:=Iu _ _ _ hv
   have:=u11 _ _ hx _ _ hv2
   rw[show i/2*eR2.sz+i % 2=i from Nat.div_add_mod' i 2]at this
   exact k11 i _ this
  p0:=k9 0 _ rfl
  p:=fun i v hv=>by have:=u9 i v hv 0 _ rfl;rwa[show po+i*(eK IntKind.i64).sz+0=po+i by show po+i*1+0=po+i;omega]at this
  f0:=k10 0 _ rfl
  f:=fun i v hv=>by have:=u10 i v hv 0 _ rfl;rwa[show fo+i*1+0=fo+i by omega]at this
  l0:=k12 0 _ rfl
  l:=fun i v hv=>by
   obtain⟨x,hx,rfl⟩:∃x,Go.Pinned.cheatRows[i]? =some x/\v=((x.1:Int),(⟨x.2.toArray⟩:P0)):=by
    unfold tL at hv
    rw[List.getElem?_map]at hv
    obtain⟨x,h1,h2⟩:=QS.1 hv
    exact⟨x,h1,h2.symm⟩
   have a0:=u12 i x hx 0 _ rfl
   have a1:=u12 i x hx 1 _ rfl
   exact⟨a0,a1⟩
  uu:=uu
  ml:=⟨m1,tM hm1⟩
  e1:=ifc t1 k1
  e2:=ifc t2 k2}
theorem met (os:Os) (args:Array Value):laidMetH Tryz.prog Rows.gmlAgainRow.laid ((World.laidAll Tryz.prog os Rows.gmlAgainRow.laid).forCall (fun _ _=>0) ⟨#[],args,[]⟩).memory:=by
 rw[MakeChecks.laidMetH_plain _ _ _ PD]
 exact laidMet_laidAll _ PD PD
end
end Go.Proofs.YtmmmmjcfojhiaaaGreatDoor.N
namespace Go.X
open Go.ChangeShapes Go.WideShapes Go.ChangeAt Go.RowKit
open Go.Deep
theorem wD {P:Program} {f:FuncId} {args:Array Value} {v:Value} {W:World} (c:af P f args W.heap fun v' h'=>Fr [] W.heap h'/\v'=v):
  Calls P f args W fun e w'=>e= .returned v/\Below W.heap.size W w':=
 (c W rfl).mono fun e w' ⟨u,h1,h2,h3,h4⟩=>⟨by rw[h1,h4],⟨h2.os,h2.tape,h2.output,h3.size,fun k hk=>h3.blk k hk PC⟩⟩
section
variable {H:Type} {enc:TypeId × Value->H} {P:Program} {W:World} {base:Nat}
end
theorem EO {cs:List Ck} (h:ao cs=[]) {k:Nat} {d:Ck} (hd:cs[k]? =some d):∀b,b∉d.own:=fun b hb=>by
 have:b∈ao cs:=List.mem_flatMap.2 ⟨d,Qa hd,hb⟩
 rw[h]at this;simp at this
theorem Hp.vw {h:ab} {c:Ck} {cs:List Ck} (hc:c.ok h) (ho:c.own=[]) (H:Hp h cs) (hn:ao cs=[]):Hp h (c::cs):=
 Hp.view hc ho H fun _ _ hd b hb=>absurd hb (EO hn hd b)
section
variable {H:Type} {enc:TypeId × Value->H} {P:Program} {W:World} {base:Nat}
end
end Go.X
namespace Go.Proofs.YtmmmmjcfojhiaaaGreatDoor
end Go.Proofs.YtmmmmjcfojhiaaaGreatDoor
namespace Go.X
open Go.ChangeShapes Go.WideShapes Go.ChangeAt Go.RowKit Go.Deep
section
variable {H:Type} {enc:TypeId × Value->H} {P:Program} {W:World} {base:Nat}
end
end Go.X
namespace Go.Proofs.YtmmmmjcfojhiaaaGreatDoor
def blank :Char:=Char.ofNat 32
theorem DC (r:List Char):wordsSigns (blank::r)=[]::wordsSigns r:=rfl
theorem Hg {c:Char} (hc:c≠blank) {r w:List Char} {ws:List (List Char)} (h:wordsSigns r=w::ws):wordsSigns (c::r)=(c::w)::ws:=by
 rw[wordsSigns]
 ·rw[h]
 ·exact hc
theorem ou :∀(w r:List Char),w.all (fun c=>c != blank)=true->wordsSigns (w++blank::r)=w::wordsSigns r
 | [],r,_=>DC r
 | c::w,r,h=>by
  simp only[List.all_cons,Bool.and_eq_true]at h
  exact Hg (by simpa using h.1) (ou w r h.2)
def rX :List Char:=[Char.ofNat 104,Char.ofNat 97,Char.ofNat 114,Char.ofNat 110,Char.ofNat 101,Char.ofNat 115,Char.ofNat 115]
def rY :List Char:=[Char.ofNat 55,Char.ofNat 51,Char.ofNat 97,Char.ofNat 56,Char.ofNat 52,Char.ofNat 56,Char.ofNat 57,Char.ofNat 53,Char.ofNat 101,Char.ofNat 99,Char.ofNat 52,Char.ofNat 98,Char.ofNat 57,Char.ofNat 52,Char.ofNat 97,Char.ofNat 49,Char.ofNat 97,Char.ofNat 99,Char.ofNat 101,Char.ofNat 56,Char.ofNat 102,Char.ofNat 99,Char.ofNat 53,Char.ofNat 57,Char.ofNat 48,Char.ofNat 55,Char.ofNat 102,Char.ofNat 102,Char.ofNat 52,Char.ofNat 98,Char.ofNat 99,Char.ofNat 98,Char.ofNat 97,Char.ofNat 48,Char.ofNat 98,Char.ofNat 53,Char.ofNat 97,Char.ofNat 98,Char.ofNat 54,Char.ofNat 48,Char.ofNat 100,Char.ofNat 52,Char.ofNat 56,Char.ofNat 101,Char.ofNat 98,Char.ofNat 57,Char.ofNat 51,Char.ofNat 97,Char.ofNat 101,Char.ofNat 55,Char.ofNat 52,Char.ofNat 53,Char.ofNat 53,Char.ofNat 49,Char.ofNat 48,Char.ofNat 55,Char.ofNat 51,Char.ofNat 48,Char.ofNat 100,Char.ofNat 102,Char.ofNat 51,Char.ofNat 99,Char.ofNat 101,Char.ofNat 49]
def gP :List Char:=[Char.ofNat 99,Char.ofNat 117,Char.ofNat 116]
def Iq :List Char:=[Char.ofNat 97,Char.ofNat 116,Char.ofNat 32,Char.ofNat 116,Char.ofNat 114,Char.ofNat 97,Char.ofNat 99,Char.ofNat 101,Char.ofNat 114,Char.ofNat 121,Char.ofNat 47,Char.ofNat 116,Char.ofNat 114,Char.ofNat 97,Char.ofNat 99,Char.ofNat 101,Char.ofNat 114,Char.ofNat 121,Char.ofNat 108,Char.ofNat 97,Char.ofNat 119,Char.ofNat 51,Char.ofNat 48,Char.ofNat 46,Char.ofNat 71,Char.ofNat 109,Char.ofNat 108,Char.ofNat 65,Char.ofNat 103,Char.ofNat 97,Char.ofNat 105,Char.ofNat 110]
theorem Hh :Tryz.pinned.checked.prog.initOrder=String.ofList (rX++blank::(rY++blank::(gP++blank::Iq))):=by kernel_rfl
theorem mO :∃tl,wordsSigns Tryz.pinned.checked.prog.initOrder.toList=rX::rY::gP::tl:=by
 refine⟨wordsSigns Iq,?_⟩
 rw[Hh,String.toList_ofList,ou _ _ (by kernel_rfl),ou _ _ (by kernel_rfl),ou _ _ (by kernel_rfl)]
theorem behind (tl:List (List Char)):behindMainWord (rX::rY::gP::tl)=gP::tl:=by kernel_rfl
theorem Ir (tl:List (List Char)):stripLifts liftWords (gP::tl)=([],gP::tl):=by kernel_rfl
theorem Km :Tryz.pinned.checked.prog.doorFits []=true:=by kernel_rfl
theorem later :Tryz.pinned.checked.prog.laysLater=false:=by kernel_rfl
theorem Kn :Tryz.pinned.checked.prog.bearsReflect=false:=by kernel_rfl
theorem isC :(gP== "cut".toList)=true:=by kernel_rfl
theorem NR :(gP== "gc".toList)=false:=by kernel_rfl
theorem NS :(gP== "spec".toList)=false:=by kernel_rfl
theorem NT :(gP== "carried".toList)=false:=by kernel_rfl
theorem It (tl:List (List Char)):((gP::tl).head? ==some "cut".toList)=true:=by
 rw[List.head?_cons,Option.some_beq_some];exact isC
theorem vo {P:Program} {tl:List (List Char)} (h:wordsSigns P.initOrder.toList=rX::rY::gP::tl) (Km:P.doorFits []=true) (later:P.laysLater=false) (hrefl:P.bearsReflect=false):P.mayEnter=true:=by
 unfold Program.mayEnter
 rw[h,behind]
 simp only[Ir,Km,later,hrefl,NR,NS,NT,It,Bool.false_or,Bool.or_false,Bool.false_and,Bool.not_false,Bool.or_true,Bool.and_true,Bool.and_self]
 rfl
theorem DE {P:Program} {tl:List (List Char)} (h:wordsSigns P.initOrder.toList=rX::rY::gP::tl):P.liftsFinal=false:=by
 unfold Program.liftsFinal Program.headLifts
 rw[h,behind]
 have hk:((gP::tl).head? ==some "carried".toList)=false:=by rw[List.head?_cons,Option.some_beq_some];exact NT
 simp only[Ir,hk,It,Bool.false_and,Bool.false_or,if_true,List.contains_nil]
theorem Hi {P:Program} {tl:List (List Char)} (h:wordsSigns P.initOrder.toList=rX::rY::gP::tl):P.make=some .cut:=by
 unfold Program.make Program.headLifts
 rw[h,behind]
 simp only[isC,NR,NS,Bool.or_false,Bool.true_or,if_true,Bool.false_eq_true,if_false]
theorem Ai :Tryz.pinned.checked.prog.mayEnter=true:=mO.elim fun _ h=>vo h Km later Kn
theorem Aj :Tryz.pinned.checked.prog.liftsFinal=false:=mO.elim fun _ h=>DE h
theorem Hj :Tryz.pinned.checked.prog.make=some .cut:=mO.elim fun _ h=>Hi h
end Go.Proofs.YtmmmmjcfojhiaaaGreatDoor
/- A row's closed facts, one by one. Conditions: none. -/
namespace Go.X
theorem an {a b:Bool} (x:a=true) (y:b=true):(a&&b)=true:=by rw[x,y];rfl
theorem pu {P:Program} {f:FuncId} {fn:Func} {s:ChangeSpec} {c:OpenClaim}
  (h0:(c.wf (OpenSpec.ofChange s))=true)
  (h1:(laidOutB P)=true)
  (h2:(mapsRowed P)=true)
  (h3:(fn.params.all (P.readableRec ·))=true)
  (h4:(namedTie P c.named s.vars)=true)
  (h5:((c.stops==[]))=true)
  (h6:((P.stops==[]))=true)
  (h7:((c.knobs==[]))=true)
  (h8:((P.stopKnobs==[]))=true)
  (h9:((c.inPlace==P.inPlace f))=true)
  (h10:((c.unfollowed==P.unfollowed f))=true)
  (h11:((c.recurses==P.recurses f))=true)
  (h12:((c.named==P.varsNamed f))=true)
  (h13:((c.maps==(fn.params.toList++s.plain.varTypes P).any (P.mapsRec ·)))=true)
  (h14:((c.ifaces==(fn.params.toList++s.plain.varTypes P).any (P.ifacesRec ·)))=true)
  (h15:((c.mapsOut==P.mapsAmong fn.resultTypes.toList))=true)
  (h16:((c.loops==(fn.params.toList++s.plain.varTypes P).any (P.loopsFrom ·)))=true)
  (h17:((c.wideKeys==(fn.params.toList++s.plain.varTypes P++fn.resultTypes.toList).any (P.wideKeysFrom ·)))=true)
  (h18:(s.vars.all (P.varReadable ·))=true)
  (h19:(fn.resultTypes.all (fun t=>P.readableRec t&&decide (t<P.types.size)))=true)
  (h20:((c.ifacesOut==fn.resultTypes.toList.any (P.ifacesRec ·)))=true)
  (h21:((c.loopsOut==fn.resultTypes.toList.any (P.loopsFrom ·)))=true)
  (h22:((c.plainKeys==P.plainKeys))=true)
  (h23:(c.shortTexts.isNone)=true)
  (h24:(P.stopsHeard)=true)
  (h25:(P.mayEnter)=true)
  (l1:P.liftsFinal=false) (l2:c.lifted=false)
  (m1:P.make=some .cut) (m2:c.make= .cut)
  (h28:((c.kinds==(if c.domain.isEmpty then []else fn.params.toList.map fun t=>match P.underlying t with | some (.int k)=>some k | _=>none)))=true)
  (h29:((c.pinned==c.pinnedBy))=true)
  (h30:((c.veiled==(fn.params.toList++s.plain.varTypes P++fn.resultTypes.toList).any (P.veiledRec ·)))=true)
  (h31:(c.veiledFits P fn.params.toList (fn.params.toList++s.plain.varTypes P++fn.resultTypes.toList))=true):joinedFacts P f fn s c=true:=by
 unfold joinedFacts
 exact an (an (an (an (an (an (an (an (an (an (an (an (an (an (an (an (an (an (an (an (an (an (an (an (an (an (an (an (an (an (an h0 h1) h2) h3) h4) h5) h6) h7) h8) h9) h10) h11) h12) h13) h14) h15) h16) h17) h18) h19) h20) h21) h22) h23) h24) h25) (by rw[l1,l2];rfl)) (by rw[m1,m2];rfl)) h28) h29) h30) h31
end Go.X
namespace Go.Proofs.YtmmmmjcfojhiaaaGreatDoor
theorem NU :(laidOutB Tryz.pinned.checked.prog)=true:=by kernel_rfl
theorem NV :(mapsRowed Tryz.pinned.checked.prog)=true:=by kernel_rfl
theorem NW :((Tryz.pinned.checked.prog.stops==[]))=true:=by kernel_rfl
theorem NX :((Tryz.pinned.checked.prog.stopKnobs==[]))=true:=by kernel_rfl
theorem Ko :(Tryz.pinned.checked.prog.stopsHeard)=true:=by kernel_rfl
theorem Dp :true=Tryz.pinned.checked.prog.looks []:=by kernel_rfl
theorem G8 :Tryz.pinned.checked.prog.mainIs=some ((true,"73a84895ec4b94a1ace8fc5907ff4bcba0b5ab60d48eb93ae745510730df3ce1").1,(true,"73a84895ec4b94a1ace8fc5907ff4bcba0b5ab60d48eb93ae745510730df3ce1").2.toList):=by kernel_rfl
end Go.Proofs.YtmmmmjcfojhiaaaGreatDoor
