/- Memory of the readers: a place in a text that moves, maps by their entries, calls that may go up. Conditions: none. -/
import Derived.Test.YtmmmmjcfojhiaaaGreatDoorSBi
import Derived.Lib.ParseIntB
import Derived.Lib.ItoaNum
import Derived.Test.YtmmmmjcfojhiaaaGreatDoorWShelf
set_option linter.unusedVariables false
set_option linter.unusedSimpArgs false
set_option maxRecDepth 100000
namespace Go.X
theorem aK {P:Program} {f:FuncId} {args:Array Value} {h:ab} {H:List Nat} {K E R Rp:Value->ab->Prop} (M:List Nat) (c:aG P f args h R Rp) (hm:∀b∈H,b∉M)
  (f1:∀v h',R v h'->Fr M h h') (f2:∀v h',Rp v h'->Fr M h h') (k:∀v h',R v h'->K v h') (e:∀v h',Rp v h'->E v h'):aH P f args h H K E:=
 ⟨M,R,Rp,c.mono (fun v h' r=>⟨f1 v h' r,r⟩) (fun v h' r=>⟨f2 v h' r,r⟩),hm,fun v h' _ r=>k v h' r,fun v h' _ r=>e v h' r⟩
theorem ak {P:Program} {f:FuncId} {args:Array Value} {h:ab} {H:List Nat} {K R:Value->ab->Prop} (M:List Nat) (c:af P f args h R) (hm:∀b∈H,b∉M)
  (f1:∀v h',R v h'->Fr M h h') (k:∀v h',R v h'->K v h'):ag P f args h H K:=
 ⟨M,R,c.mono (fun v h' r=>⟨f1 v h' r,r⟩),hm,fun v h' _ r=>k v h' r⟩
theorem gG {P:Program} {f:FuncId} {args:Array Value} {h:ab} {H:List Nat} {K:Value->ab->Prop} {v0:Value} (c:af P f args h fun v h'=>v=v0/\h'=h) (k:K v0 h):ag P f args h H K:=
 ak [] c PC (fun _ _ r=>Fr.of_eq r.2) fun v h' r=>by grind
structure Lx (h:ab) (b:Nat) (s:P0) (i:Nat):Prop where
 c0:ac h b 0=some (.string s)
 c1:ac h b 1=some (.int .i64 (i:Int))
 fr:aq h b 1=true
structure Mv (b:Nat) (h h':ab) (j:Nat):Prop where
 lt:b<h.size
 fr:Fr [b] h h'
 at_:h'[b]? =(aj h b 1 (.int .i64 (j:Int)))[b]?
theorem Lx.lt {h:ab} {b:Nat} {s:P0} {i:Nat} (L:Lx h b s i):b<h.size:=bJ L.c0
theorem mE {h:ab} {b o:Nat} {v:Value} (hc:ac h b o=some v):∃c e f,h[b]? =some (.cells c e f)/\c[o]? =some v:=by
 grind [ac]
theorem Bm {c:Array Value} {o:Nat} {v:Value} (h:c[o]? =some v):c.setIfInBounds o v=c:=by
 grind
theorem Mv.refl {h:ab} {b:Nat} {s:P0} {i:Nat} (L:Lx h b s i):Mv b h h i:=by
 refine⟨L.lt,Fr.refl _ _,?_⟩
 obtain⟨c,e,f,h1,h2⟩:=mE L.c1
 rw[bO h1,Bm h2,h1]
theorem Mv.to {h:ab} {b:Nat} {s:P0} {i:Nat} (L:Lx h b s i) (j:Nat):Mv b h (aj h b 1 (.int .i64 (j:Int))) j:=⟨L.lt,Fr.hset h b 1 _,rfl⟩
theorem Mv.trans {b:Nat} {h h1 h2:ab} {i j:Nat} (a:Mv b h h1 i) (k:Mv b h1 h2 j):Mv b h h2 j:=by
 refine⟨a.lt,a.fr.trans k.fr,?_⟩
 rw[k.at_]
 have e:=a.at_
 cases q:h[b]? with
 | none=>simp_all
 | some x=>
  cases x with
  | cells c t f=>
   rw[bO q]at e
   rw[bO e,bO q]
   simp
  | _=>
   grind [aj]
theorem Mv.ext {b:Nat} {h h1 h2:ab} {i:Nat} {N:List Nat} (a:Mv b h h1 i) (f:Fr N h1 h2) (hn:∀x∈N,h.size<=x):Mv b h h2 i:=by
 have hb:b∉N:=fun q=>by have:=hn b q;have:=a.lt;omega
 exact⟨a.lt,a.fr.comp f (fun x q=>.inr (hn x q)),(f.blk b (QT a.lt a.fr.size) hb).trans a.at_⟩
theorem Mv.push {b:Nat} {h h1:ab} {i:Nat} (a:Mv b h h1 i) (x:Obj):Mv b h (h1.push x) i:=a.ext (Fr.push h1 x) PC
theorem Mv.hsetn {b:Nat} {h h1:ab} {i p o:Nat} {v:Value} (a:Mv b h h1 i) (hp:h.size<=p):Mv b h (aj h1 p o v) i:=a.ext (Fr.hset h1 p o v) (by simpa using hp)
theorem Lx.mv {h h':ab} {b:Nat} {s:P0} {i j:Nat} (L:Lx h b s i) (m:Mv b h h' j):Lx h' b s j:=by
 obtain⟨c,e,f,h1,h2⟩:=mE L.c1
 have e1:=m.at_
 rw[bO h1]at e1
 have h0:=L.c0
 rw[bs h1]at h0
 have hlt:=(Array.getElem?_eq_some_iff.1 h2).1
 refine⟨?_,?_,?_⟩
 ·rw[bs e1,Array.getElem?_setIfInBounds_ne PB];exact h0
 ·rw[bs e1,Array.getElem?_setIfInBounds_self_of_lt hlt]
 ·have hf:=L.fr
  grind [aq]
theorem Lx.cell {h:ab} {b:Nat} {s:P0} {i:Nat} (L:Lx h b s i):∃u,ac h b (0+1)=some u:=⟨_,L.c1⟩
theorem Sy.mv {h0 h h':ab} {M:List Nat} {cs:List Ck} {b j:Nat} {ty:TypeId} {cells:List Value} (Y:Sy h0 M h cs) (k:Nat) (hk:cs[k]? =some (Ck.ob b ty cells)) (m:Mv b h h' j):
  Sy h0 M h' (cs.set k (Ck.ob b ty (cells.set 1 (.int .i64 (j:Int))))):=
 Y.mut hk _ m.fr.size (fun d hd hn=>m.fr.blk d hd (by simpa[Ck.ob]using hn)) (by
  have:=m.at_
  rw[bO (Y.ok hk)]at this
  simpa[Ck.ob]using this) (fun d hd=>.inl hd) (fun d hd=>by simp[Ck.ob]at hd)
theorem Sy.lx {h0 h:ab} {M:List Nat} {cs:List Ck} {b:Nat} {ty:TypeId} {s:P0} {i:Nat} {cells:List Value} (Y:Sy h0 M h cs) (k:Nat) (hk:cs[k]? =some (Ck.ob b ty (.string s:: .int .i64 (i:Int)::cells))):Lx h b s i:=
 ⟨Y.cellO k hk 0 rfl,Y.cellO k hk 1 rfl,Y.freeO k hk 1⟩
def Ent (l:List (Value × Value)):Array MapEntry:=(l.mapIdx fun i p=>⟨p.1,p.2,i⟩).toArray
theorem gi (l:List (Value × Value)) (j:Nat):(Ent l)[j]? =(l[j]?).map fun p=>⟨p.1,p.2,j⟩:=by simp[Ent]
theorem gj {l:List (Value × Value)} {e:MapEntry} (h:e∈(Ent l).toList):∃j p,l[j]? =some p/\e=⟨p.1,p.2,j⟩:=by
 grind [Ent]
theorem uG (l:List (Value × Value)) (k v:Value):(Ent l).push ⟨k,v,l.length⟩=Ent (l++[(k,v)]):=by
 grind [Ent]
theorem E4 {a:Array MapEntry} {l:List (Value × Value)} (h:∀j,a[j]? =(l[j]?).map fun p=>(⟨p.1,p.2,j⟩:MapEntry)):a=Ent l:=by
 apply Array.ext_getElem?
 intro j
 rw[h,gi]
def Ck.mp (m:Nat) (l:List (Value × Value)):Ck:=
 ⟨[m],[],fun h=>cI h m=some (Ent l,l.length),fun h o=>⟨by
  intro b hb
  simp only[Qi]at hb
  subst hb
  exact(Array.getElem?_eq_some_iff.1 (bW o)).1,PC⟩,fun h h' he _ o=>by
  grind [bW,mh]⟩
section
variable {h0 h:ab} {M:List Nat} {cs:List Ck} {m:Nat} {l:List (Value × Value)}
theorem Sy.mapM (Y:Sy h0 M h cs) (k:Nat) (hk:cs[k]? =some (Ck.mp m l)):cI h m=some (Ent l,l.length):=Y.ok hk
theorem mF {h:ab} {m:Nat} (hm:m<h.size) (es:Array MapEntry) (c:Nat):cI (cJ h m es c) m=some (es,c):=by
 apply mh
 simp[cJ,hm]
theorem Sy.putM (Y:Sy h0 M h cs) (k:Nat) (hk:cs[k]? =some (Ck.mp m l)) (l':List (Value × Value)) {es:Array MapEntry} {c:Nat} (he:es=Ent l') (hc:c=l'.length):Sy h0 M (cJ h m es c) (cs.set k (Ck.mp m l')):=by
 subst he;subst hc
 have hm:m<h.size:=(Array.getElem?_eq_some_iff.1 (bW (Y.mapM k hk))).1
 exact Y.mut hk _ PC (fun d hd hn=>(oA h m _ _).blk d hd (by simpa[Ck.mp]using hn)) (mF hm _ _) (fun d hd=>.inl hd) (fun d hd=>by simp[Ck.mp]at hd)
theorem Sy.newM (Y:Sy h0 M h cs):Sy h0 M (h.push (.map #[] 0)) (cs++[Ck.mp h.size []]):=
 Y.add (Fr.push h _) _ (by
  apply mh
  simp[Ent]) (by simp[Ck.mp]) (by simp[Ck.mp])
end
end Go.X
namespace Go.Proofs.YtmmmmjcfojhiaaaGreatDoor.G
abbrev F :=Nat × Nat
inductive Er (α:Type) where
 | ok (a:α)
 | no (f:F)
 | un
def Er.bind {α β:Type} (x:Er α) (k:α->Er β):Er β:=
 match x with
 | .ok a=>k a
 | .no f=>.no f
 | .un=>.un
def aB {α:Type} (b:Bool) (f:F) (k:Er α):Er α:=
 match b with
 | true=>k
 | false=>.no f
def bt (s:P0) (i:Nat):Nat:=
 match s[i]? with
 | some c=>c.toNat
 | none=>256
def ia (c:Nat):Bool:=decide (97<=c/\c<=122\/65<=c/\c<=90)
def dy (c:Nat):Bool:=decide (48<=c/\c<=57)
def mG (c:Nat):Bool:=decide (c=32\/c=9\/c=10\/c=13)
def gH (c:Nat):Bool:=decide (32<=c/\c<=126)
def du (c:Nat):Bool:=ia c||dy c||decide (c=95)
def bM (c:Nat):Bool:=ia c||dy c||decide (c=43\/c=45\/c=46)
def run (p:Nat->Bool) (s:P0) (i:Nat):Nat:=
 if i<s.size/\p (bt s i)=true then run p s (i+1)else i
termination_by s.size-i
theorem tf (p:Nat->Bool) (s:P0) (i:Nat):i<=run p s i:=by
 have gen:∀n i,s.size-i=n->i<=run p s i:=by
  intro n
  induction n with
  | zero=>intro i hi;rw[run,if_neg PA];omega
  | succ n ih=>
   intro i hi
   rw[run]
   grind
 grind
def skp (s:P0) (i:Nat):Nat:=
 if i<s.size then
  if mG (bt s i)=true then skp s (i+1)
  else if bt s i=35 then skp s (run (fun c=>decide (c≠10)) s (i+1))
  else i
 else i
termination_by s.size-i
decreasing_by
 ·omega
 grind [tf]
def amp :PZ:=[38,97,109,112,59]
def wV :PZ:=[38,113,117,111,116,59]
def ltB :PZ:=[38,108,116,59]
def gtB :PZ:=[38,103,116,59]
def IQ :PZ:=[38,97,112,111,115,59]
def iB (s:P0):Nat->Nat->Nat->Nat × Nat
 | 0,n,i=>(n,i)
 | k+1,n,i=>if dy (bt s i)=true then iB s k (10*n+(bt s i-48)) (i+1)else(n,i)
def preB (s:P0) (i:Nat) (l:PZ):Bool:=decide ((s.extract i (i+l.length)).data.toList=l)
def mkB (l:PZ):P0:=⟨l.toArray⟩
def part (s:P0) (i:Nat):Option (Nat × Nat):=
 if preB s i amp=true then some (38,5)
 else if preB s i wV=true then some (34,6)
 else if preB s i ltB=true then some (60,4)
 else if preB s i gtB=true then some (62,4)
 else if preB s i IQ=true then some (39,6)
 else if preB s i [38,35]=false then none
 else match iB s 3 0 (i+2)with
  | (n,k)=>if k=i+2\/bt s k≠59\/gH n=false then none else some (n,k+1-i)
def str (s:P0) (fr:Nat) (i:Nat) (out:PZ):Er (PZ × Nat):=
 if i<s.size then
  if bt s i=34 then .ok (out,i+1)
  else if bt s i=38 then
   match part s i with
   | some (c,n)=>str s fr (i+(n-1)+1) (out++[UInt8.ofNat c])
   | none=>.no (i,15)
  else if gH (bt s i)=true\/mG (bt s i)=true then str s fr (i+1) (out++[UInt8.ofNat (bt s i)])
  else .no (i,15)
 else .no (fr,15)
termination_by s.size-i
structure Tok where
 kind:Nat
 at_:Nat
 says:P0
 num:Nat
def noB :P0:=ByteArray.empty
def Tok.l (t:Tok):PZ:=t.says.data.toList
def next (s:P0) (i:Nat):Er (Tok × Nat):=
 let p:=skp s i
 let c:=bt s p
 if p>=s.size then .ok (⟨0,p,noB,0⟩,p)
 else if c=91 then .ok (⟨1,p,noB,0⟩,p+1)
 else if c=93 then .ok (⟨2,p,noB,0⟩,p+1)
 else if c=34 then(str s p (p+1) []).bind fun(l,j)=>.ok (⟨5,p,mkB l,0⟩,j)
 else if ia c=true then let j:=run du s p;.ok (⟨3,p,s.extract p j,0⟩,j)
 else if dy c=true\/c=43\/c=45\/c=46 then let j:=run bM s p;.ok (⟨4,p,s.extract p j,0⟩,j)
 else .no (p,15)
def wW :PZ:=[78,97,78]
def wX :PZ:=[73,78,70]
def bn (rd:P0->Option (Nat × Nat)) (t:Tok):Er Tok:=
 if t.kind=0\/t.kind=2 then .no (t.at_,15)
 else if t.kind=3 then
  if t.l=wW\/t.l=wX then
   match rd t.says with
   | some (x,_)=>.ok {t with kind:=4,num:=x}
   | none=>.un
  else .no (t.at_,16)
 else if t.kind=4 then
  match rd t.says with
  | some (x,0)=>.ok {t with num:=x}
  | some (_,e+1)=>.no (t.at_,e+1)
  | none=>.un
 else .ok t
def ir (l:PZ):Nat:=l.foldl (fun n c=>10*n+(c.toNat-48)) 0
def jt (ng:Bool) (l:PZ):Option Int:=
 if l=[]\/10<l.length\/(l.head? =some 48/\(1<l.length\/ng=true))\/l.all (fun c=>dy c.toNat)=false\/ir l>2147483648 then none
 else some (if ng=true then-(ir l:Int)else(ir l:Int))
def whole (l:PZ):Option Int:=
 match l with
 | 45::r=>jt true r
 | l=>jt false l
structure Rd where
 i:Nat
 n:Nat
 dir:Bool
 graph:Bool
 ids:List (Int × Nat)
 labels:List ByteArray
 spots:List (Nat × Nat)
 weights:List Nat
 h0:Bool
 h1:Bool
 h2:Bool
 ends:List Tok
inductive Lv where
 | over
 | top
 | graph (d:Bool)
 | node (v:Nat) (id lab gr:Bool)
 | spot (v:Nat) (x y:Bool)
 | edge (k:Nat) (so ta we:Bool)
inductive Tk where
 | none
 | list (l:Lv)
 | dir
 | id (v:Nat)
 | label (v:Nat)
 | spot (v:Nat) (y:Bool)
 | fin (k:Nat)
 | weight (k:Nat)
def it :PZ:=[103,114,97,112,104]
def dj :PZ:=[100,105,114,101,99,116,101,100]
def ib :PZ:=[110,111,100,101]
def fL :PZ:=[101,100,103,101]
def kId :PZ:=[105,100]
def eU :PZ:=[108,97,98,101,108]
def bm :PZ:=[103,114,97,112,104,105,99,115]
def kX :PZ:=[120]
def kY :PZ:=[121]
def bp :PZ:=[115,111,117,114,99,101]
def bw :PZ:=[116,97,114,103,101,116]
def cN :PZ:=[119,101,105,103,104,116]
def key (l:Lv) (t:Tok) (r:Rd):Er (Tk × Lv × Rd):=
 match l with
 | .over=>.ok (.none,.over,r)
 | .top=>if t.l=it then aB (!r.graph) (t.at_,18) (.ok (.list (.graph false),.top,{r with graph:=true}))else .ok (.none,.top,r)
 | .graph d=>
  if t.l=dj then aB (!d) (t.at_,18) (.ok (.dir,.graph true,r))
  else if t.l=ib then aB (decide (r.n<1024)) (t.at_,3) (.ok (.list (.node r.n false false false),.graph d,{r with n:=r.n+1,labels:=r.labels++[noB],spots:=r.spots++[(0,0)]}))
  else if t.l=fL then aB (decide (r.ends.length/2<3072)) (t.at_,3) (.ok (.list (.edge r.ends.length false false false),.graph d,{r with ends:=r.ends++[⟨0,0,noB,0⟩,⟨0,0,noB,0⟩],weights:=r.weights++[4607182418800017408]}))
  else .ok (.none,.graph d,r)
 | .node v a b c=>
  if t.l=kId then aB (!a) (t.at_,18) (.ok (.id v,.node v true b c,r))
  else if t.l=eU then aB (!b) (t.at_,18) (.ok (.label v,.node v a true c,r))
  else if t.l=bm then aB (!c) (t.at_,18) (.ok (.list (.spot v false false),.node v a b true,r))
  else .ok (.none,.node v a b c,r)
 | .spot v a b=>
  if t.l=kX then aB (!a) (t.at_,18) (.ok (.spot v false,.spot v true b,r))
  else if t.l=kY then aB (!b) (t.at_,18) (.ok (.spot v true,.spot v a true,r))
  else .ok (.none,.spot v a b,r)
 | .edge k a b c=>
  if t.l=bp then aB (!a) (t.at_,18) (.ok (.fin k,.edge k true b c,r))
  else if t.l=bw then aB (!b) (t.at_,18) (.ok (.fin (k+1),.edge k a true c,r))
  else if t.l=cN then aB (!c) (t.at_,18) (.ok (.weight k,.edge k a b true,r))
  else .ok (.none,.edge k a b c,r)
def Tk.kind :Tk->Nat
 | .none=>0
 | .list _=>1
 | .label _=>5
 | _=>4
def bX (cl:Nat->Nat) (x:Tk) (v:Tok) (r:Rd):Er Rd:=
 match x with
 | .dir=>aB (decide (v.l=[48]\/v.l=[49])) (v.at_,17) (.ok {r with dir:=decide (v.l=[49])})
 | .id k=>match whole v.l with
  | some n=>aB (!r.ids.any fun p=>p.1==n) (v.at_,18) (.ok {r with ids:=r.ids++[(n,k)]})
  | none=>.no (v.at_,17)
 | .label k=>aB (decide (v.says.size<=256)) (v.at_,23) (aB (v.l.all fun c=>gH c.toNat) (v.at_,25) (.ok {r with labels:=r.labels.set k v.says,h0:=true}))
 | .spot k y=>.ok {r with spots:=r.spots.modify k fun p=>if y=true then(p.1,cl v.num)else(cl v.num,p.2),h1:=true}
 | .fin k=>match whole v.l with
  | some _=>.ok {r with ends:=r.ends.set k v}
  | none=>.no (v.at_,17)
 | .weight k=>.ok {r with weights:=r.weights.set (k/2) (cl v.num),h2:=true}
 | _=>.ok r
def behind (l:Lv) (at_:Nat) (r:Rd):Er Rd:=
 match l with
 | .node _ a _ _=>aB a (at_,14) (.ok r)
 | .edge _ a b _=>aB (a&&b) (at_,14) (.ok r)
 | _=>.ok r
def bV :Lv->Bool
 | .top=>true
 | _=>false
def value (s:P0) (rd:P0->Option (Nat × Nat)) (cl:Nat->Nat) (L:Lv->Nat->Rd->Er (Nat × Lv × Rd)) (x:Tk) (d:Nat) (r:Rd):Er Rd:=
 (next s r.i).bind fun(v0,i)=>(bn rd v0).bind fun v=>
  aB (decide (v.kind=1->d<16)) (v.at_,3) <| aB (decide (x.kind=0\/x.kind=v.kind)) (v.at_,22) <|
   if v.kind=1 then
    match x with
    | .list l=>(L l (d+1) {r with i:=i}).bind fun(e,l',r2)=>behind l' e r2
    | _=>(L .over (d+1) {r with i:=i}).bind fun(_,_,r2)=>.ok r2
   else bX cl x v {r with i:=i}
def list (s:P0) (rd:P0->Option (Nat × Nat)) (cl:Nat->Nat):Nat->Lv->Nat->Rd->Er (Nat × Lv × Rd)
 | 0,_,_,_=>.un
 | n+1,l,d,r=>
  (next s r.i).bind fun(t,i)=>
   if(bV l=true/\t.kind=0)\/(bV l=false/\t.kind=2)then .ok (t.at_,l,{r with i:=i})
   else aB (decide (t.kind=3)) (t.at_,15) <|
    (key l t {r with i:=i}).bind fun(x,l',r1)=>
     (value s rd cl (list s rd cl n) x d r1).bind fun r2=>list s rd cl n l' d r2
def find (ids:List (Int × Nat)) (n:Int):Option Nat:=(ids.find? fun p=>p.1==n).map (·.2)
def eV (ids:List (Int × Nat)) (t:Tok):Er Nat:=
 match whole t.l with
 | some n=>match find ids n with
  | some v=>.ok v
  | none=>.no (t.at_,14)
 | none=>.no (t.at_,17)
def edges (ids:List (Int × Nat)):List Tok->Er (List (Nat × Nat))
 | a::b::r=>(eV ids a).bind fun x=>(eV ids b).bind fun y=>(edges ids r).bind fun l=>.ok ((x,y)::l)
 | _=>.ok []
structure Dc where
 n:Nat
 dir:Bool
 edges:List (Nat × Nat)
 labels:List ByteArray
 spots:List (Nat × Nat)
 weights:List Nat
def start :Rd:=⟨0,0,false,false,[],[],[],[],false,false,false,[]⟩
def read (rd:P0->Option (Nat × Nat)) (cl:Nat->Nat) (s:P0):Er Dc:=
 aB (decide (s.size<=262144)) (0,23) <| (list s rd cl (s.size+1) .top 0 start).bind fun(e,_,r)=>
  aB r.graph (e,14) <| (edges r.ids r.ends).bind fun es=>
   .ok ⟨r.n,r.dir,es,if r.h0=true then r.labels else [],if r.h1=true then r.spots else [],if r.h2=true then r.weights else []⟩
theorem wS (s:P0) (i:Nat):bt s i=(match s.data.toList[i]? with
  | some c=>c.toNat
  | none=>256):=by
 unfold bt
 by_cases h:i<s.size
 ·have h2:i<s.data.toList.length:=h
  rw[List.getElem?_eq_getElem h2,getElem?_pos s i h]
  rfl
 simp_all
theorem gF {α:Type} {b:Bool} {f:F} {k:Er α} (h:b=true):aB b f k=k:=by rw[h];rfl
theorem oL {r:Rd} {t:Tok} {d:Bool} (h:t.l=ib) (hn:r.n<1024):key (.graph d) t r= .ok (.list (.node r.n false false false),.graph d,{r with n:=r.n+1,labels:=r.labels++[noB],spots:=r.spots++[(0,0)]}):=by
 simp only[key,h]
 rw[if_neg PB,if_pos trivial,gF (decide_eq_true hn)]
theorem uE {r:Rd} {t:Tok} {d:Bool} (h:t.l=fL) (hn:r.ends.length/2<3072):key (.graph d) t r= .ok (.list (.edge r.ends.length false false false),.graph d,{r with ends:=r.ends++[⟨0,0,noB,0⟩,⟨0,0,noB,0⟩],weights:=r.weights++[4607182418800017408]}):=by
 simp only[key,h]
 rw[if_neg PB,if_neg PB,if_pos trivial,gF (decide_eq_true hn)]
def At (s:P0) (i:Nat) (l:PZ):Prop:=i<=s.size/\s.data.toList.drop i=l
theorem js (s:P0):s.size=s.data.toList.length:=rfl
theorem At.start (s:P0):At s 0 s.data.toList:=⟨QU _,rfl⟩
theorem At.nil {s:P0} {i:Nat} (a:At s i []):i=s.size:=by
 obtain⟨h,e⟩:=a
 have:=congrArg List.length e
 grind [js]
theorem At.len {s:P0} {i:Nat} {l:PZ} (a:At s i l):s.size-i=l.length:=by
 obtain⟨h,e⟩:=a
 grind [js]
theorem At.cons {s:P0} {i:Nat} {c:UInt8} {l:PZ} (a:At s i (c::l)):i<s.size/\bt s i=c.toNat/\At s (i+1) l:=by
 have hl:=a.len
 obtain⟨h,e⟩:=a
 rw[Qk]at hl
 refine⟨PA,?_,PA,?_⟩
 ·have:s.data.toList[i]? =some c:=by
   have:=congrArg (fun l=>l[0]?) e
   grind
  rw[wS,this]
 ·rw[<-List.drop_drop,e];rfl
theorem At.app {s:P0} {i:Nat} {w l:PZ} (a:At s i (w++l)):At s (i+w.length) l:=by
 have hl:=a.len
 obtain⟨h,e⟩:=a
 rw[P9]at hl
 refine⟨PA,?_⟩
 grind [List.drop_drop,List.drop_left]
theorem At.ext {s:P0} {i:Nat} {w l:PZ} (a:At s i (w++l)):(s.extract i (i+w.length)).data.toList=w:=by
 obtain⟨h,e⟩:=a
 simp_all
def fX (p:Nat->Bool) (l:PZ):Prop:=∀c r,l=c::r->p c.toNat=false
theorem fX.nil (p:Nat->Bool):fX p []:=fun c r h=>by cases h
theorem fX.cons {p:Nat->Bool} {c:UInt8} {r:PZ} (h:p c.toNat=false):fX p (c::r):=fun c' r' e=>by grind
theorem sZ {p:Nat->Bool} {s:P0}:∀{w l:PZ} {i:Nat},At s i (w++l)->(∀c∈w,p c.toNat=true)->fX p l->run p s i=i+w.length
 | [],l,i,a,_,hs=>by
  rw[run]
  cases l with
  | nil=>rw[if_neg (by have:=a.nil;omega)];rfl
  | cons c r=>
   obtain⟨h1,h2,h3⟩:=At.cons a
   rw[if_neg (by rw[h2,hs c r rfl];simp)];rfl
 | c::w,l,i,a,hw,hs=>by
  obtain⟨h1,h2,h3⟩:=At.cons (l:=w++l) a
  rw[run,if_pos ⟨h1,PE⟩,sZ h3 (fun c hc=>hw c (by simp[hc])) hs,Qk]
  omega
inductive Bl :PZ->Prop where
 | nil:Bl []
 | blank {c:UInt8} {w:PZ}:mG c.toNat=true->Bl w->Bl (c::w)
 | note {n w:PZ}:(∀c∈n,c≠10)->Bl w->Bl (35::(n++10::w))
theorem Bl.app {a b:PZ} (h:Bl a) (k:Bl b):Bl (a++b):=by
 induction h with
 | nil=>exact k
 | blank h _ ih=>exact .blank h ih
 | note h _ ih=>rw[QB,Qj];exact .note h ih
def Tb (c:Nat):Bool:= !(mG c||decide (c=35))
theorem mD {s:P0} {w l:PZ} (hw:Bl w):∀{i:Nat},At s i (w++l)->fX (fun c=> !Tb c) l->skp s i=i+w.length:=by
 induction hw with
 | nil=>
  intro i a hs
  rw[skp]
  cases l with
  | nil=>rw[if_neg (by have:=a.nil;omega)];rfl
  | cons c r=>
   obtain⟨h1,h2,h3⟩:=At.cons a
   have:=hs c r rfl
   simp only[Tb,Bool.not_not,Bool.or_eq_false_iff,decide_eq_false_iff_not]at this
   grind
 | @blank c w hc _ ih=>
  intro i a hs
  obtain⟨h1,h2,h3⟩:=At.cons (l:=w++l) a
  rw[skp,if_pos h1,h2,if_pos hc,ih h3 hs,Qk];omega
 | @note n w hn _ ih=>
  intro i a hs
  rw[QB,Qj,QB]at a
  obtain⟨h1,h2,h3⟩:=At.cons a
  have hrun:=sZ (p:=fun c=>decide (c≠10)) h3 (fun c hc=>by
   have:=hn c hc
   simp only[decide_eq_true_eq]
   intro e;exact this (QE.1 e)) (fX.cons rfl)
  have h4:=At.app h3
  obtain⟨q1,q2,q3⟩:=At.cons h4
  rw[skp,if_pos h1,h2,if_neg PB,if_pos PB,hrun,skp,if_pos q1,q2,if_pos PB,ih q3 hs]
  grind
theorem H1 {c:Nat} (h:c≠32/\c≠9/\c≠10/\c≠13/\c≠35):(!Tb c)=false:=by
 simp[Tb,mG];omega
theorem Bf {s:P0} {i:Nat} {w:PZ} (hw:Bl w) (a:At s i w):next s i= .ok (⟨0,s.size,noB,0⟩,s.size):=by
 have a':At s i (w++[]):=by grind
 have e:=mD hw a' (fX.nil _)
 have:=(At.app a').nil
 unfold next
 grind
theorem jW {s:P0} {i:Nat} {w l:PZ} (hw:Bl w) (a:At s i (w++91::l)):next s i= .ok (⟨1,i+w.length,noB,0⟩,i+w.length+1)/\At s (i+w.length+1) l:=by
 have e:=mD hw a (fX.cons PB)
 obtain⟨h1,h2,h3⟩:=(At.app a).cons
 refine⟨?_,h3⟩
 unfold next
 grind
theorem oM {s:P0} {i:Nat} {w l:PZ} (hw:Bl w) (a:At s i (w++93::l)):next s i= .ok (⟨2,i+w.length,noB,0⟩,i+w.length+1)/\At s (i+w.length+1) l:=by
 have e:=mD hw a (fX.cons PB)
 obtain⟨h1,h2,h3⟩:=(At.app a).cons
 refine⟨?_,h3⟩
 unfold next
 grind
structure Wd (k:PZ) (l:PZ):Prop where
 hd:∃c r,k=c::r/\ia c.toNat=true
 all:∀c∈k,du c.toNat=true
 st:fX du l
structure Nm (k:PZ) (l:PZ):Prop where
 hd:∃c r,k=c::r/\(dy c.toNat=true\/c.toNat=43\/c.toNat=45\/c.toNat=46)
 all:∀c∈k,bM c.toNat=true
 st:fX bM l
theorem jX {s:P0} {i:Nat} {w k l:PZ} (hw:Bl w) (hk:Wd k l) (a:At s i (w++(k++l))):
  ∃t,next s i= .ok (t,i+w.length+k.length)/\t.kind=3/\t.l=k/\At s (i+w.length+k.length) l:=by
 obtain⟨c,r,rfl,hc⟩:=hk.hd
 have hb:(97<=c.toNat/\c.toNat<=122)\/(65<=c.toNat/\c.toNat<=90):=by simpa[ia]using hc
 have e:=mD hw a (fX.cons (H1 PA))
 have a2:=At.app a
 obtain⟨h1,h2,h3⟩:=At.cons (l:=r++l) a2
 have hr:=sZ (p:=du) a2 hk.all hk.st
 refine⟨⟨3,i+w.length,s.extract (i+w.length) (i+w.length+(c::r).length),0⟩,?_,rfl,At.ext a2,At.app a2⟩
 unfold next
 grind
theorem Bg {s:P0} {i:Nat} {w k l:PZ} (hw:Bl w) (hk:Nm k l) (a:At s i (w++(k++l))):
  ∃t,next s i= .ok (t,i+w.length+k.length)/\t.kind=4/\t.l=k/\At s (i+w.length+k.length) l:=by
 obtain⟨c,r,rfl,hc⟩:=hk.hd
 have hb:(48<=c.toNat/\c.toNat<=57)\/c.toNat=43\/c.toNat=45\/c.toNat=46:=by simpa[dy]using hc
 have e:=mD hw a (fX.cons (H1 PA))
 have a2:=At.app a
 obtain⟨h1,h2,h3⟩:=At.cons (l:=r++l) a2
 have hr:=sZ (p:=bM) a2 hk.all hk.st
 have hl:ia c.toNat=false:=by simp[ia];omega
 refine⟨⟨4,i+w.length,s.extract (i+w.length) (i+w.length+(c::r).length),0⟩,?_,rfl,At.ext a2,At.app a2⟩
 unfold next
 grind
def uF (c:UInt8):PZ:=if c=38 then amp else if c=34 then wV else [c]
def enc (l:PZ):PZ:=l.flatMap uF
theorem yv {s:P0} {i:Nat} {w l:PZ} (a:At s i (w++l)):preB s i w=true:=by
 unfold preB;rw[At.ext a];simp
theorem Bh {s:P0} {i:Nat} {w k l:PZ} (a:At s i (w++l)) (hk:∀r,w++l≠k++r):preB s i k=false:=by
 unfold preB
 simp only[decide_eq_false_iff_not]
 obtain⟨h,e⟩:=a
 grind [ByteArray.data_extract,Array.toList_extract,List.take_append_drop]
theorem Bi {s:P0} {i:Nat} {l:PZ} (a:At s i (amp++l)):part s i=some (38,5):=by
 unfold part;rw[if_pos (yv a)]
theorem zL {s:P0} {i:Nat} {l:PZ} (a:At s i (wV++l)):part s i=some (34,6):=by
 unfold part
 rw[if_neg (by grind [Bh,wV,amp]),if_pos (yv a)]
theorem Bj {s:P0} {fr:Nat}:∀{x l:PZ} {i:Nat} {out:PZ},At s i (enc x++34::l)->(∀c∈x,gH c.toNat=true)->
  str s fr i out= .ok (out++x,i+(enc x).length+1)
 | [],l,i,out,a,_=>by
  obtain⟨h1,h2,h3⟩:=At.cons (c:=34) (l:=l) a
  rw[str,if_pos h1,h2,if_pos PB]
  simp[enc]
 | c::x,l,i,out,a,hx=>by
  have hp:=hx c PC
  have hp':32<=c.toNat/\c.toNat<=126:=by simpa[gH]using hp
  have ee:enc (c::x)=uF c++enc x:=rfl
  rw[ee,Qj]at a
  have a2:=At.app a
  have ih:=fun o=>Bj (fr:=fr) (out:=o) a2 (fun c hc=>hx c (by simp[hc]))
  by_cases q1:c=38
  ·subst q1
   obtain⟨h1,h2,h3⟩:=At.cons (c:=38) (l:=[97,109,112,59]++(enc x++34::l)) a
   rw[str,if_pos h1,h2,if_neg PB,if_pos PB,Bi a]
   simp only[]
   have e1:(uF 38).length=5:=rfl
   grind
  by_cases q2:c=34
  ·subst q2
   obtain⟨h1,h2,h3⟩:=At.cons (c:=38) (l:=[113,117,111,116,59]++(enc x++34::l)) a
   rw[str,if_pos h1,h2,if_neg PB,if_pos PB,zL a]
   simp only[]
   have e1:(uF 34).length=6:=rfl
   grind
  have e1:uF c=[c]:=by unfold uF;grind
  rw[e1]at a ih
  obtain⟨h1,h2,h3⟩:=At.cons (l:=enc x++34::l) a
  have n1:c.toNat≠34:=fun e=>q2 (QE.1 e)
  have n2:c.toNat≠38:=fun e=>q1 (QE.1 e)
  rw[str,if_pos h1,h2,if_neg n1,if_neg n2,if_pos (.inl hp),UInt8.ofNat_toNat]
  grind
theorem Bk {s:P0} {i:Nat} {w x l:PZ} (hw:Bl w) (hx:∀c∈x,gH c.toNat=true) (a:At s i (w++34::(enc x++34::l))):
  ∃t,next s i= .ok (t,i+w.length+1+(enc x).length+1)/\t.kind=5/\t.says=mkB x/\At s (i+w.length+1+(enc x).length+1) l:=by
 have e:=mD hw a (fX.cons PB)
 obtain⟨h1,h2,h3⟩:=(At.app a).cons
 have h4:=(At.app h3).cons
 refine⟨⟨5,i+w.length,mkB x,0⟩,?_,rfl,rfl,h4.2.2⟩
 unfold next
 simp only[e,h2]
 rw[if_neg PA,if_neg PB,if_neg PB,if_pos PB,Bj h3 hx]
 rfl
section
variable {s:P0} {rd:P0->Option (Nat × Nat)} {cl:Nat->Nat}
def Big (s:P0) (rd:P0->Option (Nat × Nat)) (cl:Nat->Nat) (l:Lv) (d:Nat) (r:Rd) (e:Nat × Lv × Rd):Prop:=∀n,s.size-r.i<n->list s rd cl n l d r= .ok e
theorem yw {l:Lv} {d:Nat} {r:Rd} {w rest:PZ} (ht:bV l=false) (hw:Bl w) (a:At s r.i (w++93::rest)):
  Big s rd cl l d r (r.i+w.length,l,{r with i:=r.i+w.length+1})/\At s (r.i+w.length+1) rest:=by
 obtain⟨h1,h2⟩:=oM hw a
 refine⟨fun n hn=>?_,h2⟩
 cases n with
 | zero=>omega
 | succ n=>
  rw[list,h1]
  simp only[Er.bind,ht]
  grind
theorem yy {d:Nat} {r:Rd} {w:PZ} (hw:Bl w) (a:At s r.i w):Big s rd cl .top d r (s.size,.top,{r with i:=s.size}):=by
 have h1:=Bf hw a
 intro n hn
 cases n with
 | zero=>omega
 | succ n=>
  rw[list,h1]
  simp only[Er.bind,bV]
  grind
theorem lg {l l':Lv} {d:Nat} {r r1 r2:Rd} {x:Tk} {w k rest:PZ} {e:Nat × Lv × Rd} (hw:Bl w) (hk:Wd k rest) (a:At s r.i (w++(k++rest)))
  (hkey:∀t,t.l=k->key l t {r with i:=r.i+w.length+k.length}= .ok (x,l',r1))
  (hval:∀n,s.size-(r.i+w.length+k.length)<n->value s rd cl (list s rd cl n) x d r1= .ok r2) (hi:r.i<r2.i) (hj:r2.i<=s.size) (hb:Big s rd cl l' d r2 e):Big s rd cl l d r e:=by
 obtain⟨t,h1,h2,h3,h4⟩:=jX hw hk a
 have hk1:0<k.length:=by obtain⟨c,q,rfl,_⟩:=hk.hd;simp
 have hsz:=h4.1
 intro n hn
 cases n with
 | zero=>omega
 | succ n=>
  rw[list,h1]
  simp only[Er.bind,h2]
  rw[if_neg PA]
  simp only[aB,decide_true,hkey t h3]
  rw[hval n PA]
  exact hb n PA
theorem zM {d:Nat} {x:Tk} {r:Rd} {w k rest:PZ} {v:Nat} (hw:Bl w) (hk:Nm k rest) (a:At s r.i (w++(k++rest))) (hx:x.kind=0\/x.kind=4) (hr:∀b:P0,b.data.toList=k->rd b=some (v,0)):
  ∃t:Tok,t.l=k/\t.num=v/\t.kind=4/\∀L,value s rd cl L x d r=bX cl x t {r with i:=r.i+w.length+k.length}:=by
 obtain⟨t,h1,h2,h3,h4⟩:=Bg hw hk a
 refine⟨{t with num:=v},h3,rfl,h2,fun L=>?_⟩
 unfold value
 rw[h1]
 simp only[Er.bind]
 have hv:bn rd t= .ok {t with num:=v}:=by
  unfold bn
  rw[if_neg PA,if_neg PA,if_pos h2,hr _ h3]
 rw[hv]
 simp only[h2]
 have e1:(decide ((4:Nat)=1->d<16))=true:=by simp
 have e2:decide (x.kind=0\/x.kind=4)=true:=by simpa using hx
 rw[e1,e2]
 simp only[aB]
 grind
theorem oN {d:Nat} {x:Tk} {r:Rd} {w k rest:PZ} {v e:Nat} (hw:Bl w) (hk:Wd k rest) (hkk:k=wW\/k=wX) (a:At s r.i (w++(k++rest))) (hx:x.kind=0\/x.kind=4) (hr:∀b:P0,b.data.toList=k->rd b=some (v,e)):
  ∃t:Tok,t.l=k/\t.num=v/\t.kind=4/\∀L,value s rd cl L x d r=bX cl x t {r with i:=r.i+w.length+k.length}:=by
 obtain⟨t,h1,h2,h3,h4⟩:=jX hw hk a
 refine⟨{t with kind:=4,num:=v},h3,rfl,rfl,fun L=>?_⟩
 unfold value
 rw[h1]
 simp only[Er.bind]
 have hv:bn rd t= .ok {t with kind:=4,num:=v}:=by
  unfold bn
  rw[if_neg PA,if_pos h2,if_pos PE,hr _ h3]
 rw[hv]
 simp only[]
 have e1:(decide ((4:Nat)=1->d<16))=true:=by simp
 have e2:decide (x.kind=0\/x.kind=4)=true:=by simpa using hx
 rw[e1,e2]
 simp only[aB]
 grind
theorem zN {d:Nat} {x:Tk} {r:Rd} {w y rest:PZ} (hw:Bl w) (hy:∀c∈y,gH c.toNat=true) (a:At s r.i (w++34::(enc y++34::rest))) (hx:x.kind=0\/x.kind=5):
  ∃t:Tok,t.says=mkB y/\t.kind=5/\At s (r.i+w.length+1+(enc y).length+1) rest/\∀L,value s rd cl L x d r=bX cl x t {r with i:=r.i+w.length+1+(enc y).length+1}:=by
 obtain⟨t,h1,h2,h3,h4⟩:=Bk hw hy a
 refine⟨t,h3,h2,h4,fun L=>?_⟩
 unfold value
 rw[h1]
 simp only[Er.bind]
 have hv:bn rd t= .ok t:=by
  unfold bn
  grind
 rw[hv]
 simp only[h2]
 have e1:(decide ((5:Nat)=1->d<16))=true:=by simp
 have e2:decide (x.kind=0\/x.kind=5)=true:=by simpa using hx
 rw[e1,e2]
 simp only[aB]
 grind
theorem oO {d n:Nat} {l2 l3:Lv} {r r2 r3:Rd} {e:Nat} {w rest:PZ} (hw:Bl w) (a:At s r.i (w++91::rest)) (hd:d<16) (hn:s.size-(r.i+w.length+1)<n)
  (hb:Big s rd cl l2 (d+1) {r with i:=r.i+w.length+1} (e,l3,r2)) (he:behind l3 e r2= .ok r3):value s rd cl (list s rd cl n) (.list l2) d r= .ok r3:=by
 obtain⟨h1,h2⟩:=jW hw a
 unfold value
 rw[h1]
 simp only[Er.bind,bn]
 have e1:(decide ((1:Nat)=1->d<16))=true:=by simpa using hd
 rw[if_neg PB,if_neg PB,if_neg PB]
 simp only[Tk.kind,aB,or_true,decide_true,if_true]
 rw[hb n hn]
 grind
theorem wT {d n:Nat} {r r2:Rd} {e:Nat} {l3:Lv} {w rest:PZ} (hw:Bl w) (a:At s r.i (w++91::rest)) (hd:d<16) (hn:s.size-(r.i+w.length+1)<n)
  (hb:Big s rd cl .over (d+1) {r with i:=r.i+w.length+1} (e,l3,r2)):value s rd cl (list s rd cl n) .none d r= .ok r2:=by
 obtain⟨h1,h2⟩:=jW hw a
 unfold value
 rw[h1]
 simp only[Er.bind,bn]
 have e1:(decide ((1:Nat)=1->d<16))=true:=by simpa using hd
 rw[if_neg PB,if_neg PB,if_neg PB]
 simp only[Tk.kind,aB,true_or,decide_true,if_true]
 rw[hb n hn]
 simp[hd]
end
def dg (n:Nat):UInt8:=UInt8.ofNat (48+n % 10)
def dec (n:Nat):PZ:=if n<10 then [dg n]else dec (n/10)++[dg n]
termination_by n
theorem tc (n:Nat):(dg n).toNat=48+n % 10:=by
 grind [dg,UInt8.toNat_ofNat']
theorem lh (n:Nat):∀c∈dec n,dy c.toNat=true:=by
 induction n using Nat.strongRecOn<;>grind [dec,dy,dg,tc]
theorem uH (l:PZ) (c:UInt8):ir (l++[c])=10*ir l+(c.toNat-48):=by simp[ir]
theorem uI (n:Nat):ir (dec n)=n:=by
 induction n using Nat.strongRecOn<;>grind [dec,ir,tc,uH]
theorem wU (n:Nat):dec n≠[]:=by
 rw[dec];split
 ·simp
 ·simp
theorem uJ (n:Nat) (h:0<n):(dec n).head? ≠some 48:=by
 induction n using Nat.strongRecOn with
 | _ n ih=>
  rw[dec]
  split
  ·simp only[List.head?_cons,ne_eq,Option.some.injEq]
   intro e
   have:=congrArg UInt8.toNat e
   grind [tc]
  grind [dec]
theorem td (k:Nat):∀n,n<10^(k+1)->(dec n).length<=k+1:=by
 induction k with
 | zero=>
  intro n hn
  rw[dec,if_pos (by simpa using hn)];simp
 | succ k ih=>
  grind [dec]
theorem Bn (n:Nat) (h:1<(dec n).length):0<n:=by
 cases n<;>grind [dec]
theorem oP (ng:Bool) (n:Nat) (h:n<=2147483648) (hz:ng=true->0<n):jt ng (dec n)=some (if ng=true then-(n:Int)else(n:Int)):=by
 unfold jt
 rw[if_neg,uI]
 rintro(q | q | ⟨q1,q2 | q2⟩ | q | q)
 ·exact wU n q
 ·have:=td 9 n PA;omega
 ·exact uJ n (Bn n q2) q1
 ·exact uJ n (hz q2) q1
 ·grind [lh]
 ·rw[uI]at q;omega
theorem iA (n:Nat) (h:n<=2147483648):whole (dec n)=some (n:Int):=by
 have h1:=oP false n h PC
 simp only[Qq,if_false]at h1
 unfold whole
 split
 ·rename_i r e
  have:=lh n 45 (by rw[e];simp)
  exact absurd this PB
 ·exact h1
theorem zO (n:Nat) (h:n<=2147483648) (h0:0<n):whole (45::dec n)=some (-(n:Int)):=by
 grind [oP,whole]
structure IsNum (k:PZ):Prop where
 hd:∃c r,k=c::r/\(dy c.toNat=true\/c.toNat=43\/c.toNat=45\/c.toNat=46)
 all:∀c∈k,bM c.toNat=true
theorem rq {c:Nat} (h:dy c=true):bM c=true:=by simp[bM,h]
theorem zP (n:Nat):IsNum (dec n):=by
 have hall:=lh n
 refine⟨?_,fun c hc=>rq (hall c hc)⟩
 cases q:dec n<;>grind [dec,wU]
theorem zQ (n:Nat):IsNum (45::dec n):=
 ⟨⟨45,dec n,rfl,.inr (.inr (.inl rfl))⟩,fun c hc=>by
  rcases Qd.1 hc with rfl | hc
  ·decide
  ·exact rq (lh n c hc)⟩
def ji (rd:P0->Option (Nat × Nat)) (k:PZ) (v:Nat):Prop:=(IsNum k\/k=wW\/k=wX)/\∀b:P0,b.data.toList=k->rd b=some (v,0)
def idt (x:Int):PZ:=if x<0 then 45::dec x.natAbs else dec x.natAbs
theorem zR {x:Int} (h:x.natAbs<=2147483648):whole (idt x)=some x:=by
 unfold idt
 split
 ·rw[zO _ h PA];congr 1;omega
 ·rw[iA _ h];congr 1;omega
theorem E5 (x:Int):IsNum (idt x):=by
 grind [idt,zQ,zP]
def Sep (l:PZ):Prop:=∃c r,l=c::r/\mG c.toNat=true
theorem Sep.app {l m:PZ} (h:Sep l):Sep (l++m):=by obtain⟨c,r,rfl,hc⟩:=h;exact⟨c,r++m,rfl,hc⟩
theorem oQ {c:Nat} (h:mG c=true):c=32\/c=9\/c=10\/c=13:=by simpa[mG]using h
theorem Sep.word {l:PZ} (h:Sep l):fX du l:=by
 obtain⟨c,r,rfl,hc⟩:=h
 grind [fX.cons,oQ,du,ia,dy]
theorem Sep.numb {l:PZ} (h:Sep l):fX bM l:=by
 obtain⟨c,r,rfl,hc⟩:=h
 grind [fX.cons,oQ,bM,ia,dy]
theorem IM {l:PZ} (h:fX du l):Wd wW l:=⟨⟨78,[97,78],rfl,rfl⟩,PB,h⟩
theorem IP {l:PZ} (h:fX du l):Wd wX l:=⟨⟨73,[78,70],rfl,rfl⟩,PB,h⟩
theorem ru {s:P0} {rd:P0->Option (Nat × Nat)} {cl:Nat->Nat} {d:Nat} {x:Tk} {r:Rd} {w k rest:PZ} {v:Nat} (hw:Bl w) (hk:ji rd k v) (h1:fX bM rest) (h2:fX du rest)
  (a:At s r.i (w++(k++rest))) (hx:x.kind=0\/x.kind=4):
  ∃t:Tok,t.l=k/\t.num=v/\t.kind=4/\∀L,value s rd cl L x d r=bX cl x t {r with i:=r.i+w.length+k.length}:=by
 obtain⟨hk,hr⟩:=hk
 rcases hk with hk | rfl | rfl
 ·exact zM hw ⟨hk.hd,hk.all,h1⟩ a hx hr
 ·exact oN hw (IM h2) (.inl rfl) a hx hr
 ·exact oN hw (IP h2) (.inr rfl) a hx hr
theorem yz (n:Nat):Lib.decDigits n=dec n:=by
 induction n using Nat.strongRecOn<;>grind [Lib.decDigits,dec,dg,Nat.mod_eq_of_lt]
theorem lk (n:Int):Lib.itoa n=idt n:=by
 unfold Lib.itoa idt
 rw[yz,yz]
 grind
def fd (a:Nat) (l:PZ):Nat:=l.foldl (fun n c=>10*n+(c.toNat-48)) a
theorem Bo :∀(l:PZ) (a:Nat),a<=fd a l
 | [],a=>P3 _
 | c::l,a=>by
  have:=Bo l (10*a+(c.toNat-48))
  show a<=fd (10*a+(c.toNat-48)) l
  omega
theorem wY {M:Nat} (hM:2147483648<=M):∀(l:PZ) (a:Nat),(∀c∈l,dy c.toNat=true)->fd a l<=2147483648->Lib.parseUintM M a l= .ok (fd a l)
 | [],a,_,_=>rfl
 | c::l,a,h,hf=>by
  have hc:48<=c.toNat/\c.toNat<=57:=by simpa[dy]using h c PC
  have e:fd a (c::l)=fd (10*a+(c.toNat-48)) l:=rfl
  rw[e]at hf ⊢
  have:=Bo l (10*a+(c.toNat-48))
  rw[Lib.parseUintM,if_pos hc,if_neg PA,if_neg PA,show a*10+(c.toNat-48)=10*a+(c.toNat-48) by omega,wY hM l _ (fun c q=>h c (by simp[q])) hf]
theorem uN {l:PZ} (h:∀c∈l,dy c.toNat=true) (h0:l.head? ≠some 48) (hn:l≠[]):0<ir l:=by
 cases l with
 | nil=>grind
 | cons c r=>
  have hc:48<=c.toNat/\c.toNat<=57:=by simpa[dy]using h c PC
  have h48:c.toNat≠48:=fun e=>h0 (by simp;exact QE.1 e)
  have e:ir (c::r)=fd (10*0+(c.toNat-48)) r:=rfl
  grind [Bo]
theorem uO :∀(n:Nat) (l:PZ),l.length=n->(∀c∈l,dy c.toNat=true)->l≠[]->(l.head? =some 48->l.length=1)->dec (ir l)=l:=by
 intro n
 induction n with
 | zero=>grind
 | succ n ih=>
  intro l hl hd hne h48
  obtain⟨m,c,rfl⟩:∃m c,l=m++[c]:=⟨l.dropLast,l.getLast hne,(List.dropLast_concat_getLast hne).symm⟩
  have hc:48<=c.toNat/\c.toNat<=57:=by simpa[dy]using hd c PC
  have ed:∀k,k % 10=c.toNat-48->dg k=c:=fun k e=>by
   apply QE.1
   rw[tc,e];omega
  rw[uH]
  by_cases hm:m=[]
  ·subst hm
   have:ir []=0:=rfl
   rw[this,dec,if_pos PA,ed _ PA];rfl
  ·have hmh:m.head? ≠some 48:=fun e=>by
    grind
   have hdm:∀c∈m,dy c.toNat=true:=fun c q=>hd c (by simp[q])
   have hp:=uN hdm hmh hm
   rw[dec,if_neg PA,ed _ PA,show(10*ir m+(c.toNat-48))/10=ir m by omega,ih m (by simpa using hl) hdm hm (fun e=>absurd e hmh)]
theorem nu {ng:Bool} {l:PZ} {n:Int} (h:jt ng l=some n):l≠[]/\(l.head? =some 48->l.length=1/\ng=false)/\(∀c∈l,dy c.toNat=true)/\ir l<=2147483648/\n=if ng=true then-(ir l:Int)else(ir l:Int):=by
 unfold jt at h
 split at h
 ·cases h
 ·rename_i q
  simp only[not_or,not_and]at q
  obtain⟨q1,q2,q3,q4,q5⟩:=q
  refine⟨q1,fun e=>?_,Qx.1 (by simpa using q4),PA,(Option.some.inj h).symm⟩
  have:=q3 e
  have hl:0<l.length:=List.length_pos_iff.2 q1
  grind
theorem oS {l:PZ} {n:Int} (h:whole l=some n):Lib.parseIntB 64 l= .ok n/\Lib.itoa n=l/\ -2147483648<=n/\n<=2147483648:=by
 unfold whole at h
 split at h
 ·rename_i r
  obtain⟨q1,q2,q3,q4,q5⟩:=nu h
  simp only[if_true]at q5
  have h0:r.head? ≠some 48:=fun e=>by grind
  have hp:=uN q3 h0 q1
  have hu:Lib.parseUintB 64 r= .ok (ir r):=by
   unfold Lib.parseUintB
   rw[if_neg q1]
   exact wY PB r 0 q3 q4
  refine⟨?_,?_,PA,PA⟩
  ·unfold Lib.parseIntB
   grind
  ·rw[lk]
   unfold idt
   rw[if_pos PA,show n.natAbs=ir r by omega,uO _ r rfl q3 q1 fun e=>(q2 e).1]
 ·rename_i hne
  obtain⟨q1,q2,q3,q4,q5⟩:=nu h
  simp only[Qq,if_false]at q5
  have hu:Lib.parseUintB 64 l= .ok (ir l):=by
   unfold Lib.parseUintB
   rw[if_neg q1]
   exact wY PB l 0 q3 q4
  refine⟨?_,?_,PA,PA⟩
  ·cases l with
   | nil=>grind
   | cons c r=>
    have hc:48<=c.toNat/\c.toNat<=57:=by simpa[dy]using q3 c PC
    unfold Lib.parseIntB
    grind
  ·rw[lk]
   unfold idt
   rw[if_neg PA,show n.natAbs=ir l by omega,uO _ l rfl q3 q1 fun e=>(q2 e).1]
theorem Bp {l:PZ} {v:Int} (h:Lib.parseIntB 64 l= .ok v):whole l=if Lib.itoa v=l/\ -2147483648<=v/\v<=2147483648 then some v else none:=by
 split
 ·grind [lk,zR]
 ·rename_i q
  cases e:whole l with
  | none=>rfl
  | some n=>
   obtain⟨a,b,c,d⟩:=oS e
   grind
theorem zU {l:PZ} (h:∀v,Lib.parseIntB 64 l≠ .ok v):whole l=none:=by
 cases e:whole l with
 | none=>rfl
 | some n=>exact absurd (oS e).1 (h n)
end Go.Proofs.YtmmmmjcfojhiaaaGreatDoor.G
namespace Go.Proofs.YtmmmmjcfojhiaaaGreatDoor.N
open Go.Proofs.YtmmmmjcfojhiaaaGreatDoor
open Go.X
open Go.RowKit (Below)
theorem ju {w w':World} (b:Below w.heap.size w w'):Fr [] w.heap w'.heap:=⟨b.size,fun k hk _=>b.block k hk⟩
theorem gI {w w':World} (b:Below w.heap.size w w'):Go.X.Rest w w':=⟨b.os,b.tape,b.output,b.size⟩
theorem sy0 {h h':ab} (f:Fr [] h h'):Sy h [] h' []:=⟨f,Hp.nil _,fun k c hk=>by simp at hk⟩
theorem ic {P:Program} {f:FuncId} {args:Array Value} {h:ab} {v:Value} {R:Value->ab->Prop} (c:∀w:World,Calls P f args w fun e w'=>e= .returned v/\w'=w) (r:R v h):af P f args h R:=
 fun w hw=>(c w).mono fun e w' ⟨h1,h2⟩=>⟨v,h1,by rw[h2];exact Rest.refl w,by rw[h2,hw];exact r⟩
theorem gk {P:Program} {f:FuncId} {args:Array Value} {h:ab} {v:Value} {R:Value->ab->Prop} (c:∀w:World,w.heap=h->Calls P f args w fun e w'=>e= .returned v/\Below w.heap.size w w') (r:∀h',Fr [] h h'->R v h'):af P f args h R:=
 fun w hw=>(c w hw).mono fun e w' ⟨h1,h2⟩=>⟨v,h1,gI h2,by subst hw;exact r _ (ju h2)⟩
theorem OC {t:P0} {c:Nat} (hc:c<256) {h:ab}:PJ 98 #[PU t,PR (c:Int)] h fun v h'=>v= PN (Lib.indexByte t.data.toList (UInt8.ofNat c))/\h'=h:=
 ic (fun w=>Go.Proofs.Tryz.strings_IndexByte t (c:Int) w) ⟨by rw[P8],rfl⟩
theorem Lh {t p:P0} {h:ab}:PJ 59 #[PU t,PU p] h fun v h'=>v= PV (Lib.hasPrefix t.data.toList p.data.toList)/\h'=h:=
 ic (fun w=>Go.Proofs.Tryz.strings_HasPrefix t p w) ⟨rfl,rfl⟩
end Go.Proofs.YtmmmmjcfojhiaaaGreatDoor.N
