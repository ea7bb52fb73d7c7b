/- Memory of the readers: a place in a text that moves, maps by their entries, calls that may go up. Conditions: none. -/
import Derived.Test.YtemclecmafjjfaaGreatDoorSBk
import Derived.Test.YtemclecmafjjfaaGreatDoorXU
import Derived.Lib.ParseIntB
import Derived.Lib.ItoaNum
import Derived.Test.YtemclecmafjjfaaGreatDoorWShelf
set_option linter.unusedVariables false
set_option linter.unusedSimpArgs false
namespace Go.X
theorem aK {P:Program} {f:FuncId} {args:Array Value} {h:ab} {H:List Nat} {K E R Rp:Value->ab->Prop} (M:List Nat) (c:aB P f args h R Rp) (hm:∀b∈H,b∉M)
  (f1:∀v h',R v h'->Fr M h h') (f2:∀v h',Rp v h'->Fr M h h') (k:∀v h',R v h'->K v h') (e:∀v h',Rp v h'->E v h'):aF P f args h H K E:=
 ⟨M,R,Rp,c.mono (fun v h' r=>⟨f1 v h' r,r⟩) (fun v h' r=>⟨f2 v h' r,r⟩),hm,fun v h' _ r=>k v h' r,fun v h' _ r=>e v h' r⟩
theorem ak {P:Program} {f:FuncId} {args:Array Value} {h:ab} {H:List Nat} {K R:Value->ab->Prop} (M:List Nat) (c:ae P f args h R) (hm:∀b∈H,b∉M)
  (f1:∀v h',R v h'->Fr M h h') (k:∀v h',R v h'->K v h'):ai P f args h H K:=
 ⟨M,R,c.mono (fun v h' r=>⟨f1 v h' r,r⟩),hm,fun v h' _ r=>k v h' r⟩
theorem fZ {P:Program} {f:FuncId} {args:Array Value} {h:ab} {H:List Nat} {K:Value->ab->Prop} {v0:Value} (c:ae P f args h fun v h'=>v=v0/\h'=h) (k:K v0 h):ai P f args h H K:=
 ak [] c (by simp) (fun _ _ r=>Fr.of_eq r.2) fun v h' r=>by grind
structure Lx (h:ab) (b:Nat) (s:ByteArray) (i:Nat):Prop where
 c0:ac h b 0=some (.string s)
 c1:ac h b 1=some (.int .i64 (i:Int))
 fr:au h b 1=true
structure Mv (b:Nat) (h h':ab) (j:Nat):Prop where
 lt:b<h.size
 fr:Fr [b] h h'
 at_:h'[b]? =(am h b 1 (.int .i64 (j:Int)))[b]?
theorem Lx.lt {h:ab} {b:Nat} {s:ByteArray} {i:Nat} (L:Lx h b s i):b<h.size:=bu L.c0
theorem lV {h:ab} {b o:Nat} {v:Value} (hc:ac h b o=some v):∃c e f,h[b]? =some (.cells c e f)/\c[o]? =some v:=by
 grind [ac]
theorem Ad {c:Array Value} {o:Nat} {v:Value} (h:c[o]? =some v):c.setIfInBounds o v=c:=by
 grind
theorem Mv.refl {h:ab} {b:Nat} {s:ByteArray} {i:Nat} (L:Lx h b s i):Mv b h h i:=by
 refine⟨L.lt,Fr.refl _ _,?_⟩
 obtain⟨c,e,f,h1,h2⟩:=lV L.c1
 rw[bV h1,Ad h2,h1]
theorem Mv.to {h:ab} {b:Nat} {s:ByteArray} {i:Nat} (L:Lx h b s i) (j:Nat):Mv b h (am h b 1 (.int .i64 (j:Int))) j:=⟨L.lt,Fr.hset h b 1 _,rfl⟩
theorem Mv.trans {b:Nat} {h h1 h2:ab} {i j:Nat} (a:Mv b h h1 i) (k:Mv b h1 h2 j):Mv b h h2 j:=by
 refine⟨a.lt,a.fr.trans k.fr,?_⟩
 rw[k.at_]
 have e:=a.at_
 cases q:h[b]? with
 | none=>simp_all
 | some x=>
  cases x with
  | cells c t f=>
   rw[bV q]at e
   rw[bV e,bV q]
   simp
  | _=>
   grind [am]
theorem Mv.ext {b:Nat} {h h1 h2:ab} {i:Nat} {N:List Nat} (a:Mv b h h1 i) (f:Fr N h1 h2) (hn:∀x∈N,h.size<=x):Mv b h h2 i:=by
 have hb:b∉N:=fun q=>by have:=hn b q;have:=a.lt;omega
 exact⟨a.lt,a.fr.comp f (fun x q=>.inr (hn x q)),(f.blk b (Nat.lt_of_lt_of_le a.lt a.fr.size) hb).trans a.at_⟩
theorem Mv.push {b:Nat} {h h1:ab} {i:Nat} (a:Mv b h h1 i) (x:Obj):Mv b h (h1.push x) i:=a.ext (Fr.push h1 x) (by simp)
theorem Mv.hsetn {b:Nat} {h h1:ab} {i p o:Nat} {v:Value} (a:Mv b h h1 i) (hp:h.size<=p):Mv b h (am h1 p o v) i:=a.ext (Fr.hset h1 p o v) (by simpa using hp)
theorem Lx.mv {h h':ab} {b:Nat} {s:ByteArray} {i j:Nat} (L:Lx h b s i) (m:Mv b h h' j):Lx h' b s j:=by
 obtain⟨c,e,f,h1,h2⟩:=lV L.c1
 have e1:=m.at_
 rw[bV h1]at e1
 have h0:=L.c0
 rw[bm h1]at h0
 have hlt:=(Array.getElem?_eq_some_iff.1 h2).1
 refine⟨?_,?_,?_⟩
 ·rw[bm e1,Array.getElem?_setIfInBounds_ne (by decide)];exact h0
 ·rw[bm e1,Array.getElem?_setIfInBounds_self_of_lt hlt]
 ·have hf:=L.fr
  grind [au]
theorem Lx.cell {h:ab} {b:Nat} {s:ByteArray} {i:Nat} (L:Lx h b s i):∃u,ac h b (0+1)=some u:=⟨_,L.c1⟩
theorem Sy.mv {h0 h h':ab} {M:List Nat} {cs:List Ck} {b j:Nat} {ty:TypeId} {cells:List Value} (Y:Sy h0 M h cs) (k:Nat) (hk:cs[k]? =some (Ck.ob b ty cells)) (m:Mv b h h' j):
  Sy h0 M h' (cs.set k (Ck.ob b ty (cells.set 1 (.int .i64 (j:Int))))):=
 Y.mut hk _ m.fr.size (fun d hd hn=>m.fr.blk d hd (by simpa[Ck.ob]using hn)) (by
  have:=m.at_
  rw[bV (Y.ok hk)]at this
  simpa[Ck.ob]using this) (fun d hd=>.inl hd) (fun d hd=>by simp[Ck.ob]at hd)
theorem Sy.lx {h0 h:ab} {M:List Nat} {cs:List Ck} {b:Nat} {ty:TypeId} {s:ByteArray} {i:Nat} {cells:List Value} (Y:Sy h0 M h cs) (k:Nat) (hk:cs[k]? =some (Ck.ob b ty (.string s:: .int .i64 (i:Int)::cells))):Lx h b s i:=
 ⟨Y.cellO k hk 0 rfl,Y.cellO k hk 1 rfl,Y.freeO k hk 1⟩
def Ent (l:List (Value × Value)):Array MapEntry:=(l.mapIdx fun i p=>⟨p.1,p.2,i⟩).toArray
theorem fK (l:List (Value × Value)) (j:Nat):(Ent l)[j]? =(l[j]?).map fun p=>⟨p.1,p.2,j⟩:=by simp[Ent]
theorem fL {l:List (Value × Value)} {e:MapEntry} (h:e∈(Ent l).toList):∃j p,l[j]? =some p/\e=⟨p.1,p.2,j⟩:=by
 grind [Ent]
theorem tD (l:List (Value × Value)) (k v:Value):(Ent l).push ⟨k,v,l.length⟩=Ent (l++[(k,v)]):=by
 grind [Ent]
theorem DF {a:Array MapEntry} {l:List (Value × Value)} (h:∀j,a[j]? =(l[j]?).map fun p=>(⟨p.1,p.2,j⟩:MapEntry)):a=Ent l:=by
 apply Array.ext_getElem?
 intro j
 rw[h,fK]
def Ck.mp (m:Nat) (l:List (Value × Value)):Ck:=
 ⟨[m],[],fun h=>cy h m=some (Ent l,l.length),fun h o=>⟨by
  intro b hb
  simp only[List.mem_singleton]at hb
  subst hb
  exact(Array.getElem?_eq_some_iff.1 (bQ o)).1,by simp⟩,fun h h' he _ o=>by
  grind [bQ,lD]⟩
section
variable {h0 h:ab} {M:List Nat} {cs:List Ck} {m:Nat} {l:List (Value × Value)}
theorem Sy.mapM (Y:Sy h0 M h cs) (k:Nat) (hk:cs[k]? =some (Ck.mp m l)):cy h m=some (Ent l,l.length):=Y.ok hk
theorem lX {h:ab} {m:Nat} (hm:m<h.size) (es:Array MapEntry) (c:Nat):cy (cz h m es c) m=some (es,c):=by
 apply lD
 simp[cz,hm]
theorem Sy.putM (Y:Sy h0 M h cs) (k:Nat) (hk:cs[k]? =some (Ck.mp m l)) (l':List (Value × Value)) {es:Array MapEntry} {c:Nat} (he:es=Ent l') (hc:c=l'.length):Sy h0 M (cz h m es c) (cs.set k (Ck.mp m l')):=by
 subst he;subst hc
 have hm:m<h.size:=(Array.getElem?_eq_some_iff.1 (bQ (Y.mapM k hk))).1
 exact Y.mut hk _ (by simp) (fun d hd hn=>(nB h m _ _).blk d hd (by simpa[Ck.mp]using hn)) (lX hm _ _) (fun d hd=>.inl hd) (fun d hd=>by simp[Ck.mp]at hd)
theorem Sy.newM (Y:Sy h0 M h cs):Sy h0 M (h.push (.map #[] 0)) (cs++[Ck.mp h.size []]):=
 Y.add (Fr.push h _) _ (by
  apply lD
  simp[Ent]) (by simp[Ck.mp]) (by simp[Ck.mp])
end
end Go.X
namespace Go.Proofs.YtemclecmafjjfaaGreatDoor.G
abbrev F :=Nat × Nat
inductive Er (α:Type) where
 | ok (a:α)
 | no (f:F)
 | un
def Er.bind {α β:Type} (x:Er α) (k:α->Er β):Er β:=
 match x with
 | .ok a=>k a
 | .no f=>.no f
 | .un=>.un
def az {α:Type} (b:Bool) (f:F) (k:Er α):Er α:=
 match b with
 | true=>k
 | false=>.no f
def bt (s:ByteArray) (i:Nat):Nat:=
 match s[i]? with
 | some c=>c.toNat
 | none=>256
def gO (c:Nat):Bool:=decide (97<=c/\c<=122\/65<=c/\c<=90)
def cQ (c:Nat):Bool:=decide (48<=c/\c<=57)
def lY (c:Nat):Bool:=decide (c=32\/c=9\/c=10\/c=13)
def fN (c:Nat):Bool:=decide (32<=c/\c<=126)
def cM (c:Nat):Bool:=gO c||cQ c||decide (c=95)
def bx (c:Nat):Bool:=gO c||cQ c||decide (c=43\/c=45\/c=46)
def run (p:Nat->Bool) (s:ByteArray) (i:Nat):Nat:=
 if i<s.size/\p (bt s i)=true then run p s (i+1)else i
termination_by s.size-i
theorem rQ (p:Nat->Bool) (s:ByteArray) (i:Nat):i<=run p s i:=by
 have gen:∀n i,s.size-i=n->i<=run p s i:=by
  intro n
  induction n with
  | zero=>intro i hi;rw[run,if_neg (by omega)];omega
  | succ n ih=>
   intro i hi
   rw[run]
   grind
 grind
def skp (s:ByteArray) (i:Nat):Nat:=
 if i<s.size then
  if lY (bt s i)=true then skp s (i+1)
  else if bt s i=35 then skp s (run (fun c=>decide (c≠10)) s (i+1))
  else i
 else i
termination_by s.size-i
decreasing_by
 ·omega
 grind [rQ]
def amp :List UInt8:=[38,97,109,112,59]
def vK :List UInt8:=[38,113,117,111,116,59]
def ltB :List UInt8:=[38,108,116,59]
def gtB :List UInt8:=[38,103,116,59]
def Ha :List UInt8:=[38,97,112,111,115,59]
def ij (s:ByteArray):Nat->Nat->Nat->Nat × Nat
 | 0,n,i=>(n,i)
 | k+1,n,i=>if cQ (bt s i)=true then ij s k (10*n+(bt s i-48)) (i+1)else(n,i)
def preB (s:ByteArray) (i:Nat) (l:List UInt8):Bool:=decide ((s.extract i (i+l.length)).data.toList=l)
def mkB (l:List UInt8):ByteArray:=⟨l.toArray⟩
def part (s:ByteArray) (i:Nat):Option (Nat × Nat):=
 if preB s i amp=true then some (38,5)
 else if preB s i vK=true then some (34,6)
 else if preB s i ltB=true then some (60,4)
 else if preB s i gtB=true then some (62,4)
 else if preB s i Ha=true then some (39,6)
 else if preB s i [38,35]=false then none
 else match ij s 3 0 (i+2)with
  | (n,k)=>if k=i+2\/bt s k≠59\/fN n=false then none else some (n,k+1-i)
def str (s:ByteArray) (fr:Nat) (i:Nat) (out:List UInt8):Er (List UInt8 × Nat):=
 if i<s.size then
  if bt s i=34 then .ok (out,i+1)
  else if bt s i=38 then
   match part s i with
   | some (c,n)=>str s fr (i+(n-1)+1) (out++[UInt8.ofNat c])
   | none=>.no (i,15)
  else if fN (bt s i)=true\/lY (bt s i)=true then str s fr (i+1) (out++[UInt8.ofNat (bt s i)])
  else .no (i,15)
 else .no (fr,15)
termination_by s.size-i
structure Tok where
 kind:Nat
 at_:Nat
 says:ByteArray
 num:Nat
def noB :ByteArray:=ByteArray.empty
def Tok.l (t:Tok):List UInt8:=t.says.data.toList
def next (s:ByteArray) (i:Nat):Er (Tok × Nat):=
 let p:=skp s i
 let c:=bt s p
 if p>=s.size then .ok (⟨0,p,noB,0⟩,p)
 else if c=91 then .ok (⟨1,p,noB,0⟩,p+1)
 else if c=93 then .ok (⟨2,p,noB,0⟩,p+1)
 else if c=34 then(str s p (p+1) []).bind fun(l,j)=>.ok (⟨5,p,mkB l,0⟩,j)
 else if gO c=true then let j:=run cM s p;.ok (⟨3,p,s.extract p j,0⟩,j)
 else if cQ c=true\/c=43\/c=45\/c=46 then let j:=run bx s p;.ok (⟨4,p,s.extract p j,0⟩,j)
 else .no (p,15)
def vM :List UInt8:=[78,97,78]
def vN :List UInt8:=[73,78,70]
def bw (rd:ByteArray->Option (Nat × Nat)) (t:Tok):Er Tok:=
 if t.kind=0\/t.kind=2 then .no (t.at_,15)
 else if t.kind=3 then
  if t.l=vM\/t.l=vN then
   match rd t.says with
   | some (x,_)=>.ok {t with kind:=4,num:=x}
   | none=>.un
  else .no (t.at_,16)
 else if t.kind=4 then
  match rd t.says with
  | some (x,0)=>.ok {t with num:=x}
  | some (_,e+1)=>.no (t.at_,e+1)
  | none=>.un
 else .ok t
def gX (l:List UInt8):Nat:=l.foldl (fun n c=>10*n+(c.toNat-48)) 0
def jc (ng:Bool) (l:List UInt8):Option Int:=
 if l=[]\/10<l.length\/(l.head? =some 48/\(1<l.length\/ng=true))\/l.all (fun c=>cQ c.toNat)=false\/gX l>2147483648 then none
 else some (if ng=true then-(gX l:Int)else(gX l:Int))
def whole (l:List UInt8):Option Int:=
 match l with
 | 45::r=>jc true r
 | l=>jc false l
structure Rd where
 i:Nat
 n:Nat
 dir:Bool
 graph:Bool
 ids:List (Int × Nat)
 labels:List ByteArray
 spots:List (Nat × Nat)
 weights:List Nat
 h0:Bool
 h1:Bool
 h2:Bool
 ends:List Tok
inductive Lv where
 | over
 | top
 | graph (d:Bool)
 | node (v:Nat) (id lab gr:Bool)
 | spot (v:Nat) (x y:Bool)
 | edge (k:Nat) (so ta we:Bool)
inductive Tk where
 | none
 | list (l:Lv)
 | dir
 | id (v:Nat)
 | label (v:Nat)
 | spot (v:Nat) (y:Bool)
 | fin (k:Nat)
 | weight (k:Nat)
def gf :List UInt8:=[103,114,97,112,104]
def cr :List UInt8:=[100,105,114,101,99,116,101,100]
def gh :List UInt8:=[110,111,100,101]
def eH :List UInt8:=[101,100,103,101]
def kId :List UInt8:=[105,100]
def dj :List UInt8:=[108,97,98,101,108]
def aZ :List UInt8:=[103,114,97,112,104,105,99,115]
def kX :List UInt8:=[120]
def kY :List UInt8:=[121]
def bc :List UInt8:=[115,111,117,114,99,101]
def bi :List UInt8:=[116,97,114,103,101,116]
def cb :List UInt8:=[119,101,105,103,104,116]
def key (l:Lv) (t:Tok) (r:Rd):Er (Tk × Lv × Rd):=
 match l with
 | .over=>.ok (.none,.over,r)
 | .top=>if t.l=gf then az (!r.graph) (t.at_,18) (.ok (.list (.graph false),.top,{r with graph:=true}))else .ok (.none,.top,r)
 | .graph d=>
  if t.l=cr then az (!d) (t.at_,18) (.ok (.dir,.graph true,r))
  else if t.l=gh then az (decide (r.n<1024)) (t.at_,3) (.ok (.list (.node r.n false false false),.graph d,{r with n:=r.n+1,labels:=r.labels++[noB],spots:=r.spots++[(0,0)]}))
  else if t.l=eH then az (decide (r.ends.length/2<3072)) (t.at_,3) (.ok (.list (.edge r.ends.length false false false),.graph d,{r with ends:=r.ends++[⟨0,0,noB,0⟩,⟨0,0,noB,0⟩],weights:=r.weights++[4607182418800017408]}))
  else .ok (.none,.graph d,r)
 | .node v a b c=>
  if t.l=kId then az (!a) (t.at_,18) (.ok (.id v,.node v true b c,r))
  else if t.l=dj then az (!b) (t.at_,18) (.ok (.label v,.node v a true c,r))
  else if t.l=aZ then az (!c) (t.at_,18) (.ok (.list (.spot v false false),.node v a b true,r))
  else .ok (.none,.node v a b c,r)
 | .spot v a b=>
  if t.l=kX then az (!a) (t.at_,18) (.ok (.spot v false,.spot v true b,r))
  else if t.l=kY then az (!b) (t.at_,18) (.ok (.spot v true,.spot v a true,r))
  else .ok (.none,.spot v a b,r)
 | .edge k a b c=>
  if t.l=bc then az (!a) (t.at_,18) (.ok (.fin k,.edge k true b c,r))
  else if t.l=bi then az (!b) (t.at_,18) (.ok (.fin (k+1),.edge k a true c,r))
  else if t.l=cb then az (!c) (t.at_,18) (.ok (.weight k,.edge k a b true,r))
  else .ok (.none,.edge k a b c,r)
def Tk.kind :Tk->Nat
 | .none=>0
 | .list _=>1
 | .label _=>5
 | _=>4
def bW (cl:Nat->Nat) (x:Tk) (v:Tok) (r:Rd):Er Rd:=
 match x with
 | .dir=>az (decide (v.l=[48]\/v.l=[49])) (v.at_,17) (.ok {r with dir:=decide (v.l=[49])})
 | .id k=>match whole v.l with
  | some n=>az (!r.ids.any fun p=>p.1==n) (v.at_,18) (.ok {r with ids:=r.ids++[(n,k)]})
  | none=>.no (v.at_,17)
 | .label k=>az (decide (v.says.size<=256)) (v.at_,23) (az (v.l.all fun c=>fN c.toNat) (v.at_,25) (.ok {r with labels:=r.labels.set k v.says,h0:=true}))
 | .spot k y=>.ok {r with spots:=r.spots.modify k fun p=>if y=true then(p.1,cl v.num)else(cl v.num,p.2),h1:=true}
 | .fin k=>match whole v.l with
  | some _=>.ok {r with ends:=r.ends.set k v}
  | none=>.no (v.at_,17)
 | .weight k=>.ok {r with weights:=r.weights.set (k/2) (cl v.num),h2:=true}
 | _=>.ok r
def behind (l:Lv) (at_:Nat) (r:Rd):Er Rd:=
 match l with
 | .node _ a _ _=>az a (at_,14) (.ok r)
 | .edge _ a b _=>az (a&&b) (at_,14) (.ok r)
 | _=>.ok r
def bN :Lv->Bool
 | .top=>true
 | _=>false
def value (s:ByteArray) (rd:ByteArray->Option (Nat × Nat)) (cl:Nat->Nat) (L:Lv->Nat->Rd->Er (Nat × Lv × Rd)) (x:Tk) (d:Nat) (r:Rd):Er Rd:=
 (next s r.i).bind fun(v0,i)=>(bw rd v0).bind fun v=>
  az (decide (v.kind=1->d<16)) (v.at_,3) <| az (decide (x.kind=0\/x.kind=v.kind)) (v.at_,22) <|
   if v.kind=1 then
    match x with
    | .list l=>(L l (d+1) {r with i:=i}).bind fun(e,l',r2)=>behind l' e r2
    | _=>(L .over (d+1) {r with i:=i}).bind fun(_,_,r2)=>.ok r2
   else bW cl x v {r with i:=i}
def list (s:ByteArray) (rd:ByteArray->Option (Nat × Nat)) (cl:Nat->Nat):Nat->Lv->Nat->Rd->Er (Nat × Lv × Rd)
 | 0,_,_,_=>.un
 | n+1,l,d,r=>
  (next s r.i).bind fun(t,i)=>
   if(bN l=true/\t.kind=0)\/(bN l=false/\t.kind=2)then .ok (t.at_,l,{r with i:=i})
   else az (decide (t.kind=3)) (t.at_,15) <|
    (key l t {r with i:=i}).bind fun(x,l',r1)=>
     (value s rd cl (list s rd cl n) x d r1).bind fun r2=>list s rd cl n l' d r2
def find (ids:List (Int × Nat)) (n:Int):Option Nat:=(ids.find? fun p=>p.1==n).map (·.2)
def ik (ids:List (Int × Nat)) (t:Tok):Er Nat:=
 match whole t.l with
 | some n=>match find ids n with
  | some v=>.ok v
  | none=>.no (t.at_,14)
 | none=>.no (t.at_,17)
def edges (ids:List (Int × Nat)):List Tok->Er (List (Nat × Nat))
 | a::b::r=>(ik ids a).bind fun x=>(ik ids b).bind fun y=>(edges ids r).bind fun l=>.ok ((x,y)::l)
 | _=>.ok []
structure Dc where
 n:Nat
 dir:Bool
 edges:List (Nat × Nat)
 labels:List ByteArray
 spots:List (Nat × Nat)
 weights:List Nat
def start :Rd:=⟨0,0,false,false,[],[],[],[],false,false,false,[]⟩
def read (rd:ByteArray->Option (Nat × Nat)) (cl:Nat->Nat) (s:ByteArray):Er Dc:=
 az (decide (s.size<=262144)) (0,23) <| (list s rd cl (s.size+1) .top 0 start).bind fun(e,_,r)=>
  az r.graph (e,14) <| (edges r.ids r.ends).bind fun es=>
   .ok ⟨r.n,r.dir,es,if r.h0=true then r.labels else [],if r.h1=true then r.spots else [],if r.h2=true then r.weights else []⟩
theorem vH (s:ByteArray) (i:Nat):bt s i=(match s.data.toList[i]? with
  | some c=>c.toNat
  | none=>256):=by
 unfold bt
 by_cases h:i<s.size
 ·have h2:i<s.data.toList.length:=h
  rw[List.getElem?_eq_getElem h2,getElem?_pos s i h]
  rfl
 simp_all
theorem fY {α:Type} {b:Bool} {f:F} {k:Er α} (h:b=true):az b f k=k:=by rw[h];rfl
theorem nQ {r:Rd} {t:Tok} {d:Bool} (h:t.l=gh) (hn:r.n<1024):key (.graph d) t r= .ok (.list (.node r.n false false false),.graph d,{r with n:=r.n+1,labels:=r.labels++[noB],spots:=r.spots++[(0,0)]}):=by
 simp only[key,h]
 rw[if_neg (by decide),if_pos trivial,fY (decide_eq_true hn)]
theorem tC {r:Rd} {t:Tok} {d:Bool} (h:t.l=eH) (hn:r.ends.length/2<3072):key (.graph d) t r= .ok (.list (.edge r.ends.length false false false),.graph d,{r with ends:=r.ends++[⟨0,0,noB,0⟩,⟨0,0,noB,0⟩],weights:=r.weights++[4607182418800017408]}):=by
 simp only[key,h]
 rw[if_neg (by decide),if_neg (by decide),if_pos trivial,fY (decide_eq_true hn)]
def At (s:ByteArray) (i:Nat) (l:List UInt8):Prop:=i<=s.size/\s.data.toList.drop i=l
theorem jb (s:ByteArray):s.size=s.data.toList.length:=rfl
theorem At.start (s:ByteArray):At s 0 s.data.toList:=⟨Nat.zero_le _,rfl⟩
theorem At.nil {s:ByteArray} {i:Nat} (a:At s i []):i=s.size:=by
 obtain⟨h,e⟩:=a
 have:=congrArg List.length e
 grind [jb]
theorem At.len {s:ByteArray} {i:Nat} {l:List UInt8} (a:At s i l):s.size-i=l.length:=by
 obtain⟨h,e⟩:=a
 grind [jb]
theorem At.cons {s:ByteArray} {i:Nat} {c:UInt8} {l:List UInt8} (a:At s i (c::l)):i<s.size/\bt s i=c.toNat/\At s (i+1) l:=by
 have hl:=a.len
 obtain⟨h,e⟩:=a
 rw[List.length_cons]at hl
 refine⟨by omega,?_,by omega,?_⟩
 ·have:s.data.toList[i]? =some c:=by
   have:=congrArg (fun l=>l[0]?) e
   grind
  rw[vH,this]
 ·rw[<-List.drop_drop,e];rfl
theorem At.app {s:ByteArray} {i:Nat} {w l:List UInt8} (a:At s i (w++l)):At s (i+w.length) l:=by
 have hl:=a.len
 obtain⟨h,e⟩:=a
 rw[List.length_append]at hl
 refine⟨by omega,?_⟩
 grind [List.drop_drop,List.drop_left]
theorem At.ext {s:ByteArray} {i:Nat} {w l:List UInt8} (a:At s i (w++l)):(s.extract i (i+w.length)).data.toList=w:=by
 obtain⟨h,e⟩:=a
 simp_all
def fE (p:Nat->Bool) (l:List UInt8):Prop:=∀c r,l=c::r->p c.toNat=false
theorem fE.nil (p:Nat->Bool):fE p []:=fun c r h=>by cases h
theorem fE.cons {p:Nat->Bool} {c:UInt8} {r:List UInt8} (h:p c.toNat=false):fE p (c::r):=fun c' r' e=>by grind
theorem rJ {p:Nat->Bool} {s:ByteArray}:∀{w l:List UInt8} {i:Nat},At s i (w++l)->(∀c∈w,p c.toNat=true)->fE p l->run p s i=i+w.length
 | [],l,i,a,_,hs=>by
  rw[run]
  cases l with
  | nil=>rw[if_neg (by have:=a.nil;omega)];rfl
  | cons c r=>
   obtain⟨h1,h2,h3⟩:=At.cons a
   rw[if_neg (by rw[h2,hs c r rfl];simp)];rfl
 | c::w,l,i,a,hw,hs=>by
  obtain⟨h1,h2,h3⟩:=At.cons (l:=w++l) a
  rw[run,if_pos ⟨h1,by grind⟩,rJ h3 (fun c hc=>hw c (by simp[hc])) hs,List.length_cons]
  omega
inductive Bl :List UInt8->Prop where
 | nil:Bl []
 | blank {c:UInt8} {w:List UInt8}:lY c.toNat=true->Bl w->Bl (c::w)
 | note {n w:List UInt8}:(∀c∈n,c≠10)->Bl w->Bl (35::(n++10::w))
theorem Bl.app {a b:List UInt8} (h:Bl a) (k:Bl b):Bl (a++b):=by
 induction h with
 | nil=>exact k
 | blank h _ ih=>exact .blank h ih
 | note h _ ih=>rw[List.cons_append,List.append_assoc];exact .note h ih
def Tb (c:Nat):Bool:= !(lY c||decide (c=35))
theorem lU {s:ByteArray} {w l:List UInt8} (hw:Bl w):∀{i:Nat},At s i (w++l)->fE (fun c=> !Tb c) l->skp s i=i+w.length:=by
 induction hw with
 | nil=>
  intro i a hs
  rw[skp]
  cases l with
  | nil=>rw[if_neg (by have:=a.nil;omega)];rfl
  | cons c r=>
   obtain⟨h1,h2,h3⟩:=At.cons a
   have:=hs c r rfl
   simp only[Tb,Bool.not_not,Bool.or_eq_false_iff,decide_eq_false_iff_not]at this
   grind
 | @blank c w hc _ ih=>
  intro i a hs
  obtain⟨h1,h2,h3⟩:=At.cons (l:=w++l) a
  rw[skp,if_pos h1,h2,if_pos hc,ih h3 hs,List.length_cons];omega
 | @note n w hn _ ih=>
  intro i a hs
  rw[List.cons_append,List.append_assoc,List.cons_append]at a
  obtain⟨h1,h2,h3⟩:=At.cons a
  have hrun:=rJ (p:=fun c=>decide (c≠10)) h3 (fun c hc=>by
   have:=hn c hc
   simp only[decide_eq_true_eq]
   intro e;exact this (UInt8.toNat_inj.1 e)) (fE.cons rfl)
  have h4:=At.app h3
  obtain⟨q1,q2,q3⟩:=At.cons h4
  rw[skp,if_pos h1,h2,if_neg (by decide),if_pos (by decide),hrun,skp,if_pos q1,q2,if_pos (by decide),ih q3 hs]
  grind
theorem Gy {c:Nat} (h:c≠32/\c≠9/\c≠10/\c≠13/\c≠35):(!Tb c)=false:=by
 simp[Tb,lY];omega
theorem z6 {s:ByteArray} {i:Nat} {w:List UInt8} (hw:Bl w) (a:At s i w):next s i= .ok (⟨0,s.size,noB,0⟩,s.size):=by
 have a':At s i (w++[]):=by grind
 have e:=lU hw a' (fE.nil _)
 have:=(At.app a').nil
 unfold next
 grind
theorem jF {s:ByteArray} {i:Nat} {w l:List UInt8} (hw:Bl w) (a:At s i (w++91::l)):next s i= .ok (⟨1,i+w.length,noB,0⟩,i+w.length+1)/\At s (i+w.length+1) l:=by
 have e:=lU hw a (fE.cons (by decide))
 obtain⟨h1,h2,h3⟩:=(At.app a).cons
 refine⟨?_,h3⟩
 unfold next
 grind
theorem nR {s:ByteArray} {i:Nat} {w l:List UInt8} (hw:Bl w) (a:At s i (w++93::l)):next s i= .ok (⟨2,i+w.length,noB,0⟩,i+w.length+1)/\At s (i+w.length+1) l:=by
 have e:=lU hw a (fE.cons (by decide))
 obtain⟨h1,h2,h3⟩:=(At.app a).cons
 refine⟨?_,h3⟩
 unfold next
 grind
structure Wd (k:List UInt8) (l:List UInt8):Prop where
 hd:∃c r,k=c::r/\gO c.toNat=true
 all:∀c∈k,cM c.toNat=true
 st:fE cM l
structure Nm (k:List UInt8) (l:List UInt8):Prop where
 hd:∃c r,k=c::r/\(cQ c.toNat=true\/c.toNat=43\/c.toNat=45\/c.toNat=46)
 all:∀c∈k,bx c.toNat=true
 st:fE bx l
theorem jG {s:ByteArray} {i:Nat} {w k l:List UInt8} (hw:Bl w) (hk:Wd k l) (a:At s i (w++(k++l))):
  ∃t,next s i= .ok (t,i+w.length+k.length)/\t.kind=3/\t.l=k/\At s (i+w.length+k.length) l:=by
 obtain⟨c,r,rfl,hc⟩:=hk.hd
 have hb:(97<=c.toNat/\c.toNat<=122)\/(65<=c.toNat/\c.toNat<=90):=by simpa[gO]using hc
 have e:=lU hw a (fE.cons (Gy (by omega)))
 have a2:=At.app a
 obtain⟨h1,h2,h3⟩:=At.cons (l:=r++l) a2
 have hr:=rJ (p:=cM) a2 hk.all hk.st
 refine⟨⟨3,i+w.length,s.extract (i+w.length) (i+w.length+(c::r).length),0⟩,?_,rfl,At.ext a2,At.app a2⟩
 unfold next
 grind
theorem z7 {s:ByteArray} {i:Nat} {w k l:List UInt8} (hw:Bl w) (hk:Nm k l) (a:At s i (w++(k++l))):
  ∃t,next s i= .ok (t,i+w.length+k.length)/\t.kind=4/\t.l=k/\At s (i+w.length+k.length) l:=by
 obtain⟨c,r,rfl,hc⟩:=hk.hd
 have hb:(48<=c.toNat/\c.toNat<=57)\/c.toNat=43\/c.toNat=45\/c.toNat=46:=by simpa[cQ]using hc
 have e:=lU hw a (fE.cons (Gy (by omega)))
 have a2:=At.app a
 obtain⟨h1,h2,h3⟩:=At.cons (l:=r++l) a2
 have hr:=rJ (p:=bx) a2 hk.all hk.st
 have hl:gO c.toNat=false:=by simp[gO];omega
 refine⟨⟨4,i+w.length,s.extract (i+w.length) (i+w.length+(c::r).length),0⟩,?_,rfl,At.ext a2,At.app a2⟩
 unfold next
 grind
def rK (c:UInt8):List UInt8:=if c=38 then amp else if c=34 then vK else [c]
def enc (l:List UInt8):List UInt8:=l.flatMap rK
theorem xk {s:ByteArray} {i:Nat} {w l:List UInt8} (a:At s i (w++l)):preB s i w=true:=by
 unfold preB;rw[At.ext a];simp
theorem z8 {s:ByteArray} {i:Nat} {w k l:List UInt8} (a:At s i (w++l)) (hk:∀r,w++l≠k++r):preB s i k=false:=by
 unfold preB
 simp only[decide_eq_false_iff_not]
 obtain⟨h,e⟩:=a
 grind [ByteArray.data_extract,Array.toList_extract,List.take_append_drop]
theorem Aa {s:ByteArray} {i:Nat} {l:List UInt8} (a:At s i (amp++l)):part s i=some (38,5):=by
 unfold part;rw[if_pos (xk a)]
theorem yJ {s:ByteArray} {i:Nat} {l:List UInt8} (a:At s i (vK++l)):part s i=some (34,6):=by
 unfold part
 rw[if_neg (by grind [z8,vK,amp]),if_pos (xk a)]
theorem Ab {s:ByteArray} {fr:Nat}:∀{x l:List UInt8} {i:Nat} {out:List UInt8},At s i (enc x++34::l)->(∀c∈x,fN c.toNat=true)->
  str s fr i out= .ok (out++x,i+(enc x).length+1)
 | [],l,i,out,a,_=>by
  obtain⟨h1,h2,h3⟩:=At.cons (c:=34) (l:=l) a
  rw[str,if_pos h1,h2,if_pos (by decide)]
  simp[enc]
 | c::x,l,i,out,a,hx=>by
  have hp:=hx c (by simp)
  have hp':32<=c.toNat/\c.toNat<=126:=by simpa[fN]using hp
  have ee:enc (c::x)=rK c++enc x:=rfl
  rw[ee,List.append_assoc]at a
  have a2:=At.app a
  have ih:=fun o=>Ab (fr:=fr) (out:=o) a2 (fun c hc=>hx c (by simp[hc]))
  by_cases q1:c=38
  ·subst q1
   obtain⟨h1,h2,h3⟩:=At.cons (c:=38) (l:=[97,109,112,59]++(enc x++34::l)) a
   rw[str,if_pos h1,h2,if_neg (by decide),if_pos (by decide),Aa a]
   simp only[]
   have e1:(rK 38).length=5:=rfl
   grind
  by_cases q2:c=34
  ·subst q2
   obtain⟨h1,h2,h3⟩:=At.cons (c:=38) (l:=[113,117,111,116,59]++(enc x++34::l)) a
   rw[str,if_pos h1,h2,if_neg (by decide),if_pos (by decide),yJ a]
   simp only[]
   have e1:(rK 34).length=6:=rfl
   grind
  have e1:rK c=[c]:=by unfold rK;grind
  rw[e1]at a ih
  obtain⟨h1,h2,h3⟩:=At.cons (l:=enc x++34::l) a
  have n1:c.toNat≠34:=fun e=>q2 (UInt8.toNat_inj.1 e)
  have n2:c.toNat≠38:=fun e=>q1 (UInt8.toNat_inj.1 e)
  rw[str,if_pos h1,h2,if_neg n1,if_neg n2,if_pos (.inl hp),UInt8.ofNat_toNat]
  grind
theorem Ac {s:ByteArray} {i:Nat} {w x l:List UInt8} (hw:Bl w) (hx:∀c∈x,fN c.toNat=true) (a:At s i (w++34::(enc x++34::l))):
  ∃t,next s i= .ok (t,i+w.length+1+(enc x).length+1)/\t.kind=5/\t.says=mkB x/\At s (i+w.length+1+(enc x).length+1) l:=by
 have e:=lU hw a (fE.cons (by decide))
 obtain⟨h1,h2,h3⟩:=(At.app a).cons
 have h4:=(At.app h3).cons
 refine⟨⟨5,i+w.length,mkB x,0⟩,?_,rfl,rfl,h4.2.2⟩
 unfold next
 simp only[e,h2]
 rw[if_neg (by omega),if_neg (by decide),if_neg (by decide),if_pos (by decide),Ab h3 hx]
 rfl
section
variable {s:ByteArray} {rd:ByteArray->Option (Nat × Nat)} {cl:Nat->Nat}
def Big (s:ByteArray) (rd:ByteArray->Option (Nat × Nat)) (cl:Nat->Nat) (l:Lv) (d:Nat) (r:Rd) (e:Nat × Lv × Rd):Prop:=∀n,s.size-r.i<n->list s rd cl n l d r= .ok e
theorem xl {l:Lv} {d:Nat} {r:Rd} {w rest:List UInt8} (ht:bN l=false) (hw:Bl w) (a:At s r.i (w++93::rest)):
  Big s rd cl l d r (r.i+w.length,l,{r with i:=r.i+w.length+1})/\At s (r.i+w.length+1) rest:=by
 obtain⟨h1,h2⟩:=nR hw a
 refine⟨fun n hn=>?_,h2⟩
 cases n with
 | zero=>omega
 | succ n=>
  rw[list,h1]
  simp only[Er.bind,ht]
  grind
theorem xn {d:Nat} {r:Rd} {w:List UInt8} (hw:Bl w) (a:At s r.i w):Big s rd cl .top d r (s.size,.top,{r with i:=s.size}):=by
 have h1:=z6 hw a
 intro n hn
 cases n with
 | zero=>omega
 | succ n=>
  rw[list,h1]
  simp only[Er.bind,bN]
  grind
theorem kD {l l':Lv} {d:Nat} {r r1 r2:Rd} {x:Tk} {w k rest:List UInt8} {e:Nat × Lv × Rd} (hw:Bl w) (hk:Wd k rest) (a:At s r.i (w++(k++rest)))
  (hkey:∀t,t.l=k->key l t {r with i:=r.i+w.length+k.length}= .ok (x,l',r1))
  (hval:∀n,s.size-(r.i+w.length+k.length)<n->value s rd cl (list s rd cl n) x d r1= .ok r2) (hi:r.i<r2.i) (hj:r2.i<=s.size) (hb:Big s rd cl l' d r2 e):Big s rd cl l d r e:=by
 obtain⟨t,h1,h2,h3,h4⟩:=jG hw hk a
 have hk1:0<k.length:=by obtain⟨c,q,rfl,_⟩:=hk.hd;simp
 have hsz:=h4.1
 intro n hn
 cases n with
 | zero=>omega
 | succ n=>
  rw[list,h1]
  simp only[Er.bind,h2]
  rw[if_neg (by omega)]
  simp only[az,decide_true,hkey t h3]
  rw[hval n (by omega)]
  exact hb n (by omega)
theorem yK {d:Nat} {x:Tk} {r:Rd} {w k rest:List UInt8} {v:Nat} (hw:Bl w) (hk:Nm k rest) (a:At s r.i (w++(k++rest))) (hx:x.kind=0\/x.kind=4) (hr:∀b:ByteArray,b.data.toList=k->rd b=some (v,0)):
  ∃t:Tok,t.l=k/\t.num=v/\t.kind=4/\∀L,value s rd cl L x d r=bW cl x t {r with i:=r.i+w.length+k.length}:=by
 obtain⟨t,h1,h2,h3,h4⟩:=z7 hw hk a
 refine⟨{t with num:=v},h3,rfl,h2,fun L=>?_⟩
 unfold value
 rw[h1]
 simp only[Er.bind]
 have hv:bw rd t= .ok {t with num:=v}:=by
  unfold bw
  rw[if_neg (by omega),if_neg (by omega),if_pos h2,hr _ h3]
 rw[hv]
 simp only[h2]
 have e1:(decide ((4:Nat)=1->d<16))=true:=by simp
 have e2:decide (x.kind=0\/x.kind=4)=true:=by simpa using hx
 rw[e1,e2]
 simp only[az]
 grind
theorem nT {d:Nat} {x:Tk} {r:Rd} {w k rest:List UInt8} {v e:Nat} (hw:Bl w) (hk:Wd k rest) (hkk:k=vM\/k=vN) (a:At s r.i (w++(k++rest))) (hx:x.kind=0\/x.kind=4) (hr:∀b:ByteArray,b.data.toList=k->rd b=some (v,e)):
  ∃t:Tok,t.l=k/\t.num=v/\t.kind=4/\∀L,value s rd cl L x d r=bW cl x t {r with i:=r.i+w.length+k.length}:=by
 obtain⟨t,h1,h2,h3,h4⟩:=jG hw hk a
 refine⟨{t with kind:=4,num:=v},h3,rfl,rfl,fun L=>?_⟩
 unfold value
 rw[h1]
 simp only[Er.bind]
 have hv:bw rd t= .ok {t with kind:=4,num:=v}:=by
  unfold bw
  rw[if_neg (by omega),if_pos h2,if_pos (by grind),hr _ h3]
 rw[hv]
 simp only[]
 have e1:(decide ((4:Nat)=1->d<16))=true:=by simp
 have e2:decide (x.kind=0\/x.kind=4)=true:=by simpa using hx
 rw[e1,e2]
 simp only[az]
 grind
theorem yL {d:Nat} {x:Tk} {r:Rd} {w y rest:List UInt8} (hw:Bl w) (hy:∀c∈y,fN c.toNat=true) (a:At s r.i (w++34::(enc y++34::rest))) (hx:x.kind=0\/x.kind=5):
  ∃t:Tok,t.says=mkB y/\t.kind=5/\At s (r.i+w.length+1+(enc y).length+1) rest/\∀L,value s rd cl L x d r=bW cl x t {r with i:=r.i+w.length+1+(enc y).length+1}:=by
 obtain⟨t,h1,h2,h3,h4⟩:=Ac hw hy a
 refine⟨t,h3,h2,h4,fun L=>?_⟩
 unfold value
 rw[h1]
 simp only[Er.bind]
 have hv:bw rd t= .ok t:=by
  unfold bw
  grind
 rw[hv]
 simp only[h2]
 have e1:(decide ((5:Nat)=1->d<16))=true:=by simp
 have e2:decide (x.kind=0\/x.kind=5)=true:=by simpa using hx
 rw[e1,e2]
 simp only[az]
 grind
theorem nU {d n:Nat} {l2 l3:Lv} {r r2 r3:Rd} {e:Nat} {w rest:List UInt8} (hw:Bl w) (a:At s r.i (w++91::rest)) (hd:d<16) (hn:s.size-(r.i+w.length+1)<n)
  (hb:Big s rd cl l2 (d+1) {r with i:=r.i+w.length+1} (e,l3,r2)) (he:behind l3 e r2= .ok r3):value s rd cl (list s rd cl n) (.list l2) d r= .ok r3:=by
 obtain⟨h1,h2⟩:=jF hw a
 unfold value
 rw[h1]
 simp only[Er.bind,bw]
 have e1:(decide ((1:Nat)=1->d<16))=true:=by simpa using hd
 rw[if_neg (by decide),if_neg (by decide),if_neg (by decide)]
 simp only[Tk.kind,az,or_true,decide_true,if_true]
 rw[hb n hn]
 grind
theorem vI {d n:Nat} {r r2:Rd} {e:Nat} {l3:Lv} {w rest:List UInt8} (hw:Bl w) (a:At s r.i (w++91::rest)) (hd:d<16) (hn:s.size-(r.i+w.length+1)<n)
  (hb:Big s rd cl .over (d+1) {r with i:=r.i+w.length+1} (e,l3,r2)):value s rd cl (list s rd cl n) .none d r= .ok r2:=by
 obtain⟨h1,h2⟩:=jF hw a
 unfold value
 rw[h1]
 simp only[Er.bind,bw]
 have e1:(decide ((1:Nat)=1->d<16))=true:=by simpa using hd
 rw[if_neg (by decide),if_neg (by decide),if_neg (by decide)]
 simp only[Tk.kind,az,true_or,decide_true,if_true]
 rw[hb n hn]
 simp[hd]
end
def dg (n:Nat):UInt8:=UInt8.ofNat (48+n % 10)
def dec (n:Nat):List UInt8:=if n<10 then [dg n]else dec (n/10)++[dg n]
termination_by n
theorem rM (n:Nat):(dg n).toNat=48+n % 10:=by
 grind [dg,UInt8.toNat_ofNat']
theorem jH (n:Nat):∀c∈dec n,cQ c.toNat=true:=by
 induction n using Nat.strongRecOn<;>grind [dec,cQ,dg,rM]
theorem tG (l:List UInt8) (c:UInt8):gX (l++[c])=10*gX l+(c.toNat-48):=by simp[gX]
theorem tH (n:Nat):gX (dec n)=n:=by
 induction n using Nat.strongRecOn<;>grind [dec,gX,rM,tG]
theorem vJ (n:Nat):dec n≠[]:=by
 rw[dec];split
 ·simp
 ·simp
theorem tI (n:Nat) (h:0<n):(dec n).head? ≠some 48:=by
 induction n using Nat.strongRecOn with
 | _ n ih=>
  rw[dec]
  split
  ·simp only[List.head?_cons,ne_eq,Option.some.injEq]
   intro e
   have:=congrArg UInt8.toNat e
   grind [rM]
  grind [dec]
theorem rN (k:Nat):∀n,n<10^(k+1)->(dec n).length<=k+1:=by
 induction k with
 | zero=>
  intro n hn
  rw[dec,if_pos (by simpa using hn)];simp
 | succ k ih=>
  grind [dec]
theorem Ae (n:Nat) (h:1<(dec n).length):0<n:=by
 cases n<;>grind [dec]
theorem nZ (ng:Bool) (n:Nat) (h:n<=2147483648) (hz:ng=true->0<n):jc ng (dec n)=some (if ng=true then-(n:Int)else(n:Int)):=by
 unfold jc
 rw[if_neg,tH]
 rintro(q | q | ⟨q1,q2 | q2⟩ | q | q)
 ·exact vJ n q
 ·have:=rN 9 n (by omega);omega
 ·exact tI n (Ae n q2) q1
 ·exact tI n (hz q2) q1
 ·grind [jH]
 ·rw[tH]at q;omega
theorem ii (n:Nat) (h:n<=2147483648):whole (dec n)=some (n:Int):=by
 have h1:=nZ false n h (by simp)
 simp only[Bool.false_eq_true,if_false]at h1
 unfold whole
 split
 ·rename_i r e
  have:=jH n 45 (by rw[e];simp)
  exact absurd this (by decide)
 ·exact h1
theorem yM (n:Nat) (h:n<=2147483648) (h0:0<n):whole (45::dec n)=some (-(n:Int)):=by
 grind [nZ,whole]
structure IsNum (k:List UInt8):Prop where
 hd:∃c r,k=c::r/\(cQ c.toNat=true\/c.toNat=43\/c.toNat=45\/c.toNat=46)
 all:∀c∈k,bx c.toNat=true
theorem qs {c:Nat} (h:cQ c=true):bx c=true:=by simp[bx,h]
theorem yN (n:Nat):IsNum (dec n):=by
 have hall:=jH n
 refine⟨?_,fun c hc=>qs (hall c hc)⟩
 cases q:dec n<;>grind [dec,vJ]
theorem yO (n:Nat):IsNum (45::dec n):=
 ⟨⟨45,dec n,rfl,.inr (.inr (.inl rfl))⟩,fun c hc=>by
  rcases List.mem_cons.1 hc with rfl | hc
  ·decide
  ·exact qs (jH n c hc)⟩
def iT (rd:ByteArray->Option (Nat × Nat)) (k:List UInt8) (v:Nat):Prop:=(IsNum k\/k=vM\/k=vN)/\∀b:ByteArray,b.data.toList=k->rd b=some (v,0)
def idt (x:Int):List UInt8:=if x<0 then 45::dec x.natAbs else dec x.natAbs
theorem yP {x:Int} (h:x.natAbs<=2147483648):whole (idt x)=some x:=by
 unfold idt
 split
 ·rw[yM _ h (by omega)];congr 1;omega
 ·rw[ii _ h];congr 1;omega
theorem DG (x:Int):IsNum (idt x):=by
 grind [idt,yO,yN]
def Sep (l:List UInt8):Prop:=∃c r,l=c::r/\lY c.toNat=true
theorem Sep.app {l m:List UInt8} (h:Sep l):Sep (l++m):=by obtain⟨c,r,rfl,hc⟩:=h;exact⟨c,r++m,rfl,hc⟩
theorem oa {c:Nat} (h:lY c=true):c=32\/c=9\/c=10\/c=13:=by simpa[lY]using h
theorem Sep.word {l:List UInt8} (h:Sep l):fE cM l:=by
 obtain⟨c,r,rfl,hc⟩:=h
 grind [fE.cons,oa,cM,gO,cQ]
theorem Sep.numb {l:List UInt8} (h:Sep l):fE bx l:=by
 obtain⟨c,r,rfl,hc⟩:=h
 grind [fE.cons,oa,bx,gO,cQ]
theorem G8 {l:List UInt8} (h:fE cM l):Wd vM l:=⟨⟨78,[97,78],rfl,rfl⟩,by decide,h⟩
theorem G9 {l:List UInt8} (h:fE cM l):Wd vN l:=⟨⟨73,[78,70],rfl,rfl⟩,by decide,h⟩
theorem qt {s:ByteArray} {rd:ByteArray->Option (Nat × Nat)} {cl:Nat->Nat} {d:Nat} {x:Tk} {r:Rd} {w k rest:List UInt8} {v:Nat} (hw:Bl w) (hk:iT rd k v) (h1:fE bx rest) (h2:fE cM rest)
  (a:At s r.i (w++(k++rest))) (hx:x.kind=0\/x.kind=4):
  ∃t:Tok,t.l=k/\t.num=v/\t.kind=4/\∀L,value s rd cl L x d r=bW cl x t {r with i:=r.i+w.length+k.length}:=by
 obtain⟨hk,hr⟩:=hk
 rcases hk with hk | rfl | rfl
 ·exact yK hw ⟨hk.hd,hk.all,h1⟩ a hx hr
 ·exact nT hw (G8 h2) (.inl rfl) a hx hr
 ·exact nT hw (G9 h2) (.inr rfl) a hx hr
theorem xo (n:Nat):Lib.decDigits n=dec n:=by
 induction n using Nat.strongRecOn<;>grind [Lib.decDigits,dec,dg,Nat.mod_eq_of_lt]
theorem kG (n:Int):Lib.itoa n=idt n:=by
 unfold Lib.itoa idt
 rw[xo,xo]
 grind
def fd (a:Nat) (l:List UInt8):Nat:=l.foldl (fun n c=>10*n+(c.toNat-48)) a
theorem Af :∀(l:List UInt8) (a:Nat),a<=fd a l
 | [],a=>Nat.le_refl _
 | c::l,a=>by
  have:=Af l (10*a+(c.toNat-48))
  show a<=fd (10*a+(c.toNat-48)) l
  omega
theorem vO {M:Nat} (hM:2147483648<=M):∀(l:List UInt8) (a:Nat),(∀c∈l,cQ c.toNat=true)->fd a l<=2147483648->Lib.parseUintM M a l= .ok (fd a l)
 | [],a,_,_=>rfl
 | c::l,a,h,hf=>by
  have hc:48<=c.toNat/\c.toNat<=57:=by simpa[cQ]using h c (by simp)
  have e:fd a (c::l)=fd (10*a+(c.toNat-48)) l:=rfl
  rw[e]at hf ⊢
  have:=Af l (10*a+(c.toNat-48))
  rw[Lib.parseUintM,if_pos hc,if_neg (by omega),if_neg (by omega),show a*10+(c.toNat-48)=10*a+(c.toNat-48) by omega,vO hM l _ (fun c q=>h c (by simp[q])) hf]
theorem tJ {l:List UInt8} (h:∀c∈l,cQ c.toNat=true) (h0:l.head? ≠some 48) (hn:l≠[]):0<gX l:=by
 cases l with
 | nil=>grind
 | cons c r=>
  have hc:48<=c.toNat/\c.toNat<=57:=by simpa[cQ]using h c (by simp)
  have h48:c.toNat≠48:=fun e=>h0 (by simp;exact UInt8.toNat_inj.1 e)
  have e:gX (c::r)=fd (10*0+(c.toNat-48)) r:=rfl
  grind [Af]
theorem tK :∀(n:Nat) (l:List UInt8),l.length=n->(∀c∈l,cQ c.toNat=true)->l≠[]->(l.head? =some 48->l.length=1)->dec (gX l)=l:=by
 intro n
 induction n with
 | zero=>grind
 | succ n ih=>
  intro l hl hd hne h48
  obtain⟨m,c,rfl⟩:∃m c,l=m++[c]:=⟨l.dropLast,l.getLast hne,(List.dropLast_concat_getLast hne).symm⟩
  have hc:48<=c.toNat/\c.toNat<=57:=by simpa[cQ]using hd c (by simp)
  have ed:∀k,k % 10=c.toNat-48->dg k=c:=fun k e=>by
   apply UInt8.toNat_inj.1
   rw[rM,e];omega
  rw[tG]
  by_cases hm:m=[]
  ·subst hm
   have:gX []=0:=rfl
   rw[this,dec,if_pos (by omega),ed _ (by omega)];rfl
  ·have hmh:m.head? ≠some 48:=fun e=>by
    grind
   have hdm:∀c∈m,cQ c.toNat=true:=fun c q=>hd c (by simp[q])
   have hp:=tJ hdm hmh hm
   rw[dec,if_neg (by omega),ed _ (by omega),show(10*gX m+(c.toNat-48))/10=gX m by omega,ih m (by simpa using hl) hdm hm (fun e=>absurd e hmh)]
theorem mK {ng:Bool} {l:List UInt8} {n:Int} (h:jc ng l=some n):l≠[]/\(l.head? =some 48->l.length=1/\ng=false)/\(∀c∈l,cQ c.toNat=true)/\gX l<=2147483648/\n=if ng=true then-(gX l:Int)else(gX l:Int):=by
 unfold jc at h
 split at h
 ·cases h
 ·rename_i q
  simp only[not_or,not_and]at q
  obtain⟨q1,q2,q3,q4,q5⟩:=q
  refine⟨q1,fun e=>?_,List.all_eq_true.1 (by simpa using q4),by omega,(Option.some.inj h).symm⟩
  have:=q3 e
  have hl:0<l.length:=List.length_pos_iff.2 q1
  grind
theorem oc {l:List UInt8} {n:Int} (h:whole l=some n):Lib.parseIntB 64 l= .ok n/\Lib.itoa n=l/\ -2147483648<=n/\n<=2147483648:=by
 unfold whole at h
 split at h
 ·rename_i r
  obtain⟨q1,q2,q3,q4,q5⟩:=mK h
  simp only[if_true]at q5
  have h0:r.head? ≠some 48:=fun e=>by grind
  have hp:=tJ q3 h0 q1
  have hu:Lib.parseUintB 64 r= .ok (gX r):=by
   unfold Lib.parseUintB
   rw[if_neg q1]
   exact vO (by decide) r 0 q3 q4
  refine⟨?_,?_,by omega,by omega⟩
  ·unfold Lib.parseIntB
   grind
  ·rw[kG]
   unfold idt
   rw[if_pos (by omega),show n.natAbs=gX r by omega,tK _ r rfl q3 q1 fun e=>(q2 e).1]
 ·rename_i hne
  obtain⟨q1,q2,q3,q4,q5⟩:=mK h
  simp only[Bool.false_eq_true,if_false]at q5
  have hu:Lib.parseUintB 64 l= .ok (gX l):=by
   unfold Lib.parseUintB
   rw[if_neg q1]
   exact vO (by decide) l 0 q3 q4
  refine⟨?_,?_,by omega,by omega⟩
  ·cases l with
   | nil=>grind
   | cons c r=>
    have hc:48<=c.toNat/\c.toNat<=57:=by simpa[cQ]using q3 c (by simp)
    unfold Lib.parseIntB
    grind
  ·rw[kG]
   unfold idt
   rw[if_neg (by omega),show n.natAbs=gX l by omega,tK _ l rfl q3 q1 fun e=>(q2 e).1]
theorem Ag {l:List UInt8} {v:Int} (h:Lib.parseIntB 64 l= .ok v):whole l=if Lib.itoa v=l/\ -2147483648<=v/\v<=2147483648 then some v else none:=by
 split
 ·grind [kG,yP]
 ·rename_i q
  cases e:whole l with
  | none=>rfl
  | some n=>
   obtain⟨a,b,c,d⟩:=oc e
   grind
theorem yQ {l:List UInt8} (h:∀v,Lib.parseIntB 64 l≠ .ok v):whole l=none:=by
 cases e:whole l with
 | none=>rfl
 | some n=>exact absurd (oc e).1 (h n)
end Go.Proofs.YtemclecmafjjfaaGreatDoor.G
namespace Go.Proofs.YtemclecmafjjfaaGreatDoor.N
open Go.Proofs.YtemclecmafjjfaaGreatDoor
open Go.X
open Go.RowKit (Below)
set_option maxRecDepth 100000
theorem jd {w w':World} (b:Below w.heap.size w w'):Fr [] w.heap w'.heap:=⟨b.size,fun k hk _=>b.block k hk⟩
theorem gi {w w':World} (b:Below w.heap.size w w'):Go.X.Rest w w':=⟨b.os,b.tape,b.output,b.size⟩
theorem sy0 {h h':ab} (f:Fr [] h h'):Sy h [] h' []:=⟨f,Hp.nil _,fun k c hk=>by simp at hk⟩
theorem gP {P:Program} {f:FuncId} {args:Array Value} {h:ab} {v:Value} {R:Value->ab->Prop} (c:∀w:World,Calls P f args w fun e w'=>e= .returned v/\w'=w) (r:R v h):ae P f args h R:=
 fun w hw=>(c w).mono fun e w' ⟨h1,h2⟩=>⟨v,h1,by rw[h2];exact Rest.refl w,by rw[h2,hw];exact r⟩
theorem fO {P:Program} {f:FuncId} {args:Array Value} {h:ab} {v:Value} {R:Value->ab->Prop} (c:∀w:World,w.heap=h->Calls P f args w fun e w'=>e= .returned v/\Below w.heap.size w w') (r:∀h',Fr [] h h'->R v h'):ae P f args h R:=
 fun w hw=>(c w hw).mono fun e w' ⟨h1,h2⟩=>⟨v,h1,gi h2,by subst hw;exact r _ (jd h2)⟩
theorem Ju {t:ByteArray} {c:Nat} (hc:c<256) {h:ab}:ae Tryz.prog 125 #[.string t,.int .u8 (c:Int)] h fun v h'=>v= .int .i64 (Lib.indexByte t.data.toList (UInt8.ofNat c))/\h'=h:=
 gP (fun w=>Go.Proofs.Tryz.strings_IndexByte t (c:Int) w) ⟨by rw[Int.toNat_natCast],rfl⟩
theorem Jw {t p:ByteArray} {h:ab}:ae Tryz.prog 59 #[.string t,.string p] h fun v h'=>v= .bool (Lib.hasPrefix t.data.toList p.data.toList)/\h'=h:=
 gP (fun w=>Go.Proofs.Tryz.strings_HasPrefix t p w) ⟨rfl,rfl⟩
end Go.Proofs.YtemclecmafjjfaaGreatDoor.N
