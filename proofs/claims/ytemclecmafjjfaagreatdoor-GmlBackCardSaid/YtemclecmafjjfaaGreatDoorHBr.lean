/- Memory of the readers: a place in a text that moves, maps by their entries, calls that may go up. Conditions: none. -/
import Derived.Test.YtemclecmafjjfaaGreatDoorSBk
import Derived.Test.YtemclecmafjjfaaGreatDoorXU
import Derived.Lib.ParseIntB
import Derived.Lib.ItoaNum
import Derived.Test.YtemclecmafjjfaaGreatDoorWShelf
set_option linter.unusedVariables false
set_option linter.unusedSimpArgs false
namespace Go.X
theorem aK {P:Program} {f:FuncId} {args:Array Value} {h:ab} {H:List Nat} {K E R Rp:Value->ab->Prop} (M:List Nat) (c:aF P f args h R Rp) (hm:∀b∈H,b∉M)
  (f1:∀v h',R v h'->Fr M h h') (f2:∀v h',Rp v h'->Fr M h h') (k:∀v h',R v h'->K v h') (e:∀v h',Rp v h'->E v h'):aG P f args h H K E:=
 ⟨M,R,Rp,c.mono (fun v h' r=>⟨f1 v h' r,r⟩) (fun v h' r=>⟨f2 v h' r,r⟩),hm,fun v h' _ r=>k v h' r,fun v h' _ r=>e v h' r⟩
theorem aj {P:Program} {f:FuncId} {args:Array Value} {h:ab} {H:List Nat} {K R:Value->ab->Prop} (M:List Nat) (c:ae P f args h R) (hm:∀b∈H,b∉M)
  (f1:∀v h',R v h'->Fr M h h') (k:∀v h',R v h'->K v h'):ah P f args h H K:=
 ⟨M,R,c.mono (fun v h' r=>⟨f1 v h' r,r⟩),hm,fun v h' _ r=>k v h' r⟩
theorem fX {P:Program} {f:FuncId} {args:Array Value} {h:ab} {H:List Nat} {K:Value->ab->Prop} {v0:Value} (c:ae P f args h fun v h'=>v=v0/\h'=h) (k:K v0 h):ah P f args h H K:=
 aj [] c (by simp) (fun _ _ r=>Fr.of_eq r.2) fun v h' r=>by grind
structure Lx (h:ab) (b:Nat) (s:ByteArray) (i:Nat):Prop where
 c0:ac h b 0=some (.string s)
 c1:ac h b 1=some (.int .i64 (i:Int))
 fr:ar h b 1=true
structure Mv (b:Nat) (h h':ab) (j:Nat):Prop where
 lt:b<h.size
 fr:Fr [b] h h'
 at_:h'[b]? =(am h b 1 (.int .i64 (j:Int)))[b]?
theorem Lx.lt {h:ab} {b:Nat} {s:ByteArray} {i:Nat} (L:Lx h b s i):b<h.size:=bu L.c0
theorem lO {h:ab} {b o:Nat} {v:Value} (hc:ac h b o=some v):∃c e f,h[b]? =some (.cells c e f)/\c[o]? =some v:=by
 grind [ac]
theorem zQ {c:Array Value} {o:Nat} {v:Value} (h:c[o]? =some v):c.setIfInBounds o v=c:=by
 grind
theorem Mv.refl {h:ab} {b:Nat} {s:ByteArray} {i:Nat} (L:Lx h b s i):Mv b h h i:=by
 refine⟨L.lt,Fr.refl _ _,?_⟩
 obtain⟨c,e,f,h1,h2⟩:=lO L.c1
 rw[bW h1,zQ h2,h1]
theorem Mv.to {h:ab} {b:Nat} {s:ByteArray} {i:Nat} (L:Lx h b s i) (j:Nat):Mv b h (am h b 1 (.int .i64 (j:Int))) j:=⟨L.lt,Fr.hset h b 1 _,rfl⟩
theorem Mv.trans {b:Nat} {h h1 h2:ab} {i j:Nat} (a:Mv b h h1 i) (k:Mv b h1 h2 j):Mv b h h2 j:=by
 refine⟨a.lt,a.fr.trans k.fr,?_⟩
 rw[k.at_]
 have e:=a.at_
 cases q:h[b]? with
 | none=>simp_all
 | some x=>
  cases x with
  | cells c t f=>
   rw[bW q]at e
   rw[bW e,bW q]
   simp
  | _=>
   grind [am]
theorem Mv.ext {b:Nat} {h h1 h2:ab} {i:Nat} {N:List Nat} (a:Mv b h h1 i) (f:Fr N h1 h2) (hn:∀x∈N,h.size<=x):Mv b h h2 i:=by
 have hb:b∉N:=fun q=>by have:=hn b q;have:=a.lt;omega
 exact⟨a.lt,a.fr.comp f (fun x q=>.inr (hn x q)),(f.blk b (Nat.lt_of_lt_of_le a.lt a.fr.size) hb).trans a.at_⟩
theorem Mv.push {b:Nat} {h h1:ab} {i:Nat} (a:Mv b h h1 i) (x:Obj):Mv b h (h1.push x) i:=a.ext (Fr.push h1 x) (by simp)
theorem Mv.hsetn {b:Nat} {h h1:ab} {i p o:Nat} {v:Value} (a:Mv b h h1 i) (hp:h.size<=p):Mv b h (am h1 p o v) i:=a.ext (Fr.hset h1 p o v) (by simpa using hp)
theorem Lx.mv {h h':ab} {b:Nat} {s:ByteArray} {i j:Nat} (L:Lx h b s i) (m:Mv b h h' j):Lx h' b s j:=by
 obtain⟨c,e,f,h1,h2⟩:=lO L.c1
 have e1:=m.at_
 rw[bW h1]at e1
 have h0:=L.c0
 rw[bm h1]at h0
 have hlt:=(Array.getElem?_eq_some_iff.1 h2).1
 refine⟨?_,?_,?_⟩
 ·rw[bm e1,Array.getElem?_setIfInBounds_ne (by decide)];exact h0
 ·rw[bm e1,Array.getElem?_setIfInBounds_self_of_lt hlt]
 ·have hf:=L.fr
  grind [ar]
theorem Lx.cell {h:ab} {b:Nat} {s:ByteArray} {i:Nat} (L:Lx h b s i):∃u,ac h b (0+1)=some u:=⟨_,L.c1⟩
theorem Sy.mv {h0 h h':ab} {M:List Nat} {cs:List Ck} {b j:Nat} {ty:TypeId} {cells:List Value} (Y:Sy h0 M h cs) (k:Nat) (hk:cs[k]? =some (Ck.ob b ty cells)) (m:Mv b h h' j):
  Sy h0 M h' (cs.set k (Ck.ob b ty (cells.set 1 (.int .i64 (j:Int))))):=
 Y.mut hk _ m.fr.size (fun d hd hn=>m.fr.blk d hd (by simpa[Ck.ob]using hn)) (by
  have:=m.at_
  rw[bW (Y.ok hk)]at this
  simpa[Ck.ob]using this) (fun d hd=>.inl hd) (fun d hd=>by simp[Ck.ob]at hd)
theorem Sy.lx {h0 h:ab} {M:List Nat} {cs:List Ck} {b:Nat} {ty:TypeId} {s:ByteArray} {i:Nat} {cells:List Value} (Y:Sy h0 M h cs) (k:Nat) (hk:cs[k]? =some (Ck.ob b ty (.string s:: .int .i64 (i:Int)::cells))):Lx h b s i:=
 ⟨Y.cellO k hk 0 rfl,Y.cellO k hk 1 rfl,Y.freeO k hk 1⟩
def Ent (l:List (Value × Value)):Array MapEntry:=(l.mapIdx fun i p=>⟨p.1,p.2,i⟩).toArray
theorem fL (l:List (Value × Value)) (j:Nat):(Ent l)[j]? =(l[j]?).map fun p=>⟨p.1,p.2,j⟩:=by simp[Ent]
theorem fN {l:List (Value × Value)} {e:MapEntry} (h:e∈(Ent l).toList):∃j p,l[j]? =some p/\e=⟨p.1,p.2,j⟩:=by
 grind [Ent]
theorem th (l:List (Value × Value)) (k v:Value):(Ent l).push ⟨k,v,l.length⟩=Ent (l++[(k,v)]):=by
 grind [Ent]
theorem Dj {a:Array MapEntry} {l:List (Value × Value)} (h:∀j,a[j]? =(l[j]?).map fun p=>(⟨p.1,p.2,j⟩:MapEntry)):a=Ent l:=by
 apply Array.ext_getElem?
 intro j
 rw[h,fL]
def Ck.mp (m:Nat) (l:List (Value × Value)):Ck:=
 ⟨[m],[],fun h=>cy h m=some (Ent l,l.length),fun h o=>⟨by
  intro b hb
  simp only[List.mem_singleton]at hb
  subst hb
  exact(Array.getElem?_eq_some_iff.1 (bS o)).1,by simp⟩,fun h h' he _ o=>by
  grind [bS,lr]⟩
section
variable {h0 h:ab} {M:List Nat} {cs:List Ck} {m:Nat} {l:List (Value × Value)}
theorem Sy.mapM (Y:Sy h0 M h cs) (k:Nat) (hk:cs[k]? =some (Ck.mp m l)):cy h m=some (Ent l,l.length):=Y.ok hk
theorem lQ {h:ab} {m:Nat} (hm:m<h.size) (es:Array MapEntry) (c:Nat):cy (cz h m es c) m=some (es,c):=by
 apply lr
 simp[cz,hm]
theorem Sy.putM (Y:Sy h0 M h cs) (k:Nat) (hk:cs[k]? =some (Ck.mp m l)) (l':List (Value × Value)) {es:Array MapEntry} {c:Nat} (he:es=Ent l') (hc:c=l'.length):Sy h0 M (cz h m es c) (cs.set k (Ck.mp m l')):=by
 subst he;subst hc
 have hm:m<h.size:=(Array.getElem?_eq_some_iff.1 (bS (Y.mapM k hk))).1
 exact Y.mut hk _ (by simp) (fun d hd hn=>(nj h m _ _).blk d hd (by simpa[Ck.mp]using hn)) (lQ hm _ _) (fun d hd=>.inl hd) (fun d hd=>by simp[Ck.mp]at hd)
theorem Sy.newM (Y:Sy h0 M h cs):Sy h0 M (h.push (.map #[] 0)) (cs++[Ck.mp h.size []]):=
 Y.add (Fr.push h _) _ (by
  apply lr
  simp[Ent]) (by simp[Ck.mp]) (by simp[Ck.mp])
end
end Go.X
namespace Go.Proofs.YtemclecmafjjfaaGreatDoor.G
abbrev F :=Nat × Nat
inductive Er (α:Type) where
 | ok (a:α)
 | no (f:F)
 | un
def Er.bind {α β:Type} (x:Er α) (k:α->Er β):Er β:=
 match x with
 | .ok a=>k a
 | .no f=>.no f
 | .un=>.un
def az {α:Type} (b:Bool) (f:F) (k:Er α):Er α:=
 match b with
 | true=>k
 | false=>.no f
def bt (s:ByteArray) (i:Nat):Nat:=
 match s[i]? with
 | some c=>c.toNat
 | none=>256
def gN (c:Nat):Bool:=decide (97<=c/\c<=122\/65<=c/\c<=90)
def cT (c:Nat):Bool:=decide (48<=c/\c<=57)
def lT (c:Nat):Bool:=decide (c=32\/c=9\/c=10\/c=13)
def fY (c:Nat):Bool:=decide (32<=c/\c<=126)
def cN (c:Nat):Bool:=gN c||cT c||decide (c=95)
def bz (c:Nat):Bool:=gN c||cT c||decide (c=43\/c=45\/c=46)
def run (p:Nat->Bool) (s:ByteArray) (i:Nat):Nat:=
 if i<s.size/\p (bt s i)=true then run p s (i+1)else i
termination_by s.size-i
theorem ru (p:Nat->Bool) (s:ByteArray) (i:Nat):i<=run p s i:=by
 have gen:∀n i,s.size-i=n->i<=run p s i:=by
  intro n
  induction n with
  | zero=>intro i hi;rw[run,if_neg (by omega)];omega
  | succ n ih=>
   intro i hi
   rw[run]
   grind
 grind
def skp (s:ByteArray) (i:Nat):Nat:=
 if i<s.size then
  if lT (bt s i)=true then skp s (i+1)
  else if bt s i=35 then skp s (run (fun c=>decide (c≠10)) s (i+1))
  else i
 else i
termination_by s.size-i
decreasing_by
 ·omega
 grind [ru]
def amp :List UInt8:=[38,97,109,112,59]
def vz :List UInt8:=[38,113,117,111,116,59]
def ltB :List UInt8:=[38,108,116,59]
def gtB :List UInt8:=[38,103,116,59]
def GU :List UInt8:=[38,97,112,111,115,59]
def ij (s:ByteArray):Nat->Nat->Nat->Nat × Nat
 | 0,n,i=>(n,i)
 | k+1,n,i=>if cT (bt s i)=true then ij s k (10*n+(bt s i-48)) (i+1)else(n,i)
def preB (s:ByteArray) (i:Nat) (l:List UInt8):Bool:=decide ((s.extract i (i+l.length)).data.toList=l)
def mkB (l:List UInt8):ByteArray:=⟨l.toArray⟩
def part (s:ByteArray) (i:Nat):Option (Nat × Nat):=
 if preB s i amp=true then some (38,5)
 else if preB s i vz=true then some (34,6)
 else if preB s i ltB=true then some (60,4)
 else if preB s i gtB=true then some (62,4)
 else if preB s i GU=true then some (39,6)
 else if preB s i [38,35]=false then none
 else match ij s 3 0 (i+2)with
  | (n,k)=>if k=i+2\/bt s k≠59\/fY n=false then none else some (n,k+1-i)
def str (s:ByteArray) (fr:Nat) (i:Nat) (out:List UInt8):Er (List UInt8 × Nat):=
 if i<s.size then
  if bt s i=34 then .ok (out,i+1)
  else if bt s i=38 then
   match part s i with
   | some (c,n)=>str s fr (i+(n-1)+1) (out++[UInt8.ofNat c])
   | none=>.no (i,15)
  else if fY (bt s i)=true\/lT (bt s i)=true then str s fr (i+1) (out++[UInt8.ofNat (bt s i)])
  else .no (i,15)
 else .no (fr,15)
termination_by s.size-i
structure Tok where
 kind:Nat
 at_:Nat
 says:ByteArray
 num:Nat
def noB :ByteArray:=ByteArray.empty
def Tok.l (t:Tok):List UInt8:=t.says.data.toList
def next (s:ByteArray) (i:Nat):Er (Tok × Nat):=
 let p:=skp s i
 let c:=bt s p
 if p>=s.size then .ok (⟨0,p,noB,0⟩,p)
 else if c=91 then .ok (⟨1,p,noB,0⟩,p+1)
 else if c=93 then .ok (⟨2,p,noB,0⟩,p+1)
 else if c=34 then(str s p (p+1) []).bind fun(l,j)=>.ok (⟨5,p,mkB l,0⟩,j)
 else if gN c=true then let j:=run cN s p;.ok (⟨3,p,s.extract p j,0⟩,j)
 else if cT c=true\/c=43\/c=45\/c=46 then let j:=run bz s p;.ok (⟨4,p,s.extract p j,0⟩,j)
 else .no (p,15)
def vA :List UInt8:=[78,97,78]
def vB :List UInt8:=[73,78,70]
def bw (rd:ByteArray->Option (Nat × Nat)) (t:Tok):Er Tok:=
 if t.kind=0\/t.kind=2 then .no (t.at_,15)
 else if t.kind=3 then
  if t.l=vA\/t.l=vB then
   match rd t.says with
   | some (x,_)=>.ok {t with kind:=4,num:=x}
   | none=>.un
  else .no (t.at_,16)
 else if t.kind=4 then
  match rd t.says with
  | some (x,0)=>.ok {t with num:=x}
  | some (_,e+1)=>.no (t.at_,e+1)
  | none=>.un
 else .ok t
def gW (l:List UInt8):Nat:=l.foldl (fun n c=>10*n+(c.toNat-48)) 0
def jb (ng:Bool) (l:List UInt8):Option Int:=
 if l=[]\/10<l.length\/(l.head? =some 48/\(1<l.length\/ng=true))\/l.all (fun c=>cT c.toNat)=false\/gW l>2147483648 then none
 else some (if ng=true then-(gW l:Int)else(gW l:Int))
def whole (l:List UInt8):Option Int:=
 match l with
 | 45::r=>jb true r
 | l=>jb false l
structure Rd where
 i:Nat
 n:Nat
 dir:Bool
 graph:Bool
 ids:List (Int × Nat)
 labels:List ByteArray
 spots:List (Nat × Nat)
 weights:List Nat
 h0:Bool
 h1:Bool
 h2:Bool
 ends:List Tok
inductive Lv where
 | over
 | top
 | graph (d:Bool)
 | node (v:Nat) (id lab gr:Bool)
 | spot (v:Nat) (x y:Bool)
 | edge (k:Nat) (so ta we:Bool)
inductive Tk where
 | none
 | list (l:Lv)
 | dir
 | id (v:Nat)
 | label (v:Nat)
 | spot (v:Nat) (y:Bool)
 | fin (k:Nat)
 | weight (k:Nat)
def fZ :List UInt8:=[103,114,97,112,104]
def cw :List UInt8:=[100,105,114,101,99,116,101,100]
def gf :List UInt8:=[110,111,100,101]
def eJ :List UInt8:=[101,100,103,101]
def kId :List UInt8:=[105,100]
def dq :List UInt8:=[108,97,98,101,108]
def ba :List UInt8:=[103,114,97,112,104,105,99,115]
def kX :List UInt8:=[120]
def kY :List UInt8:=[121]
def bf :List UInt8:=[115,111,117,114,99,101]
def bi :List UInt8:=[116,97,114,103,101,116]
def cd :List UInt8:=[119,101,105,103,104,116]
def key (l:Lv) (t:Tok) (r:Rd):Er (Tk × Lv × Rd):=
 match l with
 | .over=>.ok (.none,.over,r)
 | .top=>if t.l=fZ then az (!r.graph) (t.at_,18) (.ok (.list (.graph false),.top,{r with graph:=true}))else .ok (.none,.top,r)
 | .graph d=>
  if t.l=cw then az (!d) (t.at_,18) (.ok (.dir,.graph true,r))
  else if t.l=gf then az (decide (r.n<1024)) (t.at_,3) (.ok (.list (.node r.n false false false),.graph d,{r with n:=r.n+1,labels:=r.labels++[noB],spots:=r.spots++[(0,0)]}))
  else if t.l=eJ then az (decide (r.ends.length/2<3072)) (t.at_,3) (.ok (.list (.edge r.ends.length false false false),.graph d,{r with ends:=r.ends++[⟨0,0,noB,0⟩,⟨0,0,noB,0⟩],weights:=r.weights++[4607182418800017408]}))
  else .ok (.none,.graph d,r)
 | .node v a b c=>
  if t.l=kId then az (!a) (t.at_,18) (.ok (.id v,.node v true b c,r))
  else if t.l=dq then az (!b) (t.at_,18) (.ok (.label v,.node v a true c,r))
  else if t.l=ba then az (!c) (t.at_,18) (.ok (.list (.spot v false false),.node v a b true,r))
  else .ok (.none,.node v a b c,r)
 | .spot v a b=>
  if t.l=kX then az (!a) (t.at_,18) (.ok (.spot v false,.spot v true b,r))
  else if t.l=kY then az (!b) (t.at_,18) (.ok (.spot v true,.spot v a true,r))
  else .ok (.none,.spot v a b,r)
 | .edge k a b c=>
  if t.l=bf then az (!a) (t.at_,18) (.ok (.fin k,.edge k true b c,r))
  else if t.l=bi then az (!b) (t.at_,18) (.ok (.fin (k+1),.edge k a true c,r))
  else if t.l=cd then az (!c) (t.at_,18) (.ok (.weight k,.edge k a b true,r))
  else .ok (.none,.edge k a b c,r)
def Tk.kind :Tk->Nat
 | .none=>0
 | .list _=>1
 | .label _=>5
 | _=>4
def bX (cl:Nat->Nat) (x:Tk) (v:Tok) (r:Rd):Er Rd:=
 match x with
 | .dir=>az (decide (v.l=[48]\/v.l=[49])) (v.at_,17) (.ok {r with dir:=decide (v.l=[49])})
 | .id k=>match whole v.l with
  | some n=>az (!r.ids.any fun p=>p.1==n) (v.at_,18) (.ok {r with ids:=r.ids++[(n,k)]})
  | none=>.no (v.at_,17)
 | .label k=>az (decide (v.says.size<=256)) (v.at_,23) (az (v.l.all fun c=>fY c.toNat) (v.at_,25) (.ok {r with labels:=r.labels.set k v.says,h0:=true}))
 | .spot k y=>.ok {r with spots:=r.spots.modify k fun p=>if y=true then(p.1,cl v.num)else(cl v.num,p.2),h1:=true}
 | .fin k=>match whole v.l with
  | some _=>.ok {r with ends:=r.ends.set k v}
  | none=>.no (v.at_,17)
 | .weight k=>.ok {r with weights:=r.weights.set (k/2) (cl v.num),h2:=true}
 | _=>.ok r
def behind (l:Lv) (at_:Nat) (r:Rd):Er Rd:=
 match l with
 | .node _ a _ _=>az a (at_,14) (.ok r)
 | .edge _ a b _=>az (a&&b) (at_,14) (.ok r)
 | _=>.ok r
def bQ :Lv->Bool
 | .top=>true
 | _=>false
def value (s:ByteArray) (rd:ByteArray->Option (Nat × Nat)) (cl:Nat->Nat) (L:Lv->Nat->Rd->Er (Nat × Lv × Rd)) (x:Tk) (d:Nat) (r:Rd):Er Rd:=
 (next s r.i).bind fun(v0,i)=>(bw rd v0).bind fun v=>
  az (decide (v.kind=1->d<16)) (v.at_,3) <| az (decide (x.kind=0\/x.kind=v.kind)) (v.at_,22) <|
   if v.kind=1 then
    match x with
    | .list l=>(L l (d+1) {r with i:=i}).bind fun(e,l',r2)=>behind l' e r2
    | _=>(L .over (d+1) {r with i:=i}).bind fun(_,_,r2)=>.ok r2
   else bX cl x v {r with i:=i}
def list (s:ByteArray) (rd:ByteArray->Option (Nat × Nat)) (cl:Nat->Nat):Nat->Lv->Nat->Rd->Er (Nat × Lv × Rd)
 | 0,_,_,_=>.un
 | n+1,l,d,r=>
  (next s r.i).bind fun(t,i)=>
   if(bQ l=true/\t.kind=0)\/(bQ l=false/\t.kind=2)then .ok (t.at_,l,{r with i:=i})
   else az (decide (t.kind=3)) (t.at_,15) <|
    (key l t {r with i:=i}).bind fun(x,l',r1)=>
     (value s rd cl (list s rd cl n) x d r1).bind fun r2=>list s rd cl n l' d r2
def find (ids:List (Int × Nat)) (n:Int):Option Nat:=(ids.find? fun p=>p.1==n).map (·.2)
def ik (ids:List (Int × Nat)) (t:Tok):Er Nat:=
 match whole t.l with
 | some n=>match find ids n with
  | some v=>.ok v
  | none=>.no (t.at_,14)
 | none=>.no (t.at_,17)
def edges (ids:List (Int × Nat)):List Tok->Er (List (Nat × Nat))
 | a::b::r=>(ik ids a).bind fun x=>(ik ids b).bind fun y=>(edges ids r).bind fun l=>.ok ((x,y)::l)
 | _=>.ok []
structure Dc where
 n:Nat
 dir:Bool
 edges:List (Nat × Nat)
 labels:List ByteArray
 spots:List (Nat × Nat)
 weights:List Nat
def start :Rd:=⟨0,0,false,false,[],[],[],[],false,false,false,[]⟩
def read (rd:ByteArray->Option (Nat × Nat)) (cl:Nat->Nat) (s:ByteArray):Er Dc:=
 az (decide (s.size<=262144)) (0,23) <| (list s rd cl (s.size+1) .top 0 start).bind fun(e,_,r)=>
  az r.graph (e,14) <| (edges r.ids r.ends).bind fun es=>
   .ok ⟨r.n,r.dir,es,if r.h0=true then r.labels else [],if r.h1=true then r.spots else [],if r.h2=true then r.weights else []⟩
theorem vr (s:ByteArray) (i:Nat):bt s i=(match s.data.toList[i]? with
  | some c=>c.toNat
  | none=>256):=by
 unfold bt
 by_cases h:i<s.size
 ·have h2:i<s.data.toList.length:=h
  rw[List.getElem?_eq_getElem h2,getElem?_pos s i h]
  rfl
 simp_all
theorem fW {α:Type} {b:Bool} {f:F} {k:Er α} (h:b=true):az b f k=k:=by rw[h];rfl
theorem nG {r:Rd} {t:Tok} {d:Bool} (h:t.l=gf) (hn:r.n<1024):key (.graph d) t r= .ok (.list (.node r.n false false false),.graph d,{r with n:=r.n+1,labels:=r.labels++[noB],spots:=r.spots++[(0,0)]}):=by
 simp only[key,h]
 rw[if_neg (by decide),if_pos trivial,fW (decide_eq_true hn)]
theorem td {r:Rd} {t:Tok} {d:Bool} (h:t.l=eJ) (hn:r.ends.length/2<3072):key (.graph d) t r= .ok (.list (.edge r.ends.length false false false),.graph d,{r with ends:=r.ends++[⟨0,0,noB,0⟩,⟨0,0,noB,0⟩],weights:=r.weights++[4607182418800017408]}):=by
 simp only[key,h]
 rw[if_neg (by decide),if_neg (by decide),if_pos trivial,fW (decide_eq_true hn)]
def At (s:ByteArray) (i:Nat) (l:List UInt8):Prop:=i<=s.size/\s.data.toList.drop i=l
theorem ja (s:ByteArray):s.size=s.data.toList.length:=rfl
theorem At.start (s:ByteArray):At s 0 s.data.toList:=⟨Nat.zero_le _,rfl⟩
theorem At.nil {s:ByteArray} {i:Nat} (a:At s i []):i=s.size:=by
 obtain⟨h,e⟩:=a
 have:=congrArg List.length e
 grind [ja]
theorem At.len {s:ByteArray} {i:Nat} {l:List UInt8} (a:At s i l):s.size-i=l.length:=by
 obtain⟨h,e⟩:=a
 grind [ja]
theorem At.cons {s:ByteArray} {i:Nat} {c:UInt8} {l:List UInt8} (a:At s i (c::l)):i<s.size/\bt s i=c.toNat/\At s (i+1) l:=by
 have hl:=a.len
 obtain⟨h,e⟩:=a
 rw[List.length_cons]at hl
 refine⟨by omega,?_,by omega,?_⟩
 ·have:s.data.toList[i]? =some c:=by
   have:=congrArg (fun l=>l[0]?) e
   grind
  rw[vr,this]
 ·rw[<-List.drop_drop,e];rfl
theorem At.app {s:ByteArray} {i:Nat} {w l:List UInt8} (a:At s i (w++l)):At s (i+w.length) l:=by
 have hl:=a.len
 obtain⟨h,e⟩:=a
 rw[List.length_append]at hl
 refine⟨by omega,?_⟩
 grind [List.drop_drop,List.drop_left]
theorem At.ext {s:ByteArray} {i:Nat} {w l:List UInt8} (a:At s i (w++l)):(s.extract i (i+w.length)).data.toList=w:=by
 obtain⟨h,e⟩:=a
 simp_all
def fF (p:Nat->Bool) (l:List UInt8):Prop:=∀c r,l=c::r->p c.toNat=false
theorem fF.nil (p:Nat->Bool):fF p []:=fun c r h=>by cases h
theorem fF.cons {p:Nat->Bool} {c:UInt8} {r:List UInt8} (h:p c.toNat=false):fF p (c::r):=fun c' r' e=>by grind
theorem rn {p:Nat->Bool} {s:ByteArray}:∀{w l:List UInt8} {i:Nat},At s i (w++l)->(∀c∈w,p c.toNat=true)->fF p l->run p s i=i+w.length
 | [],l,i,a,_,hs=>by
  rw[run]
  cases l with
  | nil=>rw[if_neg (by have:=a.nil;omega)];rfl
  | cons c r=>
   obtain⟨h1,h2,h3⟩:=At.cons a
   rw[if_neg (by rw[h2,hs c r rfl];simp)];rfl
 | c::w,l,i,a,hw,hs=>by
  obtain⟨h1,h2,h3⟩:=At.cons (l:=w++l) a
  rw[run,if_pos ⟨h1,by grind⟩,rn h3 (fun c hc=>hw c (by simp[hc])) hs,List.length_cons]
  omega
inductive Bl :List UInt8->Prop where
 | nil:Bl []
 | blank {c:UInt8} {w:List UInt8}:lT c.toNat=true->Bl w->Bl (c::w)
 | note {n w:List UInt8}:(∀c∈n,c≠10)->Bl w->Bl (35::(n++10::w))
theorem Bl.app {a b:List UInt8} (h:Bl a) (k:Bl b):Bl (a++b):=by
 induction h with
 | nil=>exact k
 | blank h _ ih=>exact .blank h ih
 | note h _ ih=>rw[List.cons_append,List.append_assoc];exact .note h ih
def Tb (c:Nat):Bool:= !(lT c||decide (c=35))
theorem lN {s:ByteArray} {w l:List UInt8} (hw:Bl w):∀{i:Nat},At s i (w++l)->fF (fun c=> !Tb c) l->skp s i=i+w.length:=by
 induction hw with
 | nil=>
  intro i a hs
  rw[skp]
  cases l with
  | nil=>rw[if_neg (by have:=a.nil;omega)];rfl
  | cons c r=>
   obtain⟨h1,h2,h3⟩:=At.cons a
   have:=hs c r rfl
   simp only[Tb,Bool.not_not,Bool.or_eq_false_iff,decide_eq_false_iff_not]at this
   grind
 | @blank c w hc _ ih=>
  intro i a hs
  obtain⟨h1,h2,h3⟩:=At.cons (l:=w++l) a
  rw[skp,if_pos h1,h2,if_pos hc,ih h3 hs,List.length_cons];omega
 | @note n w hn _ ih=>
  intro i a hs
  rw[List.cons_append,List.append_assoc,List.cons_append]at a
  obtain⟨h1,h2,h3⟩:=At.cons a
  have hrun:=rn (p:=fun c=>decide (c≠10)) h3 (fun c hc=>by
   have:=hn c hc
   simp only[decide_eq_true_eq]
   intro e;exact this (UInt8.toNat_inj.1 e)) (fF.cons rfl)
  have h4:=At.app h3
  obtain⟨q1,q2,q3⟩:=At.cons h4
  rw[skp,if_pos h1,h2,if_neg (by decide),if_pos (by decide),hrun,skp,if_pos q1,q2,if_pos (by decide),ih q3 hs]
  grind
theorem Gf {c:Nat} (h:c≠32/\c≠9/\c≠10/\c≠13/\c≠35):(!Tb c)=false:=by
 simp[Tb,lT];omega
theorem zK {s:ByteArray} {i:Nat} {w:List UInt8} (hw:Bl w) (a:At s i w):next s i= .ok (⟨0,s.size,noB,0⟩,s.size):=by
 have a':At s i (w++[]):=by grind
 have e:=lN hw a' (fF.nil _)
 have:=(At.app a').nil
 unfold next
 grind
theorem jE {s:ByteArray} {i:Nat} {w l:List UInt8} (hw:Bl w) (a:At s i (w++91::l)):next s i= .ok (⟨1,i+w.length,noB,0⟩,i+w.length+1)/\At s (i+w.length+1) l:=by
 have e:=lN hw a (fF.cons (by decide))
 obtain⟨h1,h2,h3⟩:=(At.app a).cons
 refine⟨?_,h3⟩
 unfold next
 grind
theorem nH {s:ByteArray} {i:Nat} {w l:List UInt8} (hw:Bl w) (a:At s i (w++93::l)):next s i= .ok (⟨2,i+w.length,noB,0⟩,i+w.length+1)/\At s (i+w.length+1) l:=by
 have e:=lN hw a (fF.cons (by decide))
 obtain⟨h1,h2,h3⟩:=(At.app a).cons
 refine⟨?_,h3⟩
 unfold next
 grind
structure Wd (k:List UInt8) (l:List UInt8):Prop where
 hd:∃c r,k=c::r/\gN c.toNat=true
 all:∀c∈k,cN c.toNat=true
 st:fF cN l
structure Nm (k:List UInt8) (l:List UInt8):Prop where
 hd:∃c r,k=c::r/\(cT c.toNat=true\/c.toNat=43\/c.toNat=45\/c.toNat=46)
 all:∀c∈k,bz c.toNat=true
 st:fF bz l
theorem jF {s:ByteArray} {i:Nat} {w k l:List UInt8} (hw:Bl w) (hk:Wd k l) (a:At s i (w++(k++l))):
  ∃t,next s i= .ok (t,i+w.length+k.length)/\t.kind=3/\t.l=k/\At s (i+w.length+k.length) l:=by
 obtain⟨c,r,rfl,hc⟩:=hk.hd
 have hb:(97<=c.toNat/\c.toNat<=122)\/(65<=c.toNat/\c.toNat<=90):=by simpa[gN]using hc
 have e:=lN hw a (fF.cons (Gf (by omega)))
 have a2:=At.app a
 obtain⟨h1,h2,h3⟩:=At.cons (l:=r++l) a2
 have hr:=rn (p:=cN) a2 hk.all hk.st
 refine⟨⟨3,i+w.length,s.extract (i+w.length) (i+w.length+(c::r).length),0⟩,?_,rfl,At.ext a2,At.app a2⟩
 unfold next
 grind
theorem zL {s:ByteArray} {i:Nat} {w k l:List UInt8} (hw:Bl w) (hk:Nm k l) (a:At s i (w++(k++l))):
  ∃t,next s i= .ok (t,i+w.length+k.length)/\t.kind=4/\t.l=k/\At s (i+w.length+k.length) l:=by
 obtain⟨c,r,rfl,hc⟩:=hk.hd
 have hb:(48<=c.toNat/\c.toNat<=57)\/c.toNat=43\/c.toNat=45\/c.toNat=46:=by simpa[cT]using hc
 have e:=lN hw a (fF.cons (Gf (by omega)))
 have a2:=At.app a
 obtain⟨h1,h2,h3⟩:=At.cons (l:=r++l) a2
 have hr:=rn (p:=bz) a2 hk.all hk.st
 have hl:gN c.toNat=false:=by simp[gN];omega
 refine⟨⟨4,i+w.length,s.extract (i+w.length) (i+w.length+(c::r).length),0⟩,?_,rfl,At.ext a2,At.app a2⟩
 unfold next
 grind
def tf (c:UInt8):List UInt8:=if c=38 then amp else if c=34 then vz else [c]
def enc (l:List UInt8):List UInt8:=l.flatMap tf
theorem wX {s:ByteArray} {i:Nat} {w l:List UInt8} (a:At s i (w++l)):preB s i w=true:=by
 unfold preB;rw[At.ext a];simp
theorem zM {s:ByteArray} {i:Nat} {w k l:List UInt8} (a:At s i (w++l)) (hk:∀r,w++l≠k++r):preB s i k=false:=by
 unfold preB
 simp only[decide_eq_false_iff_not]
 obtain⟨h,e⟩:=a
 grind [ByteArray.data_extract,Array.toList_extract,List.take_append_drop]
theorem zN {s:ByteArray} {i:Nat} {l:List UInt8} (a:At s i (amp++l)):part s i=some (38,5):=by
 unfold part;rw[if_pos (wX a)]
theorem yu {s:ByteArray} {i:Nat} {l:List UInt8} (a:At s i (vz++l)):part s i=some (34,6):=by
 unfold part
 rw[if_neg (by grind [zM,vz,amp]),if_pos (wX a)]
theorem zO {s:ByteArray} {fr:Nat}:∀{x l:List UInt8} {i:Nat} {out:List UInt8},At s i (enc x++34::l)->(∀c∈x,fY c.toNat=true)->
  str s fr i out= .ok (out++x,i+(enc x).length+1)
 | [],l,i,out,a,_=>by
  obtain⟨h1,h2,h3⟩:=At.cons (c:=34) (l:=l) a
  rw[str,if_pos h1,h2,if_pos (by decide)]
  simp[enc]
 | c::x,l,i,out,a,hx=>by
  have hp:=hx c (by simp)
  have hp':32<=c.toNat/\c.toNat<=126:=by simpa[fY]using hp
  have ee:enc (c::x)=tf c++enc x:=rfl
  rw[ee,List.append_assoc]at a
  have a2:=At.app a
  have ih:=fun o=>zO (fr:=fr) (out:=o) a2 (fun c hc=>hx c (by simp[hc]))
  by_cases q1:c=38
  ·subst q1
   obtain⟨h1,h2,h3⟩:=At.cons (c:=38) (l:=[97,109,112,59]++(enc x++34::l)) a
   rw[str,if_pos h1,h2,if_neg (by decide),if_pos (by decide),zN a]
   simp only[]
   have e1:(tf 38).length=5:=rfl
   grind
  by_cases q2:c=34
  ·subst q2
   obtain⟨h1,h2,h3⟩:=At.cons (c:=38) (l:=[113,117,111,116,59]++(enc x++34::l)) a
   rw[str,if_pos h1,h2,if_neg (by decide),if_pos (by decide),yu a]
   simp only[]
   have e1:(tf 34).length=6:=rfl
   grind
  have e1:tf c=[c]:=by unfold tf;grind
  rw[e1]at a ih
  obtain⟨h1,h2,h3⟩:=At.cons (l:=enc x++34::l) a
  have n1:c.toNat≠34:=fun e=>q2 (UInt8.toNat_inj.1 e)
  have n2:c.toNat≠38:=fun e=>q1 (UInt8.toNat_inj.1 e)
  rw[str,if_pos h1,h2,if_neg n1,if_neg n2,if_pos (.inl hp),UInt8.ofNat_toNat]
  grind
theorem zP {s:ByteArray} {i:Nat} {w x l:List UInt8} (hw:Bl w) (hx:∀c∈x,fY c.toNat=true) (a:At s i (w++34::(enc x++34::l))):
  ∃t,next s i= .ok (t,i+w.length+1+(enc x).length+1)/\t.kind=5/\t.says=mkB x/\At s (i+w.length+1+(enc x).length+1) l:=by
 have e:=lN hw a (fF.cons (by decide))
 obtain⟨h1,h2,h3⟩:=(At.app a).cons
 have h4:=(At.app h3).cons
 refine⟨⟨5,i+w.length,mkB x,0⟩,?_,rfl,rfl,h4.2.2⟩
 unfold next
 simp only[e,h2]
 rw[if_neg (by omega),if_neg (by decide),if_neg (by decide),if_pos (by decide),zO h3 hx]
 rfl
section
variable {s:ByteArray} {rd:ByteArray->Option (Nat × Nat)} {cl:Nat->Nat}
def Big (s:ByteArray) (rd:ByteArray->Option (Nat × Nat)) (cl:Nat->Nat) (l:Lv) (d:Nat) (r:Rd) (e:Nat × Lv × Rd):Prop:=∀n,s.size-r.i<n->list s rd cl n l d r= .ok e
theorem wY {l:Lv} {d:Nat} {r:Rd} {w rest:List UInt8} (ht:bQ l=false) (hw:Bl w) (a:At s r.i (w++93::rest)):
  Big s rd cl l d r (r.i+w.length,l,{r with i:=r.i+w.length+1})/\At s (r.i+w.length+1) rest:=by
 obtain⟨h1,h2⟩:=nH hw a
 refine⟨fun n hn=>?_,h2⟩
 cases n with
 | zero=>omega
 | succ n=>
  rw[list,h1]
  simp only[Er.bind,ht]
  grind
theorem wZ {d:Nat} {r:Rd} {w:List UInt8} (hw:Bl w) (a:At s r.i w):Big s rd cl .top d r (s.size,.top,{r with i:=s.size}):=by
 have h1:=zK hw a
 intro n hn
 cases n with
 | zero=>omega
 | succ n=>
  rw[list,h1]
  simp only[Er.bind,bQ]
  grind
theorem kA {l l':Lv} {d:Nat} {r r1 r2:Rd} {x:Tk} {w k rest:List UInt8} {e:Nat × Lv × Rd} (hw:Bl w) (hk:Wd k rest) (a:At s r.i (w++(k++rest)))
  (hkey:∀t,t.l=k->key l t {r with i:=r.i+w.length+k.length}= .ok (x,l',r1))
  (hval:∀n,s.size-(r.i+w.length+k.length)<n->value s rd cl (list s rd cl n) x d r1= .ok r2) (hi:r.i<r2.i) (hj:r2.i<=s.size) (hb:Big s rd cl l' d r2 e):Big s rd cl l d r e:=by
 obtain⟨t,h1,h2,h3,h4⟩:=jF hw hk a
 have hk1:0<k.length:=by obtain⟨c,q,rfl,_⟩:=hk.hd;simp
 have hsz:=h4.1
 intro n hn
 cases n with
 | zero=>omega
 | succ n=>
  rw[list,h1]
  simp only[Er.bind,h2]
  rw[if_neg (by omega)]
  simp only[az,decide_true,hkey t h3]
  rw[hval n (by omega)]
  exact hb n (by omega)
theorem yv {d:Nat} {x:Tk} {r:Rd} {w k rest:List UInt8} {v:Nat} (hw:Bl w) (hk:Nm k rest) (a:At s r.i (w++(k++rest))) (hx:x.kind=0\/x.kind=4) (hr:∀b:ByteArray,b.data.toList=k->rd b=some (v,0)):
  ∃t:Tok,t.l=k/\t.num=v/\t.kind=4/\∀L,value s rd cl L x d r=bX cl x t {r with i:=r.i+w.length+k.length}:=by
 obtain⟨t,h1,h2,h3,h4⟩:=zL hw hk a
 refine⟨{t with num:=v},h3,rfl,h2,fun L=>?_⟩
 unfold value
 rw[h1]
 simp only[Er.bind]
 have hv:bw rd t= .ok {t with num:=v}:=by
  unfold bw
  rw[if_neg (by omega),if_neg (by omega),if_pos h2,hr _ h3]
 rw[hv]
 simp only[h2]
 have e1:(decide ((4:Nat)=1->d<16))=true:=by simp
 have e2:decide (x.kind=0\/x.kind=4)=true:=by simpa using hx
 rw[e1,e2]
 simp only[az]
 grind
theorem nI {d:Nat} {x:Tk} {r:Rd} {w k rest:List UInt8} {v e:Nat} (hw:Bl w) (hk:Wd k rest) (hkk:k=vA\/k=vB) (a:At s r.i (w++(k++rest))) (hx:x.kind=0\/x.kind=4) (hr:∀b:ByteArray,b.data.toList=k->rd b=some (v,e)):
  ∃t:Tok,t.l=k/\t.num=v/\t.kind=4/\∀L,value s rd cl L x d r=bX cl x t {r with i:=r.i+w.length+k.length}:=by
 obtain⟨t,h1,h2,h3,h4⟩:=jF hw hk a
 refine⟨{t with kind:=4,num:=v},h3,rfl,rfl,fun L=>?_⟩
 unfold value
 rw[h1]
 simp only[Er.bind]
 have hv:bw rd t= .ok {t with kind:=4,num:=v}:=by
  unfold bw
  rw[if_neg (by omega),if_pos h2,if_pos (by grind),hr _ h3]
 rw[hv]
 simp only[]
 have e1:(decide ((4:Nat)=1->d<16))=true:=by simp
 have e2:decide (x.kind=0\/x.kind=4)=true:=by simpa using hx
 rw[e1,e2]
 simp only[az]
 grind
theorem yw {d:Nat} {x:Tk} {r:Rd} {w y rest:List UInt8} (hw:Bl w) (hy:∀c∈y,fY c.toNat=true) (a:At s r.i (w++34::(enc y++34::rest))) (hx:x.kind=0\/x.kind=5):
  ∃t:Tok,t.says=mkB y/\t.kind=5/\At s (r.i+w.length+1+(enc y).length+1) rest/\∀L,value s rd cl L x d r=bX cl x t {r with i:=r.i+w.length+1+(enc y).length+1}:=by
 obtain⟨t,h1,h2,h3,h4⟩:=zP hw hy a
 refine⟨t,h3,h2,h4,fun L=>?_⟩
 unfold value
 rw[h1]
 simp only[Er.bind]
 have hv:bw rd t= .ok t:=by
  unfold bw
  grind
 rw[hv]
 simp only[h2]
 have e1:(decide ((5:Nat)=1->d<16))=true:=by simp
 have e2:decide (x.kind=0\/x.kind=5)=true:=by simpa using hx
 rw[e1,e2]
 simp only[az]
 grind
theorem nK {d n:Nat} {l2 l3:Lv} {r r2 r3:Rd} {e:Nat} {w rest:List UInt8} (hw:Bl w) (a:At s r.i (w++91::rest)) (hd:d<16) (hn:s.size-(r.i+w.length+1)<n)
  (hb:Big s rd cl l2 (d+1) {r with i:=r.i+w.length+1} (e,l3,r2)) (he:behind l3 e r2= .ok r3):value s rd cl (list s rd cl n) (.list l2) d r= .ok r3:=by
 obtain⟨h1,h2⟩:=jE hw a
 unfold value
 rw[h1]
 simp only[Er.bind,bw]
 have e1:(decide ((1:Nat)=1->d<16))=true:=by simpa using hd
 rw[if_neg (by decide),if_neg (by decide),if_neg (by decide)]
 simp only[Tk.kind,az,or_true,decide_true,if_true]
 rw[hb n hn]
 grind
theorem vt {d n:Nat} {r r2:Rd} {e:Nat} {l3:Lv} {w rest:List UInt8} (hw:Bl w) (a:At s r.i (w++91::rest)) (hd:d<16) (hn:s.size-(r.i+w.length+1)<n)
  (hb:Big s rd cl .over (d+1) {r with i:=r.i+w.length+1} (e,l3,r2)):value s rd cl (list s rd cl n) .none d r= .ok r2:=by
 obtain⟨h1,h2⟩:=jE hw a
 unfold value
 rw[h1]
 simp only[Er.bind,bw]
 have e1:(decide ((1:Nat)=1->d<16))=true:=by simpa using hd
 rw[if_neg (by decide),if_neg (by decide),if_neg (by decide)]
 simp only[Tk.kind,az,true_or,decide_true,if_true]
 rw[hb n hn]
 simp[hd]
end
def dg (n:Nat):UInt8:=UInt8.ofNat (48+n % 10)
def dec (n:Nat):List UInt8:=if n<10 then [dg n]else dec (n/10)++[dg n]
termination_by n
theorem rp (n:Nat):(dg n).toNat=48+n % 10:=by
 grind [dg,UInt8.toNat_ofNat']
theorem kB (n:Nat):∀c∈dec n,cT c.toNat=true:=by
 induction n using Nat.strongRecOn<;>grind [dec,cT,dg,rp]
theorem tj (l:List UInt8) (c:UInt8):gW (l++[c])=10*gW l+(c.toNat-48):=by simp[gW]
theorem tm (n:Nat):gW (dec n)=n:=by
 induction n using Nat.strongRecOn<;>grind [dec,gW,rp,tj]
theorem vu (n:Nat):dec n≠[]:=by
 rw[dec];split
 ·simp
 ·simp
theorem tn (n:Nat) (h:0<n):(dec n).head? ≠some 48:=by
 induction n using Nat.strongRecOn with
 | _ n ih=>
  rw[dec]
  split
  ·simp only[List.head?_cons,ne_eq,Option.some.injEq]
   intro e
   have:=congrArg UInt8.toNat e
   grind [rp]
  grind [dec]
theorem rq (k:Nat):∀n,n<10^(k+1)->(dec n).length<=k+1:=by
 induction k with
 | zero=>
  intro n hn
  rw[dec,if_pos (by simpa using hn)];simp
 | succ k ih=>
  grind [dec]
theorem zR (n:Nat) (h:1<(dec n).length):0<n:=by
 cases n<;>grind [dec]
theorem nM (ng:Bool) (n:Nat) (h:n<=2147483648) (hz:ng=true->0<n):jb ng (dec n)=some (if ng=true then-(n:Int)else(n:Int)):=by
 unfold jb
 rw[if_neg,tm]
 rintro(q | q | ⟨q1,q2 | q2⟩ | q | q)
 ·exact vu n q
 ·have:=rq 9 n (by omega);omega
 ·exact tn n (zR n q2) q1
 ·exact tn n (hz q2) q1
 ·grind [kB]
 ·rw[tm]at q;omega
theorem ii (n:Nat) (h:n<=2147483648):whole (dec n)=some (n:Int):=by
 have h1:=nM false n h (by simp)
 simp only[Bool.false_eq_true,if_false]at h1
 unfold whole
 split
 ·rename_i r e
  have:=kB n 45 (by rw[e];simp)
  exact absurd this (by decide)
 ·exact h1
theorem yy (n:Nat) (h:n<=2147483648) (h0:0<n):whole (45::dec n)=some (-(n:Int)):=by
 grind [nM,whole]
structure IsNum (k:List UInt8):Prop where
 hd:∃c r,k=c::r/\(cT c.toNat=true\/c.toNat=43\/c.toNat=45\/c.toNat=46)
 all:∀c∈k,bz c.toNat=true
theorem qg {c:Nat} (h:cT c=true):bz c=true:=by simp[bz,h]
theorem yz (n:Nat):IsNum (dec n):=by
 have hall:=kB n
 refine⟨?_,fun c hc=>qg (hall c hc)⟩
 cases q:dec n<;>grind [dec,vu]
theorem yA (n:Nat):IsNum (45::dec n):=
 ⟨⟨45,dec n,rfl,.inr (.inr (.inl rfl))⟩,fun c hc=>by
  rcases List.mem_cons.1 hc with rfl | hc
  ·decide
  ·exact qg (kB n c hc)⟩
def iR (rd:ByteArray->Option (Nat × Nat)) (k:List UInt8) (v:Nat):Prop:=(IsNum k\/k=vA\/k=vB)/\∀b:ByteArray,b.data.toList=k->rd b=some (v,0)
def idt (x:Int):List UInt8:=if x<0 then 45::dec x.natAbs else dec x.natAbs
theorem yB {x:Int} (h:x.natAbs<=2147483648):whole (idt x)=some x:=by
 unfold idt
 split
 ·rw[yy _ h (by omega)];congr 1;omega
 ·rw[ii _ h];congr 1;omega
theorem Dk (x:Int):IsNum (idt x):=by
 grind [idt,yA,yz]
def Sep (l:List UInt8):Prop:=∃c r,l=c::r/\lT c.toNat=true
theorem Sep.app {l m:List UInt8} (h:Sep l):Sep (l++m):=by obtain⟨c,r,rfl,hc⟩:=h;exact⟨c,r++m,rfl,hc⟩
theorem nN {c:Nat} (h:lT c=true):c=32\/c=9\/c=10\/c=13:=by simpa[lT]using h
theorem Sep.word {l:List UInt8} (h:Sep l):fF cN l:=by
 obtain⟨c,r,rfl,hc⟩:=h
 grind [fF.cons,nN,cN,gN,cT]
theorem Sep.numb {l:List UInt8} (h:Sep l):fF bz l:=by
 obtain⟨c,r,rfl,hc⟩:=h
 grind [fF.cons,nN,bz,gN,cT]
theorem GS {l:List UInt8} (h:fF cN l):Wd vA l:=⟨⟨78,[97,78],rfl,rfl⟩,by decide,h⟩
theorem GT {l:List UInt8} (h:fF cN l):Wd vB l:=⟨⟨73,[78,70],rfl,rfl⟩,by decide,h⟩
theorem qh {s:ByteArray} {rd:ByteArray->Option (Nat × Nat)} {cl:Nat->Nat} {d:Nat} {x:Tk} {r:Rd} {w k rest:List UInt8} {v:Nat} (hw:Bl w) (hk:iR rd k v) (h1:fF bz rest) (h2:fF cN rest)
  (a:At s r.i (w++(k++rest))) (hx:x.kind=0\/x.kind=4):
  ∃t:Tok,t.l=k/\t.num=v/\t.kind=4/\∀L,value s rd cl L x d r=bX cl x t {r with i:=r.i+w.length+k.length}:=by
 obtain⟨hk,hr⟩:=hk
 rcases hk with hk | rfl | rfl
 ·exact yv hw ⟨hk.hd,hk.all,h1⟩ a hx hr
 ·exact nI hw (GS h2) (.inl rfl) a hx hr
 ·exact nI hw (GT h2) (.inr rfl) a hx hr
theorem xb (n:Nat):Lib.decDigits n=dec n:=by
 induction n using Nat.strongRecOn<;>grind [Lib.decDigits,dec,dg,Nat.mod_eq_of_lt]
theorem kC (n:Int):Lib.itoa n=idt n:=by
 unfold Lib.itoa idt
 rw[xb,xb]
 grind
def fd (a:Nat) (l:List UInt8):Nat:=l.foldl (fun n c=>10*n+(c.toNat-48)) a
theorem zS :∀(l:List UInt8) (a:Nat),a<=fd a l
 | [],a=>Nat.le_refl _
 | c::l,a=>by
  have:=zS l (10*a+(c.toNat-48))
  show a<=fd (10*a+(c.toNat-48)) l
  omega
theorem vC {M:Nat} (hM:2147483648<=M):∀(l:List UInt8) (a:Nat),(∀c∈l,cT c.toNat=true)->fd a l<=2147483648->Lib.parseUintM M a l= .ok (fd a l)
 | [],a,_,_=>rfl
 | c::l,a,h,hf=>by
  have hc:48<=c.toNat/\c.toNat<=57:=by simpa[cT]using h c (by simp)
  have e:fd a (c::l)=fd (10*a+(c.toNat-48)) l:=rfl
  rw[e]at hf ⊢
  have:=zS l (10*a+(c.toNat-48))
  rw[Lib.parseUintM,if_pos hc,if_neg (by omega),if_neg (by omega),show a*10+(c.toNat-48)=10*a+(c.toNat-48) by omega,vC hM l _ (fun c q=>h c (by simp[q])) hf]
theorem tp {l:List UInt8} (h:∀c∈l,cT c.toNat=true) (h0:l.head? ≠some 48) (hn:l≠[]):0<gW l:=by
 cases l with
 | nil=>grind
 | cons c r=>
  have hc:48<=c.toNat/\c.toNat<=57:=by simpa[cT]using h c (by simp)
  have h48:c.toNat≠48:=fun e=>h0 (by simp;exact UInt8.toNat_inj.1 e)
  have e:gW (c::r)=fd (10*0+(c.toNat-48)) r:=rfl
  grind [zS]
theorem tq :∀(n:Nat) (l:List UInt8),l.length=n->(∀c∈l,cT c.toNat=true)->l≠[]->(l.head? =some 48->l.length=1)->dec (gW l)=l:=by
 intro n
 induction n with
 | zero=>grind
 | succ n ih=>
  intro l hl hd hne h48
  obtain⟨m,c,rfl⟩:∃m c,l=m++[c]:=⟨l.dropLast,l.getLast hne,(List.dropLast_concat_getLast hne).symm⟩
  have hc:48<=c.toNat/\c.toNat<=57:=by simpa[cT]using hd c (by simp)
  have ed:∀k,k % 10=c.toNat-48->dg k=c:=fun k e=>by
   apply UInt8.toNat_inj.1
   rw[rp,e];omega
  rw[tj]
  by_cases hm:m=[]
  ·subst hm
   have:gW []=0:=rfl
   rw[this,dec,if_pos (by omega),ed _ (by omega)];rfl
  ·have hmh:m.head? ≠some 48:=fun e=>by
    grind
   have hdm:∀c∈m,cT c.toNat=true:=fun c q=>hd c (by simp[q])
   have hp:=tp hdm hmh hm
   rw[dec,if_neg (by omega),ed _ (by omega),show(10*gW m+(c.toNat-48))/10=gW m by omega,ih m (by simpa using hl) hdm hm (fun e=>absurd e hmh)]
theorem mD {ng:Bool} {l:List UInt8} {n:Int} (h:jb ng l=some n):l≠[]/\(l.head? =some 48->l.length=1/\ng=false)/\(∀c∈l,cT c.toNat=true)/\gW l<=2147483648/\n=if ng=true then-(gW l:Int)else(gW l:Int):=by
 unfold jb at h
 split at h
 ·cases h
 ·rename_i q
  simp only[not_or,not_and]at q
  obtain⟨q1,q2,q3,q4,q5⟩:=q
  refine⟨q1,fun e=>?_,List.all_eq_true.1 (by simpa using q4),by omega,(Option.some.inj h).symm⟩
  have:=q3 e
  have hl:0<l.length:=List.length_pos_iff.2 q1
  grind
theorem nQ {l:List UInt8} {n:Int} (h:whole l=some n):Lib.parseIntB 64 l= .ok n/\Lib.itoa n=l/\ -2147483648<=n/\n<=2147483648:=by
 unfold whole at h
 split at h
 ·rename_i r
  obtain⟨q1,q2,q3,q4,q5⟩:=mD h
  simp only[if_true]at q5
  have h0:r.head? ≠some 48:=fun e=>by grind
  have hp:=tp q3 h0 q1
  have hu:Lib.parseUintB 64 r= .ok (gW r):=by
   unfold Lib.parseUintB
   rw[if_neg q1]
   exact vC (by decide) r 0 q3 q4
  refine⟨?_,?_,by omega,by omega⟩
  ·unfold Lib.parseIntB
   grind
  ·rw[kC]
   unfold idt
   rw[if_pos (by omega),show n.natAbs=gW r by omega,tq _ r rfl q3 q1 fun e=>(q2 e).1]
 ·rename_i hne
  obtain⟨q1,q2,q3,q4,q5⟩:=mD h
  simp only[Bool.false_eq_true,if_false]at q5
  have hu:Lib.parseUintB 64 l= .ok (gW l):=by
   unfold Lib.parseUintB
   rw[if_neg q1]
   exact vC (by decide) l 0 q3 q4
  refine⟨?_,?_,by omega,by omega⟩
  ·cases l with
   | nil=>grind
   | cons c r=>
    have hc:48<=c.toNat/\c.toNat<=57:=by simpa[cT]using q3 c (by simp)
    unfold Lib.parseIntB
    grind
  ·rw[kC]
   unfold idt
   rw[if_neg (by omega),show n.natAbs=gW l by omega,tq _ l rfl q3 q1 fun e=>(q2 e).1]
theorem zT {l:List UInt8} {v:Int} (h:Lib.parseIntB 64 l= .ok v):whole l=if Lib.itoa v=l/\ -2147483648<=v/\v<=2147483648 then some v else none:=by
 split
 ·grind [kC,yB]
 ·rename_i q
  cases e:whole l with
  | none=>rfl
  | some n=>
   obtain⟨a,b,c,d⟩:=nQ e
   grind
theorem yC {l:List UInt8} (h:∀v,Lib.parseIntB 64 l≠ .ok v):whole l=none:=by
 cases e:whole l with
 | none=>rfl
 | some n=>exact absurd (nQ e).1 (h n)
end Go.Proofs.YtemclecmafjjfaaGreatDoor.G
namespace Go.Proofs.YtemclecmafjjfaaGreatDoor.N
open Go.Proofs.YtemclecmafjjfaaGreatDoor
open Go.X
open Go.RowKit (Below)
set_option maxRecDepth 100000
theorem jc {w w':World} (b:Below w.heap.size w w'):Fr [] w.heap w'.heap:=⟨b.size,fun k hk _=>b.block k hk⟩
theorem gh {w w':World} (b:Below w.heap.size w w'):Go.X.Rest w w':=⟨b.os,b.tape,b.output,b.size⟩
theorem sy0 {h h':ab} (f:Fr [] h h'):Sy h [] h' []:=⟨f,Hp.nil _,fun k c hk=>by simp at hk⟩
theorem gO {P:Program} {f:FuncId} {args:Array Value} {h:ab} {v:Value} {R:Value->ab->Prop} (c:∀w:World,Calls P f args w fun e w'=>e= .returned v/\w'=w) (r:R v h):ae P f args h R:=
 fun w hw=>(c w).mono fun e w' ⟨h1,h2⟩=>⟨v,h1,by rw[h2];exact Rest.refl w,by rw[h2,hw];exact r⟩
theorem fO {P:Program} {f:FuncId} {args:Array Value} {h:ab} {v:Value} {R:Value->ab->Prop} (c:∀w:World,w.heap=h->Calls P f args w fun e w'=>e= .returned v/\Below w.heap.size w w') (r:∀h',Fr [] h h'->R v h'):ae P f args h R:=
 fun w hw=>(c w hw).mono fun e w' ⟨h1,h2⟩=>⟨v,h1,gh h2,by subst hw;exact r _ (jc h2)⟩
theorem Jf {t:ByteArray} {c:Nat} (hc:c<256) {h:ab}:ae Tryz.prog 125 #[.string t,.int .u8 (c:Int)] h fun v h'=>v= .int .i64 (Lib.indexByte t.data.toList (UInt8.ofNat c))/\h'=h:=
 gO (fun w=>Go.Proofs.Tryz.strings_IndexByte t (c:Int) w) ⟨by rw[Int.toNat_natCast],rfl⟩
theorem Jg {t p:ByteArray} {h:ab}:ae Tryz.prog 59 #[.string t,.string p] h fun v h'=>v= .bool (Lib.hasPrefix t.data.toList p.data.toList)/\h'=h:=
 gO (fun w=>Go.Proofs.Tryz.strings_HasPrefix t p w) ⟨rfl,rfl⟩
end Go.Proofs.YtemclecmafjjfaaGreatDoor.N
