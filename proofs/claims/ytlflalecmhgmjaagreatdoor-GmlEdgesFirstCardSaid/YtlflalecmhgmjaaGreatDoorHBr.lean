/- What a reader of GML tells of a text, in plain Lean: tokens, lists by levels, the document. V: the value of a number's text. Conditions: none. -/
import Derived.Test.YtlflalecmhgmjaaGreatDoorYGl
import Derived.Lib.ParseIntB
import Derived.Lib.ItoaNum
import Derived.Test.YtlflalecmhgmjaaGreatDoorWEnv
import Derived.Test.YtlflalecmhgmjaaGreatDoorWShelf
set_option linter.unusedVariables false
set_option linter.unusedSimpArgs false
namespace Go.Proofs.YtlflalecmhgmjaaGreatDoor.G
abbrev F :=Nat × Nat
inductive Er (α:Type) where
 | ok (a:α)
 | no (f:F)
 | un
def Er.bind {α β:Type} (x:Er α) (k:α->Er β):Er β:=
 match x with
 | .ok a=>k a
 | .no f=>.no f
 | .un=>.un
def must {α:Type} (b:Bool) (f:F) (k:Er α):Er α:=
 match b with
 | true=>k
 | false=>.no f
def bt (s:ByteArray) (i:Nat):Nat:=
 match s[i]? with
 | some c=>c.toNat
 | none=>256
def lettr (c:Nat):Bool:=decide (97<=c/\c<=122\/65<=c/\c<=90)
def digt (c:Nat):Bool:=decide (48<=c/\c<=57)
def blnk (c:Nat):Bool:=decide (c=32\/c=9\/c=10\/c=13)
def prnt (c:Nat):Bool:=decide (32<=c/\c<=126)
def wordB (c:Nat):Bool:=lettr c||digt c||decide (c=95)
def numbB (c:Nat):Bool:=lettr c||digt c||decide (c=43\/c=45\/c=46)
def run (p:Nat->Bool) (s:ByteArray) (i:Nat):Nat:=
 if i<s.size/\p (bt s i)=true then run p s (i+1)else i
termination_by s.size-i
theorem run_ge (p:Nat->Bool) (s:ByteArray) (i:Nat):i<=run p s i:=by
 have gen:∀n i,s.size-i=n->i<=run p s i:=by
  intro n
  induction n with
  | zero=>intro i hi;rw[run,if_neg (by omega)];exact Nat.le_refl _
  | succ n ih=>
   intro i hi
   rw[run]
   split
   ·exact Nat.le_trans (Nat.le_succ _) (ih (i+1) (by omega))
   ·exact Nat.le_refl _
 exact gen _ i rfl
def skp (s:ByteArray) (i:Nat):Nat:=
 if i<s.size then
  if blnk (bt s i)=true then skp s (i+1)
  else if bt s i=35 then skp s (run (fun c=>decide (c≠10)) s (i+1))
  else i
 else i
termination_by s.size-i
decreasing_by
 ·omega
 ·have:=run_ge (fun c=>decide (c≠10)) s (i+1);omega
def amp :List UInt8:=[38,97,109,112,59]
def quot :List UInt8:=[38,113,117,111,116,59]
def ltB :List UInt8:=[38,108,116,59]
def gtB :List UInt8:=[38,103,116,59]
def apos :List UInt8:=[38,97,112,111,115,59]
def digs (s:ByteArray):Nat->Nat->Nat->Nat × Nat
 | 0,n,i=>(n,i)
 | k+1,n,i=>if digt (bt s i)=true then digs s k (10*n+(bt s i-48)) (i+1)else(n,i)
def preB (s:ByteArray) (i:Nat) (l:List UInt8):Bool:=decide ((s.extract i (i+l.length)).data.toList=l)
def mkB (l:List UInt8):ByteArray:=⟨l.toArray⟩
def part (s:ByteArray) (i:Nat):Option (Nat × Nat):=
 if preB s i amp=true then some (38,5)
 else if preB s i quot=true then some (34,6)
 else if preB s i ltB=true then some (60,4)
 else if preB s i gtB=true then some (62,4)
 else if preB s i apos=true then some (39,6)
 else if preB s i [38,35]=false then none
 else match digs s 3 0 (i+2)with
  | (n,k)=>if k=i+2\/bt s k≠59\/prnt n=false then none else some (n,k+1-i)
def str (s:ByteArray) (fr:Nat) (i:Nat) (out:List UInt8):Er (List UInt8 × Nat):=
 if i<s.size then
  if bt s i=34 then .ok (out,i+1)
  else if bt s i=38 then
   match part s i with
   | some (c,n)=>str s fr (i+(n-1)+1) (out++[UInt8.ofNat c])
   | none=>.no (i,15)
  else if prnt (bt s i)=true\/blnk (bt s i)=true then str s fr (i+1) (out++[UInt8.ofNat (bt s i)])
  else .no (i,15)
 else .no (fr,15)
termination_by s.size-i
structure Tok where
 kind:Nat
 at_:Nat
 says:ByteArray
 num:Nat
def noB :ByteArray:=ByteArray.empty
def Tok.l (t:Tok):List UInt8:=t.says.data.toList
def next (s:ByteArray) (i:Nat):Er (Tok × Nat):=
 let p:=skp s i
 let c:=bt s p
 if p>=s.size then .ok (⟨0,p,noB,0⟩,p)
 else if c=91 then .ok (⟨1,p,noB,0⟩,p+1)
 else if c=93 then .ok (⟨2,p,noB,0⟩,p+1)
 else if c=34 then(str s p (p+1) []).bind fun(l,j)=>.ok (⟨5,p,mkB l,0⟩,j)
 else if lettr c=true then let j:=run wordB s p;.ok (⟨3,p,s.extract p j,0⟩,j)
 else if digt c=true\/c=43\/c=45\/c=46 then let j:=run numbB s p;.ok (⟨4,p,s.extract p j,0⟩,j)
 else .no (p,15)
def kNaN :List UInt8:=[78,97,78]
def kINF :List UInt8:=[73,78,70]
def valued (rd:ByteArray->Option (Nat × Nat)) (t:Tok):Er Tok:=
 if t.kind=0\/t.kind=2 then .no (t.at_,15)
 else if t.kind=3 then
  if t.l=kNaN\/t.l=kINF then
   match rd t.says with
   | some (x,_)=>.ok {t with kind:=4,num:=x}
   | none=>.un
  else .no (t.at_,16)
 else if t.kind=4 then
  match rd t.says with
  | some (x,0)=>.ok {t with num:=x}
  | some (_,e+1)=>.no (t.at_,e+1)
  | none=>.un
 else .ok t
def dnum (l:List UInt8):Nat:=l.foldl (fun n c=>10*n+(c.toNat-48)) 0
def wholeD (ng:Bool) (l:List UInt8):Option Int:=
 if l=[]\/10<l.length\/(l.head? =some 48/\(1<l.length\/ng=true))\/l.all (fun c=>digt c.toNat)=false\/dnum l>2147483648 then none
 else some (if ng=true then-(dnum l:Int)else(dnum l:Int))
def whole (l:List UInt8):Option Int:=
 match l with
 | 45::r=>wholeD true r
 | l=>wholeD false l
structure Rd where
 i:Nat
 n:Nat
 dir:Bool
 graph:Bool
 ids:List (Int × Nat)
 labels:List ByteArray
 spots:List (Nat × Nat)
 weights:List Nat
 h0:Bool
 h1:Bool
 h2:Bool
 ends:List Tok
inductive Lv where
 | over
 | top
 | graph (d:Bool)
 | node (v:Nat) (id lab gr:Bool)
 | spot (v:Nat) (x y:Bool)
 | edge (k:Nat) (so ta we:Bool)
inductive Tk where
 | none
 | list (l:Lv)
 | dir
 | id (v:Nat)
 | label (v:Nat)
 | spot (v:Nat) (y:Bool)
 | fin (k:Nat)
 | weight (k:Nat)
def kGraph :List UInt8:=[103,114,97,112,104]
def kDirected :List UInt8:=[100,105,114,101,99,116,101,100]
def kNode :List UInt8:=[110,111,100,101]
def kEdge :List UInt8:=[101,100,103,101]
def kId :List UInt8:=[105,100]
def kLabel :List UInt8:=[108,97,98,101,108]
def kGraphics :List UInt8:=[103,114,97,112,104,105,99,115]
def kX :List UInt8:=[120]
def kY :List UInt8:=[121]
def kSource :List UInt8:=[115,111,117,114,99,101]
def kTarget :List UInt8:=[116,97,114,103,101,116]
def kWeight :List UInt8:=[119,101,105,103,104,116]
def key (l:Lv) (t:Tok) (r:Rd):Er (Tk × Lv × Rd):=
 match l with
 | .over=>.ok (.none,.over,r)
 | .top=>if t.l=kGraph then must (!r.graph) (t.at_,18) (.ok (.list (.graph false),.top,{r with graph:=true}))else .ok (.none,.top,r)
 | .graph d=>
  if t.l=kDirected then must (!d) (t.at_,18) (.ok (.dir,.graph true,r))
  else if t.l=kNode then must (decide (r.n<1024)) (t.at_,3) (.ok (.list (.node r.n false false false),.graph d,{r with n:=r.n+1,labels:=r.labels++[noB],spots:=r.spots++[(0,0)]}))
  else if t.l=kEdge then must (decide (r.ends.length/2<3072)) (t.at_,3) (.ok (.list (.edge r.ends.length false false false),.graph d,{r with ends:=r.ends++[⟨0,0,noB,0⟩,⟨0,0,noB,0⟩],weights:=r.weights++[4607182418800017408]}))
  else .ok (.none,.graph d,r)
 | .node v a b c=>
  if t.l=kId then must (!a) (t.at_,18) (.ok (.id v,.node v true b c,r))
  else if t.l=kLabel then must (!b) (t.at_,18) (.ok (.label v,.node v a true c,r))
  else if t.l=kGraphics then must (!c) (t.at_,18) (.ok (.list (.spot v false false),.node v a b true,r))
  else .ok (.none,.node v a b c,r)
 | .spot v a b=>
  if t.l=kX then must (!a) (t.at_,18) (.ok (.spot v false,.spot v true b,r))
  else if t.l=kY then must (!b) (t.at_,18) (.ok (.spot v true,.spot v a true,r))
  else .ok (.none,.spot v a b,r)
 | .edge k a b c=>
  if t.l=kSource then must (!a) (t.at_,18) (.ok (.fin k,.edge k true b c,r))
  else if t.l=kTarget then must (!b) (t.at_,18) (.ok (.fin (k+1),.edge k a true c,r))
  else if t.l=kWeight then must (!c) (t.at_,18) (.ok (.weight k,.edge k a b true,r))
  else .ok (.none,.edge k a b c,r)
def Tk.kind :Tk->Nat
 | .none=>0
 | .list _=>1
 | .label _=>5
 | _=>4
def take (cl:Nat->Nat) (x:Tk) (v:Tok) (r:Rd):Er Rd:=
 match x with
 | .dir=>must (decide (v.l=[48]\/v.l=[49])) (v.at_,17) (.ok {r with dir:=decide (v.l=[49])})
 | .id k=>match whole v.l with
  | some n=>must (!r.ids.any fun p=>p.1==n) (v.at_,18) (.ok {r with ids:=r.ids++[(n,k)]})
  | none=>.no (v.at_,17)
 | .label k=>must (decide (v.says.size<=256)) (v.at_,23) (must (v.l.all fun c=>prnt c.toNat) (v.at_,25) (.ok {r with labels:=r.labels.set k v.says,h0:=true}))
 | .spot k y=>.ok {r with spots:=r.spots.modify k fun p=>if y=true then(p.1,cl v.num)else(cl v.num,p.2),h1:=true}
 | .fin k=>match whole v.l with
  | some _=>.ok {r with ends:=r.ends.set k v}
  | none=>.no (v.at_,17)
 | .weight k=>.ok {r with weights:=r.weights.set (k/2) (cl v.num),h2:=true}
 | _=>.ok r
def behind (l:Lv) (at_:Nat) (r:Rd):Er Rd:=
 match l with
 | .node _ a _ _=>must a (at_,14) (.ok r)
 | .edge _ a b _=>must (a&&b) (at_,14) (.ok r)
 | _=>.ok r
def isTop :Lv->Bool
 | .top=>true
 | _=>false
def value (s:ByteArray) (rd:ByteArray->Option (Nat × Nat)) (cl:Nat->Nat) (L:Lv->Nat->Rd->Er (Nat × Lv × Rd)) (x:Tk) (d:Nat) (r:Rd):Er Rd:=
 (next s r.i).bind fun(v0,i)=>(valued rd v0).bind fun v=>
  must (decide (v.kind=1->d<16)) (v.at_,3) <| must (decide (x.kind=0\/x.kind=v.kind)) (v.at_,22) <|
   if v.kind=1 then
    match x with
    | .list l=>(L l (d+1) {r with i:=i}).bind fun(e,l',r2)=>behind l' e r2
    | _=>(L .over (d+1) {r with i:=i}).bind fun(_,_,r2)=>.ok r2
   else take cl x v {r with i:=i}
def list (s:ByteArray) (rd:ByteArray->Option (Nat × Nat)) (cl:Nat->Nat):Nat->Lv->Nat->Rd->Er (Nat × Lv × Rd)
 | 0,_,_,_=>.un
 | n+1,l,d,r=>
  (next s r.i).bind fun(t,i)=>
   if(isTop l=true/\t.kind=0)\/(isTop l=false/\t.kind=2)then .ok (t.at_,l,{r with i:=i})
   else must (decide (t.kind=3)) (t.at_,15) <|
    (key l t {r with i:=i}).bind fun(x,l',r1)=>
     (value s rd cl (list s rd cl n) x d r1).bind fun r2=>list s rd cl n l' d r2
def find (ids:List (Int × Nat)) (n:Int):Option Nat:=(ids.find? fun p=>p.1==n).map (·.2)
def endOf (ids:List (Int × Nat)) (t:Tok):Er Nat:=
 match whole t.l with
 | some n=>match find ids n with
  | some v=>.ok v
  | none=>.no (t.at_,14)
 | none=>.no (t.at_,17)
def edges (ids:List (Int × Nat)):List Tok->Er (List (Nat × Nat))
 | a::b::r=>(endOf ids a).bind fun x=>(endOf ids b).bind fun y=>(edges ids r).bind fun l=>.ok ((x,y)::l)
 | _=>.ok []
structure Dc where
 n:Nat
 dir:Bool
 edges:List (Nat × Nat)
 labels:List ByteArray
 spots:List (Nat × Nat)
 weights:List Nat
def start :Rd:=⟨0,0,false,false,[],[],[],[],false,false,false,[]⟩
def read (rd:ByteArray->Option (Nat × Nat)) (cl:Nat->Nat) (s:ByteArray):Er Dc:=
 must (decide (s.size<=262144)) (0,23) <| (list s rd cl (s.size+1) .top 0 start).bind fun(e,_,r)=>
  must r.graph (e,14) <| (edges r.ids r.ends).bind fun es=>
   .ok ⟨r.n,r.dir,es,if r.h0=true then r.labels else [],if r.h1=true then r.spots else [],if r.h2=true then r.weights else []⟩
end Go.Proofs.YtlflalecmhgmjaaGreatDoor.G
namespace Go.Proofs.YtlflalecmhgmjaaGreatDoor.G
theorem bt_get (s:ByteArray) (i:Nat):bt s i=(match s.data.toList[i]? with
  | some c=>c.toNat
  | none=>256):=by
 unfold bt
 by_cases h:i<s.size
 ·have h2:i<s.data.toList.length:=h
  rw[List.getElem?_eq_getElem h2,getElem?_pos s i h]
  rfl
 ·have h2:¬i<s.data.toList.length:=h
  rw[List.getElem?_eq_none (by omega),getElem?_neg s i h]
theorem must_t {α:Type} {b:Bool} {f:F} {k:Er α} (h:b=true):must b f k=k:=by rw[h];rfl
theorem key_node {r:Rd} {t:Tok} {d:Bool} (h:t.l=kNode) (hn:r.n<1024):key (.graph d) t r= .ok (.list (.node r.n false false false),.graph d,{r with n:=r.n+1,labels:=r.labels++[noB],spots:=r.spots++[(0,0)]}):=by
 simp only[key,h]
 rw[if_neg (by decide),if_pos trivial,must_t (decide_eq_true hn)]
theorem key_edge {r:Rd} {t:Tok} {d:Bool} (h:t.l=kEdge) (hn:r.ends.length/2<3072):key (.graph d) t r= .ok (.list (.edge r.ends.length false false false),.graph d,{r with ends:=r.ends++[⟨0,0,noB,0⟩,⟨0,0,noB,0⟩],weights:=r.weights++[4607182418800017408]}):=by
 simp only[key,h]
 rw[if_neg (by decide),if_neg (by decide),if_pos trivial,must_t (decide_eq_true hn)]
def At (s:ByteArray) (i:Nat) (l:List UInt8):Prop:=i<=s.size/\s.data.toList.drop i=l
theorem size_len (s:ByteArray):s.size=s.data.toList.length:=rfl
theorem At.start (s:ByteArray):At s 0 s.data.toList:=⟨Nat.zero_le _,rfl⟩
theorem At.nil {s:ByteArray} {i:Nat} (a:At s i []):i=s.size:=by
 obtain⟨h,e⟩:=a
 have:=congrArg List.length e
 rw[List.length_drop,<-size_len]at this
 simp at this;omega
theorem At.len {s:ByteArray} {i:Nat} {l:List UInt8} (a:At s i l):s.size-i=l.length:=by
 obtain⟨h,e⟩:=a
 rw[<-e,List.length_drop,<-size_len]
theorem At.cons {s:ByteArray} {i:Nat} {c:UInt8} {l:List UInt8} (a:At s i (c::l)):i<s.size/\bt s i=c.toNat/\At s (i+1) l:=by
 have hl:=a.len
 obtain⟨h,e⟩:=a
 rw[List.length_cons]at hl
 refine⟨by omega,?_,by omega,?_⟩
 ·have:s.data.toList[i]? =some c:=by
   have:=congrArg (fun l=>l[0]?) e
   simpa using this
  rw[bt_get,this]
 ·rw [<-List.drop_drop,e];rfl
theorem At.app {s:ByteArray} {i:Nat} {w l:List UInt8} (a:At s i (w++l)):At s (i+w.length) l:=by
 have hl:=a.len
 obtain⟨h,e⟩:=a
 rw[List.length_append]at hl
 refine⟨by omega,?_⟩
 rw[<-List.drop_drop,e,List.drop_left]
theorem At.ext {s:ByteArray} {i:Nat} {w l:List UInt8} (a:At s i (w++l)):(s.extract i (i+w.length)).data.toList=w:=by
 obtain⟨h,e⟩:=a
 rw[ByteArray.data_extract,Array.toList_extract,List.extract_eq_take_drop,e]
 rw[Nat.add_sub_cancel_left,List.take_left]
def Stop (p:Nat->Bool) (l:List UInt8):Prop:=∀c r,l=c::r->p c.toNat=false
theorem Stop.nil (p:Nat->Bool):Stop p []:=fun c r h=>by cases h
theorem Stop.cons {p:Nat->Bool} {c:UInt8} {r:List UInt8} (h:p c.toNat=false):Stop p (c::r):=fun c' r' e=>by cases e;exact h
theorem run_at {p:Nat->Bool} {s:ByteArray}:∀{w l:List UInt8} {i:Nat},At s i (w++l)->(∀c∈w,p c.toNat=true)->Stop p l->run p s i=i+w.length
 | [],l,i,a,_,hs=>by
  rw[run]
  cases l with
  | nil=>rw[if_neg (by have:=a.nil;omega)];rfl
  | cons c r=>
   obtain⟨h1,h2,h3⟩:=At.cons a
   rw[if_neg (by rw[h2,hs c r rfl];simp)];rfl
 | c::w,l,i,a,hw,hs=>by
  obtain⟨h1,h2,h3⟩:=At.cons (l:=w++l) a
  rw[run,if_pos ⟨h1,by rw[h2];exact hw c (by simp)⟩,run_at h3 (fun c hc=>hw c (by simp[hc])) hs,List.length_cons]
  omega
inductive Bl :List UInt8->Prop where
 | nil:Bl []
 | blank {c:UInt8} {w:List UInt8}:blnk c.toNat=true->Bl w->Bl (c::w)
 | note {n w:List UInt8}:(∀c∈n,c≠10)->Bl w->Bl (35::(n++10::w))
theorem Bl.app {a b:List UInt8} (h:Bl a) (k:Bl b):Bl (a++b):=by
 induction h with
 | nil=>exact k
 | blank h _ ih=>exact .blank h ih
 | note h _ ih=>rw[List.cons_append,List.append_assoc];exact .note h ih
def Tb (c:Nat):Bool:= !(blnk c||decide (c=35))
theorem skp_at {s:ByteArray} {w l:List UInt8} (hw:Bl w):∀{i:Nat},At s i (w++l)->Stop (fun c=> !Tb c) l->skp s i=i+w.length:=by
 induction hw with
 | nil=>
  intro i a hs
  rw[skp]
  cases l with
  | nil=>rw[if_neg (by have:=a.nil;omega)];rfl
  | cons c r=>
   obtain⟨h1,h2,h3⟩:=At.cons a
   have:=hs c r rfl
   simp only[Tb,Bool.not_not,Bool.or_eq_false_iff,decide_eq_false_iff_not]at this
   rw[if_pos h1,h2,if_neg (by simp[this.1]),if_neg this.2];rfl
 | @blank c w hc _ ih=>
  intro i a hs
  obtain⟨h1,h2,h3⟩:=At.cons (l:=w++l) a
  rw[skp,if_pos h1,h2,if_pos hc,ih h3 hs,List.length_cons];omega
 | @note n w hn _ ih=>
  intro i a hs
  rw[List.cons_append,List.append_assoc,List.cons_append]at a
  obtain⟨h1,h2,h3⟩:=At.cons a
  have hrun:=run_at (p:=fun c=>decide (c≠10)) h3 (fun c hc=>by
   have:=hn c hc
   simp only[decide_eq_true_eq]
   intro e;exact this (UInt8.toNat_inj.1 e)) (Stop.cons rfl)
  have h4:=At.app h3
  obtain⟨q1,q2,q3⟩:=At.cons h4
  rw[skp,if_pos h1,h2,if_neg (by decide),if_pos (by decide),hrun,skp,if_pos q1,q2,if_pos (by decide),ih q3 hs]
  simp only[List.length_cons,List.length_append];omega
theorem tb_of {c:Nat} (h:c≠32/\c≠9/\c≠10/\c≠13/\c≠35):(!Tb c)=false:=by
 simp[Tb,blnk];omega
theorem next_end {s:ByteArray} {i:Nat} {w:List UInt8} (hw:Bl w) (a:At s i w):next s i= .ok (⟨0,s.size,noB,0⟩,s.size):=by
 have a':At s i (w++[]):=by rw[List.append_nil];exact a
 have e:=skp_at hw a' (Stop.nil _)
 have:=(At.app a').nil
 unfold next
 simp only[e,this]
 rw[if_pos (Nat.le_refl _)]
theorem next_open {s:ByteArray} {i:Nat} {w l:List UInt8} (hw:Bl w) (a:At s i (w++91::l)):next s i= .ok (⟨1,i+w.length,noB,0⟩,i+w.length+1)/\At s (i+w.length+1) l:=by
 have e:=skp_at hw a (Stop.cons (by decide))
 obtain⟨h1,h2,h3⟩:=(At.app a).cons
 refine⟨?_,h3⟩
 unfold next
 simp only[e,h2]
 rw[if_neg (by omega),if_pos (by decide)]
theorem next_close {s:ByteArray} {i:Nat} {w l:List UInt8} (hw:Bl w) (a:At s i (w++93::l)):next s i= .ok (⟨2,i+w.length,noB,0⟩,i+w.length+1)/\At s (i+w.length+1) l:=by
 have e:=skp_at hw a (Stop.cons (by decide))
 obtain⟨h1,h2,h3⟩:=(At.app a).cons
 refine⟨?_,h3⟩
 unfold next
 simp only[e,h2]
 rw[if_neg (by omega),if_neg (by decide),if_pos (by decide)]
structure Wd (k:List UInt8) (l:List UInt8):Prop where
 hd:∃c r,k=c::r/\lettr c.toNat=true
 all:∀c∈k,wordB c.toNat=true
 st:Stop wordB l
structure Nm (k:List UInt8) (l:List UInt8):Prop where
 hd:∃c r,k=c::r/\(digt c.toNat=true\/c.toNat=43\/c.toNat=45\/c.toNat=46)
 all:∀c∈k,numbB c.toNat=true
 st:Stop numbB l
theorem next_word {s:ByteArray} {i:Nat} {w k l:List UInt8} (hw:Bl w) (hk:Wd k l) (a:At s i (w++(k++l))):
  ∃t,next s i= .ok (t,i+w.length+k.length)/\t.kind=3/\t.l=k/\At s (i+w.length+k.length) l:=by
 obtain⟨c,r,rfl,hc⟩:=hk.hd
 have hb:(97<=c.toNat/\c.toNat<=122)\/(65<=c.toNat/\c.toNat<=90):=by simpa[lettr]using hc
 have e:=skp_at hw a (Stop.cons (tb_of (by omega)))
 have a2:=At.app a
 obtain⟨h1,h2,h3⟩:=At.cons (l:=r++l) a2
 have hr:=run_at (p:=wordB) a2 hk.all hk.st
 refine⟨⟨3,i+w.length,s.extract (i+w.length) (i+w.length+(c::r).length),0⟩,?_,rfl,At.ext a2,At.app a2⟩
 unfold next
 simp only[e,h2,hr]
 rw[if_neg (by omega),if_neg (by omega),if_neg (by omega),if_neg (by omega),if_pos hc]
theorem next_num {s:ByteArray} {i:Nat} {w k l:List UInt8} (hw:Bl w) (hk:Nm k l) (a:At s i (w++(k++l))):
  ∃t,next s i= .ok (t,i+w.length+k.length)/\t.kind=4/\t.l=k/\At s (i+w.length+k.length) l:=by
 obtain⟨c,r,rfl,hc⟩:=hk.hd
 have hb:(48<=c.toNat/\c.toNat<=57)\/c.toNat=43\/c.toNat=45\/c.toNat=46:=by simpa[digt]using hc
 have e:=skp_at hw a (Stop.cons (tb_of (by omega)))
 have a2:=At.app a
 obtain⟨h1,h2,h3⟩:=At.cons (l:=r++l) a2
 have hr:=run_at (p:=numbB) a2 hk.all hk.st
 have hl:lettr c.toNat=false:=by simp[lettr];omega
 refine⟨⟨4,i+w.length,s.extract (i+w.length) (i+w.length+(c::r).length),0⟩,?_,rfl,At.ext a2,At.app a2⟩
 unfold next
 simp only[e,h2,hr]
 rw[if_neg (by omega),if_neg (by omega),if_neg (by omega),if_neg (by omega),if_neg (by rw[hl];simp),if_pos hc]
def enc1 (c:UInt8):List UInt8:=if c=38 then amp else if c=34 then quot else [c]
def enc (l:List UInt8):List UInt8:=l.flatMap enc1
section
variable {s:ByteArray} {rd:ByteArray->Option (Nat × Nat)} {cl:Nat->Nat}
def Big (s:ByteArray) (rd:ByteArray->Option (Nat × Nat)) (cl:Nat->Nat) (l:Lv) (d:Nat) (r:Rd) (e:Nat × Lv × Rd):Prop:=∀n,s.size-r.i<n->list s rd cl n l d r= .ok e
theorem big_end {l:Lv} {d:Nat} {r:Rd} {w rest:List UInt8} (ht:isTop l=false) (hw:Bl w) (a:At s r.i (w++93::rest)):
  Big s rd cl l d r (r.i+w.length,l,{r with i:=r.i+w.length+1})/\At s (r.i+w.length+1) rest:=by
 obtain⟨h1,h2⟩:=next_close hw a
 refine⟨fun n hn=>?_,h2⟩
 cases n with
 | zero=>omega
 | succ n=>
  rw[list,h1]
  simp only[Er.bind,ht]
  rw[if_pos (.inr (by simp))]
theorem big_top {d:Nat} {r:Rd} {w:List UInt8} (hw:Bl w) (a:At s r.i w):Big s rd cl .top d r (s.size,.top,{r with i:=s.size}):=by
 have h1:=next_end hw a
 intro n hn
 cases n with
 | zero=>omega
 | succ n=>
  rw[list,h1]
  simp only[Er.bind,isTop]
  rw[if_pos (.inl (by simp))]
theorem big_key {l l':Lv} {d:Nat} {r r1 r2:Rd} {x:Tk} {w k rest:List UInt8} {e:Nat × Lv × Rd} (hw:Bl w) (hk:Wd k rest) (a:At s r.i (w++(k++rest)))
  (hkey:∀t,t.l=k->key l t {r with i:=r.i+w.length+k.length}= .ok (x,l',r1))
  (hval:∀n,s.size-(r.i+w.length+k.length)<n->value s rd cl (list s rd cl n) x d r1= .ok r2) (hi:r.i<r2.i) (hj:r2.i<=s.size) (hb:Big s rd cl l' d r2 e):Big s rd cl l d r e:=by
 obtain⟨t,h1,h2,h3,h4⟩:=next_word hw hk a
 have hk1:0<k.length:=by obtain⟨c,q,rfl,_⟩:=hk.hd;simp
 have hsz:=h4.1
 intro n hn
 cases n with
 | zero=>omega
 | succ n=>
  rw[list,h1]
  simp only[Er.bind,h2]
  rw[if_neg (by rintro(⟨_,q⟩ | ⟨_,q⟩)<;>omega)]
  simp only[must,decide_true,hkey t h3]
  rw[hval n (by omega)]
  exact hb n (by omega)
theorem value_num {d:Nat} {x:Tk} {r:Rd} {w k rest:List UInt8} {v:Nat} (hw:Bl w) (hk:Nm k rest) (a:At s r.i (w++(k++rest))) (hx:x.kind=0\/x.kind=4) (hr:∀b:ByteArray,b.data.toList=k->rd b=some (v,0)):
  ∃t:Tok,t.l=k/\t.num=v/\t.kind=4/\∀L,value s rd cl L x d r=take cl x t {r with i:=r.i+w.length+k.length}:=by
 obtain⟨t,h1,h2,h3,h4⟩:=next_num hw hk a
 refine⟨{t with num:=v},h3,rfl,h2,fun L=>?_⟩
 unfold value
 rw[h1]
 simp only[Er.bind]
 have hv:valued rd t= .ok {t with num:=v}:=by
  unfold valued
  rw[if_neg (by omega),if_neg (by omega),if_pos h2,hr _ h3]
 rw[hv]
 simp only[h2]
 have e1:(decide ((4:Nat)=1->d<16))=true:=by simp
 have e2:decide (x.kind=0\/x.kind=4)=true:=by simpa using hx
 rw[e1,e2]
 simp only[must]
 rw[if_neg (by decide)]
theorem value_word {d:Nat} {x:Tk} {r:Rd} {w k rest:List UInt8} {v e:Nat} (hw:Bl w) (hk:Wd k rest) (hkk:k=kNaN\/k=kINF) (a:At s r.i (w++(k++rest))) (hx:x.kind=0\/x.kind=4) (hr:∀b:ByteArray,b.data.toList=k->rd b=some (v,e)):
  ∃t:Tok,t.l=k/\t.num=v/\t.kind=4/\∀L,value s rd cl L x d r=take cl x t {r with i:=r.i+w.length+k.length}:=by
 obtain⟨t,h1,h2,h3,h4⟩:=next_word hw hk a
 refine⟨{t with kind:=4,num:=v},h3,rfl,rfl,fun L=>?_⟩
 unfold value
 rw[h1]
 simp only[Er.bind]
 have hv:valued rd t= .ok {t with kind:=4,num:=v}:=by
  unfold valued
  rw[if_neg (by omega),if_pos h2,if_pos (by rw[h3];exact hkk),hr _ h3]
 rw[hv]
 simp only[]
 have e1:(decide ((4:Nat)=1->d<16))=true:=by simp
 have e2:decide (x.kind=0\/x.kind=4)=true:=by simpa using hx
 rw[e1,e2]
 simp only[must]
 rw[if_neg (by decide)]
theorem value_list {d n:Nat} {l2 l3:Lv} {r r2 r3:Rd} {e:Nat} {w rest:List UInt8} (hw:Bl w) (a:At s r.i (w++91::rest)) (hd:d<16) (hn:s.size-(r.i+w.length+1)<n)
  (hb:Big s rd cl l2 (d+1) {r with i:=r.i+w.length+1} (e,l3,r2)) (he:behind l3 e r2= .ok r3):value s rd cl (list s rd cl n) (.list l2) d r= .ok r3:=by
 obtain⟨h1,h2⟩:=next_open hw a
 unfold value
 rw[h1]
 simp only[Er.bind,valued]
 have e1:(decide ((1:Nat)=1->d<16))=true:=by simpa using hd
 rw[if_neg (by decide),if_neg (by decide),if_neg (by decide)]
 simp only[Tk.kind,must,or_true,decide_true,if_true]
 rw[hb n hn]
 simpa[hd]using he
theorem value_over {d n:Nat} {r r2:Rd} {e:Nat} {l3:Lv} {w rest:List UInt8} (hw:Bl w) (a:At s r.i (w++91::rest)) (hd:d<16) (hn:s.size-(r.i+w.length+1)<n)
  (hb:Big s rd cl .over (d+1) {r with i:=r.i+w.length+1} (e,l3,r2)):value s rd cl (list s rd cl n) .none d r= .ok r2:=by
 obtain⟨h1,h2⟩:=next_open hw a
 unfold value
 rw[h1]
 simp only[Er.bind,valued]
 have e1:(decide ((1:Nat)=1->d<16))=true:=by simpa using hd
 rw[if_neg (by decide),if_neg (by decide),if_neg (by decide)]
 simp only[Tk.kind,must,true_or,decide_true,if_true]
 rw[hb n hn]
 simp[hd]
end
end Go.Proofs.YtlflalecmhgmjaaGreatDoor.G
namespace Go.Proofs.YtlflalecmhgmjaaGreatDoor.G
def dg (n:Nat):UInt8:=UInt8.ofNat (48+n % 10)
def dec (n:Nat):List UInt8:=if n<10 then [dg n]else dec (n/10)++[dg n]
termination_by n
theorem dg_nat (n:Nat):(dg n).toNat=48+n % 10:=by
 unfold dg
 rw[UInt8.toNat_ofNat']
 omega
theorem dec_all (n:Nat):∀c∈dec n,digt c.toNat=true:=by
 induction n using Nat.strongRecOn with
 | _ n ih=>
  rw[dec]
  have h0:digt (dg n).toNat=true:=by rw[dg_nat];simp[digt];omega
  split
  ·intro c hc;simp at hc;subst hc;exact h0
  ·intro c hc
   rw[List.mem_append]at hc
   rcases hc with hc | hc
   ·exact ih (n/10) (by omega) c hc
   ·simp at hc;subst hc;exact h0
theorem dnum_app (l:List UInt8) (c:UInt8):dnum (l++[c])=10*dnum l+(c.toNat-48):=by simp[dnum]
theorem dnum_dec (n:Nat):dnum (dec n)=n:=by
 induction n using Nat.strongRecOn with
 | _ n ih=>
  rw[dec]
  split
  ·simp only[dnum,List.foldl_cons,List.foldl_nil,dg_nat];omega
  ·rw [dnum_app,ih (n/10) (by omega),dg_nat];omega
theorem dec_ne (n:Nat):dec n≠[]:=by
 rw[dec];split
 ·simp
 ·simp
theorem dec_head (n:Nat) (h:0<n):(dec n).head? ≠some 48:=by
 induction n using Nat.strongRecOn with
 | _ n ih=>
  rw[dec]
  split
  ·simp only[List.head?_cons,ne_eq,Option.some.injEq]
   intro e
   have:=congrArg UInt8.toNat e
   rw[dg_nat]at this
   have e48:(48:UInt8).toNat=48:=rfl
   omega
  ·have:=ih (n/10) (by omega) (by omega)
   cases q:dec (n/10)with
   | nil=>exact absurd q (dec_ne _)
   | cons c r=>rw[q]at this;simpa using this
theorem dec_len (k:Nat):∀n,n<10^(k+1)->(dec n).length<=k+1:=by
 induction k with
 | zero=>
  intro n hn
  rw[dec,if_pos (by simpa using hn)];simp
 | succ k ih=>
  intro n hn
  rw[dec]
  split
  ·simp
  ·rw [List.length_append,List.length_singleton]
   have:=ih (n/10) (by rw[Nat.pow_succ]at hn;omega)
   omega
theorem dec_len1 (n:Nat) (h:1<(dec n).length):0<n:=by
 cases n with
 | zero=>rw[dec]at h;simp at h
 | succ n=>omega
theorem wholeD_dec (ng:Bool) (n:Nat) (h:n<=2147483648) (hz:ng=true->0<n):wholeD ng (dec n)=some (if ng=true then-(n:Int)else(n:Int)):=by
 unfold wholeD
 rw[if_neg,dnum_dec]
 rintro(q | q | ⟨q1,q2 | q2⟩ | q | q)
 ·exact dec_ne n q
 ·have:=dec_len 9 n (by omega);omega
 ·exact dec_head n (dec_len1 n q2) q1
 ·exact dec_head n (hz q2) q1
 ·have:(dec n).all (fun c=>digt c.toNat)=true:=List.all_eq_true.2 (dec_all n)
  rw[this]at q;cases q
 ·rw [dnum_dec]at q;omega
theorem whole_dec (n:Nat) (h:n<=2147483648):whole (dec n)=some (n:Int):=by
 have h1:=wholeD_dec false n h (by simp)
 simp only[Bool.false_eq_true,if_false]at h1
 unfold whole
 split
 ·rename_i r e
  have:=dec_all n 45 (by rw[e];simp)
  exact absurd this (by decide)
 ·exact h1
theorem whole_neg (n:Nat) (h:n<=2147483648) (h0:0<n):whole (45::dec n)=some (-(n:Int)):=by
 have h1:=wholeD_dec true n h (fun _=>h0)
 simpa[whole]using h1
structure IsNum (k:List UInt8):Prop where
 hd:∃c r,k=c::r/\(digt c.toNat=true\/c.toNat=43\/c.toNat=45\/c.toNat=46)
 all:∀c∈k,numbB c.toNat=true
theorem digt_numb {c:Nat} (h:digt c=true):numbB c=true:=by simp[numbB,h]
theorem isNum_dec (n:Nat):IsNum (dec n):=by
 have hall:=dec_all n
 refine⟨?_,fun c hc=>digt_numb (hall c hc)⟩
 cases q:dec n with
 | nil=>exact absurd q (dec_ne n)
 | cons c r=>exact⟨c,r,rfl,.inl (hall c (by rw[q];simp))⟩
theorem isNum_neg (n:Nat):IsNum (45::dec n):=
 ⟨⟨45,dec n,rfl,.inr (.inr (.inl rfl))⟩,fun c hc=>by
  rcases List.mem_cons.1 hc with rfl | hc
  ·decide
  ·exact digt_numb (dec_all n c hc)⟩
def NumT (rd:ByteArray->Option (Nat × Nat)) (k:List UInt8) (v:Nat):Prop:=(IsNum k\/k=kNaN\/k=kINF)/\∀b:ByteArray,b.data.toList=k->rd b=some (v,0)
def idt (x:Int):List UInt8:=if x<0 then 45::dec x.natAbs else dec x.natAbs
theorem idt_whole {x:Int} (h:x.natAbs<=2147483648):whole (idt x)=some x:=by
 unfold idt
 split
 ·rw [whole_neg _ h (by omega)];congr 1;omega
 ·rw [whole_dec _ h];congr 1;omega
theorem idt_num (x:Int):IsNum (idt x):=by
 unfold idt
 split
 ·exact isNum_neg _
 ·exact isNum_dec _
def Sep (l:List UInt8):Prop:=∃c r,l=c::r/\blnk c.toNat=true
theorem blnk_cases {c:Nat} (h:blnk c=true):c=32\/c=9\/c=10\/c=13:=by simpa[blnk]using h
theorem Sep.word {l:List UInt8} (h:Sep l):Stop wordB l:=by
 obtain⟨c,r,rfl,hc⟩:=h
 refine Stop.cons ?_
 have:=blnk_cases hc
 simp[wordB,lettr,digt];omega
theorem Sep.numb {l:List UInt8} (h:Sep l):Stop numbB l:=by
 obtain⟨c,r,rfl,hc⟩:=h
 refine Stop.cons ?_
 have:=blnk_cases hc
 simp[numbB,lettr,digt];omega
theorem wd_nan {l:List UInt8} (h:Stop wordB l):Wd kNaN l:=⟨⟨78,[97,78],rfl,rfl⟩,by decide,h⟩
theorem wd_inf {l:List UInt8} (h:Stop wordB l):Wd kINF l:=⟨⟨73,[78,70],rfl,rfl⟩,by decide,h⟩
theorem value_txt {s:ByteArray} {rd:ByteArray->Option (Nat × Nat)} {cl:Nat->Nat} {d:Nat} {x:Tk} {r:Rd} {w k rest:List UInt8} {v:Nat} (hw:Bl w) (hk:NumT rd k v) (h1:Stop numbB rest) (h2:Stop wordB rest)
  (a:At s r.i (w++(k++rest))) (hx:x.kind=0\/x.kind=4):
  ∃t:Tok,t.l=k/\t.num=v/\t.kind=4/\∀L,value s rd cl L x d r=take cl x t {r with i:=r.i+w.length+k.length}:=by
 obtain⟨hk,hr⟩:=hk
 rcases hk with hk | rfl | rfl
 ·exact value_num hw ⟨hk.hd,hk.all,h1⟩ a hx hr
 ·exact value_word hw (wd_nan h2) (.inl rfl) a hx hr
 ·exact value_word hw (wd_inf h2) (.inr rfl) a hx hr
end Go.Proofs.YtlflalecmhgmjaaGreatDoor.G
namespace Go.Proofs.YtlflalecmhgmjaaGreatDoor.G
theorem dec_lib (n:Nat):Lib.decDigits n=dec n:=by
 induction n using Nat.strongRecOn with
 | _ n ih=>
  rw[Lib.decDigits,dec]
  split
  ·unfold dg;rw[Nat.mod_eq_of_lt (by omega)]
  ·rw [ih (n/10) (by omega)];rfl
theorem itoa_idt (n:Int):Lib.itoa n=idt n:=by
 unfold Lib.itoa idt
 rw[dec_lib,dec_lib]
 split
 ·rfl
 ·congr 1;omega
def fd (a:Nat) (l:List UInt8):Nat:=l.foldl (fun n c=>10*n+(c.toNat-48)) a
theorem fd_ge :∀(l:List UInt8) (a:Nat),a<=fd a l
 | [],a=>Nat.le_refl _
 | c::l,a=>by
  have:=fd_ge l (10*a+(c.toNat-48))
  show a<=fd (10*a+(c.toNat-48)) l
  omega
theorem parseM {M:Nat} (hM:2147483648<=M):∀(l:List UInt8) (a:Nat),(∀c∈l,digt c.toNat=true)->fd a l<=2147483648->Lib.parseUintM M a l= .ok (fd a l)
 | [],a,_,_=>rfl
 | c::l,a,h,hf=>by
  have hc:48<=c.toNat/\c.toNat<=57:=by simpa[digt]using h c (by simp)
  have e:fd a (c::l)=fd (10*a+(c.toNat-48)) l:=rfl
  rw[e]at hf ⊢
  have:=fd_ge l (10*a+(c.toNat-48))
  rw[Lib.parseUintM,if_pos hc,if_neg (by omega),if_neg (by omega),show a*10+(c.toNat-48)=10*a+(c.toNat-48) by omega,parseM hM l _ (fun c q=>h c (by simp[q])) hf]
theorem dnum_pos {l:List UInt8} (h:∀c∈l,digt c.toNat=true) (h0:l.head? ≠some 48) (hn:l≠[]):0<dnum l:=by
 cases l with
 | nil=>exact absurd rfl hn
 | cons c r=>
  have hc:48<=c.toNat/\c.toNat<=57:=by simpa[digt]using h c (by simp)
  have h48:c.toNat≠48:=fun e=>h0 (by simp;exact UInt8.toNat_inj.1 e)
  have e:dnum (c::r)=fd (10*0+(c.toNat-48)) r:=rfl
  rw[e]
  have:=fd_ge r (10*0+(c.toNat-48))
  omega
theorem dec_dnum :∀(n:Nat) (l:List UInt8),l.length=n->(∀c∈l,digt c.toNat=true)->l≠[]->(l.head? =some 48->l.length=1)->dec (dnum l)=l:=by
 intro n
 induction n with
 | zero=>intro l hl _ hne;exact absurd (List.eq_nil_of_length_eq_zero hl) hne
 | succ n ih=>
  intro l hl hd hne h48
  obtain⟨m,c,rfl⟩:∃m c,l=m++[c]:=⟨l.dropLast,l.getLast hne,(List.dropLast_concat_getLast hne).symm⟩
  have hc:48<=c.toNat/\c.toNat<=57:=by simpa[digt]using hd c (by simp)
  have ed:∀k,k % 10=c.toNat-48->dg k=c:=fun k e=>by
   apply UInt8.toNat_inj.1
   rw[dg_nat,e];omega
  rw[dnum_app]
  by_cases hm:m=[]
  ·subst hm
   have:dnum []=0:=rfl
   rw[this,dec,if_pos (by omega),ed _ (by omega)];rfl
  ·have hmh:m.head? ≠some 48:=fun e=>by
    have:=h48 (by rw[List.head?_append,e];rfl)
    rw[List.length_append,List.length_singleton]at this
    exact hm (List.eq_nil_of_length_eq_zero (by omega))
   have hdm:∀c∈m,digt c.toNat=true:=fun c q=>hd c (by simp[q])
   have hp:=dnum_pos hdm hmh hm
   rw[dec,if_neg (by omega),ed _ (by omega),show(10*dnum m+(c.toNat-48))/10=dnum m by omega,ih m (by simpa using hl) hdm hm (fun e=>absurd e hmh)]
theorem wholeD_some {ng:Bool} {l:List UInt8} {n:Int} (h:wholeD ng l=some n):l≠[]/\(l.head? =some 48->l.length=1/\ng=false)/\(∀c∈l,digt c.toNat=true)/\dnum l<=2147483648/\n=if ng=true then-(dnum l:Int)else(dnum l:Int):=by
 unfold wholeD at h
 split at h
 ·cases h
 ·rename_i q
  simp only[not_or,not_and]at q
  obtain⟨q1,q2,q3,q4,q5⟩:=q
  refine⟨q1,fun e=>?_,List.all_eq_true.1 (by simpa using q4),by omega,(Option.some.inj h).symm⟩
  have:=q3 e
  have hl:0<l.length:=List.length_pos_iff.2 q1
  exact⟨by omega,by simpa using this.2⟩
theorem whole_some {l:List UInt8} {n:Int} (h:whole l=some n):Lib.parseIntB 64 l= .ok n/\Lib.itoa n=l/\ -2147483648<=n/\n<=2147483648:=by
 unfold whole at h
 split at h
 ·rename_i r
  obtain⟨q1,q2,q3,q4,q5⟩:=wholeD_some h
  simp only[if_true]at q5
  have h0:r.head? ≠some 48:=fun e=>by have:=(q2 e).2;cases this
  have hp:=dnum_pos q3 h0 q1
  have hu:Lib.parseUintB 64 r= .ok (dnum r):=by
   unfold Lib.parseUintB
   rw[if_neg q1]
   exact parseM (by decide) r 0 q3 q4
  refine⟨?_,?_,by omega,by omega⟩
  ·unfold Lib.parseIntB
   simp only[]
   have e45:(45:UInt8).toNat=45:=rfl
   rw[e45,if_pos (.inr rfl),hu]
   simp only[]
   rw[if_neg (by simp),if_neg (by omega),if_pos trivial,q5]
  ·rw [itoa_idt]
   unfold idt
   rw[if_pos (by omega),show n.natAbs=dnum r by omega,dec_dnum _ r rfl q3 q1 fun e=>(q2 e).1]
 ·rename_i hne
  obtain⟨q1,q2,q3,q4,q5⟩:=wholeD_some h
  simp only[Bool.false_eq_true,if_false]at q5
  have hu:Lib.parseUintB 64 l= .ok (dnum l):=by
   unfold Lib.parseUintB
   rw[if_neg q1]
   exact parseM (by decide) l 0 q3 q4
  refine⟨?_,?_,by omega,by omega⟩
  ·cases l with
   | nil=>exact absurd rfl q1
   | cons c r=>
    have hc:48<=c.toNat/\c.toNat<=57:=by simpa[digt]using q3 c (by simp)
    unfold Lib.parseIntB
    simp only[]
    rw[if_neg (by omega),hu]
    simp only[]
    rw[if_neg (by omega),if_neg (by omega),if_neg (by omega),q5]
  ·rw [itoa_idt]
   unfold idt
   rw[if_neg (by omega),show n.natAbs=dnum l by omega,dec_dnum _ l rfl q3 q1 fun e=>(q2 e).1]
theorem whole_ok {l:List UInt8} {v:Int} (h:Lib.parseIntB 64 l= .ok v):whole l=if Lib.itoa v=l/\ -2147483648<=v/\v<=2147483648 then some v else none:=by
 split
 ·rename_i q
  rw[<-q.1,itoa_idt]
  exact idt_whole (by omega)
 ·rename_i q
  cases e:whole l with
  | none=>rfl
  | some n=>
   obtain⟨a,b,c,d⟩:=whole_some e
   rw[h]at a
   have:v=n:=by cases a;rfl
   subst this
   exact absurd ⟨b,c,d⟩ q
theorem whole_bad {l:List UInt8} (h:∀v,Lib.parseIntB 64 l≠ .ok v):whole l=none:=by
 cases e:whole l with
 | none=>rfl
 | some n=>exact absurd (whole_some e).1 (h n)
end Go.Proofs.YtlflalecmhgmjaaGreatDoor.G
namespace Go.Proofs.YtlflalecmhgmjaaGreatDoor.N
open Go.Proofs.YtlflalecmhgmjaaGreatDoor
open Go.X
open Go.RowKit (Below)
set_option maxRecDepth 100000
theorem fr_below {w w':World} (b:Below w.heap.size w w'):Fr [] w.heap w'.heap:=⟨b.size,fun k hk _=>b.block k hk⟩
theorem rest_below {w w':World} (b:Below w.heap.size w w'):Go.X.Rest w w':=⟨b.os,b.tape,b.output,b.size⟩
theorem sy0 {h h':Heap} (f:Fr [] h h'):Sy h [] h' []:=⟨f,Hp.nil _,fun k c hk=>by simp at hk⟩
theorem callsH_same {P:Program} {f:FuncId} {args:Array Value} {h:Heap} {v:Value} {R:Value->Heap->Prop} (c:∀w:World,Calls P f args w fun e w'=>e= .returned v/\w'=w) (r:R v h):CallsH P f args h R:=
 fun w hw=>(c w).mono fun e w' ⟨h1,h2⟩=>⟨v,h1,by rw[h2];exact Rest.refl w,by rw[h2,hw];exact r⟩
theorem callsH_below {P:Program} {f:FuncId} {args:Array Value} {h:Heap} {v:Value} {R:Value->Heap->Prop} (c:∀w:World,w.heap=h->Calls P f args w fun e w'=>e= .returned v/\Below w.heap.size w w') (r:∀h',Fr [] h h'->R v h'):CallsH P f args h R:=
 fun w hw=>(c w hw).mono fun e w' ⟨h1,h2⟩=>⟨v,h1,rest_below h2,by subst hw;exact r _ (fr_below h2)⟩
theorem ok256 {t:ByteArray} {c:Nat} (hc:c<256) {h:Heap}:CallsH Tryz.prog 256 #[.string t,.int .u8 (c:Int)] h fun v h'=>v= .int .i64 (Lib.indexByte t.data.toList (UInt8.ofNat c))/\h'=h:=
 callsH_same (fun w=>Go.Proofs.Tryz.strings_IndexByte t (c:Int) w) ⟨by rw[Int.toNat_natCast],rfl⟩
theorem ok130 {t p:ByteArray} {h:Heap}:CallsH Tryz.prog 130 #[.string t,.string p] h fun v h'=>v= .bool (Lib.hasPrefix t.data.toList p.data.toList)/\h'=h:=
 callsH_same (fun w=>Go.Proofs.Tryz.strings_HasPrefix t p w) ⟨rfl,rfl⟩
end Go.Proofs.YtlflalecmhgmjaaGreatDoor.N
