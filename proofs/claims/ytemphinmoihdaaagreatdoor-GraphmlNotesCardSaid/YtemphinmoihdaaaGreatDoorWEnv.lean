/- The writer's text of GraphML by the plain reader: the whole. Conditions: none. -/
import Derived.Test.YtemphinmoihdaaaGreatDoorMWr4
import Derived.Test.YtemphinmoihdaaaGreatDoorProg
import Derived.Test.YtemphinmoihdaaaGreatDoorMLex
set_option linter.unusedVariables false
set_option linter.unusedSimpArgs false
namespace Go.Proofs.YtemphinmoihdaaaGreatDoor.G
section
variable {s:ByteArray} {rd:ByteArray->Option (Nat × Nat)} {cl:Nat->Nat}
def uY :QS->Bool
 | a::b::r=> !(decide (a=63)&&decide (b=62))&&uY (b::r)
 | _=>true
theorem Aa :∀{w l:QS} {f k:Nat},w.length<f->uY (w++[63])=true->At s k (w++63::62::l)->mh s [63,62] f k=some (k+w.length)
 | [],l,f+1,k,_,_,a=>by rw[mh,if_pos (jQ (w:=[63,62]) a)];rfl
 | c::w,l,f+1,k,hf,hn,a=>by
  obtain⟨_,_,a2⟩:=At.cons (c:=c) (l:=w++63::62::l) a
  have hn':uY (w++[63])=true/\¬(c=63/\(w++63::62::l).head? =some 62):=by
   cases w with
   | nil=>exact⟨rfl,fun h=>by simp at h⟩
   | cons b w=>
    simp only[List.cons_append,uY,Bool.and_eq_true,Bool.not_eq_true',Bool.and_eq_false_iff,decide_eq_false_iff_not]at hn
    refine⟨hn.2,fun h=>?_⟩
    have h2:b=62:=by simpa using h.2
    exact hn.1.elim (fun q=>q h.1) fun q=>q h2
  have no:preB s k [63,62]=false:=nh (w:=[]) (l:=c::(w++63::62::l)) a (fun r e=>by
   simp only[List.nil_append,List.cons_append,List.cons.injEq]at e
   exact hn'.2 ⟨e.1,by rw[e.2];rfl⟩)
  rw[mh,no]
  simp only[Bool.false_eq_true,if_false]
  rw[Aa (by simpa using hf) hn'.1 a2,List.length_cons]
  congr 1;omega
theorem Spx.len {ls:List QS} {t:QS} (h:Spx ls t):ls.length<=t.length:=by
 induction h with
 | nil=>simp
 | @cons l w t ls hw _ ih=>
  have:1<=w.length:=by rcases hw with rfl | ⟨m,_,rfl⟩<;>simp
  simp only[List.length_cons,List.length_append];omega
def kW :QS:=[60,63,120,109,108,32,118,101,114,115,105,111,110,61,34,49,46,48,34,32,101,110,99,111,100,105,110,103,61,34,85,84,70,45,56,34]
def xNs :QS:=[120,109,108,110,115]
def F7 :QS:=[104,116,116,112,58,47,47,103,114,97,112,104,109,108,46,103,114,97,112,104,100,114,97,119,105,110,103,46,111,114,103,47,120,109,108,110,115]
def uZ :QS:=ind 0++60::(cZ++(fO [(xNs,F7)]++[62]))
def kX (nL nS nW:Nat):List QK:=
 (if 0<nL then [([100,48],aR,ey,[115,116,114,105,110,103])]else [])++
 ((if 0<nS then [([100,49],aR,xX,[100,111,117,98,108,101]),([100,50],aR,xY,[100,111,117,98,108,101])]else [])++
 if 0<nW then [([100,51],cN,dX,[100,111,117,98,108,101])]else [])
def ny (e:UInt8->QS) (tx:Nat->QS) (D:Dc):List QS:=
 (kW++[63,62])::uZ::((kX D.labels.length D.spots.length D.weights.length).map jz++(jV e tx (fun v=>D.labels[v]?) (fun v=>D.spots[v]?) D.n D.dir D.edges D.weights++[gN 0 cZ]))
theorem CC {α:Type} {l:List α} {d:α} {n:Nat} (h:l.length=n):gh (fun v=>(l[v]?).getD d) n=l:=by
 subst h
 apply List.ext_getElem (by rw[yR])
 intro i h1 h2
 simp only[gh,List.getElem_map,List.getElem_range]
 rw[List.getElem?_eq_getElem h2];rfl
theorem wE {α:Type} {l:List α} {n:Nat} (h:l.length=n):ij (fun v=>l[v]?) n= !l.isEmpty:=by
 subst h
 cases l with
 | nil=>rfl
 | cons a l=>
  show(List.range (l.length+1)).any _=true
  rw[List.any_eq_true]
  exact⟨0,QB,rfl⟩
theorem tD {α:Type} (n:Nat):ij (fun v=>([]:List α)[v]?) n=false:=by
 unfold ij
 rw[List.any_eq_false]
 intro x _;simp
theorem wF {g:Nat->Nat}:∀{es:List (Nat × Nat)} {ws:List Nat},ws.length=es.length->qC g es ws=ws.map g
 | [],ws,h=>by rw[List.eq_nil_of_length_eq_zero h];rfl
 | _::es,w::ws,h=>by
  rw[qC,List.map_cons,List.head?_cons,List.tail_cons,wF (by simpa using h)];rfl
theorem oN :∀es:List (Nat × Nat),kV es []=false
 | []=>rfl
 | _::es=>by rw[kV,List.tail_nil,oN es];rfl
theorem tE (nL nS nW:Nat):(kX nL nS nW).length<=4:=by
 unfold kX
 split<;>split<;>split<;>decide
theorem pz (e:UInt8->QS) (tx:Nat->QS) (Y:Nat->Option ByteArray) (P:Nat->Option (Nat × Nat)):∀k v,k<=(fh e tx Y P k v).length
 | 0,_=>Nat.zero_le _
 | k+1,v=>by
  have:=pz e tx Y P k (v+1)
  rw[fh,List.length_append]
  simp only[my,List.length_cons];omega
theorem pA (tx:Nat->QS):∀(es:List (Nat × Nat)) (ws:List Nat),es.length<=(fj tx es ws).length
 | [],_=>Nat.zero_le _
 | e::es,ws=>by
  have:=pA tx es ws.tail
  rw[fj,List.length_append]
  simp only[oM,List.length_cons];omega
theorem Bj {e:UInt8->QS} {tx:Nat->QS} {g:Nat->Nat} {D:Dc} (he:∀c:UInt8,bO c.toNat=true->wx e c) (ok:Ok D)
  (hp:∀q∈D.spots,ig rd cl tx g q.1/\ig rd cl tx g q.2) (hw:∀y∈D.weights,ig rd cl tx g y)
  (hs:s.size<=262144) (ht:Spx (ny e tx D) s.data.toList):fL s rd cl= .ok (FA g D):=by
 obtain⟨hN,hE,hb,hL,hl,hS,hW⟩:=ok
 obtain⟨N,dir,es,labels,spots,weights⟩:=D
 simp only at hN hE hb hL hS hW hl hp hw
 show _=Er.ok (Dc.mk N dir es labels (spots.map fun p=>(g p.1,g p.2)) (weights.map g))
 have hlen:=ht.len
 have hn1:=pz e tx (fun v=>labels[v]?) (fun v=>spots[v]?) N 0
 have hn2:=pA tx es weights
 have hsz:N+es.length<=s.size:=by
  simp only[ny,jV,List.length_cons,List.length_append]at hlen
  have:s.data.toList.length=s.size:=rfl
  omega
 unfold ny at ht
 generalize hkq:kX _ _ _=L at ht
 obtain⟨w,t,hw1,ht1,hst⟩:∃w t,Bh w/\Spx (uZ::(L.map jz++(jV e tx (fun v=>labels[v]?) (fun v=>spots[v]?) N dir es weights++[gN 0 cZ]))) t/\s.data.toList=(kW++[63,62])++(w++t):=by
  generalize hq:s.data.toList=q at ht
  cases ht with
  | cons h1 h2=>exact⟨_,_,h1,h2,rfl⟩
 have a:At s 0 (kW++63::62::(w++t)):=by
  have:=At.start s
  rw[hst,List.append_assoc]at this
  exact this
 have h10:10<=s.size:=by
  have:s.data.toList.length=s.size:=rfl
  rw[hst,List.length_append,List.length_append]at this
  have:kW.length=36:=rfl
  omega
 have hd:head s= .ok 38:=by
  have sm:∀{l r:QS} {i:Nat},At s i (l++r)->same s l i=i+l.length:=by
   intro l
   induction l with
   | nil=>intro r i _;rfl
   | cons c l ih=>
    intro r i a
    obtain⟨_,h2,h3⟩:=At.cons (c:=c) (l:=l++r) a
    rw[same,if_pos h2,ih h3,List.length_cons];omega
  have e1:same s kS 0=5:=sm (l:=kS) (r:=kW.drop 5++63::62::(w++t)) a
  have e2:mh s [63,62] (s.size+1) 0=some 36:=by
   have h36:kW.length<s.size+1:=by
    have:=a.len
    rw[List.length_append]at this
    omega
   have:=Aa h36 QA a
   exact this
  unfold head
  simp only[e1]
  rw[if_neg Qz,e2]
  rfl
 have p0:Pl s (uZ::(L.map jz++(jV e tx (fun v=>labels[v]?) (fun v=>spots[v]?) N dir es weights++[gN 0 cZ]))) 38:=by
  refine⟨w,t,hw1,ht1,?_⟩
  have:At s 0 ((kW++[63,62])++(w++t)):=by rw[List.append_assoc];exact a
  exact At.app this
 obtain⟨j0,w2,t2,hb0,hw2,hsp,b⟩:=Pl.go (k:=ind 0) (c:=103) (l:=[114,97,112,104,109,108]++(fO [(xNs,F7)]++[62])) p0 (jr 0) QA
 have b':At s j0 (cZ++(fO [(xNs,F7)]++((if false=true then [47,62]else [62])++(w2++t2)))):=by
  simpa[List.append_assoc,cZ]using b
 obtain⟨tg,j1,tn,tw,tl,he1,b1⟩:=tA (may:=sP s rd cl) (x:=([],{ba with i:=j0})) (x1:=([],{ba with i:=j0+cZ.length})) (k:=cZ) (read:=fun t x=>within s (elem s (aZ s rd cl)) t x) (gK QA ⟨_,_,rfl,QA⟩) (asL:=[(xNs,F7)])
  ⟨by
   intro p hp
   simp only[List.mem_singleton]at hp
   subst hp
   exact⟨gK (k:=xNs) QA ⟨_,_,rfl,QA⟩,by unfold Qs;decide⟩,QB⟩ QB QF b' (fun nm' hnm=>by
   unfold sP
   rw[if_pos hnm];rfl) rfl
 obtain⟨m,hm⟩:∃m,s.size+1=(m+1+1)+L.length:=by
  have:=tE labels.length spots.length weights.length
  rw[hkq]at this
  exact⟨s.size-1-L.length,Qz⟩
 have kQ:∀q∈L,(Qs q.1/\Qs q.2.1/\Qs q.2.2.1/\Qs q.2.2.2)/\(q.2.1=aR\/q.2.1=cN):=by
  rw[<-hkq]
  unfold kX Qs
  split<;>split<;>split<;>decide
 have kN:(L.map (·.1)).Nodup:=by
  rw[<-hkq]
  unfold kX
  split<;>split<;>split<;>decide
 have kh:(0<labels.length->cm (L.map pP) [100,48] aR ey)/\(0<spots.length->cm (L.map pP) [100,49] aR xX/\cm (L.map pP) [100,50] aR xY)/\(0<weights.length->cm (L.map pP) [100,51] cN dX):=by
  rw[<-hkq]
  unfold kX
  split<;>split<;>split<;>refine⟨fun h=>?_,fun h=>?_,fun h=>?_⟩<;>first | contradiction | exact⟨_,rfl⟩ | exact⟨⟨_,rfl⟩,⟨_,rfl⟩⟩
 obtain⟨j2,e2,p2⟩:=z8 (rd:=rd) (cl:=cl) (nm:=tg.name) h10 (L:=L) (m:=m+1+1) (x:=([],{ba with i:=j1})) kQ kN (fun _ _=>rfl) (by
  have:=tE labels.length spots.length weights.length
  rw[hkq]at this
  show 0+_<=_;omega) ⟨w2,t2,hw2,hsp,b1⟩
 have pos:∀{α:Type} {l:List α} {v:Nat} {y:α},l[v]? =some y->y∈l/\0<l.length:=fun h=>⟨List.mem_of_getElem? h,by have:=(List.getElem?_eq_some_iff.1 h).1;omega⟩
 obtain⟨j3,E,e3,p3,e4⟩:=CB (rd:=rd) (cl:=cl) (g:=g) (nm:=tg.name) (m:=m+1) (ks:=L.map pP) (i:=j2) h10 he (fun v y h=>⟨kh.1 (pos h).2,hl y (pos h).1⟩) (fun v q h=>⟨(kh.2.1 (pos h).2).1,(kh.2.1 (pos h).2).2,hp q (pos h).1⟩) (fun y h=>⟨kh.2.2 (List.length_pos_of_mem h),hw y h⟩) hN hE hsz p2
 obtain⟨j4,e5,p4⟩:=qc (el:=elem s (aZ s rd cl)) (nm:=tg.name) (n:=m) (x:=([],{ba with i:=j3,keys:=L.map pP,dir:=dir,graph:=true,n:=N,ids:=mg [110] N,ends:=E,labels:=gh (fun v=>(labels[v]?).getD noB) N,spots:=gh (fun v=>oL g spots[v]?) N,weights:=qC g es weights,h0:=ij (fun v=>labels[v]?) N,h1:=ij (fun v=>spots[v]?) N,h2:=kV es weights})) (gK QA ⟨_,_,rfl,QA⟩) tn (jr 0) p3
 have el:elem s (sP s rd cl) ([],{ba with i:=j0})= .ok ([],{ba with i:=j4,keys:=L.map pP,dir:=dir,graph:=true,n:=N,ids:=mg [110] N,ends:=E,labels:=gh (fun v=>(labels[v]?).getD noB) N,spots:=gh (fun v=>oL g spots[v]?) N,weights:=qC g es weights,h0:=ij (fun v=>labels[v]?) N,h1:=ij (fun v=>spots[v]?) N,h2:=kV es weights}):=by
  rw[he1]
  unfold within
  rw[if_neg (by rw[tw];decide),hm]
  exact Eq.trans e2 (Eq.trans e3 e5)
 have wh:qB s rd cl 38= .ok {ba with i:=j4,keys:=L.map pP,dir:=dir,graph:=true,n:=N,ids:=mg [110] N,ends:=E,labels:=gh (fun v=>(labels[v]?).getD noB) N,spots:=gh (fun v=>oL g spots[v]?) N,weights:=qC g es weights,h0:=ij (fun v=>labels[v]?) N,h1:=ij (fun v=>spots[v]?) N,h2:=kV es weights}:=by
  unfold qB
  rw[hb0]
  simp only[Er.bind]
  rw[el]
  simp only[]
  have:=p4.out
  rw[this]
 unfold fL
 rw[decide_eq_true hs,hd]
 simp only[bJ,Er.bind]
 rw[wh]
 simp only[bJ]
 rw[tv e4 hb]
 simp only[]
 congr 2
 ·rcases hL with rfl | hL
  ·rw[tD];rfl
  ·rw[wE hL,CC hL]
   cases labels<;>rfl
 ·rcases hS with rfl | hS
  ·rw[tD];rfl
  ·have e:gh (fun v=>oL g spots[v]?) N=spots.map fun p=>(g p.1,g p.2):=by
    subst hS
    apply List.ext_getElem (by simp[gh])
    intro i h1 h2
    simp only[gh,List.getElem_map,List.getElem_range]
    rw[List.getElem?_eq_getElem (by simpa using h2)];rfl
   rw[wE hS,e]
   cases spots<;>rfl
 ·rcases hW with rfl | hW
  ·rw[oN];rfl
  ·rw[wF hW]
   cases weights with
   | nil=>rw[oN];rfl
   | cons a l=>
    cases es with
    | nil=>simp at hW
    | cons e es=>rfl
end
end Go.Proofs.YtemphinmoihdaaaGreatDoor.G
namespace Go.Proofs.YtemphinmoihdaaaGreatDoor
open Go.X
set_option maxRecDepth 100000
def KS :TAB:=[
 (0,⟨[.func],false,0,[.tuple #[]],.tuple [],0⟩),
 (1,⟨[.func],false,8,[.nilFunc],.none,4⟩),
 (3,⟨[.int .i64],false,8,[.int .i64 0],.int .i64,6⟩),
 (4,⟨[.bool],false,1,[.bool false],.none,1⟩),
 (5,⟨[.int .u8],false,1,[.int .u8 0],.int .u8,6⟩),
 (9,⟨[.str],false,16,[.string ByteArray.empty],.none,5⟩),
 (12,⟨[.int .u64],false,8,[.int .u64 0],.int .u64,6⟩),
 (21,⟨[.int .i32],false,4,[.int .i32 0],.int .i32,6⟩),
 (22,⟨[.slice],false,24,[.slice none 0 0],.slice 71,2⟩),
 (24,⟨[.int .i64,.slice],true,32,[.int .i64 0,.slice none 0 0],.struct [(0,3),(1,22)],9⟩),
 (25,⟨[.slice],false,24,[.slice none 0 0],.slice 9,2⟩),
 (26,⟨[.slice],false,24,[.slice none 0 0],.slice 68,2⟩),
 (27,⟨[.slice],false,24,[.slice none 0 0],.slice 66,2⟩),
 (29,⟨[.int .i64,.slice,.bool,.slice,.slice,.slice],true,112,[.int .i64 0,.slice none 0 0,.bool false,.slice none 0 0,.slice none 0 0,.slice none 0 0],.struct [(0,24),(2,4),(3,25),(4,26),(5,27)],0⟩),
 (32,⟨[.int .i64],false,8,[.int .i64 0],.int .i64,6⟩),
 (33,⟨[.func],false,0,[.tuple #[.string ByteArray.empty,.int .i64 0]],.tuple [9,32],0⟩),
 (35,⟨[.slice],false,24,[.slice none 0 0],.slice 5,2⟩),
 (36,⟨[.func],false,0,[.tuple #[.agg #[.int .i64 0,.slice none 0 0,.bool false,.slice none 0 0,.slice none 0 0,.slice none 0 0],.int .i64 0,.int .i64 0]],.tuple [29,3,32],0⟩),
 (42,⟨[.ptr],false,8,[.pointer none],.none,3⟩),
 (43,⟨[.ptr],false,8,[.pointer none],.none,3⟩),
 (45,⟨[.ptr,.slice],true,32,[.pointer none,.slice none 0 0],.struct [(0,43),(1,35)],9⟩),
 (47,⟨[.ptr,.slice,.int .i64],true,40,[.pointer none,.slice none 0 0,.int .i64 0],.struct [(0,45),(2,3)],9⟩),
 (53,⟨[.int .i64,.int .i64],true,16,[.int .i64 0,.int .i64 0],.struct [(0,3),(1,32)],9⟩),
 (55,⟨[.ptr],false,8,[.pointer none],.none,3⟩),
 (57,⟨[.str,.int .i64],true,24,[.string ByteArray.empty,.int .i64 0],.struct [(0,9),(1,3)],9⟩),
 (58,⟨[.map],false,8,[.map none],.map 9 148,0⟩),
 (59,⟨[.map],false,8,[.map none],.map 9 3,0⟩),
 (60,⟨[.slice],false,24,[.slice none 0 0],.slice 114,2⟩),
 (61,⟨[.bool,.bool,.bool],true,3,[.bool false,.bool false,.bool false],.array 3 4,0⟩),
 (63,⟨[.str,.int .i64,.int .i64,.slice,.bool,.slice,.slice,.slice,.bool,.map,.map,.slice,.slice,.slice,.slice,.bool,.bool,.bool],true,264,[.string ByteArray.empty,.int .i64 0,.int .i64 0,.slice none 0 0,.bool false,.slice none 0 0,.slice none 0 0,.slice none 0 0,.bool false,.map none,.map none,.slice none 0 0,.slice none 0 0,.slice none 0 0,.slice none 0 0,.bool false,.bool false,.bool false],.struct [(0,57),(2,29),(8,4),(9,58),(10,59),(11,60),(12,25),(13,26),(14,27),(15,61)],0⟩),
 (66,⟨[.float .f64],false,8,[.float .f64 0],.float .f64,7⟩),
 (68,⟨[.float .f64,.float .f64],true,16,[.float .f64 0,.float .f64 0],.struct [(0,66),(1,66)],9⟩),
 (71,⟨[.int .i64,.int .i64],true,16,[.int .i64 0,.int .i64 0],.array 2 3,0⟩),
 (75,⟨[.ifc],false,16,[.nilIface],.none,8⟩),
 (76,⟨[.func],false,0,[.tuple #[.int .i64 0,.nilIface]],.tuple [3,75],0⟩),
 (87,⟨[.func],false,8,[.nilFunc],.none,4⟩),
 (88,⟨[.func],false,8,[.nilFunc],.none,4⟩),
 (89,⟨[.ptr],false,8,[.pointer none],.none,3⟩),
 (91,⟨[.func],false,8,[.nilFunc],.none,4⟩),
 (93,⟨[.int .u64],false,8,[.int .u64 0],.int .u64,6⟩),
 (96,⟨[.func],false,8,[.nilFunc],.none,4⟩),
 (97,⟨[.int .u64],false,8,[.int .u64 0],.int .u64,6⟩),
 (102,⟨[.ptr],false,8,[.pointer none],.none,3⟩),
 (107,⟨[.ptr],false,8,[.pointer none],.none,3⟩),
 (109,⟨[.slice],false,24,[.slice none 0 0],.slice 142,2⟩),
 (111,⟨[.str,.int .i64,.int .i64,.slice,.bool],true,64,[.string ByteArray.empty,.int .i64 0,.int .i64 0,.slice none 0 0,.bool false],.struct [(0,9),(1,3),(2,3),(3,109),(4,4)],0⟩),
 (114,⟨[.str,.int .i64],true,24,[.string ByteArray.empty,.int .i64 0],.struct [(0,9),(1,3)],9⟩),
 (119,⟨[.int .u32],false,4,[.int .u32 0],.int .u32,6⟩),
 (122,⟨[.func],false,0,[.tuple #[.int .u64 0,.int .u64 0]],.tuple [93,93],0⟩),
 (125,⟨[],true,0,[],.struct [],0⟩),
 (126,⟨[],true,0,[],.struct [],0⟩),
 (128,⟨[.int .u32],true,4,[.int .u32 0],.struct [(0,126),(0,119)],0⟩),
 (130,⟨[.int .i32,.int .u32],true,8,[.int .i32 0,.int .u32 0],.struct [(0,21),(1,119)],9⟩),
 (132,⟨[.int .i32,.int .u32],true,8,[.int .i32 0,.int .u32 0],.struct [(0,125),(0,130)],0⟩),
 (134,⟨[.int .u32,.int .i32,.int .u32],true,12,[.int .u32 0,.int .i32 0,.int .u32 0],.struct [(0,125),(0,128),(1,132)],0⟩),
 (136,⟨[.ifc],false,16,[.nilIface],.none,8⟩),
 (138,⟨[.int .u32,.int .i32,.int .u32,.ifc,.slice],true,56,[.int .u32 0,.int .i32 0,.int .u32 0,.nilIface,.slice none 0 0],.struct [(0,134),(3,136),(4,25)],0⟩),
 (142,⟨[.str,.str,.int .i64],true,40,[.string ByteArray.empty,.string ByteArray.empty,.int .i64 0],.struct [(0,9),(1,9),(2,3)],0⟩),
 (145,⟨[.ptr],false,8,[.pointer none],.none,3⟩),
 (148,⟨[.str,.str],true,32,[.string ByteArray.empty,.string ByteArray.empty],.struct [(0,9),(1,9)],9⟩),
 (151,⟨[.ptr],false,8,[.pointer none],.none,3⟩),
 (154,⟨[.float .f32],false,4,[.float .f32 0],.float .f32,7⟩),
 (169,⟨[.func],false,0,[.tuple #[.string ByteArray.empty,.bool false]],.tuple [9,4],0⟩),
 (172,⟨[.func],false,8,[.nilFunc],.none,4⟩),
 (174,⟨[.map],false,8,[.map none],.map 9 172,0⟩),
 (179,⟨[.ptr],false,8,[.pointer none],.none,3⟩),
 (181,⟨[.ptr],false,8,[.pointer none],.none,3⟩),
 (186,⟨(List.replicate 256 (.slice)),true,6144,(List.replicate 256 (.slice none 0 0)),.array 256 35,0⟩),
 (188,⟨(List.replicate 257 (.slice)),true,6168,(List.replicate 257 (.slice none 0 0)),.struct [(0,186),(256,25)],9⟩),
 (189,⟨[.ptr],false,8,[.pointer none],.none,3⟩),
 (194,⟨(List.replicate 32 (.int .u8)),true,32,(List.replicate 32 (.int .u8 0)),.array 32 5,0⟩),
 (195,⟨[.func],false,0,[.tuple #[.int .u64 0,.int .i64 0]],.tuple [93,3],0⟩),
 (197,⟨[.func],false,0,[.tuple #[.int .i64 0,.int .i64 0]],.tuple [3,3],0⟩),
 (208,⟨(List.replicate 20 (.int .u64)),true,160,(List.replicate 20 (.int .u64 0)),.array 20 93,0⟩),
 (212,⟨[.func],false,0,[.tuple #[.int .u8 0,.int .i64 0]],.tuple [5,3],0⟩),
 (214,⟨[.func],false,0,[.tuple #[.string ByteArray.empty,.int .i64 0]],.tuple [9,3],0⟩),
 (216,⟨[.func],false,0,[.tuple #[.float .f64 0,.int .i64 0]],.tuple [66,32],0⟩),
 (237,⟨[.int .u64,.int .u64,.int .i64],true,24,[.int .u64 0,.int .u64 0,.int .i64 0],.struct [(0,93),(1,93),(2,3)],0⟩),
 (239,⟨[.ptr],false,8,[.pointer none],.none,3⟩),
 (240,⟨[.int .u64],false,8,[.int .u64 0],.int .u64,6⟩),
 (250,⟨[.func],false,0,[.tuple #[.float .f64 0,.nilIface]],.tuple [66,75],0⟩),
 (265,⟨[.int .u64,.int .u64],true,16,[.int .u64 0,.int .u64 0],.struct [(0,93),(1,93)],9⟩),
 (266,⟨(List.replicate 1392 (.int .u64)),true,11136,(List.replicate 1392 (.int .u64 0)),.array 696 265,0⟩),
 (281,⟨[.func],false,0,[.tuple #[.float .f64 0,.int .i64 0,.nilIface]],.tuple [66,3,75],0⟩),
 (283,⟨[.int .i64],false,8,[.int .i64 0],.int .i64,6⟩),
 (287,⟨[.func],false,0,[.tuple #[.float .f32 0,.int .i64 0,.nilIface]],.tuple [154,3,75],0⟩),
 (296,⟨[.func],false,0,[.tuple #[.float .f64 0,.int .i64 0,.bool false]],.tuple [66,3,4],0⟩),
 (298,⟨[.func],false,0,[.tuple #[.int .u64 0,.int .i64 0,.bool false,.bool false,.bool false,.int .i64 0,.bool false]],.tuple [93,3,4,4,4,3,4],0⟩),
 (303,⟨[.int .u64,.int .u64,.int .i64],true,24,[.int .u64 0,.int .u64 0,.int .i64 0],.struct [(0,97),(1,97),(2,3)],0⟩),
 (311,⟨[.func],false,0,[.tuple #[.float .f64 0,.bool false]],.tuple [66,4],0⟩)]theorem tabX_ok:bn Tryz.prog KS:=bn.of QC
def qR :List Nat:=[3,4,5,6,7,8,9,10,11,12,13,14,15,16,17,18,19,20,21,22,23,24,25,26,27,28,29,30,31,32,33,34,35,36,37,38,39,40,41,42,43,44,45,47,48,49,50,51,52,53,54,55,56,57,58,59,60,61,62,63,64,65,66,67,70,71,72,73,74,75,76,77,78,79,80,81,82,83,84,85,86,87,88,89,90,92,93,94,95,96,97,98,99,100,101,102,103,104,105,107,108,109,110,111,112,113,114,115,116,117,119,120,121,122,123,126,127,128,129,130,131,132,133,134,135,136,137,138,139,140,141,142,144,145,146,147,148,149,150,151,152,153,155,156,157,158,159,160,161,162,163,164,165,166,167,168,169,170,171,172,173,174,175,176,177,178,179,180,181,182,183,184,185,186,187,188,193,196,197,198,199,200,201,202,203,204,205,206,207,215,216,217,218,219,220,221,222,223,224,225,226,227,228,229,231,232,233,234,236,237,238,239,240,241,242,243,244,261,262,263,264,265,266,267,268,269,270,271,272,273,280,281,282,283,284,304]
theorem AC :dJ Tryz.prog qR:=dJ.of QC
noncomputable def sU (privs : List Nat) (n : Nat) : Env := { P := Tryz.prog, T := KS, F := qR, privs := privs, n := n }
theorem lV (privs:List Nat) (n:Nat):(sU privs n).OK:=⟨tabX_ok,AC,trivial,QC⟩
def qS :List Nat:=[18,19,35,36,37,39,40,41,43,61,63,64,65,66,67,84,85,88,89,90,109,112,113,114,115,116,117,146,147]
theorem HQ :dJ Tryz.prog qS:=dJ.of QC
noncomputable def KT (privs : List Nat) (n : Nat) (Rp : Value -> ab -> Prop) : Env := { P := Tryz.prog, T := KS, F := qR, privs := privs, n := n, FP := qS, pn := some Rp }
theorem HR (privs:List Nat) (n:Nat) (Rp:Value->ab->Prop):(KT privs n Rp).OK:=⟨tabX_ok,AC,HQ,QC⟩
abbrev Qo (ty:TypeId) (z y:Nat) (H:List Nat) (h:ab) (A:QR) (n c m:Nat) (xs:List Value) (K:QR->Nat->ab->Prop):Prop:=∃old,ar h ty z A n c old/\(∀b∈H,b∉ai A)/\(n+m)*y<=140737488355328/\(n+m)<=maxLen/\∀sA sC h',ar h' ty z sA (n+m) sC (old++xs)->Fr (ai A) h h'->((sA=A/\sC=c)\/∃g,sA=some ⟨g,0,none⟩/\h.size<=g)->(c<(n+m)->Fr [] h h')->K sA sC h'
abbrev VP :=Value->ab->Prop
abbrev LP :=List Value->ab->Prop
abbrev Qy (ty:TypeId) (z y:Nat) (H:List Nat) (h:ab) (A:QR) (n c m:Nat) (xs:List Value) (K:QR->Nat->ab->Prop):Prop:=Qo ty z y (h.size::H) (h.push (.cells xs.toArray ty)) A n c m xs K
theorem aN {S:Prop} {f:FuncId} {fn:Func} {args:List Value} {h:ab} {R:Value->ab->Prop} (p:List Nat) (n:Nat) (l j b:List (Nat × LD)) (d:List (Nat × DD)) (hf:Tryz.prog.funcs[f]? =some fn) (k:(Nat.beq fn.ntmps n&&(fn.body.isSome&&Nat.ble args.length n))=true) (e:S=FX (sU p n) {loops:=l,joins:=j,blocks:=b,draws:=d} fn (fn.body.getD .skip) args h R) (H:S):ae Tryz.prog f args.toArray h R:=by
 simp only[Bool.and_eq_true]at k
 obtain⟨k1,k2,k3⟩:=k
 obtain⟨c,hc⟩:=Option.isSome_iff_exists.1 k2
 rw[hc]at e
 exact jo (E:=sU p n) (lV _ _) hf hc k1 k3 (e▸H)
theorem fS {S:Prop} {f:FuncId} {fn:Func} {args:List Value} {h:ab} {R Rp:Value->ab->Prop} (p:List Nat) (n:Nat) (l j b:List (Nat × LD)) (d:List (Nat × DD)) (hf:Tryz.prog.funcs[f]? =some fn) (k:(Nat.beq fn.ntmps n&&(fn.body.isSome&&Nat.ble args.length n))=true) (e:S=FX (KT p n Rp) {loops:=l,joins:=j,blocks:=b,draws:=d} fn (fn.body.getD .skip) args h R) (H:S):aB Tryz.prog f args.toArray h R Rp:=by
 simp only[Bool.and_eq_true]at k
 obtain⟨k1,k2,k3⟩:=k
 obtain⟨c,hc⟩:=Option.isSome_iff_exists.1 k2
 rw[hc]at e
 exact vP (E:=KT p n Rp) (HR _ _ _) hf hc k1 k3 rfl (e▸H)
abbrev QG:=aj Tryz.prog
abbrev QH:=ae Tryz.prog
abbrev QI:=aw Tryz.prog
abbrev QJ:=aB Tryz.prog
abbrev QL:=bZ Tryz.prog
end Go.Proofs.YtemphinmoihdaaaGreatDoor
