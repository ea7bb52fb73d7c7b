/- A text of GraphML that is written by hand: elements, notes, numbers' parts, by what is left of the text. Conditions: none. -/
import Derived.Test.YtemphinmoihdaaaGreatDoorMLex
set_option linter.unusedVariables false
set_option linter.unusedSimpArgs false
namespace Go.Proofs.YtemphinmoihdaaaGreatDoor.G
section
variable {s:ByteArray}
theorem z6 {n i:Nat} {w l:QS} {c:UInt8} (hw:Bs w) (hc:c≠33) (a:At s i (w++60::c::l)):dS s (n+1) i= .ok (some (i+w.length+1))/\At s (i+w.length+1) (c::l):=by
 obtain⟨r1,a1⟩:=it hw (kF.cons QA) a
 obtain⟨b1,b2,b3⟩:=a1.cons
 obtain⟨w1,a2⟩:=jh a1
 have w1:want s 60 (i+w.length)= .ok (i+w.length+1):=w1
 obtain⟨_,c2,_⟩:=a2.cons
 refine⟨?_,a2⟩
 rw[dS]
 simp only[r1]
 rw[if_neg Qz,w1]
 simp only[Er.bind]
 rw[if_pos (by rw[c2];intro e;exact hc (UInt8.toNat_inj.1 e))]
theorem z7 :∀{note l:QS} {f k:Nat},note.length<f->(∀c∈note,c≠45)->At s k (note++(cC++l))->mh s cC f k=some (k+note.length)
 | [],l,f,k,hf,hn,a=>by
  cases f with
  | zero=>simp at hf
  | succ f=>rw[mh,if_pos (jQ (w:=cC) a)];rfl
 | c::note,l,f,k,hf,hn,a=>by
  cases f with
  | zero=>simp at hf
  | succ f=>
   obtain⟨_,_,a2⟩:=At.cons (c:=c) (l:=note++(cC++l)) a
   have no:preB s k cC=false:=nh (w:=[]) (l:=(c::note)++(cC++l)) a (fun r e=>by
    have:=hn c QB
    simp only[List.nil_append,List.cons_append,cC,List.cons.injEq]at e
    exact this e.1)
   rw[mh,no]
   simp only[Bool.false_eq_true,if_false]
   rw[z7 (by simpa using hf) (fun d hd=>hn d (by simp[hd])) a2,List.length_cons]
   congr 1;omega
theorem tu {n i:Nat} {w note l:QS} (hw:Bs w) (hn:∀c∈note,c≠45) (a:At s i (w++60::33::45::45::(note++(cC++l)))):dS s (n+1) i=dS s n (i+w.length+4+note.length+3)/\At s (i+w.length+4+note.length+3) l:=by
 obtain⟨r1,a1⟩:=it hw (kF.cons QA) a
 obtain⟨b1,b2,b3⟩:=a1.cons
 obtain⟨w1,a2⟩:=jh a1
 have w1:want s 60 (i+w.length)= .ok (i+w.length+1):=w1
 obtain⟨_,c2,a3⟩:=a2.cons
 have c2:bt s (i+w.length+1)=33:=c2
 obtain⟨w3,a4⟩:=jh a3
 have w3:want s 45 (i+w.length+1+1)= .ok (i+w.length+1+1+1):=w3
 obtain⟨w4,a5⟩:=jh a4
 have w4:want s 45 (i+w.length+1+1+1)= .ok (i+w.length+1+1+1+1):=w4
 have ln:=a5.len
 rw[List.length_append]at ln
 have ls:=a5.1
 have sk:=z7 (f:=s.size+1-(i+w.length+1+1+1+1)) Qz hn a5
 have a6:=At.app a5
 have a7:At s _ l:=At.app (w:=cC) a6
 refine⟨?_,a7⟩
 rw[dS]
 simp only[r1]
 rw[if_neg Qz,w1]
 simp only[Er.bind]
 rw[if_neg (by rw[c2];simp),w3]
 simp only[]
 rw[w4]
 simp only[]
 rw[sk]
theorem FY {may:My} {x x1:Xs} {k l:QS} {read:Kd} {L:List Atr} {w:Bool} {j:Nat} (hk:Nx k l) (a:At s x.2.i (k++l)) (hm:∀nm:ByteArray,nm.data.toList=k->may nm x.2.i (x.at (x.2.i+k.length))= .ok (x1,read)) (ha:bw s (s.size+1) [] x1.2.i= .ok (L,w,j)):
  ∃nm:ByteArray,nm.data.toList=k/\elem s may x=read ⟨nm,x.2.i-1,x.2.i,L,w⟩ (x1.at j):=by
 obtain⟨nm,hnm,hn,_⟩:=uT hk a
 refine⟨nm,hnm,?_⟩
 unfold elem
 rw[hn]
 simp only[Er.bind]
 rw[hm nm hnm]
 simp only[]
 rw[ha]
theorem qy {el:Xs->Er Xs} {nm:ByteArray} {n i:Nat} {x x':Xs} {c:UInt8} {l:QS} (hb:dS s (s.size+1) x.2.i= .ok (some i)) (a:At s i (c::l)) (hc:c≠47) (he:el (x.at i)= .ok x'):inX s el nm (n+1) x=inX s el nm n x':=by
 obtain⟨_,c2,_⟩:=a.cons
 rw[inX,hb]
 simp only[Er.bind]
 rw[if_neg (by rw[c2];intro e;exact hc (UInt8.toNat_inj.1 e)),he]
end
section
variable {s:ByteArray} {rd:ByteArray->Option (Nat × Nat)} {cl:Nat->Nat}
def id1 :UInt8->QS:=fun c=>[c]
theorem Jx {q:UInt8} {x:QS} (hx:∀c∈x,bO c.toNat=true/\c≠60/\c≠38/\c≠q):∀c∈x,zZ (fun c=>decide (c=q.toNat)) (fun c=>bO c&&decide (c≠60)) id1 c:=by
 intro c hc
 obtain⟨h1,h2,h3,h4⟩:=hx c hc
 refine .inl ⟨rfl,?_,fun e=>h3 (UInt8.toNat_inj.1 e),?_⟩
 ·rw[decide_eq_false_iff_not];exact fun e=>h4 (UInt8.toNat_inj.1 e)
 ·show(bO c.toNat&&decide (c.toNat≠60))=true
  rw[h1,Bool.true_and,decide_eq_true_eq];exact fun e=>h2 (UInt8.toNat_inj.1 e)
def b32 :QS:=[32]
theorem PF :Bs b32:=by intro c hc;simp only[b32,List.mem_singleton]at hc;subst hc;decide
theorem Cr {a b:ByteArray} (h:a.data.toList=b.data.toList):eqB a b=true:=by unfold eqB;rw[h];simp
theorem yN (l:QS):(mkB l).data.toList=l:=by simp[mkB]
theorem wq {n i:Nat} {L:List Atr} {w l:QS} (hw:Bs w) (a:At s i (w++62::l)):∃j,bw s (n+1) L i= .ok (L,false,j)/\At s j l:=⟨_,yL hw a⟩
theorem wt {n i:Nat} {L:List Atr} {w l:QS} (hw:Bs w) (a:At s i (w++47::62::l)):∃j,bw s (n+1) L i= .ok (L,true,j)/\At s j l:=⟨_,yM hw a⟩
end
section
variable {s:ByteArray} {rd:ByteArray->Option (Nat × Nat)} {cl:Nat->Nat}
def wu (M:QS) (es:List (Nat × Nat)):List ByteArray:=es.flatMap fun e=>[mkB (M++dec e.1),mkB (M++dec e.2)]
def mg (M:QS) (v:Nat):List (ByteArray × Nat):=(List.range v).map fun p=>(mkB (M++dec p),p)
theorem FZ (M:QS) (v:Nat):((mg M v).any fun p=>eqB p.1 (mkB (M++dec v)))=false:=by
 rw[List.any_eq_false]
 intro p hp
 obtain⟨q,hq,rfl⟩:=List.mem_map.1 hp
 have hq:=List.mem_range.1 hq
 simp only[eqB,yN,beq_iff_eq,List.append_cancel_left_eq]
 intro e
 have:=congrArg yC e
 rw[ni,ni]at this
 omega
theorem gK {k:QS} (h:(k.all fun c=>jb c.toNat)=true) (h2:∃c r,k=c::r/\kz c.toNat=true):(∃c r,k=c::r/\kz c.toNat=true)/\∀c∈k,jb c.toNat=true:=⟨h2,List.all_eq_true.1 h⟩
end
section
variable {s:ByteArray} {rd:ByteArray->Option (Nat × Nat)} {cl:Nat->Nat}
theorem wv {M:QS} {N k at_:Nat} (h:k<N):jj (mg M N) (mkB (M++dec k),at_)= .ok k:=by
 unfold jj
 cases hf:(mg M N).find? fun p=>eqB p.1 (mkB (M++dec k))with
 | none=>
  have:=List.find?_eq_none.1 hf (mkB (M++dec k),k) (List.mem_map.2 ⟨k,List.mem_range.2 h,rfl⟩)
  exact absurd (Cr rfl) this
 | some p=>
  have h2:=List.find?_some hf
  obtain⟨q,hq,rfl⟩:=List.mem_map.1 (List.mem_of_find?_eq_some hf)
  simp only[eqB,yN,beq_iff_eq,List.append_cancel_left_eq]at h2
  have:=congrArg yC h2
  rw[ni,ni]at this
  subst this;rfl
theorem tv {M:QS} {N:Nat}:∀{es:List (Nat × Nat)} {E:List (ByteArray × Nat)},E.map (·.1)=wu M es->(∀e∈es,e.1<N/\e.2<N)->dt (mg M N) E= .ok es
 | [],E,h,_=>by
  have:E=[]:=by simpa[wu]using h
  subst this;rfl
 | e::es,E,h,hb=>by
  have h:E.map (·.1)=mkB (M++dec e.1)::mkB (M++dec e.2)::wu M es:=h
  match E,h with
  | (n1,a1)::(n2,a2)::E,h=>
   simp only[List.map_cons,List.cons.injEq]at h
   obtain⟨rfl,rfl,h⟩:=h
   have b:=hb e QB
   rw[dt,wv b.1]
   simp only[Er.bind]
   rw[wv b.2]
   simp only[]
   rw[tv h fun e he=>hb e (by simp[he])]
end
def ind (n:Nat):QS:=List.replicate n 32
section
variable {s:ByteArray} {rd:ByteArray->Option (Nat × Nat)} {cl:Nat->Nat} {tx:Nat->QS}
structure Ok (d:Dc):Prop where
 n:d.n<=1024
 m:d.edges.length<=3072
 e:∀e∈d.edges,e.1<d.n/\e.2<d.n
 l:d.labels=[]\/d.labels.length=d.n
 p:∀l∈d.labels,l.size<=256/\∀c∈l.data.toList,bO c.toNat=true
 s:d.spots=[]\/d.spots.length=d.n
 w:d.weights=[]\/d.weights.length=d.edges.length
def FA (g:Nat->Nat) (d:Dc):Dc:={d with spots:=d.spots.map fun p=>(g p.1,g p.2),weights:=d.weights.map g}
end
section
variable {s:ByteArray} {rd:ByteArray->Option (Nat × Nat)} {cl:Nat->Nat}
def fO (asL:List (QS × QS)):QS:=asL.flatMap fun p=>32::oJ p.1 34 id1 p.2
def Qs (x:QS):Prop:=∀c∈x,bO c.toNat=true/\c≠60/\c≠38/\c≠34
def Nk (k:QS):Prop:=(∃c r,k=c::r/\kz c.toNat=true)/\∀c∈k,jb c.toNat=true
def saL (L:List Atr):List (QS × ByteArray):=L.map fun a=>(a.name.data.toList,a.says)
def PG (asL:List (QS × QS)):Prop:=(∀p∈asL,Nk p.1/\Qs p.2)/\(asL.map (·.1)).Nodup
theorem px :∀{asL:List (QS × QS)} {n i:Nat} {L:List Atr} {l:QS},(∀p∈asL,Nk p.1/\Qs p.2)->((saL L).map (·.1)++asL.map (·.1)).Nodup->At s i (fO asL++l)->
  ∃L' j,saL L'=saL L++asL.map (fun p=>(p.1,mkB p.2))/\bw s (n+asL.length) L i=bw s n L' j/\At s j l
 | [],n,i,L,l,_,_,a=>⟨L,i,QB,rfl,a⟩
 | (k,x)::asL,n,i,L,l,h,d,a=>by
  have h1:=h (k,x) QB
  have a:At s i (b32++(oJ k 34 id1 x++(fO asL++l))):=by simpa[fO,b32,List.append_assoc]using a
  have nw:∀t∈L,t.name.data.toList≠k:=fun t ht e=>by
   rw[List.nodup_append]at d
   exact d.2.2 k (List.mem_map.2 ⟨(k,t.says),List.mem_map.2 ⟨t,ht,by rw[e]⟩,rfl⟩) k QB rfl
  obtain⟨t,n1,v1,e1,b1⟩:=wm (n:=n+asL.length) (L:=L) PF (by simp[b32]) (q:=34) (e:=id1) ⟨h1.1,.inl rfl,Jx h1.2,nw⟩ a
  obtain⟨L',j,e2,e3,b2⟩:=px (asL:=asL) (n:=n) (L:=L++[t]) (fun p hp=>h p (by simp[hp])) (by simpa[saL,n1]using d) b1
  exact⟨L',j,by rw[e2];simp[saL,n1,v1],by rw[List.length_cons,<-Nat.add_assoc,e1,e3],b2⟩
theorem jk {t:Tg} {asL:List (QS × ByteArray)} (h:saL t.list=asL) {nm:QS} {x:ByteArray} (hf:(asL.find? fun p=>p.1==nm)=some (nm,x)):aG t nm=x/\(kO t nm).isSome=true:=by
 subst h
 unfold saL at hf
 rw[List.find?_map]at hf
 obtain⟨a,ha,hfa⟩:=Option.map_eq_some_iff.1 hf
 have ha:kO t nm=some a:=ha
 unfold aG
 rw[ha]
 exact⟨(Prod.mk.injEq .. ▸hfa).2,rfl⟩
theorem jy {t:Tg}:∀{ns:List QS},(∀n∈ns,(kO t n).isSome=true)->fJ t ns= .ok ()
 | [],_=>rfl
 | n::ns,h=>by
  unfold fJ
  rw[h n QB]
  exact jy fun m hm=>h m (by simp[hm])
theorem tz {r:Xd}:∀{l:List Atr},(∀a∈l,(a.name.data.toList=fN->a.says.data.toList=aR\/a.says.data.toList=cN)/\(a.name.data.toList=xId->(r.keys.any fun k=>eqB k.1 a.says)=false))->cM r l= .ok ()
 | [],_=>rfl
 | a::l,h=>by
  have ih:=tz fun b hb=>h b (List.mem_cons_of_mem a hb)
  obtain⟨h1,h2⟩:=h a QB
  unfold cM
  split
  ·rename_i q;rw[decide_eq_true (h1 q)];exact ih
  split
  ·rename_i q;rw[h2 q];exact ih
  ·exact ih
theorem tA {may:My} {x x1:Xs} {k l:QS} {asL:List (QS × QS)} {w:Bool} {read:Kd} (hk:Nk k) (ok:PG asL) (h0:asL≠[]) (hs:asL.length<=s.size) (a:At s x.2.i (k++(fO asL++((if w=true then [47,62]else [62])++l))))
  (hm:∀nm:ByteArray,nm.data.toList=k->may nm x.2.i (x.at (x.2.i+k.length))= .ok (x1,read)) (hi:x1.2.i=x.2.i+k.length):
  ∃t j,t.name.data.toList=k/\t.whole=w/\saL t.list=asL.map (fun p=>(p.1,mkB p.2))/\elem s may x=read t (x1.at j)/\At s j l:=by
 have a2:=At.app a
 obtain⟨n,hn⟩:∃n,s.size+1=(n+1)+asL.length:=⟨s.size-asL.length,Qz⟩
 obtain⟨L',j,e1,e2,b⟩:=px (n:=n+1) (L:=[]) ok.1 (by simpa[saL]using ok.2) a2
 have e3:∃j',bw s (n+1) L' j= .ok (L',w,j')/\At s j' l:=by
  cases w with
  | true=>exact wt (w:=[]) (fun c hc=>by cases hc) b
  | false=>exact wq (w:=[]) (fun c hc=>by cases hc) b
 obtain⟨j',e3,b3⟩:=e3
 have nx:Nx k (fO asL++((if w=true then [47,62]else [62])++l)):=by
  obtain⟨p,asL,rfl⟩:=List.exists_cons_of_ne_nil h0
  exact⟨hk.1,hk.2,show kF jb (32::_)from kF.cons QA⟩
 obtain⟨nm,hnm,he⟩:=FY nx a hm (by rw[hi,hn,e2,e3])
 exact⟨_,j',hnm,rfl,by simpa[saL]using e1,he,b3⟩
def Bh (w:QS):Prop:=w=[10]\/∃m:QS,(∀c∈m,c≠45)/\w=10::9::60::33::45::45::(m++(cC++[13,10]))
theorem tB {w:QS} (h:(w.all fun c=>cj c.toNat)=true):Bs w:=List.all_eq_true.1 h
theorem Cs {v w:QS} (h:Bs v) (k:Bs w):Bs (v++w):=fun c hc=>(List.mem_append.1 hc).elim (h c) (k c)
theorem jr (n:Nat):Bs (ind n):=fun c hc=>by
 have:=(List.mem_replicate.1 hc).2
 rw[this];decide
theorem Ct {w k l:QS} {c:UInt8} {i:Nat} (hw:Bh w) (hk:Bs k) (hc:c≠33) (a:At s i (w++(k++60::c::l))):∃j,dS s (s.size+1) i= .ok (some j)/\At s j (c::l):=by
 rcases hw with rfl | ⟨m,hm,rfl⟩
 ·obtain⟨h1,h2⟩:=z6 (n:=s.size) (w:=[10]++k) (Cs (tB QA) hk) hc (by rw[List.append_assoc];exact a)
  exact⟨_,h1,h2⟩
 ·have a:At s i ([10,9]++60::33::45::45::(m++(cC++(([13,10]++k)++60::c::l)))):=by simpa[List.append_assoc]using a
  obtain⟨h1,h2⟩:=tu (n:=s.size) (tB QA) hm a
  obtain⟨n,hn⟩:∃n,s.size=n+1:=⟨s.size-1,by have:=a.cons.1;omega⟩
  obtain⟨h3,h4⟩:=z6 (n:=n) (Cs (tB QA) hk) hc h2
  exact⟨_,h1.trans (by rw[hn];exact h3),h4⟩
theorem ww {w:QS} {n i:Nat} (hw:Bs w) (a:At s i w):dS s (n+1) i= .ok none:=by
 have a:At s i (w++[]):=by rw[List.append_nil];exact a
 have r1:run cj s i=i+w.length:=uJ a hw (fun c r e=>by cases e)
 have:=(At.app a).nil
 rw[dS]
 simp only[r1]
 rw[if_pos Qz]
theorem Cu {w:QS} {i:Nat} (hw:Bh w) (a:At s i w):dS s (s.size+1) i= .ok none:=by
 rcases hw with rfl | ⟨m,hm,rfl⟩
 ·exact ww (tB QA) a
 ·have a:At s i ([10,9]++60::33::45::45::(m++(cC++[13,10]))):=a
  obtain⟨h1,h2⟩:=tu (n:=s.size) (tB QA) hm a
  obtain⟨n,hn⟩:∃n,s.size=n+1:=⟨s.size-1,by have:=a.cons.1;omega⟩
  exact h1.trans (by rw[hn];exact ww (tB QA) h2)
inductive Spx :List QS->QS->Prop where
 | nil:Spx [] []
 | cons {l w t:QS} {ls:List QS}:Bh w->Spx ls t->Spx (l::ls) (l++(w++t))
def Pl (s:ByteArray) (ls:List QS) (i:Nat):Prop:=∃w t,Bh w/\Spx ls t/\At s i (w++t)
theorem Pl.go {ls:List QS} {k l:QS} {c:UInt8} {i:Nat} (p:Pl s ((k++60::c::l)::ls) i) (hk:Bs k) (hc:c≠33):∃j w t,dS s (s.size+1) i= .ok (some j)/\Bh w/\Spx ls t/\At s j (c::(l++(w++t))):=by
 obtain⟨w,t,hw,ht,a⟩:=p
 cases ht with
 | cons hw2 ht=>
  rw[List.append_assoc]at a
  obtain⟨j,h1,h2⟩:=Ct hw hk hc a
  exact⟨j,_,_,h1,hw2,ht,h2⟩
theorem Pl.out {i:Nat} (p:Pl s [] i):dS s (s.size+1) i= .ok none:=by
 obtain⟨w,t,hw,ht,a⟩:=p
 cases ht
 rw[List.append_nil]at a
 exact Cu hw a
theorem qc {el:Xs->Er Xs} {nm:ByteArray} {n:Nat} {x:Xs} {k b:QS} {ls:List QS} (hk:Nk k) (hnm:nm.data.toList=k) (hb:Bs b) (p:Pl s ((b++60::47::(k++[62]))::ls) x.2.i):
  ∃j,inX s el nm (n+1) x= .ok (x.at j)/\Pl s ls j:=by
 obtain⟨j,w,t,h1,hw,ht,a⟩:=p.go hb QA
 obtain⟨_,c2,_⟩:=a.cons
 obtain⟨hc,a2⟩:=wn hk hnm (w:=[]) (l:=w++t) (fun c hc=>by cases hc) (by simpa[List.append_assoc]using a)
 refine⟨_,?_,w,t,hw,ht,a2⟩
 rw[inX,h1]
 simp only[Er.bind]
 rw[if_pos (by rw[c2];rfl),hc]
end
section
variable {s:ByteArray} {rd:ByteArray->Option (Nat × Nat)} {cl:Nat->Nat}
def dT (k y:QS):QS:=ind 6++60::(fK++(fO [(hO,k)]++(62::(y++60::47::(fK++[62])))))
abbrev wx (e:UInt8->QS) (c:UInt8):Prop:=zZ (fun c=>decide (c=60)) (fun c=>bO c||cj c) e c
theorem PH :Bs []:=fun c hc=>by cases hc
theorem Cv :Nk fK:=gK QA ⟨_,_,rfl,QA⟩
theorem IM :Nk hO:=gK QA ⟨_,_,rfl,QA⟩
theorem Cw :Nk aR:=gK QA ⟨_,_,rfl,QA⟩
theorem Cx :Nk cN:=gK QA ⟨_,_,rfl,QA⟩
def cm (ks:List (ByteArray × ByteArray × ByteArray)) (k o n:QS):Prop:=∃kk,(ks.find? fun q=>eqB q.1 (mkB k))=some (kk,mkB o,mkB n)
theorem qe {node:Bool} {v n:Nat} {nm:ByteArray} {kid o name y0:QS} {e:UInt8->QS} {f:Xd->Xd} {x:Xs} {ls:List QS} (hq:Qs kid) (hf:cm x.2.keys kid o name) (ho:nm.data.toList=o) (h0:dq node name≠0) (hc:x.1.contains name=false)
  (he:∀c∈y0,wx e c) (ht:∀at_ i,dQ rd cl (dq node name) v (mkB y0) at_ {x.2 with i:=i}= .ok {f x.2 with i:=i}) (p:Pl s (dT kid (y0.flatMap e)::ls) x.2.i):
  ∃j,inX s (elem s (ic s rd cl node v nm)) nm (n+1) x=inX s (elem s (ic s rd cl node v nm)) nm n (x.1++[name],{f x.2 with i:=j})/\Pl s ls j:=by
 obtain⟨j0,w,t,hb,hw,hsp,a⟩:=Pl.go (k:=ind 6) (c:=100) p (jr 6) QA
 have hs1:1<=s.size:=by have:=a.cons.1;omega
 have a':At s j0 (fK++(fO [(hO,kid)]++((if false=true then [47,62]else [62])++(y0.flatMap e++60::47::(fK++([]++62::(w++t))))))):=by
  simpa[List.append_assoc,fK]using a
 obtain⟨tg,j1,tn,tw,tl,he1,b⟩:=tA (may:=ic s rd cl node v nm) (x:=x.at j0) (x1:=x.at (j0+fK.length)) (read:=mj s rd cl node v nm) Cv (asL:=[(hO,kid)]) ⟨by simpa using⟨IM,hq⟩,QB⟩ QB hs1 a' (fun nm' hnm=>by unfold ic;rw[if_pos hnm];rfl) rfl
 have tx:=yK (ends:=fun c=>decide (c=60)) (may:=fun c=>bO c||cj c) (q:=60) QA (out:=[]) b he
 rw[List.nil_append]at tx
 have b5:=At.app b
 obtain⟨_,_,b6⟩:=b5.cons
 obtain⟨hcl,b7⟩:=wn (nm:=tg.name) (k:=fK) (w:=[]) Cv tn PH b6
 obtain⟨s1,g1⟩:=jk tl (nm:=hO) (x:=mkB kid) QB
 have nd:fJ tg [hO]= .ok ():=jy (by simpa using g1)
 refine⟨_,qy hb a QA ?_,w,t,hw,hsp,b7⟩
 rw[he1]
 obtain⟨kk,hf⟩:=hf
 have co:∀z:Xs,z.2.i=j1->gG s tg z= .ok (mkB y0,j1,z.at (j1+(y0.flatMap e).length+1+1+fK.length+([]:QS).length+1)):=by
  intro z hz
  unfold gG
  rw[if_neg (by rw[tw];decide),hz,tx]
  simp only[Er.bind]
  rw[hcl]
 have hf:((x.at (j0+fK.length)).at j1).2.keys.find? (fun q=>eqB q.1 (mkB kid))=some (kk,mkB o,mkB name):=hf
 have hc:((x.at (j0+fK.length)).at j1).1.contains name=false:=hc
 unfold mj
 rw[nd,s1]
 simp only[Er.bind]
 rw[hf]
 simp only[]
 rw[Cr (a:=mkB o) (b:=nm) (by rw[yN,ho])]
 simp only[bJ,yN]
 rw[decide_eq_false h0,Bool.false_or,hc]
 simp only[Bool.not_false,if_neg h0]
 rw[co _ rfl]
 simp only[]
 rw[show ∀q,dQ rd cl (dq node name) v (mkB y0) j1 (Xs.at ((Xs.at (x.at (j0+fK.length)) j1).1++[name],(Xs.at (x.at (j0+fK.length)) j1).2) q).2= .ok {f x.2 with i:=q}from fun q=>ht j1 q]
 rfl
def ig (rd:ByteArray->Option (Nat × Nat)) (cl:Nat->Nat) (tx:Nat->QS) (g:Nat->Nat) (x:Nat):Prop:=(∀at_,pO rd cl (mkB (tx x)) at_= .ok (g x))/\∀c∈tx x,bO c.toNat=true/\c≠60/\c≠38
theorem uU {c:UInt8} (h:bO c.toNat=true/\c≠60/\c≠38):wx id1 c:=by
 refine .inl ⟨rfl,?_,fun e=>h.2.2 (UInt8.toNat_inj.1 e),by show(bO c.toNat||cj c.toNat)=true;rw[h.1];rfl⟩
 rw[decide_eq_false_iff_not];exact fun e=>h.2.1 (UInt8.toNat_inj.1 e)
theorem py (l:QS):l.flatMap id1=l:=by
 induction l with
 | nil=>rfl
 | cons c l ih=>rw[List.flatMap_cons,ih];rfl
theorem F0 {c d:UInt8} (h:(bO c.toNat=true/\c≠60/\c≠38/\c≠34)/\bO d.toNat=true/\d≠60/\d≠38/\d≠34):Qs [c,d]:=fun x hx=>by
 simp only[List.mem_cons,List.not_mem_nil,or_false]at hx
 rcases hx with rfl | rfl
 ·exact h.1
 ·exact h.2
def kT (e:UInt8->QS):Option ByteArray->List QS
 | some x=>[dT [100,48] (x.data.toList.flatMap e)]
 | none=>[]
def kU (tx:Nat->QS):Option (Nat × Nat)->List QS
 | some p=>[dT [100,49] (tx p.1),dT [100,50] (tx p.2)]
 | none=>[]
def oK (tx:Nat->QS):Option Nat->List QS
 | some x=>[dT [100,51] (tx x)]
 | none=>[]
def wy (v:Nat):Option ByteArray->List ByteArray->List ByteArray
 | some x,l=>l.set v x
 | none,l=>l
def Bi (g:Nat->Nat) (v:Nat):Option (Nat × Nat)->List (Nat × Nat)->List (Nat × Nat)
 | some p,l=>(l.modify v fun q=>(g p.1,q.2)).modify v fun q=>(q.1,g p.2)
 | none,l=>l
def yO (g:Nat->Nat) (v:Nat):Option Nat->List Nat->List Nat
 | some x,l=>l.set v (g x)
 | none,l=>l
theorem F1 (x:ByteArray):mkB x.data.toList=x:=rfl
theorem Jy {e:UInt8->QS} {lo:Option ByteArray} {nm:ByteArray} {v n:Nat} {r:Xd} {ls:List QS} (hnm:nm.data.toList=aR) (hk:∀x,lo=some x->cm r.keys [100,48] aR ey/\x.size<=256/\∀c∈x.data.toList,bO c.toNat=true)
  (he:∀c:UInt8,bO c.toNat=true->wx e c) (p:Pl s (kT e lo++ls) r.i):
  ∃j sn,inX s (elem s (ic s rd cl true v nm)) nm (n+(kT e lo).length) ([],r)=inX s (elem s (ic s rd cl true v nm)) nm n (sn,{r with i:=j,labels:=wy v lo r.labels,h0:=r.h0||lo.isSome})/\Pl s ls j/\∀k∈sn,k=ey:=by
 cases lo with
 | none=>exact⟨r.i,[],by simp[kT,wy],p,QB⟩
 | some x=>
  obtain⟨k1,k2,k3⟩:=hk x rfl
  obtain⟨j,h1,h2⟩:=qe (rd:=rd) (cl:=cl) (n:=n) (node:=true) (v:=v) (nm:=nm) (x:=([],r)) (name:=ey) (f:=fun r=>{r with labels:=r.labels.set v x,h0:=true}) (F0 QA) k1 hnm QA rfl (fun c hc=>he c (k3 c hc)) (fun at_ i=>by
   rw[show dq true ey=1 from rfl]
   unfold dQ
   rw[if_pos rfl,F1,decide_eq_true k2,List.all_eq_true.2 k3];rfl) p
  exact⟨j,[ey],by simpa[kT,wy]using h1,h2,QB⟩
theorem Jz {tx:Nat->QS} {g:Nat->Nat} {po:Option (Nat × Nat)} {nm:ByteArray} {v n:Nat} {x:Xs} {ls:List QS} (hnm:nm.data.toList=aR) (hx:∀k∈x.1,k=ey)
  (hk:∀p,po=some p->cm x.2.keys [100,49] aR xX/\cm x.2.keys [100,50] aR xY/\ig rd cl tx g p.1/\ig rd cl tx g p.2) (p:Pl s (kU tx po++ls) x.2.i):
  ∃j sn,inX s (elem s (ic s rd cl true v nm)) nm (n+(kU tx po).length) x=inX s (elem s (ic s rd cl true v nm)) nm n (sn,{x.2 with i:=j,spots:=Bi g v po x.2.spots,h1:=x.2.h1||po.isSome})/\Pl s ls j:=by
 cases po with
 | none=>exact⟨x.2.i,x.1,by simp[kU,Bi],p⟩
 | some q=>
  obtain⟨k1,k2,k3,k4⟩:=hk q rfl
  have nc:∀k:QS,k≠ey->x.1.contains k=false:=fun k hn=>by
   cases hh:x.1.contains k with
   | false=>rfl
   | true=>exact absurd (hx k (by simpa using hh)) hn
  have p:Pl s (dT [100,49] ((tx q.1).flatMap id1)::(dT [100,50] ((tx q.2).flatMap id1)::ls)) x.2.i:=by rw[py,py];exact p
  obtain⟨j,h1,h2⟩:=qe (rd:=rd) (cl:=cl) (n:=n+1) (node:=true) (v:=v) (nm:=nm) (x:=x) (name:=xX) (f:=fun r=>{r with spots:=r.spots.modify v fun z=>(g q.1,z.2),h1:=true}) (F0 QA) k1 hnm QA (nc xX QA) (fun c hc=>uU (k3.2 c hc)) (fun at_ i=>by
   rw[show dq true xX=2 from rfl]
   unfold dQ
   rw[if_neg QA,k3.1];rfl) p
  obtain⟨j2,h3,h4⟩:=qe (rd:=rd) (cl:=cl) (n:=n) (node:=true) (v:=v) (nm:=nm) (name:=xY) (f:=fun r=>{r with spots:=r.spots.modify v fun z=>(z.1,g q.2),h1:=true}) (x:=(x.1++[xX],{x.2 with i:=j,spots:=x.2.spots.modify v fun z=>(g q.1,z.2),h1:=true})) (F0 QA) k2 hnm QA (by
   rw[show(x.1++[xX]).contains xY=(x.1.contains xY||[xX].contains xY) by simp,nc xY QA];decide) (fun c hc=>uU (k4.2 c hc)) (fun at_ i=>by
   rw[show dq true xY=3 from rfl]
   unfold dQ
   rw[if_neg QA,k4.1];rfl) h2
  exact⟨j2,_,by rw[show(x.2.h1||(some q).isSome)=true by simp];exact h1.trans h3,h4⟩
theorem JA {tx:Nat->QS} {g:Nat->Nat} {wo:Option Nat} {nm:ByteArray} {v n:Nat} {r:Xd} {ls:List QS} (hnm:nm.data.toList=cN) (hk:∀x,wo=some x->cm r.keys [100,51] cN dX/\ig rd cl tx g x) (p:Pl s (oK tx wo++ls) r.i):
  ∃j sn,inX s (elem s (ic s rd cl false v nm)) nm (n+(oK tx wo).length) ([],r)=inX s (elem s (ic s rd cl false v nm)) nm n (sn,{r with i:=j,weights:=yO g v wo r.weights,h2:=r.h2||wo.isSome})/\Pl s ls j:=by
 cases wo with
 | none=>exact⟨r.i,[],by simp[oK,yO],p⟩
 | some x=>
  obtain⟨k1,k2⟩:=hk x rfl
  have p:Pl s (dT [100,51] ((tx x).flatMap id1)::ls) r.i:=by rw[py];exact p
  obtain⟨j,h1,h2⟩:=qe (rd:=rd) (cl:=cl) (n:=n) (node:=false) (v:=v) (nm:=nm) (x:=([],r)) (name:=dX) (f:=fun r=>{r with weights:=r.weights.set v (g x),h2:=true}) (F0 QA) k1 hnm QA rfl (fun c hc=>uU (k2.2 c hc)) (fun at_ i=>by
   rw[show dq false dX=4 from rfl]
   unfold dQ
   rw[if_neg QA,k2.1];rfl) p
  exact⟨j,[dX],by simpa[oK,yO]using h1,h2⟩
end
section
variable {s:ByteArray} {rd:ByteArray->Option (Nat × Nat)} {cl:Nat->Nat}
def yP :QS:=[97,116,116,114,46,116,121,112,101]
abbrev QK :=QS × QS × QS × QS
def jz (q:QK):QS:=ind 2++60::(hO++(fO [(xId,q.1),(fN,q.2.1),(di,q.2.2.1),(yP,q.2.2.2)]++[47,62]))
def pP (q:QK):ByteArray × ByteArray × ByteArray:=(mkB q.1,mkB q.2.1,mkB q.2.2.1)
theorem JB {q:QK} {nm:ByteArray} {m:Nat} {x:Xs} {ls:List QS} (hq:Qs q.1/\Qs q.2.1/\Qs q.2.2.1/\Qs q.2.2.2) (ho:q.2.1=aR\/q.2.1=cN) (hnew:(x.2.keys.any fun k=>eqB k.1 (mkB q.1))=false) (hkn:x.2.keys.length<64) (hs:10<=s.size) (p:Pl s (jz q::ls) x.2.i):
  ∃j,inX s (elem s (aZ s rd cl)) nm (m+1) x=inX s (elem s (aZ s rd cl)) nm m (x.1,{x.2 with i:=j,keys:=x.2.keys++[pP q]})/\Pl s ls j:=by
 obtain⟨j0,w,t,hb,hw,hsp,a⟩:=Pl.go (k:=ind 2) (c:=107) p (jr 2) QA
 have a':At s j0 (hO++(fO [(xId,q.1),(fN,q.2.1),(di,q.2.2.1),(yP,q.2.2.2)]++((if true=true then [47,62]else [62])++(w++t)))):=by
  simpa[List.append_assoc,hO]using a
 obtain⟨tg,j1,tn,tw,tl,he1,b⟩:=tA (may:=aZ s rd cl) (x:=x.at j0) (x1:=x.at (j0+hO.length)) (read:=sO s) IM (asL:=[(xId,q.1),(fN,q.2.1),(di,q.2.2.1),(yP,q.2.2.2)])
  ⟨by
   intro p hp
   simp only[List.mem_cons,List.not_mem_nil,or_false]at hp
   rcases hp with rfl | rfl | rfl | rfl
   ·exact⟨gK (k:=xId) QA ⟨_,_,rfl,QA⟩,hq.1⟩
   ·exact⟨gK (k:=fN) QA ⟨_,_,rfl,QA⟩,hq.2.1⟩
   ·exact⟨gK (k:=di) QA ⟨_,_,rfl,QA⟩,hq.2.2.1⟩
   ·exact⟨gK (k:=yP) QA ⟨_,_,rfl,QA⟩,hq.2.2.2⟩,by show [xId,fN,di,yP].Nodup;decide⟩ QB QF a' (fun nm' hnm=>by
   unfold aZ
   rw[if_pos hnm]
   have:decide ((Xs.at (x.at j0) ((x.at j0).2.i+hO.length)).2.keys.length<64)=true:=decide_eq_true hkn
   rw[this];rfl) rfl
 refine⟨_,qy hb a QA ?_,w,t,hw,hsp,b⟩
 rw[he1]
 obtain⟨s1,g1⟩:=jk tl (nm:=xId) (x:=mkB q.1) rfl
 obtain⟨s2,g2⟩:=jk tl (nm:=fN) (x:=mkB q.2.1) rfl
 obtain⟨s3,g3⟩:=jk tl (nm:=di) (x:=mkB q.2.2.1) rfl
 have nd:fJ tg [xId,fN,di]= .ok ():=jy fun n hn=>by
  simp only[List.mem_cons,List.not_mem_nil,or_false]at hn
  rcases hn with rfl | rfl | rfl<;>assumption
 have ck:cM ((x.at (j0+hO.length)).at j1).2 tg.list= .ok ():=tz fun a ha=>by
  have h:(a.name.data.toList,a.says)∈[(xId,mkB q.1),(fN,mkB q.2.1),(di,mkB q.2.2.1),(yP,mkB q.2.2.2)]:=by
   have:(a.name.data.toList,a.says)∈saL tg.list:=List.mem_map.2 ⟨a,ha,rfl⟩
   rw[tl]at this
   exact this
  simp only[List.mem_cons,List.not_mem_nil,or_false,Prod.mk.injEq]at h
  rcases h with⟨e1,e2⟩ | ⟨e1,e2⟩ | ⟨e1,e2⟩ | ⟨e1,e2⟩<;>rw[e1,e2]
  ·exact⟨fun h=>absurd h QA,fun _=>hnew⟩
  ·exact⟨fun _=>by rw[yN];exact ho,fun h=>absurd h QA⟩
  ·exact⟨fun h=>absurd h QA,fun h=>absurd h QA⟩
  ·exact⟨fun h=>absurd h QA,fun h=>absurd h QA⟩
 unfold sO below
 rw[nd]
 simp only[Er.bind]
 rw[ck]
 simp only[]
 unfold within
 rw[if_pos tw,s1,s2,s3]
 rfl
theorem z8 {nm:ByteArray} (hs:10<=s.size):∀{L:List QK} {m:Nat} {x:Xs} {ls:List QS},(∀q∈L,(Qs q.1/\Qs q.2.1/\Qs q.2.2.1/\Qs q.2.2.2)/\(q.2.1=aR\/q.2.1=cN))->(L.map (·.1)).Nodup->(∀q∈L,(x.2.keys.any fun k=>eqB k.1 (mkB q.1))=false)->x.2.keys.length+L.length<=64->Pl s (L.map jz++ls) x.2.i->
  ∃j,inX s (elem s (aZ s rd cl)) nm (m+L.length) x=inX s (elem s (aZ s rd cl)) nm m (x.1,{x.2 with i:=j,keys:=x.2.keys++L.map pP})/\Pl s ls j
 | [],m,x,ls,_,_,_,_,p=>⟨x.2.i,QB,p⟩
 | q::L,m,x,ls,h,nd,hn,hl,p=>by
  rw[List.length_cons]at hl
  rw[List.map_cons,List.nodup_cons]at nd
  obtain⟨j,e1,p1⟩:=JB (rd:=rd) (cl:=cl) (nm:=nm) (m:=m+L.length) (h q QB).1 (h q QB).2 (hn q QB) Qz hs p
  obtain⟨j2,e2,p2⟩:=z8 hs (nm:=nm) (L:=L) (m:=m) (x:=(x.1,{x.2 with i:=j,keys:=x.2.keys++[pP q]})) (fun q hq=>h q (by simp[hq])) nd.2 (fun q' hq=>by
   rw[List.any_append,hn q' (by simp[hq]),Bool.false_or]
   simp only[List.any_cons,List.any_nil,Bool.or_false,pP,eqB,yN,beq_eq_false_iff_ne]
   exact fun e=>nd.1 (List.mem_map.2 ⟨q',hq,e.symm⟩)) (by rw[List.length_append,List.length_singleton];omega) p1
  exact⟨j2,by rw[List.length_cons,<-Nat.add_assoc,e1,e2];simp,p2⟩
theorem yQ (v:Nat):Qs (110::dec v):=fun c hc=>by
 rcases List.mem_cons.1 hc with rfl | hc
 ·decide
 ·have h:=zP v c hc
  have h:48<=c.toNat/\c.toNat<=57:=by simpa[me]using h
  refine⟨by simp[bO];omega,?_,?_,?_⟩<;>(rintro rfl;revert h;decide)
def jA (w:Bool):QS:=if w=true then [47,62]else [62]
def uV (v:Nat) (w:Bool):QS:=ind 4++60::(aR++(fO [(xId,110::dec v)]++jA w))
def gN (d:Nat) (k:QS):QS:=ind d++60::47::(k++[62])
def my (e:UInt8->QS) (tx:Nat->QS) (lo:Option ByteArray) (po:Option (Nat × Nat)) (v:Nat):List QS:=
 uV v (lo.isNone&&po.isNone)::(kT e lo++(kU tx po++if(lo.isNone&&po.isNone)=true then []else [gN 4 aR]))
def oL (g:Nat->Nat):Option (Nat × Nat)->Nat × Nat
 | some q=>(g q.1,g q.2)
 | none=>(0,0)
theorem tC {α:Type} {l:List α} {v:Nat} (a b:α) (h:l.length=v):(l++[a]).set v b=l++[b]:=by
 rw[List.set_append_right _ _ Qz,h,Nat.sub_self];rfl
theorem wz {α:Type} {l:List α} {v:Nat} (a:α) (f:α->α) (h:l.length=v):(l++[a]).modify v f=l++[f a]:=by
 subst h
 induction l with
 | nil=>rfl
 | cons b l ih=>simpa using ih
theorem F4 {e:UInt8->QS} {tx:Nat->QS} {g:Nat->Nat} {lo:Option ByteArray} {po:Option (Nat × Nat)} {nm:ByteArray} {m v:Nat} {x:Xs} {ls:List QS} (hx:x.2.n=v/\x.2.labels.length=v/\x.2.spots.length=v) (hv:v<1024) (hnew:(x.2.ids.any fun p=>eqB p.1 (mkB (110::dec v)))=false)
  (hl:∀y,lo=some y->cm x.2.keys [100,48] aR ey/\y.size<=256/\∀c∈y.data.toList,bO c.toNat=true)
  (hp:∀q,po=some q->cm x.2.keys [100,49] aR xX/\cm x.2.keys [100,50] aR xY/\ig rd cl tx g q.1/\ig rd cl tx g q.2)
  (he:∀c:UInt8,bO c.toNat=true->wx e c) (hs:10<=s.size) (p:Pl s (my e tx lo po v++ls) x.2.i):
  ∃j,inX s (elem s (aP s rd cl)) nm (m+1) x=inX s (elem s (aP s rd cl)) nm m (x.1,{x.2 with i:=j,n:=v+1,ids:=x.2.ids++[(mkB (110::dec v),v)],labels:=x.2.labels++[lo.getD noB],spots:=x.2.spots++[oL g po],h0:=x.2.h0||lo.isSome,h1:=x.2.h1||po.isSome})/\Pl s ls j:=by
 obtain⟨hx,hxl,hxs⟩:=hx
 generalize hwh:(lo.isNone&&po.isNone)=wh at p
 unfold my at p
 rw[hwh]at p
 obtain⟨j0,w,t,hb,hw,hsp,a⟩:=Pl.go (k:=ind 4) (c:=110) (l:=[111,100,101]++(fO [(xId,110::dec v)]++jA wh)) p (jr 4) QA
 have a':At s j0 (aR++(fO [(xId,110::dec v)]++((if wh=true then [47,62]else [62])++(w++t)))):=by
  simpa[List.append_assoc,aR,jA]using a
 obtain⟨tg,j1,tn,tw,tl,he1,b⟩:=tA (may:=aP s rd cl) (x:=x.at j0) (x1:=x.at (j0+aR.length)) (read:=jx s rd cl) Cw (asL:=[(xId,110::dec v)])
  ⟨by simpa using⟨gK (k:=xId) QA ⟨_,_,rfl,QA⟩,yQ v⟩,QB⟩ QB QF a' (fun nm' hnm=>by
   unfold aP
   rw[if_pos hnm]
   have:decide ((Xs.at (x.at j0) ((x.at j0).2.i+aR.length)).2.n<1024)=true:=decide_eq_true (by show x.2.n<1024;omega)
   rw[this];rfl) rfl
 obtain⟨s1,g1⟩:=jk tl (nm:=xId) (x:=mkB (110::dec v)) rfl
 have nd:fJ tg [xId]= .ok ():=jy (by simpa using g1)
 obtain⟨r0,hr0⟩:∃r0:Xd,r0={x.2 with i:=j1,n:=v+1,ids:=x.2.ids++[(mkB (110::dec v),v)],labels:=x.2.labels++[noB],spots:=x.2.spots++[(0,0)]}:=⟨_,rfl⟩
 have hel:elem s (aP s rd cl) (x.at j0)=below (fun r=>fm s rd cl true v tg r0) x:=by
  rw[he1]
  unfold jx below
  rw[nd,s1]
  simp only[Er.bind]
  have h1:(((x.at (j0+aR.length)).at j1).2.ids.any fun p=>eqB p.1 (mkB (110::dec v)))=false:=hnew
  rw[h1]
  simp only[Bool.not_false,bJ]
  have h2:((x.at (j0+aR.length)).at j1).2.n=v:=hx
  rw[hr0,h2]
  rfl
 have pj:Pl s (kT e lo++(kU tx po++((if wh=true then []else [gN 4 aR])++ls))) r0.i:=by
  rw[hr0]
  refine⟨w,t,hw,?_,b⟩
  have:kT e lo++(kU tx po++if wh=true then []else [gN 4 aR])++ls=kT e lo++(kU tx po++((if wh=true then []else [gN 4 aR])++ls)):=by simp[List.append_assoc]
  rw[<-this];exact hsp
 have fin:∃j sn,fm s rd cl true v tg r0= .ok (sn,{r0 with i:=j,labels:=wy v lo r0.labels,h0:=r0.h0||lo.isSome,spots:=Bi g v po r0.spots,h1:=r0.h1||po.isSome})/\Pl s ls j:=by
  unfold fm within
  cases wh with
  | true=>
   simp only[Bool.and_eq_true,Option.isNone_iff_eq_none]at hwh
   obtain⟨rfl,rfl⟩:=hwh
   rw[if_pos tw]
   exact⟨r0.i,[],by simp[wy,Bi],by simpa[kT,kU]using pj⟩
  | false=>
   rw[if_neg (by rw[tw];decide)]
   obtain⟨m,hm⟩:∃m,s.size+1=((m+1)+(kU tx po).length)+(kT e lo).length:=by
    have h1:(kU tx po).length<=2:=by cases po<;>simp[kU]
    have h2:(kT e lo).length<=1:=by cases lo<;>simp[kT]
    exact⟨s.size-(kU tx po).length-(kT e lo).length,Qz⟩
   have k0:r0.keys=x.2.keys:=by rw[hr0]
   obtain⟨j2,sn,e1,p1,hsn⟩:=Jy (rd:=rd) (cl:=cl) (e:=e) (lo:=lo) (nm:=tg.name) (v:=v) (n:=(m+1)+(kU tx po).length) (r:=r0) tn (by rw[k0];exact hl) he pj
   obtain⟨j3,sn3,e2,p2⟩:=Jz (rd:=rd) (cl:=cl) (tx:=tx) (g:=g) (po:=po) (nm:=tg.name) (v:=v) (n:=m+1) (x:=(sn,{r0 with i:=j2,labels:=wy v lo r0.labels,h0:=r0.h0||lo.isSome})) tn hsn (by show ∀p,po=some p->cm r0.keys _ _ _/\cm r0.keys _ _ _/\_;rw[k0];exact hp) p1
   obtain⟨j4,e3,p3⟩:=qc (el:=elem s (ic s rd cl true v tg.name)) (nm:=tg.name) (n:=m) (x:=(sn3,{r0 with i:=j3,labels:=wy v lo r0.labels,h0:=r0.h0||lo.isSome,spots:=Bi g v po r0.spots,h1:=r0.h1||po.isSome})) Cw tn (jr 4) p2
   exact⟨j4,sn3,by rw[hm,e1,e2,e3];rfl,p3⟩
 obtain⟨j,sn,e5,p5⟩:=fin
 refine⟨j,qy hb a QA ?_,p5⟩
 rw[hel]
 unfold below
 rw[e5]
 simp only[Er.bind]
 have hL:wy v lo r0.labels=x.2.labels++[lo.getD noB]:=by
  rw[hr0]
  cases lo with
  | none=>rfl
  | some y=>exact tC _ _ hxl
 have hS:Bi g v po r0.spots=x.2.spots++[oL g po]:=by
  rw[hr0]
  cases po with
  | none=>rfl
  | some q=>
   show((x.2.spots++[(0,0)]).modify v _).modify v _=_
   rw[wz _ _ hxs,wz _ _ hxs];rfl
 rw[hL,hS,hr0]
def fh (e:UInt8->QS) (tx:Nat->QS) (Y:Nat->Option ByteArray) (P:Nat->Option (Nat × Nat)):Nat->Nat->List QS
 | 0,_=>[]
 | k+1,v=>my e tx (Y v) (P v) v++fh e tx Y P k (v+1)
def gh {α:Type} (f:Nat->α) (v:Nat):List α:=(List.range v).map f
theorem Cy {α:Type} (f:Nat->α) (v:Nat):gh f (v+1)=gh f v++[f v]:=by unfold gh;rw[List.range_succ,List.map_append];rfl
theorem yR {α:Type} (f:Nat->α) (v:Nat):(gh f v).length=v:=by simp[gh]
def ij {α:Type} (Y:Nat->Option α) (v:Nat):Bool:=(List.range v).any fun p=>(Y p).isSome
theorem Cz {α:Type} (Y:Nat->Option α) (v:Nat):ij Y (v+1)=(ij Y v||(Y v).isSome):=by unfold ij;rw[List.range_succ,List.any_append];simp
theorem wB {e:UInt8->QS} {tx:Nat->QS} {g:Nat->Nat} {Y:Nat->Option ByteArray} {P:Nat->Option (Nat × Nat)} {nm:ByteArray} (hs:10<=s.size) (he:∀c:UInt8,bO c.toNat=true->wx e c):∀(k v:Nat) {m:Nat} {x:Xs} {ls:List QS},x.2.n=v->x.2.ids=mg [110] v->x.2.labels=gh (fun v=>(Y v).getD noB) v->x.2.spots=gh (fun v=>oL g (P v)) v->x.2.h0=ij Y v->x.2.h1=ij P v->
   (∀v y,Y v=some y->cm x.2.keys [100,48] aR ey/\y.size<=256/\∀c∈y.data.toList,bO c.toNat=true)->(∀v q,P v=some q->cm x.2.keys [100,49] aR xX/\cm x.2.keys [100,50] aR xY/\ig rd cl tx g q.1/\ig rd cl tx g q.2)->v+k<=1024->Pl s (fh e tx Y P k v++ls) x.2.i->
  ∃j,inX s (elem s (aP s rd cl)) nm (m+k) x=inX s (elem s (aP s rd cl)) nm m (x.1,{x.2 with i:=j,n:=v+k,ids:=mg [110] (v+k),labels:=gh (fun v=>(Y v).getD noB) (v+k),spots:=gh (fun v=>oL g (P v)) (v+k),h0:=ij Y (v+k),h1:=ij P (v+k)})/\Pl s ls j
 | 0,v,m,x,ls,h1,h2,h3,h4,h5,h6,_,_,_,p=>⟨x.2.i,by
   obtain⟨x1,x2⟩:=x
   obtain⟨i,n',dir,gr,keys,ids,ends,labels,spots,weights,b0,b1,b2⟩:=x2
   simp only at h1 h2 h3 h4 h5 h6
   subst h1;subst h2;subst h3;subst h4;subst h5;subst h6
   rfl,p⟩
 | k+1,v,m,x,ls,h1,h2,h3,h4,h5,h6,hy,hp,hv,p=>by
  rw[fh,List.append_assoc]at p
  obtain⟨j,e1,p1⟩:=F4 (rd:=rd) (cl:=cl) (g:=g) (nm:=nm) (m:=m+k) (v:=v) (x:=x) ⟨h1,by rw[h3,yR],by rw[h4,yR]⟩ Qz (by rw[h2];exact FZ [110] v) (hy v) (hp v) he hs p
  have ei:mg [110] v++[(mkB (110::dec v),v)]=mg [110] (v+1):=by
   unfold mg
   rw[List.range_succ,List.map_append];rfl
  rw[h2,h3,h4,h5,h6,ei,<-Cz,<-Cz,<-Cy (fun v=>(Y v).getD noB),<-Cy (fun v=>oL g (P v))]at e1
  obtain⟨j2,e2,p2⟩:=wB hs he (nm:=nm) k (v+1) (m:=m) (x:=(x.1,{x.2 with i:=j,n:=v+1,ids:=mg [110] (v+1),labels:=gh (fun v=>(Y v).getD noB) (v+1),spots:=gh (fun v=>oL g (P v)) (v+1),h0:=ij Y (v+1),h1:=ij P (v+1)})) rfl rfl rfl rfl rfl rfl hy hp Qz p1
  exact⟨j2,by rw[<-Nat.add_assoc,e1,e2,show v+1+k=v+(k+1) by omega],p2⟩
end
section
variable {s:ByteArray} {rd:ByteArray->Option (Nat × Nat)} {cl:Nat->Nat}
def uW (e:Nat × Nat) (w:Bool):QS:=ind 4++60::(cN++(fO [(bS,110::dec e.1),(bT,110::dec e.2)]++jA w))
def oM (tx:Nat->QS) (e:Nat × Nat) (wo:Option Nat):List QS:=
 uW e wo.isNone::(oK tx wo++if wo.isNone=true then []else [gN 4 cN])
def F5 (g:Nat->Nat):Option Nat->Nat
 | some x=>g x
 | none=>4607182418800017408
theorem F6 {tx:Nat->QS} {g:Nat->Nat} {e:Nat × Nat} {wo:Option Nat} {nm:ByteArray} {m:Nat} {x:Xs} {ls:List QS} (hv:x.2.weights.length<3072)
  (hk:∀y,wo=some y->cm x.2.keys [100,51] cN dX/\ig rd cl tx g y) (hs:10<=s.size) (p:Pl s (oM tx e wo++ls) x.2.i):
  ∃j a1 a2,inX s (elem s (aP s rd cl)) nm (m+1) x=inX s (elem s (aP s rd cl)) nm m (x.1,{x.2 with i:=j,ends:=x.2.ends++[(mkB (110::dec e.1),a1),(mkB (110::dec e.2),a2)],weights:=x.2.weights++[F5 g wo],h2:=x.2.h2||wo.isSome})/\Pl s ls j:=by
 generalize hwh:wo.isNone=wh at p
 unfold oM at p
 rw[hwh]at p
 obtain⟨j0,w,t,hb,hw,hsp,a⟩:=Pl.go (k:=ind 4) (c:=101) (l:=[100,103,101]++(fO [(bS,110::dec e.1),(bT,110::dec e.2)]++jA wh)) p (jr 4) QA
 have a':At s j0 (cN++(fO [(bS,110::dec e.1),(bT,110::dec e.2)]++((if wh=true then [47,62]else [62])++(w++t)))):=by
  simpa[List.append_assoc,cN,jA]using a
 obtain⟨tg,j1,tn,tw,tl,he1,b⟩:=tA (may:=aP s rd cl) (x:=x.at j0) (x1:=x.at (j0+cN.length)) (read:=ji s rd cl) Cx (asL:=[(bS,110::dec e.1),(bT,110::dec e.2)])
  ⟨by
   intro p hp
   simp only[List.mem_cons,List.not_mem_nil,or_false]at hp
   rcases hp with rfl | rfl
   ·exact⟨gK (k:=bS) QA ⟨_,_,rfl,QA⟩,yQ _⟩
   ·exact⟨gK (k:=bT) QA ⟨_,_,rfl,QA⟩,yQ _⟩,by show [bS,bT].Nodup;decide⟩ QB QF a' (fun nm' hnm=>by
   unfold aP
   rw[if_neg (by rw[hnm];decide),if_pos hnm]
   have:decide ((Xs.at (x.at j0) ((x.at j0).2.i+cN.length)).2.weights.length<3072)=true:=decide_eq_true hv
   rw[this];rfl) rfl
 obtain⟨s1,g1⟩:=jk tl (nm:=bS) (x:=mkB (110::dec e.1)) rfl
 obtain⟨s2,g2⟩:=jk tl (nm:=bT) (x:=mkB (110::dec e.2)) rfl
 have nd:fJ tg [bS,bT]= .ok ():=jy fun n hn=>by
  simp only[List.mem_cons,List.not_mem_nil,or_false]at hn
  rcases hn with rfl | rfl<;>assumption
 obtain⟨r0,hr0⟩:∃r0:Xd,r0={x.2 with i:=j1,ends:=x.2.ends++[(mkB (110::dec e.1),kR tg bS),(mkB (110::dec e.2),kR tg bT)],weights:=x.2.weights++[4607182418800017408]}:=⟨_,rfl⟩
 have hel:elem s (aP s rd cl) (x.at j0)=below (fun r=>fm s rd cl false x.2.weights.length tg r0) x:=by
  rw[he1]
  unfold ji below
  rw[nd,s1,s2]
  simp only[Er.bind]
  rw[hr0]
  rfl
 have pj:Pl s (oK tx wo++((if wh=true then []else [gN 4 cN])++ls)) r0.i:=by
  rw[hr0]
  refine⟨w,t,hw,?_,b⟩
  rw[<-List.append_assoc];exact hsp
 have fin:∃j sn,fm s rd cl false x.2.weights.length tg r0= .ok (sn,{r0 with i:=j,weights:=yO g x.2.weights.length wo r0.weights,h2:=r0.h2||wo.isSome})/\Pl s ls j:=by
  unfold fm within
  cases wh with
  | true=>
   obtain rfl:=Option.isNone_iff_eq_none.1 hwh
   rw[if_pos tw]
   exact⟨r0.i,[],by simp[yO],by simpa[oK]using pj⟩
  | false=>
   rw[if_neg (by rw[tw];decide)]
   obtain⟨m,hm⟩:∃m,s.size+1=(m+1)+(oK tx wo).length:=by
    have h1:(oK tx wo).length<=1:=by cases wo<;>simp[oK]
    exact⟨s.size-(oK tx wo).length,Qz⟩
   have k0:r0.keys=x.2.keys:=by rw[hr0]
   obtain⟨j2,sn,e1,p1⟩:=JA (rd:=rd) (cl:=cl) (tx:=tx) (g:=g) (wo:=wo) (nm:=tg.name) (v:=x.2.weights.length) (n:=m+1) (r:=r0) tn (by rw[k0];exact hk) pj
   obtain⟨j4,e3,p3⟩:=qc (el:=elem s (ic s rd cl false x.2.weights.length tg.name)) (nm:=tg.name) (n:=m) (x:=(sn,{r0 with i:=j2,weights:=yO g x.2.weights.length wo r0.weights,h2:=r0.h2||wo.isSome})) Cx tn (jr 4) p1
   exact⟨j4,sn,by rw[hm,e1,e3];rfl,p3⟩
 obtain⟨j,sn,e5,p5⟩:=fin
 refine⟨j,kR tg bS,kR tg bT,qy hb a QA ?_,p5⟩
 rw[hel]
 unfold below
 rw[e5]
 simp only[Er.bind]
 have hL:yO g x.2.weights.length wo r0.weights=x.2.weights++[F5 g wo]:=by
  rw[hr0]
  cases wo with
  | none=>rfl
  | some y=>exact tC _ _ rfl
 rw[hL,hr0]
def fj (tx:Nat->QS):List (Nat × Nat)->List Nat->List QS
 | [],_=>[]
 | e::es,ws=>oM tx e ws.head? ++fj tx es ws.tail
def qC (g:Nat->Nat):List (Nat × Nat)->List Nat->List Nat
 | [],_=>[]
 | _::es,ws=>F5 g ws.head? ::qC g es ws.tail
def kV :List (Nat × Nat)->List Nat->Bool
 | [],_=>false
 | _::es,ws=>ws.head?.isSome||kV es ws.tail
theorem wD {tx:Nat->QS} {g:Nat->Nat} {nm:ByteArray} (hs:10<=s.size):∀(es:List (Nat × Nat)) (ws:List Nat) {m:Nat} {x:Xs} {ls:List QS},x.2.weights.length+es.length<=3072->(∀y∈ws,cm x.2.keys [100,51] cN dX/\ig rd cl tx g y)->Pl s (fj tx es ws++ls) x.2.i->
  ∃j E,inX s (elem s (aP s rd cl)) nm (m+es.length) x=inX s (elem s (aP s rd cl)) nm m (x.1,{x.2 with i:=j,ends:=x.2.ends++E,weights:=x.2.weights++qC g es ws,h2:=x.2.h2||kV es ws})/\Pl s ls j/\E.map (·.1)=wu [110] es
 | [],ws,m,x,ls,_,_,p=>⟨x.2.i,[],by simp[qC,kV],p,rfl⟩
 | e::es,ws,m,x,ls,hl,hk,p=>by
  rw[List.length_cons]at hl
  rw[fj,List.append_assoc]at p
  obtain⟨j,a1,a2,e1,p1⟩:=F6 (rd:=rd) (cl:=cl) (g:=g) (nm:=nm) (m:=m+es.length) Qz (fun y hy=>hk y (List.mem_of_head? hy)) hs p
  obtain⟨j2,E,e2,p2,e3⟩:=wD hs (nm:=nm) (g:=g) es ws.tail (m:=m) (x:=(x.1,{x.2 with i:=j,ends:=x.2.ends++[(mkB (110::dec e.1),a1),(mkB (110::dec e.2),a2)],weights:=x.2.weights++[F5 g ws.head?],h2:=x.2.h2||ws.head?.isSome})) QF (fun y hy=>hk y (List.mem_of_mem_tail hy)) p1
  refine⟨j2,[(mkB (110::dec e.1),a1),(mkB (110::dec e.2),a2)]++E,?_,p2,by rw[List.map_append,e3];rfl⟩
  rw[List.length_cons,<-Nat.add_assoc,e1,e2]
  simp[qC,kV,Bool.or_assoc]
def sQ (dir:Bool):QS:=if dir=true then cA else gM
def uX (dir:Bool):QS:=ind 2++60::(gw++(fO [(bx,sQ dir)]++[62]))
def jV (e:UInt8->QS) (tx:Nat->QS) (Y:Nat->Option ByteArray) (P:Nat->Option (Nat × Nat)) (N:Nat) (dir:Bool) (es:List (Nat × Nat)) (ws:List Nat):List QS:=
 uX dir::(fh e tx Y P N 0++(fj tx es ws++[gN 2 gw]))
theorem CB {e:UInt8->QS} {tx:Nat->QS} {g:Nat->Nat} {Y:Nat->Option ByteArray} {P:Nat->Option (Nat × Nat)} {N:Nat} {dir:Bool} {es:List (Nat × Nat)} {ws:List Nat} {nm:ByteArray} {m i:Nat} {ks:List (ByteArray × ByteArray × ByteArray)} {ls:List QS} (hs:10<=s.size) (he:∀c:UInt8,bO c.toNat=true->wx e c)
  (hy:∀v y,Y v=some y->cm ks [100,48] aR ey/\y.size<=256/\∀c∈y.data.toList,bO c.toNat=true) (hp:∀v q,P v=some q->cm ks [100,49] aR xX/\cm ks [100,50] aR xY/\ig rd cl tx g q.1/\ig rd cl tx g q.2) (hw:∀y∈ws,cm ks [100,51] cN dX/\ig rd cl tx g y)
  (hN:N<=1024) (hE:es.length<=3072) (hsz:N+es.length<=s.size) (p:Pl s (jV e tx Y P N dir es ws++ls) i):
  ∃j E,inX s (elem s (aZ s rd cl)) nm (m+1) ([],{ba with i:=i,keys:=ks})=inX s (elem s (aZ s rd cl)) nm m ([],{ba with i:=j,keys:=ks,dir:=dir,graph:=true,n:=N,ids:=mg [110] N,ends:=E,labels:=gh (fun v=>(Y v).getD noB) N,spots:=gh (fun v=>oL g (P v)) N,weights:=qC g es ws,h0:=ij Y N,h1:=ij P N,h2:=kV es ws})/\Pl s ls j/\E.map (·.1)=wu [110] es:=by
 unfold jV at p
 obtain⟨j0,w,t,hb,hw1,hsp,a⟩:=Pl.go (k:=ind 2) (c:=103) (l:=[114,97,112,104]++(fO [(bx,sQ dir)]++[62])) p (jr 2) QA
 have a':At s j0 (gw++(fO [(bx,sQ dir)]++((if false=true then [47,62]else [62])++(w++t)))):=by
  simpa[List.append_assoc,gw]using a
 have qd:Qs (sQ dir):=by unfold sQ Qs;cases dir<;>decide
 obtain⟨tg,j1,tn,tw,tl,he1,b⟩:=tA (may:=aZ s rd cl) (x:=([],{ba with i:=j0,keys:=ks})) (x1:=([],{ba with i:=j0+gw.length,keys:=ks,graph:=true})) (read:=jU s rd cl) (k:=gw) (gK QA ⟨_,_,rfl,QA⟩) (asL:=[(bx,sQ dir)])
  ⟨by simpa using⟨gK (k:=bx) QA ⟨_,_,rfl,QA⟩,qd⟩,QB⟩ QB QF a' (fun nm' hnm=>by
   unfold aZ
   rw[if_neg (by rw[hnm];decide),if_pos hnm]
   rfl) rfl
 obtain⟨s1,g1⟩:=jk tl (nm:=bx) (x:=mkB (sQ dir)) rfl
 have nd:fJ tg [bx]= .ok ():=jy (by simpa using g1)
 obtain⟨m1,hm1⟩:∃m1,s.size+1=(m1+1+es.length)+N:=⟨s.size-N-es.length,Qz⟩
 have p1:Pl s (fh e tx Y P N 0++(fj tx es ws++(gN 2 gw::ls))) j1:=by
  refine⟨w,t,hw1,?_,b⟩
  have:fh e tx Y P N 0++(fj tx es ws++[gN 2 gw])++ls=fh e tx Y P N 0++(fj tx es ws++(gN 2 gw::ls)):=by simp[List.append_assoc]
  rw[<-this];exact hsp
 obtain⟨j2,e2,p2⟩:=wB (rd:=rd) (cl:=cl) (g:=g) (nm:=tg.name) hs he N 0 (m:=m1+1+es.length) (x:=([],{ba with i:=j1,keys:=ks,graph:=true,dir:=dir})) rfl rfl rfl rfl rfl rfl hy hp Qz p1
 obtain⟨j3,E,e3,p3,e4⟩:=wD (rd:=rd) (cl:=cl) (g:=g) (nm:=tg.name) hs es ws (m:=m1+1) (x:=([],{ba with i:=j2,keys:=ks,graph:=true,dir:=dir,n:=0+N,ids:=mg [110] (0+N),labels:=gh (fun v=>(Y v).getD noB) (0+N),spots:=gh (fun v=>oL g (P v)) (0+N),h0:=ij Y (0+N),h1:=ij P (0+N)})) (by show 0+_<=_;omega) hw p2
 obtain⟨j4,e5,p4⟩:=qc (el:=elem s (aP s rd cl)) (nm:=tg.name) (n:=m1) (x:=([],{ba with i:=j3,keys:=ks,graph:=true,dir:=dir,n:=0+N,ids:=mg [110] (0+N),labels:=gh (fun v=>(Y v).getD noB) (0+N),spots:=gh (fun v=>oL g (P v)) (0+N),h0:=ij Y (0+N),h1:=ij P (0+N),ends:=[]++E,weights:=[]++qC g es ws,h2:=false||kV es ws})) (gK QA ⟨_,_,rfl,QA⟩) tn (jr 2) p3
 refine⟨j4,E,qy hb a QA ?_,p4,e4⟩
 show elem s (aZ s rd cl) ([],{ba with i:=j0,keys:=ks})=_
 rw[he1]
 unfold jU below
 rw[nd,s1]
 simp only[Er.bind]
 rw[yN,show decide (sQ dir=cA\/sQ dir=gM)=true by cases dir<;>decide,show decide (sQ dir=cA)=dir by cases dir<;>decide]
 simp only[bJ]
 unfold within
 rw[if_neg (by rw[tw];decide),hm1]
 have e6:inX s (elem s (aP s rd cl)) tg.name (m1+1+es.length+N) ([],{(Xs.at ([],{ba with i:=j0+gw.length,keys:=ks,graph:=true}) j1).2 with dir:=dir})=_:=Eq.trans e2 (Eq.trans e3 e5)
 rw[e6]
 simp[Xs.at,ba]
end
end Go.Proofs.YtemphinmoihdaaaGreatDoor.G
