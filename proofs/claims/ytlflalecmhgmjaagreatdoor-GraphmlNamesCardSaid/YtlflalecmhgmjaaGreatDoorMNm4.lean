/- A text of GraphML by what is left of it: names, attributes, tags, notes, ends. Conditions: none. -/
import Derived.Test.YtlflalecmhgmjaaGreatDoorMSpec
import Derived.Test.YtlflalecmhgmjaaGreatDoorHKey3
set_option linter.unusedVariables false
set_option linter.unusedSimpArgs false
namespace Go.Proofs.YtlflalecmhgmjaaGreatDoor.G
section
variable {s:ByteArray}
theorem fW {i:Nat} {c:UInt8} {l:List UInt8} (a:At s i (c::l)):want s c.toNat i= .ok (i+1)/\At s (i+1) l:=by
 obtain⟨h1,h2,h3⟩:=a.cons
 refine⟨?_,h3⟩
 unfold want
 rw[h2,decide_eq_true rfl];rfl
structure Nx (k l:List UInt8):Prop where
 hd:∃c r,k=c::r/\gj c.toNat=true
 all:∀c∈k,dN c.toNat=true
 st:fh dN l
theorem oh {i:Nat} {k l:List UInt8} (hk:Nx k l) (a:At s i (k++l)):∃x:ByteArray,x.data.toList=k/\iW s i= .ok (x,i+k.length)/\At s (i+k.length) l:=by
 obtain⟨c,r,rfl,hc⟩:=hk.hd
 obtain⟨h1,h2,h3⟩:=At.cons (l:=r++l) a
 have hr:=n7 (p:=dN) a hk.all hk.st
 refine⟨s.extract i (i+(c::r).length),At.ext a,?_,At.app a⟩
 unfold iW
 rw[h2,hc,hr];rfl
def Bs (w:List UInt8):Prop:=∀c∈w,cz c.toNat=true
theorem fw {i:Nat} {w l:List UInt8} (hw:Bs w) (hl:fh cz l) (a:At s i (w++l)):run cz s i=i+w.length/\At s (i+w.length) l:=⟨n7 a hw hl,At.app a⟩
def nq (ends may:Nat->Bool) (e:UInt8->List UInt8) (c:UInt8):Prop:=
 (e c=[c]/\ends c.toNat=false/\c.toNat≠38/\may c.toNat=true)\/
 (ends 38=false/\(∃r,e c=38::r)/\∀(s:ByteArray) (i:Nat) (l:List UInt8),At s i (e c++l)->part s i=some (c.toNat,(e c).length))
theorem qE {ends may:Nat->Bool} {e:UInt8->List UInt8} {q:UInt8} (hq:ends q.toNat=true):∀{x l:List UInt8} {i:Nat} {out:List UInt8},At s i (x.flatMap e++q::l)->(∀c∈x,nq ends may e c)->
  fU s ends may i out= .ok (some (out++x),i+(x.flatMap e).length)
 | [],l,i,out,a,_=>by
  obtain⟨h1,h2,h3⟩:=At.cons (c:=q) (l:=l) a
  rw[fU,if_pos h1,h2,if_pos hq]
  simp
 | c::x,l,i,out,a,hx=>by
  have ee:(c::x).flatMap e=e c++x.flatMap e:=rfl
  rw[ee,List.append_assoc]at a
  have a2:=At.app a
  have ih:=fun o=>qE (may:=may) hq (out:=o) a2 (fun c hc=>hx c (by simp[hc]))
  rcases hx c (by simp)with⟨e1,e2,e3,e4⟩ | ⟨e1,⟨r,e2⟩,e3⟩
  ·rw[e1]at a ih
   obtain⟨h1,h2,h3⟩:=At.cons (l:=x.flatMap e++q::l) a
   rw[fU,if_pos h1,h2,if_neg (by rw[e2];simp),if_neg e3,if_pos e4,UInt8.ofNat_toNat]
   have ih:=ih (out++[c])
   simp only[List.length_singleton]at ih
   rw[ih,ee,e1,List.append_assoc]
   simp only[List.singleton_append,List.length_cons]
   congr 2;omega
  ·have hp:=e3 s i _ a
   have a':=a
   rw[e2]at a'
   obtain⟨h1,h2,h3⟩:=At.cons (l:=r++(x.flatMap e++q::l)) a'
   have e38:(38:UInt8).toNat=38:=rfl
   rw[e38]at h2
   have hl:0<(e c).length:=by rw[e2];simp
   rw[fU,if_pos h1,h2,if_neg (by rw[e1];simp),if_pos rfl,hp]
   simp only[]
   rw[show i+((e c).length-1)+1=i+(e c).length by omega,UInt8.ofNat_toNat,ih (out++[c])]
   rw[ee,List.append_assoc,List.length_append]
   simp only[List.singleton_append]
   congr 2;omega
def cJ (k:List UInt8) (q:UInt8) (e:UInt8->List UInt8) (x:List UInt8):List UInt8:=k++61::q::(x.flatMap e++[q])
theorem zO :dN (61:UInt8).toNat=false:=by decide
structure AtOK (k:List UInt8) (q:UInt8) (e:UInt8->List UInt8) (x:List UInt8) (L:List Atr):Prop where
 nx:(∃c r,k=c::r/\gj c.toNat=true)/\∀c∈k,dN c.toNat=true
 qt:q=34\/q=39
 enc:∀c∈x,nq (fun c=>decide (c=q.toNat)) (fun c=>bD c&&decide (c≠60)) e c
 new:∀a∈L,a.name.data.toList≠k
theorem aV {n i:Nat} {L:List Atr} {w k x l:List UInt8} {q:UInt8} {e:UInt8->List UInt8} (hw:Bs w) (hw0:w≠[]) (ok:AtOK k q e x L) (a:At s i (w++(cJ k q e x++l))):
  ∃at_:Atr,at_.name.data.toList=k/\at_.says=mkB x/\bq s (n+1) L i=bq s n (L++[at_]) (i+(w++cJ k q e x).length)/\At s (i+(w++cJ k q e x).length) l:=by
 have aE:At s (i+(w++cJ k q e x).length) l:=by rw[<-List.append_assoc]at a;exact At.app a
 obtain⟨⟨c,r,rfl,hc⟩,hall⟩:=ok.nx
 have a:At s i (w++((c::r)++(61::(q::(x.flatMap e++q::l))))):=by simpa[cJ,List.append_assoc]using a
 have hb:c.toNat≠62/\c.toNat≠47/\cz c.toNat=false:=by
  have:(97<=c.toNat/\c.toNat<=122\/65<=c.toNat/\c.toNat<=90)\/c.toNat=95:=by simpa[gj,rB]using hc
  refine⟨by omega,by omega,?_⟩
  simp[cz];omega
 obtain⟨r1,a1⟩:=fw hw (fh.cons hb.2.2) a
 obtain⟨nm,hnm,hn,a2⟩:=oh (i:=i+w.length) ⟨⟨c,r,rfl,hc⟩,hall,fh.cons zO⟩ a1
 obtain⟨w1,a3⟩:=fW a2
 have w1:want s 61 (i+w.length+(c::r).length)= .ok (i+w.length+(c::r).length+1):=w1
 obtain⟨q1,q2,a4⟩:=a3.cons
 have t:=qE (may:=fun c=>bD c&&decide (c≠60)) (ends:=fun c=>decide (c=q.toNat)) (q:=q) (by simp) (out:=[]) a4 ok.enc
 rw[List.nil_append]at t
 have hw1:0<w.length:=List.length_pos_iff.2 hw0
 obtain⟨b1,b2,b3⟩:=At.cons (l:=r++(61::(q::(x.flatMap e++q::l)))) a1
 refine⟨⟨nm,mkB x,i+w.length+(c::r).length+1+1⟩,hnm,rfl,?_,aE⟩
 rw[bq]
 simp only[r1,b2]
 rw[if_neg hb.1,if_neg hb.2.1,show decide (i<i+w.length)=true by simpa using hw1]
 simp only[aP]
 have hat:gI s L (i+w.length)= .ok (⟨nm,mkB x,i+w.length+(c::r).length+1+1⟩,i+w.length+(c::r).length+1+1+(x.flatMap e).length+1):=by
  unfold gI
  rw[hn]
  simp only[Er.bind]
  have hall:(L.all fun a=> !eqB a.name nm)=true:=by
   rw[List.all_eq_true]
   intro a ha
   have:=ok.new a ha
   simp only[eqB,hnm,Bool.not_eq_true',beq_eq_false_iff_ne]
   exact this
  rw[hall]
  simp only[aP]
  rw[w1]
  simp only[Er.bind,q2]
  have hq:decide (q.toNat=34\/q.toNat=39)=true:=by rcases ok.qt with rfl | rfl<;>decide
  rw[hq]
  simp only[aP]
  rw[t]
 rw[hat]
 simp only[Er.bind]
 congr 1
 simp only[cJ,List.length_append,List.length_cons,List.length_nil]
 omega
theorem qF {n i:Nat} {L:List Atr} {w l:List UInt8} (hw:Bs w) (a:At s i (w++62::l)):bq s (n+1) L i= .ok (L,false,i+w.length+1)/\At s (i+w.length+1) l:=by
 obtain⟨r1,a1⟩:=fw hw (fh.cons (by decide)) a
 obtain⟨b1,b2,b3⟩:=a1.cons
 refine⟨?_,b3⟩
 rw[bq]
 simp only[r1,b2]
 rw[if_pos (by decide)]
theorem lm {n i:Nat} {L:List Atr} {w l:List UInt8} (hw:Bs w) (a:At s i (w++47::62::l)):bq s (n+1) L i= .ok (L,true,i+w.length+2)/\At s (i+w.length+2) l:=by
 obtain⟨r1,a1⟩:=fw hw (fh.cons (by decide)) a
 obtain⟨b1,b2,b3⟩:=a1.cons
 obtain⟨w1,a2⟩:=fW b3
 have w1:want s 62 (i+w.length+1)= .ok (i+w.length+1+1):=w1
 refine⟨?_,a2⟩
 rw[bq]
 simp only[r1,b2]
 rw[if_neg (by decide),if_pos (by decide),w1]
 rfl
theorem ph {i:Nat} {nm:ByteArray} {k w l:List UInt8} (hk:(∃c r,k=c::r/\gj c.toNat=true)/\∀c∈k,dN c.toNat=true) (hnm:nm.data.toList=k) (hw:Bs w) (a:At s i (47::(k++(w++62::l)))):
  fF s nm i= .ok (i+1+k.length+w.length+1)/\At s (i+1+k.length+w.length+1) l:=by
 obtain⟨w1,a1⟩:=fW a
 have w1:want s 47 i= .ok (i+1):=w1
 have st:fh dN (w++62::l):=by
  cases w with
  | nil=>exact fh.cons (by decide)
  | cons c r=>
   refine fh.cons ?_
   have:=qx (hw c (by simp))
   simp[dN,gj,rB,kM];omega
 obtain⟨x,hx,hn,a2⟩:=oh ⟨hk.1,hk.2,st⟩ a1
 obtain⟨r1,a3⟩:=fw hw (fh.cons (by decide)) a2
 obtain⟨w2,a4⟩:=fW a3
 have w2:want s 62 (i+1+k.length+w.length)= .ok (i+1+k.length+w.length+1):=w2
 refine⟨?_,a4⟩
 unfold fF
 rw[w1]
 simp only[Er.bind]
 rw[hn]
 simp only[show eqB x nm=true by simp[eqB,hx,hnm],aP]
 rw[r1,w2]
end
section
variable {s:ByteArray}
theorem rH :∀{w l:List UInt8} {c:UInt8} {k n i:Nat},w.length<=k->At s i (w++c::l)->(∀d∈w,kM d.toNat=true)->kM c.toNat=false->fD s k n i=(w.foldl (fun n d=>10*n+(d.toNat-48)) n,i+w.length)
 | [],l,c,k,n,i,hk,a,hw,hc=>by
  obtain⟨_,h2,_⟩:=At.cons (c:=c) (l:=l) a
  cases k with
  | zero=>rfl
  | succ k=>rw[fD,h2,hc];rfl
 | d::w,l,c,k,n,i,hk,a,hw,hc=>by
  obtain⟨_,h2,h3⟩:=At.cons (c:=d) (l:=w++c::l) a
  cases k with
  | zero=>simp at hk
  | succ k=>
   rw[fD,h2,hw d (by simp),if_pos rfl,rH (by simpa using hk) h3 (fun d hd=>hw d (by simp[hd])) hc]
   simp only[List.foldl_cons,List.length_cons]
   congr 1;omega
theorem ud {n i:Nat} {l:List UInt8} (hp:bD n=true) (hn:n<1000) (a:At s i (38::35::(dec n++59::l))):part s i=some (n,(dec n).length+3):=by
 have no:∀k:List UInt8,(∀r,38::35::(dec n++59::l)≠k++r)->preB s i k=false:=fun k hk=>lh (w:=[]) (l:=38::35::(dec n++59::l)) a hk
 have yes:preB s i [38,35]=true:=jm (w:=[38,35]) (l:=dec n++59::l) a
 have a2:At s (i+2) (dec n++59::l):=At.app (w:=[38,35]) a
 have dl:=n8 2 n (by omega)
 have dg:=rH (n:=0) (k:=3) dl a2 (ry n) (show kM (59:UInt8).toNat=false by decide)
 have dn:(dec n).foldl (fun n d=>10*n+(d.toNat-48)) 0=n:=gY n
 have a3:At s (i+2+(dec n).length) (59::l):=At.app a2
 obtain⟨_,h59,_⟩:=a3.cons
 have h59:bt s (i+2+(dec n).length)=59:=h59
 have d0:0<(dec n).length:=List.length_pos_iff.2 (yH n)
 unfold part
 rw[no amp (by simp[amp]),no qy (by simp[qy]),no ltB (by simp[ltB]),no gtB (by simp[gtB]),no tN (by simp[tN]),yes]
 simp only[Bool.false_eq_true,if_false,dg,dn]
 have hn0:¬(i+2+(dec n).length=i+2\/bt s (i+2+(dec n).length)≠59\/bD n=false):=by
  rintro(q | q | q)
  ·omega
  ·exact q h59
  ·rw[hp]at q;cases q
 have ht:(true=false)=False:=by simp
 simp only[ht,if_false,if_neg hn0]
 congr 2;omega
theorem fY {n i:Nat} {w l:List UInt8} {c:UInt8} (hw:Bs w) (hc:c≠33) (a:At s i (w++60::c::l)):cT s (n+1) i= .ok (some (i+w.length+1))/\At s (i+w.length+1) (c::l):=by
 obtain⟨r1,a1⟩:=fw hw (fh.cons (by decide)) a
 obtain⟨b1,b2,b3⟩:=a1.cons
 obtain⟨w1,a2⟩:=fW a1
 have w1:want s 60 (i+w.length)= .ok (i+w.length+1):=w1
 obtain⟨_,c2,_⟩:=a2.cons
 refine⟨?_,a2⟩
 rw[cT]
 simp only[r1]
 rw[if_neg (by omega),w1]
 simp only[Er.bind]
 rw[if_pos (by rw[c2];intro e;exact hc (UInt8.toNat_inj.1 e))]
theorem ue {n i:Nat} (a:At s i []):cT s (n+1) i= .ok none:=by
 have r1:run cz s i=i:=by
  have:=n7 (p:=cz) (w:=[]) (l:=[]) a (by simp) (fh.nil _)
  simpa using this
 have:=a.nil
 rw[cT]
 simp only[r1]
 rw[if_pos (by omega)]
theorem rI :∀{note l:List UInt8} {f k:Nat},note.length<f->(∀c∈note,c≠45)->At s k (note++(cb++l))->kO s cb f k=some (k+note.length)
 | [],l,f,k,hf,hn,a=>by
  cases f with
  | zero=>simp at hf
  | succ f=>rw[kO,if_pos (jm (w:=cb) a)];rfl
 | c::note,l,f,k,hf,hn,a=>by
  cases f with
  | zero=>simp at hf
  | succ f=>
   obtain⟨_,_,a2⟩:=At.cons (c:=c) (l:=note++(cb++l)) a
   have no:preB s k cb=false:=lh (w:=[]) (l:=(c::note)++(cb++l)) a (fun r e=>by
    have:=hn c (by simp)
    simp only[List.nil_append,List.cons_append,cb,List.cons.injEq]at e
    exact this e.1)
   rw[kO,no]
   simp only[Bool.false_eq_true,if_false]
   rw[rI (by simpa using hf) (fun d hd=>hn d (by simp[hd])) a2,List.length_cons]
   congr 1;omega
theorem sJ {n i:Nat} {w note l:List UInt8} (hw:Bs w) (hn:∀c∈note,c≠45) (a:At s i (w++60::33::45::45::(note++(cb++l)))):cT s (n+1) i=cT s n (i+w.length+4+note.length+3)/\At s (i+w.length+4+note.length+3) l:=by
 obtain⟨r1,a1⟩:=fw hw (fh.cons (by decide)) a
 obtain⟨b1,b2,b3⟩:=a1.cons
 obtain⟨w1,a2⟩:=fW a1
 have w1:want s 60 (i+w.length)= .ok (i+w.length+1):=w1
 obtain⟨_,c2,a3⟩:=a2.cons
 have c2:bt s (i+w.length+1)=33:=c2
 obtain⟨w3,a4⟩:=fW a3
 have w3:want s 45 (i+w.length+1+1)= .ok (i+w.length+1+1+1):=w3
 obtain⟨w4,a5⟩:=fW a4
 have w4:want s 45 (i+w.length+1+1+1)= .ok (i+w.length+1+1+1+1):=w4
 have ln:=a5.len
 rw[List.length_append]at ln
 have ls:=a5.1
 have sk:=rI (f:=s.size+1-(i+w.length+1+1+1+1)) (by omega) hn a5
 have a6:=At.app a5
 have a7:At s _ l:=At.app (w:=cb) a6
 refine⟨?_,a7⟩
 rw[cT]
 simp only[r1]
 rw[if_neg (by omega),w1]
 simp only[Er.bind]
 rw[if_neg (by rw[c2];simp),w3]
 simp only[]
 rw[w4]
 simp only[]
 rw[sk]
theorem gH {may:My} {x x1:Xs} {k l:List UInt8} {read:Kd} {L:List Atr} {w:Bool} {j:Nat} (hk:Nx k l) (a:At s x.2.i (k++l)) (hm:∀nm:ByteArray,nm.data.toList=k->may nm x.2.i (x.at (x.2.i+k.length))= .ok (x1,read)) (ha:bq s (s.size+1) [] x1.2.i= .ok (L,w,j)):
  ∃nm:ByteArray,nm.data.toList=k/\elem s may x=read ⟨nm,x.2.i-1,x.2.i,L,w⟩ (x1.at j):=by
 obtain⟨nm,hnm,hn,_⟩:=oh hk a
 refine⟨nm,hnm,?_⟩
 unfold elem
 rw[hn]
 simp only[Er.bind]
 rw[hm nm hnm]
 simp only[]
 rw[ha]
theorem jU {el:Xs->Er Xs} {nm:ByteArray} {n i:Nat} {x x':Xs} {c:UInt8} {l:List UInt8} (hb:cT s (s.size+1) x.2.i= .ok (some i)) (a:At s i (c::l)) (hc:c≠47) (he:el (x.at i)= .ok x'):inX s el nm (n+1) x=inX s el nm n x':=by
 obtain⟨_,c2,_⟩:=a.cons
 rw[inX,hb]
 simp only[Er.bind]
 rw[if_neg (by rw[c2];intro e;exact hc (UInt8.toNat_inj.1 e)),he]
theorem iH {el:Xs->Er Xs} {nm:ByteArray} {n:Nat} {x:Xs} {w k w2 l:List UInt8} (hk:(∃c r,k=c::r/\gj c.toNat=true)/\∀c∈k,dN c.toNat=true) (hnm:nm.data.toList=k) (hw:Bs w) (hw2:Bs w2) (a:At s x.2.i (w++60::47::(k++(w2++62::l)))):
  ∃j,inX s el nm (n+1) x= .ok (x.at j)/\At s j l:=by
 obtain⟨hb,a1⟩:=fY (n:=s.size) hw (by decide) a
 obtain⟨_,c2,_⟩:=a1.cons
 obtain⟨hc,a2⟩:=ph hk hnm hw2 a1
 refine⟨_,?_,a2⟩
 rw[inX,hb]
 simp only[Er.bind]
 rw[if_pos (by rw[c2];rfl),hc]
end
section
variable {s:ByteArray} {rd:ByteArray->Option (Nat × Nat)} {cl:Nat->Nat}
def id1 :UInt8->List UInt8:=fun c=>[c]
theorem yP {q:UInt8} {x:List UInt8} (hx:∀c∈x,bD c.toNat=true/\c≠60/\c≠38/\c≠q):∀c∈x,nq (fun c=>decide (c=q.toNat)) (fun c=>bD c&&decide (c≠60)) id1 c:=by
 intro c hc
 obtain⟨h1,h2,h3,h4⟩:=hx c hc
 refine .inl ⟨rfl,?_,fun e=>h3 (UInt8.toNat_inj.1 e),?_⟩
 ·rw[decide_eq_false_iff_not];exact fun e=>h4 (UInt8.toNat_inj.1 e)
 ·show(bD c.toNat&&decide (c.toNat≠60))=true
  rw[h1,Bool.true_and,decide_eq_true_eq];exact fun e=>h2 (UInt8.toNat_inj.1 e)
def Sm (x:List UInt8):Prop:=∀c∈x,(97<=c.toNat/\c.toNat<=122)\/(48<=c.toNat/\c.toNat<=57)
theorem Sm.enc {q:UInt8} {x:List UInt8} (h:Sm x) (hq:q=34\/q=39):∀c∈x,nq (fun c=>decide (c=q.toNat)) (fun c=>bD c&&decide (c≠60)) id1 c:=by
 refine yP fun c hc=>?_
 have:=h c hc
 have n:∀d:UInt8,c=d->c.toNat=d.toNat:=fun d e=>by rw[e]
 refine⟨by simp[bD];omega,fun e=>?_,fun e=>?_,fun e=>?_⟩
 ·have:=n _ e;have e2:(60:UInt8).toNat=60:=rfl;omega
 ·have:=n _ e;have e2:(38:UInt8).toNat=38:=rfl;omega
 ·rcases hq with rfl | rfl
  ·have:=n _ e;have e2:(34:UInt8).toNat=34:=rfl;omega
  ·have:=n _ e;have e2:(39:UInt8).toNat=39:=rfl;omega
theorem Sm.app {x y:List UInt8} (hx:Sm x) (hy:Sm y):Sm (x++y):=fun c hc=>(List.mem_append.1 hc).elim (hx c) (hy c)
theorem Sm.dec (n:Nat):Sm (dec n):=fun c hc=>.inr (by have:=ry n c hc;simpa[kM]using this)
theorem yQ {q:UInt8} (hq:q=34\/q=39):∀c∈[(60:UInt8)],nq (fun c=>decide (c=q.toNat)) (fun c=>bD c&&decide (c≠60)) (fun _=>ltB) c:=by
 intro c hc
 simp only[List.mem_singleton]at hc
 subst hc
 refine .inr ⟨by rcases hq with rfl | rfl<;>decide,⟨_,rfl⟩,fun s i l a=>?_⟩
 have a:At s i (ltB++l):=a
 have no:∀k:List UInt8,(∀r,ltB++l≠k++r)->preB s i k=false:=fun k hk=>lh (w:=ltB) (l:=l) a hk
 unfold part
 rw[no amp (by simp[amp,ltB]),no qy (by simp[qy,ltB]),jm a]
 rfl
def b32 :List UInt8:=[32]
theorem jq :Bs b32:=by intro c hc;simp only[b32,List.mem_singleton]at hc;subst hc;decide
def lp (M:List UInt8) (e:Nat × Nat) (r:List UInt8):List UInt8:=
 60::(bU++(b32++(cJ dt 39 id1 (M++dec e.2)++(b32++(cJ dq 34 id1 (M++dec e.1)++(b32++(cJ [122] 39 (fun _=>ltB) [60]++([]++47::62::r))))))))
theorem jV {k:List UInt8} (h:(k.all fun c=>dN c.toNat)=true) (h2:∃c r,k=c::r/\gj c.toNat=true):(∃c r,k=c::r/\gj c.toNat=true)/\∀c∈k,dN c.toNat=true:=⟨h2,List.all_eq_true.1 h⟩
theorem sK {M:List UInt8} (hM:Sm M) {e:Nat × Nat} {r:List UInt8} {nm:ByteArray} {n:Nat} {x:Xs} (hw:x.2.weights.length<3072) (hs:10<=s.size) (a:At s x.2.i (lp M e r)):
  ∃j a1 a2,inX s (elem s (aI s rd cl)) nm (n+1) x=inX s (elem s (aI s rd cl)) nm n (x.1,{x.2 with i:=j,ends:=x.2.ends++[(mkB (M++dec e.1),a1),(mkB (M++dec e.2),a2)],weights:=x.2.weights++[4607182418800017408]})/\At s j r:=by
 obtain⟨hb,a1⟩:=fY (n:=s.size) (w:=[]) (c:=101) (fun c hc=>by cases hc) (by decide) (show At s x.2.i ([]++60::101::_)from a)
 have a1:At s (x.2.i+0+1) (bU++(b32++(cJ dt 39 id1 (M++dec e.2)++(b32++(cJ dq 34 id1 (M++dec e.1)++(b32++(cJ [122] 39 (fun _=>ltB) [60]++([]++47::62::r)))))))):=a1
 have a2:=At.app a1
 obtain⟨f,hf⟩:∃f,s.size+1=f+4:=⟨s.size-3,by omega⟩
 obtain⟨t1,n1,v1,e1,b1⟩:=aV (n:=f+3) (L:=[]) jq (by simp[b32]) (q:=39) (e:=id1) ⟨jV (by decide) ⟨_,_,rfl,by decide⟩,.inr rfl,(hM.app (Sm.dec e.2)).enc (.inr rfl),by simp⟩ a2
 obtain⟨t2,n2,v2,e2,b2⟩:=aV (n:=f+2) (L:=[]++[t1]) jq (by simp[b32]) (q:=34) (e:=id1) ⟨jV (by decide) ⟨_,_,rfl,by decide⟩,.inl rfl,(hM.app (Sm.dec e.1)).enc (.inl rfl),by
  intro t ht
  simp only[List.nil_append,List.mem_singleton]at ht
  subst ht
  rw[n1];decide⟩ b1
 obtain⟨t3,n3,v3,e3,b3⟩:=aV (n:=f+1) (L:=[]++[t1]++[t2]) jq (by simp[b32]) (q:=39) (e:=fun _=>ltB) ⟨jV (by decide) ⟨_,_,rfl,by decide⟩,.inr rfl,yQ (.inr rfl),by
  intro t ht
  simp only[List.nil_append,List.cons_append,List.mem_cons,List.not_mem_nil,or_false]at ht
  rcases ht with rfl | rfl
  ·rw[n1];decide
  ·rw[n2];decide⟩ b2
 obtain⟨e4,b4⟩:=lm (n:=f) (L:=[]++[t1]++[t2]++[t3]) (w:=[]) (fun c hc=>by cases hc) b3
 rw[<-hf]at e1
 have ha:=((e1.trans e2).trans e3).trans e4
 obtain⟨nmE,hnm,he⟩:=gH (may:=aI s rd cl) (x:=x.at (x.2.i+0+1)) (x1:=x.at (x.2.i+0+1+bU.length)) (k:=bU) (read:=gR s rd cl) ⟨⟨_,_,rfl,by decide⟩,List.all_eq_true.1 (show(bU.all fun c=>dN c.toNat)=true by decide),fh.cons (by decide)⟩ a1 (fun nm hnm=>by
  unfold aI
  rw[if_neg (by rw[hnm];decide),if_pos hnm]
  have:decide ((Xs.at (x.at (x.2.i+0+1)) ((x.at (x.2.i+0+1)).2.i+bU.length)).2.weights.length<3072)=true:=decide_eq_true hw
  rw[this];rfl) ha
 refine⟨_,t2.at_,t1.at_,jU hb a1 (by decide) ?_,b4⟩
 show elem s (aI s rd cl) (x.at (x.2.i+0+1))=_
 rw[he]
 have g1:cK ⟨nmE,(x.at (x.2.i+0+1)).2.i-1,(x.at (x.2.i+0+1)).2.i,[]++[t1]++[t2]++[t3],true⟩ dq=some t2:=by
  unfold cK
  simp only[List.nil_append,List.cons_append]
  rw[List.find?_cons_of_neg (by rw[n1];decide),List.find?_cons_of_pos (by rw[n2];decide)]
 have g2:cK ⟨nmE,(x.at (x.2.i+0+1)).2.i-1,(x.at (x.2.i+0+1)).2.i,[]++[t1]++[t2]++[t3],true⟩ dt=some t1:=by
  unfold cK
  simp only[List.nil_append,List.cons_append]
  rw[List.find?_cons_of_pos (by rw[n1];decide)]
 unfold gR below bJ
 rw[g1]
 simp only[Option.isSome_some,aP]
 unfold bJ
 rw[g2]
 simp only[Option.isSome_some,aP]
 unfold bJ
 simp only[Er.bind]
 unfold aw jr
 rw[g1,g2]
 simp only[Option.map_some,Option.getD_some,v1,v2]
 rfl
def pB (c:UInt8):List UInt8:=if(97<=c.toNat/\c.toNat<=122)\/(48<=c.toNat/\c.toNat<=57)then [c]else 38::35::(dec c.toNat++[59])
theorem yR {x:List UInt8} (hx:∀c∈x,bD c.toNat=true):∀c∈x,nq (fun c=>decide (c=60)) (fun c=>bD c||cz c) pB c:=by
 intro c hc
 have hp:=hx c hc
 by_cases q:(97<=c.toNat/\c.toNat<=122)\/(48<=c.toNat/\c.toNat<=57)
 ·refine .inl ⟨by unfold pB;rw[if_pos q],?_,by omega,?_⟩
  ·show decide (c.toNat=60)=false
   rw[decide_eq_false_iff_not];omega
  ·show(bD c.toNat||cz c.toNat)=true
   rw[hp];rfl
 ·have e:pB c=38::35::(dec c.toNat++[59]):=by unfold pB;rw[if_neg q]
  refine .inr ⟨rfl,⟨_,e⟩,fun s i l a=>?_⟩
  rw[e]at a ⊢
  have a:At s i (38::35::(dec c.toNat++59::l)):=by simpa using a
  rw[ud hp (by have:=c.toNat_lt;omega) a]
  simp
def pi (M:List UInt8) (y:Option (List UInt8)) (r:List UInt8):List UInt8:=
 match y with
 | some y=>60::(fH++(b32++(cJ dQ 39 id1 (M++[108])++([]++62::(y.flatMap pB++60::47::(fH++([]++62::r)))))))
 | none=>r
def lq (M:List UInt8) (v:Nat) (y:Option (List UInt8)) (r:List UInt8):List UInt8:=
 60::(br++(b32++(cJ xId 39 id1 (M++dec v)++([]++62::pi M y ([]++60::47::(br++(b32++62::r)))))))
theorem uf {a b:ByteArray} (h:a.data.toList=b.data.toList):eqB a b=true:=by unfold eqB;rw[h];simp
theorem kN (l:List UInt8):(mkB l).data.toList=l:=by simp[mkB]
def pj (M:List UInt8) (ks:List (ByteArray × ByteArray × ByteArray)):Prop:=∃k,(ks.find? fun k=>eqB k.1 (mkB (M++[108])))=some (k,mkB br,mkB cN)
theorem fZ {n i:Nat} {L:List Atr} {w l:List UInt8} (hw:Bs w) (a:At s i (w++62::l)):∃j,bq s (n+1) L i= .ok (L,false,j)/\At s j l:=⟨_,qF hw a⟩
theorem kB {n i:Nat} {L:List Atr} {w l:List UInt8} (hw:Bs w) (a:At s i (w++47::62::l)):∃j,bq s (n+1) L i= .ok (L,true,j)/\At s j l:=⟨_,lm hw a⟩
theorem sL {M:List UInt8} (hM:Sm M) {y r:List UInt8} {nm:ByteArray} {v n:Nat} {x:Xs} (hnm:nm.data.toList=br) (hk:pj M x.2.keys) (h1:x.1=[]) (hy:∀c∈y,bD c.toNat=true) (hl:y.length<=256) (hs:10<=s.size) (a:At s x.2.i (pi M (some y) r)):
  ∃j,inX s (elem s (gP s rd cl true v nm)) nm (n+1) x=inX s (elem s (gP s rd cl true v nm)) nm n ([cN],{x.2 with i:=j,labels:=x.2.labels.set v (mkB y),h0:=true})/\At s j r:=by
 obtain⟨hb,a1⟩:=fY (n:=s.size) (w:=[]) (c:=100) (fun c hc=>by cases hc) (by decide) (show At s x.2.i ([]++60::100::_)from a)
 have a1:At s (x.2.i+0+1) (fH++(b32++(cJ dQ 39 id1 (M++[108])++([]++62::(y.flatMap pB++60::47::(fH++([]++62::r))))))):=a1
 have a2:=At.app a1
 obtain⟨f,hf⟩:∃f,s.size+1=f+2:=⟨s.size-1,by omega⟩
 obtain⟨t1,n1,v1,e1,b1⟩:=aV (n:=f+1) (L:=[]) jq (by simp[b32]) (q:=39) (e:=id1) ⟨jV (by decide) ⟨_,_,rfl,by decide⟩,.inr rfl,(hM.app (by intro c hc;simp only[List.mem_singleton]at hc;subst hc;exact .inl (by decide))).enc (.inr rfl),by simp⟩ a2
 obtain⟨j,e4,b4⟩:=fZ (n:=f) (L:=[]++[t1]) (w:=[]) (fun c hc=>by cases hc) b1
 rw[<-hf]at e1
 have ha:=e1.trans e4
 obtain⟨nmE,hnmE,he⟩:=gH (may:=gP s rd cl true v nm) (x:=x.at (x.2.i+0+1)) (x1:=x.at (x.2.i+0+1+fH.length)) (k:=fH) (read:=ia s rd cl true v nm) ⟨⟨_,_,rfl,by decide⟩,List.all_eq_true.1 (show(fH.all fun c=>dN c.toNat)=true by decide),fh.cons (by decide)⟩ a1 (fun nm hnm=>by
  unfold gP
  rw[if_pos hnm];rfl) ha
 have tx:=qE (ends:=fun c=>decide (c=60)) (may:=fun c=>bD c||cz c) (q:=60) (by decide) (out:=[]) b4 (yR hy)
 rw[List.nil_append]at tx
 have b5:=At.app b4
 obtain⟨_,_,b6⟩:=b5.cons
 obtain⟨hc,b7⟩:=ph (nm:=nmE) (k:=fH) (w:=[]) ⟨⟨_,_,rfl,by decide⟩,List.all_eq_true.1 (show(fH.all fun c=>dN c.toNat)=true by decide)⟩ hnmE (fun c hc=>by cases hc) b6
 refine⟨_,jU hb a1 (by decide) ?_,b7⟩
 show elem s (gP s rd cl true v nm) (x.at (x.2.i+0+1))=_
 rw[he]
 obtain⟨k,hk⟩:=hk
 obtain⟨xs,xd⟩:=x
 simp only at h1
 subst h1
 show ia s rd cl true v nm ⟨nmE,_,_,[]++[t1],false⟩ ([],{xd with i:=j})=_
 generalize hT:(⟨nmE,(Xs.at ([],xd) (xd.i+0+1)).2.i-1,(Xs.at ([],xd) (xd.i+0+1)).2.i,[]++[t1],false⟩:Tg)=tg
 have tn:tg.name=nmE:=by rw[<-hT]
 have tw:tg.whole=false:=by rw[<-hT]
 have g1:cK tg dQ=some t1:=by
  rw[<-hT]
  unfold cK
  simp only[List.nil_append]
  rw[List.find?_cons_of_pos (by rw[n1];decide)]
 have s1:aw tg dQ=mkB (M++[108]):=by unfold aw;rw[g1];exact v1
 have nd:bJ tg [dQ]= .ok ():=by
  unfold bJ;rw[g1];rfl
 have t0:eD true (mkB cN).data.toList=1:=by rw[kN];decide
 have co:∀z:Xs,z.2.i=j->eO s tg z= .ok (mkB y,j,z.at (j+(y.flatMap pB).length+1+1+fH.length+([]:List UInt8).length+1)):=by
  intro z hz
  unfold eO
  rw[if_neg (by rw[tw];decide),hz,tx]
  simp only[Er.bind]
  rw[tn,hc]
 unfold ia
 rw[nd,s1]
 simp only[Er.bind]
 rw[hk]
 simp only[]
 rw[uf (a:=mkB br) (b:=nm) (by rw[kN,hnm])]
 simp only[aP,t0]
 rw[kN]
 simp only[show decide ((1:Nat)=0)=false by decide,Bool.false_or,List.contains_nil,Bool.not_false,if_neg (show ¬(1:Nat)=0 by decide)]
 rw[co _ rfl]
 simp only[]
 have sz:(mkB y).size=y.length:=by show(mkB y).data.toList.length=_;rw[kN]
 unfold dX
 rw[if_pos rfl,kN,sz,decide_eq_true hl,List.all_eq_true.2 hy]
 rfl
def sM (ls:List ByteArray) (v:Nat) (y:Option (List UInt8)):List ByteArray:=match y with | some y=>(ls++[noB]).set v (mkB y) | none=>ls++[noB]
theorem sN {M:List UInt8} (hM:Sm M) {v:Nat} {y:Option (List UInt8)} {r:List UInt8} {nm:ByteArray} {n:Nat} {x:Xs} (hn:x.2.n<1024) (hid:(x.2.ids.any fun p=>eqB p.1 (mkB (M++dec v)))=false) (hk:pj M x.2.keys) (hy:∀z,y=some z->(∀c∈z,bD c.toNat=true)/\z.length<=256) (hs:10<=s.size) (a:At s x.2.i (lq M v y r)):
  ∃j,inX s (elem s (aI s rd cl)) nm (n+1) x=inX s (elem s (aI s rd cl)) nm n (x.1,{x.2 with i:=j,n:=x.2.n+1,ids:=x.2.ids++[(mkB (M++dec v),x.2.n)],labels:=sM x.2.labels x.2.n y,spots:=x.2.spots++[(0,0)],h0:=x.2.h0||y.isSome})/\At s j r:=by
 obtain⟨hb,a1⟩:=fY (n:=s.size) (w:=[]) (c:=110) (fun c hc=>by cases hc) (by decide) (show At s x.2.i ([]++60::110::_)from a)
 have a1:At s (x.2.i+0+1) (br++(b32++(cJ xId 39 id1 (M++dec v)++([]++62::pi M y ([]++60::47::(br++(b32++62::r))))))):=a1
 have a2:=At.app a1
 obtain⟨f,hf⟩:∃f,s.size+1=f+2:=⟨s.size-1,by omega⟩
 obtain⟨t1,n1,v1,e1,b1⟩:=aV (n:=f+1) (L:=[]) jq (by simp[b32]) (q:=39) (e:=id1) ⟨jV (by decide) ⟨_,_,rfl,by decide⟩,.inr rfl,(hM.app (Sm.dec v)).enc (.inr rfl),by simp⟩ a2
 obtain⟨j,e4,b4⟩:=fZ (n:=f) (L:=[]++[t1]) (w:=[]) (fun c hc=>by cases hc) b1
 rw[<-hf]at e1
 have ha:=e1.trans e4
 obtain⟨nmE,hnmE,he⟩:=gH (may:=aI s rd cl) (x:=x.at (x.2.i+0+1)) (x1:=x.at (x.2.i+0+1+br.length)) (k:=br) (read:=gQ s rd cl) ⟨⟨_,_,rfl,by decide⟩,List.all_eq_true.1 (show(br.all fun c=>dN c.toNat)=true by decide),fh.cons (by decide)⟩ a1 (fun nm hnm=>by
  unfold aI
  rw[if_pos hnm]
  have:decide ((Xs.at (x.at (x.2.i+0+1)) ((x.at (x.2.i+0+1)).2.i+br.length)).2.n<1024)=true:=decide_eq_true hn
  rw[this];rfl) ha
 generalize hT:(⟨nmE,(x.at (x.2.i+0+1)).2.i-1,(x.at (x.2.i+0+1)).2.i,[]++[t1],false⟩:Tg)=tg at he
 have tn:tg.name=nmE:=by rw[<-hT]
 have tw:tg.whole=false:=by rw[<-hT]
 have g1:cK tg xId=some t1:=by
  rw[<-hT]
  unfold cK
  simp only[List.nil_append]
  rw[List.find?_cons_of_pos (by rw[n1];decide)]
 have s1:aw tg xId=mkB (M++dec v):=by unfold aw;rw[g1];exact v1
 have nd:bJ tg [xId]= .ok ():=by
  unfold bJ;rw[g1];rfl
 have wi:∃j2,within s (elem s (gP s rd cl true x.2.n tg.name)) tg ([],{x.2 with i:=j,n:=x.2.n+1,ids:=x.2.ids++[(mkB (M++dec v),x.2.n)],labels:=x.2.labels++[noB],spots:=x.2.spots++[(0,0)]})=
   .ok ((match y with | some _=>[cN] | none=>[]),{x.2 with i:=j2,n:=x.2.n+1,ids:=x.2.ids++[(mkB (M++dec v),x.2.n)],labels:=sM x.2.labels x.2.n y,spots:=x.2.spots++[(0,0)],h0:=x.2.h0||y.isSome})/\At s j2 r:=by
  unfold within
  rw[if_neg (by rw[tw];decide),tn]
  have nk:(∃c r,br=c::r/\gj c.toNat=true)/\∀c∈br,dN c.toNat=true:=⟨⟨_,_,rfl,by decide⟩,List.all_eq_true.1 (show(br.all fun c=>dN c.toNat)=true by decide)⟩
  cases y with
  | none=>
   obtain⟨j2,i1,i2⟩:=iH (el:=elem s (gP s rd cl true x.2.n nmE)) (nm:=nmE) (n:=s.size) (x:=([],{x.2 with i:=j,n:=x.2.n+1,ids:=x.2.ids++[(mkB (M++dec v),x.2.n)],labels:=x.2.labels++[noB],spots:=x.2.spots++[(0,0)]})) nk hnmE (w:=[]) (w2:=b32) (fun c hc=>by cases hc) jq b4
   refine⟨j2,?_,i2⟩
   rw[i1]
   simp[sM,Xs.at]
  | some y=>
   obtain⟨h1,h2⟩:=hy y rfl
   obtain⟨j3,d1,d2⟩:=sL (rd:=rd) (cl:=cl) hM (nm:=nmE) (v:=x.2.n) (n:=s.size) (x:=([],{x.2 with i:=j,n:=x.2.n+1,ids:=x.2.ids++[(mkB (M++dec v),x.2.n)],labels:=x.2.labels++[noB],spots:=x.2.spots++[(0,0)]})) hnmE hk rfl h1 h2 hs b4
   obtain⟨m,hm⟩:∃m,s.size=m+1:=⟨s.size-1,by omega⟩
   rw[d1,hm]
   obtain⟨j2,i1,i2⟩:=iH (el:=elem s (gP s rd cl true x.2.n nmE)) (nm:=nmE) (n:=m) (x:=([cN],{x.2 with i:=j3,n:=x.2.n+1,ids:=x.2.ids++[(mkB (M++dec v),x.2.n)],labels:=(x.2.labels++[noB]).set x.2.n (mkB y),spots:=x.2.spots++[(0,0)],h0:=true})) nk hnmE (w:=[]) (w2:=b32) (fun c hc=>by cases hc) jq d2
   refine⟨j2,?_,i2⟩
   rw[i1]
   simp[sM,Xs.at]
 obtain⟨j2,w1,w2⟩:=wi
 refine⟨j2,jU hb a1 (by decide) ?_,w2⟩
 show elem s (aI s rd cl) (x.at (x.2.i+0+1))=_
 rw[he]
 show gQ s rd cl tg (x.1,{x.2 with i:=j})=_
 unfold gQ below
 rw[nd,s1]
 simp only[Er.bind]
 rw[hid]
 simp only[Bool.not_false,aP]
 unfold gk
 rw[w1]
end
section
variable {s:ByteArray} {rd:ByteArray->Option (Nat × Nat)} {cl:Nat->Nat}
def hU (M:List UInt8):List (Nat × Nat)->List UInt8->List UInt8
 | [],r=>r
 | e::es,r=>lp M e (hU M es r)
def pm (M:List UInt8) (es:List (Nat × Nat)):List ByteArray:=es.flatMap fun e=>[mkB (M++dec e.1),mkB (M++dec e.2)]
theorem lr {M:List UInt8} (hM:Sm M) {nm:ByteArray} (hs:10<=s.size):∀(es:List (Nat × Nat)) {r:List UInt8} {n:Nat} {x:Xs},x.2.weights.length+es.length<=3072->At s x.2.i (hU M es r)->
  ∃j E W,inX s (elem s (aI s rd cl)) nm (n+es.length) x=inX s (elem s (aI s rd cl)) nm n (x.1,{x.2 with i:=j,ends:=x.2.ends++E,weights:=W})/\At s j r/\E.map (·.1)=pm M es
 | [],r,n,x,hw,a=>⟨x.2.i,[],x.2.weights,by simp,a,rfl⟩
 | e::es,r,n,x,hw,a=>by
  rw[List.length_cons]at hw
  obtain⟨j,a1,a2,h1,h2⟩:=sK (rd:=rd) (cl:=cl) (nm:=nm) (n:=n+es.length) hM (by omega) hs a
  obtain⟨j3,E,W,h3,h4,h5⟩:=lr hM (nm:=nm) hs es (r:=r) (n:=n) (x:=(x.1,{x.2 with i:=j,ends:=x.2.ends++[(mkB (M++dec e.1),a1),(mkB (M++dec e.2),a2)],weights:=x.2.weights++[4607182418800017408]})) (by simp;omega) h2
  refine⟨j3,[(mkB (M++dec e.1),a1),(mkB (M++dec e.2),a2)]++E,W,?_,h4,?_⟩
  ·rw[List.length_cons,<-Nat.add_assoc,h1,h3]
   simp
  ·rw[List.map_append,h5];rfl
def jW (M:List UInt8) (Y:Nat->Option (List UInt8)) (r:List UInt8):Nat->Nat->List UInt8
 | 0,_=>r
 | k+1,v=>lq M v (Y v) (jW M Y r k (v+1))
def i6 (M:List UInt8) (v:Nat):List (ByteArray × Nat):=(List.range v).map fun p=>(mkB (M++dec p),p)
def ep (Y:Nat->Option (List UInt8)) (v:Nat):List ByteArray:=(List.range v).map fun p=>match Y p with | some y=>mkB y | none=>noB
def iT (Y:Nat->Option (List UInt8)) (v:Nat):Bool:=(List.range v).any fun p=>(Y p).isSome
theorem wm (M:List UInt8) (v:Nat):((i6 M v).any fun p=>eqB p.1 (mkB (M++dec v)))=false:=by
 rw[List.any_eq_false]
 intro p hp
 obtain⟨q,hq,rfl⟩:=List.mem_map.1 hp
 have hq:=List.mem_range.1 hq
 simp only[eqB,kN,beq_iff_eq,List.append_cancel_left_eq]
 intro e
 have:=congrArg qz e
 rw[gY,gY]at this
 omega
theorem ug (Y:Nat->Option (List UInt8)) (v:Nat):sM (ep Y v) v (Y v)=ep Y (v+1):=by
 have l:(ep Y v).length=v:=by simp[ep]
 have e:ep Y (v+1)=ep Y v++[match Y v with | some y=>mkB y | none=>noB]:=by
  unfold ep
  rw[List.range_succ,List.map_append];rfl
 rw[e]
 unfold sM
 cases Y v with
 | none=>rfl
 | some y=>
  simp only[]
  rw[List.set_append_right _ _ (by omega),l,Nat.sub_self];rfl
theorem lu {M:List UInt8} (hM:Sm M) {nm:ByteArray} (hs:10<=s.size) {Y:Nat->Option (List UInt8)} (hy:∀v z,Y v=some z->(∀c∈z,bD c.toNat=true)/\z.length<=256):∀(k v:Nat) {r:List UInt8} {n:Nat} {x:Xs},x.2.n=v->x.2.ids=i6 M v->x.2.labels=ep Y v->x.2.h0=iT Y v->pj M x.2.keys->v+k<=1024->At s x.2.i (jW M Y r k v)->
  ∃j S,inX s (elem s (aI s rd cl)) nm (n+k) x=inX s (elem s (aI s rd cl)) nm n (x.1,{x.2 with i:=j,n:=v+k,ids:=i6 M (v+k),labels:=ep Y (v+k),spots:=S,h0:=iT Y (v+k)})/\At s j r
 | 0,v,r,n,x,h1,h2,h3,h4,hk,hv,a=>⟨x.2.i,x.2.spots,by
   obtain⟨x1,x2⟩:=x
   obtain⟨i,n',dir,gr,keys,ids,ends,labels,spots,weights,b0,b1,b2⟩:=x2
   simp only at h1 h2 h3 h4
   subst h1;subst h2;subst h3;subst h4
   rfl,a⟩
 | k+1,v,r,n,x,h1,h2,h3,h4,hk,hv,a=>by
  obtain⟨j,e1,e2⟩:=sN (rd:=rd) (cl:=cl) (nm:=nm) (n:=n+k) (v:=v) (x:=x) hM (by omega) (by rw[h2];exact wm M v) hk (hy v) hs a
  rw[h1,h2,h3,h4,ug]at e1
  have ei:i6 M v++[(mkB (M++dec v),v)]=i6 M (v+1):=by
   unfold i6
   rw[List.range_succ,List.map_append];rfl
  have ea:(iT Y v||(Y v).isSome)=iT Y (v+1):=by
   unfold iT
   rw[List.range_succ,List.any_append];simp
  rw[ei,ea]at e1
  obtain⟨j2,S,e3,e4⟩:=lu hM (nm:=nm) hs hy k (v+1) (r:=r) (n:=n) (x:=(x.1,{x.2 with i:=j,n:=v+1,ids:=i6 M (v+1),labels:=ep Y (v+1),spots:=x.2.spots++[(0,0)],h0:=iT Y (v+1)})) rfl rfl rfl rfl hk (by omega) e2
  refine⟨j2,S,?_,e4⟩
  rw[<-Nat.add_assoc,e1,e3,show v+1+k=v+(k+1) by omega]
theorem rJ {k:List UInt8} (h:(k.all fun c=>dN c.toNat)=true) (h2:∃c r,k=c::r/\gj c.toNat=true):(∃c r,k=c::r/\gj c.toNat=true)/\∀c∈k,dN c.toNat=true:=⟨h2,List.all_eq_true.1 h⟩
def ol (M:List UInt8) (Y:Nat->Option (List UInt8)) (es:List (Nat × Nat)) (N:Nat) (r:List UInt8):List UInt8:=
 [10]++60::(fG++([9]++(cJ bm 39 id1 aZ++([]++62::hU M es (jW M Y ([]++60::47::(fG++([]++62::r))) N 0)))))
theorem qG {M:List UInt8} (hM:Sm M) {Y:Nat->Option (List UInt8)} (hy:∀v z,Y v=some z->(∀c∈z,bD c.toNat=true)/\z.length<=256) {es:List (Nat × Nat)} {N:Nat} {r:List UInt8} {nm:ByteArray} {n:Nat} {x:Xs} (hk:pj M x.2.keys)
  (h0:x.2.n=0/\x.2.ids=[]/\x.2.labels=[]/\x.2.h0=false/\x.2.graph=false/\x.2.weights=[]) (hN:N<=1024) (hE:es.length<=3072) (hsz:N+es.length+10<=s.size) (a:At s x.2.i (ol M Y es N r)):
  ∃j E W S,inX s (elem s (aH s rd cl)) nm (n+1) x=inX s (elem s (aH s rd cl)) nm n (x.1,{x.2 with i:=j,dir:=false,graph:=true,n:=N,ids:=i6 M N,ends:=x.2.ends++E,labels:=ep Y N,spots:=S,weights:=W,h0:=iT Y N})/\At s j r/\E.map (·.1)=pm M es:=by
 obtain⟨g0,g1,g2,g3,g4,g5⟩:=h0
 have b10:Bs [10]:=by intro c hc;simp only[List.mem_singleton]at hc;subst hc;decide
 have b9:Bs [9]:=by intro c hc;simp only[List.mem_singleton]at hc;subst hc;decide
 obtain⟨hb,a1⟩:=fY (n:=s.size) (w:=[10]) (c:=103) b10 (by decide) (show At s x.2.i ([10]++60::103::_)from a)
 have a1:At s (x.2.i+1+1) (fG++([9]++(cJ bm 39 id1 aZ++([]++62::hU M es (jW M Y ([]++60::47::(fG++([]++62::r))) N 0))))):=a1
 have a2:=At.app a1
 obtain⟨f,hf⟩:∃f,s.size+1=f+2:=⟨s.size-1,by omega⟩
 obtain⟨t1,n1,v1,e1,b1⟩:=aV (n:=f+1) (L:=[]) b9 (by simp) (q:=39) (e:=id1) (x:=aZ) ⟨jV (by decide) ⟨_,_,rfl,by decide⟩,.inr rfl,Sm.enc (by intro c hc;simp only[aZ,List.mem_cons,List.not_mem_nil,or_false]at hc;rcases hc with rfl | rfl | rfl | rfl | rfl | rfl | rfl | rfl | rfl | rfl<;>exact .inl (by decide)) (.inr rfl),by simp⟩ a2
 obtain⟨j,e4,b4⟩:=fZ (n:=f) (L:=[]++[t1]) (w:=[]) (fun c hc=>by cases hc) b1
 rw[<-hf]at e1
 have ha:=e1.trans e4
 have nk:=rJ (k:=fG) (by decide) ⟨_,_,rfl,by decide⟩
 obtain⟨nmE,hnmE,he⟩:=gH (may:=aH s rd cl) (x:=x.at (x.2.i+1+1)) (x1:=(x.1,{x.2 with i:=x.2.i+1+1+fG.length,graph:=true})) (k:=fG) (read:=gp s rd cl) ⟨nk.1,nk.2,fh.cons (by decide)⟩ a1 (fun nm hnm=>by
  unfold aH
  rw[if_neg (by rw[hnm];decide),if_pos hnm]
  have:(Xs.at (x.at (x.2.i+1+1)) ((x.at (x.2.i+1+1)).2.i+fG.length)).2.graph=false:=g4
  rw[this];rfl) ha
 generalize hT:(⟨nmE,(x.at (x.2.i+1+1)).2.i-1,(x.at (x.2.i+1+1)).2.i,[]++[t1],false⟩:Tg)=tg at he
 have tn:tg.name=nmE:=by rw[<-hT]
 have tw:tg.whole=false:=by rw[<-hT]
 have q1:cK tg bm=some t1:=by
  rw[<-hT]
  unfold cK
  simp only[List.nil_append]
  rw[List.find?_cons_of_pos (by rw[n1];decide)]
 have s1:aw tg bm=mkB aZ:=by unfold aw;rw[q1];exact v1
 have nd:bJ tg [bm]= .ok ():=by
  unfold bJ;rw[q1];rfl
 obtain⟨m,hm⟩:∃m,s.size+1=(m+1+N)+es.length:=⟨s.size-N-es.length,by omega⟩
 obtain⟨j2,E,W,c1,c2,c3⟩:=lr (rd:=rd) (cl:=cl) hM (nm:=nmE) (by omega) es (n:=m+1+N) (x:=([],{x.2 with i:=j,graph:=true,dir:=false})) (by show x.2.weights.length+_<=_;rw[g5];simp;omega) b4
 obtain⟨j3,S,d1,d2⟩:=lu (rd:=rd) (cl:=cl) hM (nm:=nmE) (by omega) hy N 0 (n:=m+1) (x:=([],{x.2 with i:=j2,graph:=true,dir:=false,ends:=x.2.ends++E,weights:=W})) g0 g1 g2 g3 hk (by omega) c2
 obtain⟨j4,f1,f2⟩:=iH (el:=elem s (aI s rd cl)) (nm:=nmE) (n:=m) (x:=([],{x.2 with i:=j3,graph:=true,dir:=false,ends:=x.2.ends++E,weights:=W,n:=0+N,ids:=i6 M (0+N),labels:=ep Y (0+N),spots:=S,h0:=iT Y (0+N)})) nk hnmE (w:=[]) (w2:=[]) (fun c hc=>by cases hc) (fun c hc=>by cases hc) d2
 refine⟨j4,E,W,S,jU hb a1 (by decide) ?_,f2,c3⟩
 show elem s (aH s rd cl) (x.at (x.2.i+1+1))=_
 rw[he]
 show gp s rd cl tg (x.1,{x.2 with i:=j,graph:=true})=_
 unfold gp below
 rw[nd,s1]
 simp only[Er.bind]
 rw[kN,show decide (aZ=bO\/aZ=aZ)=true by decide,show decide (aZ=bO)=false by decide]
 simp only[aP]
 unfold within
 rw[if_neg (by rw[tw];decide),tn,hm,c1,d1,f1]
 simp[Xs.at]
def rK (M r:List UInt8):List UInt8:=dQ++(b32++(cJ bV 39 id1 cU++(b32++(cJ xId 39 id1 (M++[119])++(b32++(cJ dT 34 id1 bU++([]++47::62::r)))))))
theorem sO {M:List UInt8} (hM:Sm M) {r:List UInt8} {nm:ByteArray} {n i:Nat} {x:Xs} (hnew:(x.2.keys.any fun k=>eqB k.1 (mkB (M++[119])))=false) (hkn:x.2.keys.length<64) (hs:10<=s.size) (hb:cT s (s.size+1) x.2.i= .ok (some i)) (a:At s i (rK M r)):
  ∃j,inX s (elem s (aH s rd cl)) nm (n+1) x=inX s (elem s (aH s rd cl)) nm n (x.1,{x.2 with i:=j,keys:=x.2.keys++[(mkB (M++[119]),mkB bU,mkB cU)]})/\At s j r:=by
 have a1:At s i (dQ++(b32++(cJ bV 39 id1 cU++(b32++(cJ xId 39 id1 (M++[119])++(b32++(cJ dT 34 id1 bU++([]++47::62::r)))))))):=a
 have a2:=At.app a1
 obtain⟨f,hf⟩:∃f,s.size+1=f+4:=⟨s.size-3,by omega⟩
 obtain⟨t1,n1,v1,e1,b1⟩:=aV (n:=f+3) (L:=[]) jq (by simp[b32]) (q:=39) (e:=id1) ⟨jV (by decide) ⟨_,_,rfl,by decide⟩,.inr rfl,Sm.enc (by intro c hc;simp only[cU,List.mem_cons,List.not_mem_nil,or_false]at hc;rcases hc with rfl | rfl | rfl | rfl | rfl | rfl<;>exact .inl (by decide)) (.inr rfl),by simp⟩ a2
 obtain⟨t2,n2,v2,e2,b2⟩:=aV (n:=f+2) (L:=[]++[t1]) jq (by simp[b32]) (q:=39) (e:=id1) ⟨jV (by decide) ⟨_,_,rfl,by decide⟩,.inr rfl,(hM.app (by intro c hc;simp only[List.mem_singleton]at hc;subst hc;exact .inl (by decide))).enc (.inr rfl),by
  intro t ht
  simp only[List.nil_append,List.mem_singleton]at ht
  subst ht
  rw[n1];decide⟩ b1
 obtain⟨t3,n3,v3,e3,b3⟩:=aV (n:=f+1) (L:=[]++[t1]++[t2]) jq (by simp[b32]) (q:=34) (e:=id1) ⟨jV (by decide) ⟨_,_,rfl,by decide⟩,.inl rfl,Sm.enc (by intro c hc;simp only[bU,List.mem_cons,List.not_mem_nil,or_false]at hc;rcases hc with rfl | rfl | rfl | rfl<;>exact .inl (by decide)) (.inl rfl),by
  intro t ht
  simp only[List.nil_append,List.cons_append,List.mem_cons,List.not_mem_nil,or_false]at ht
  rcases ht with rfl | rfl
  ·rw[n1];decide
  ·rw[n2];decide⟩ b2
 obtain⟨j,e4,b4⟩:=kB (n:=f) (L:=[]++[t1]++[t2]++[t3]) (w:=[]) (fun c hc=>by cases hc) b3
 rw[<-hf]at e1
 have ha:=((e1.trans e2).trans e3).trans e4
 have nk:=rJ (k:=dQ) (by decide) ⟨_,_,rfl,by decide⟩
 obtain⟨nmE,hnmE,he⟩:=gH (may:=aH s rd cl) (x:=x.at i) (x1:=x.at (i+dQ.length)) (k:=dQ) (read:=js s) ⟨nk.1,nk.2,fh.cons (by decide)⟩ a1 (fun nm hnm=>by
  unfold aH
  rw[if_pos hnm]
  have:decide ((Xs.at (x.at i) ((x.at i).2.i+dQ.length)).2.keys.length<64)=true:=decide_eq_true hkn
  rw[this];rfl) ha
 generalize hT:(⟨nmE,(x.at i).2.i-1,(x.at i).2.i,[]++[t1]++[t2]++[t3],true⟩:Tg)=tg at he
 have tw:tg.whole=true:=by rw[<-hT]
 have tl:tg.list=[t1,t2,t3]:=by rw[<-hT];rfl
 have g1:cK tg xId=some t2:=by
  unfold cK
  rw[tl,List.find?_cons_of_neg (by rw[n1];decide),List.find?_cons_of_pos (by rw[n2];decide)]
 have g2:cK tg dT=some t3:=by
  unfold cK
  rw[tl,List.find?_cons_of_neg (by rw[n1];decide),List.find?_cons_of_neg (by rw[n2];decide),List.find?_cons_of_pos (by rw[n3];decide)]
 have g3:cK tg bV=some t1:=by
  unfold cK
  rw[tl,List.find?_cons_of_pos (by rw[n1];decide)]
 have nd:bJ tg [xId,dT,bV]= .ok ():=by
  unfold bJ;rw[g1];simp only[Option.isSome_some,aP]
  unfold bJ;rw[g2];simp only[Option.isSome_some,aP]
  unfold bJ;rw[g3];rfl
 have ck:∀r:Xd,(r.keys.any fun k=>eqB k.1 (mkB (M++[119])))=false->bo r tg.list= .ok ():=by
  intro r hr
  rw[tl]
  unfold bo
  rw[n1,if_neg (by decide),if_neg (by decide)]
  unfold bo
  rw[n2,v2,if_neg (by decide),if_pos (by decide),hr]
  simp only[Bool.not_false,aP]
  unfold bo
  rw[n3,v3,kN,if_pos (by decide),show decide (bU=br\/bU=bU)=true by decide]
  simp only[aP]
  rfl
 refine⟨j,jU hb a1 (by decide) ?_,b4⟩
 rw[he]
 show js s tg (x.1,{x.2 with i:=j})=_
 unfold js below
 rw[nd]
 simp only[Er.bind]
 rw[ck {x.2 with i:=j} hnew]
 simp only[]
 unfold within
 rw[if_pos tw]
 unfold aw
 rw[g1,g2,g3]
 simp only[Option.map_some,Option.getD_some,v1,v2,v3]
def rM (M r:List UInt8):List UInt8:=dQ++(b32++(cJ dT 39 id1 br++(b32++(cJ bV 39 id1 cN++(b32++(cJ xId 39 id1 (M++[108])++([]++47::62::r)))))))
theorem sP {M:List UInt8} (hM:Sm M) {r:List UInt8} {nm:ByteArray} {n i:Nat} {x:Xs} (hnew:(x.2.keys.any fun k=>eqB k.1 (mkB (M++[108])))=false) (hkn:x.2.keys.length<64) (hs:10<=s.size) (hb:cT s (s.size+1) x.2.i= .ok (some i)) (a:At s i (rM M r)):
  ∃j,inX s (elem s (aH s rd cl)) nm (n+1) x=inX s (elem s (aH s rd cl)) nm n (x.1,{x.2 with i:=j,keys:=x.2.keys++[(mkB (M++[108]),mkB br,mkB cN)]})/\At s j r:=by
 have a1:At s i (dQ++(b32++(cJ dT 39 id1 br++(b32++(cJ bV 39 id1 cN++(b32++(cJ xId 39 id1 (M++[108])++([]++47::62::r)))))))):=a
 have a2:=At.app a1
 obtain⟨f,hf⟩:∃f,s.size+1=f+4:=⟨s.size-3,by omega⟩
 obtain⟨t1,n1,v1,e1,b1⟩:=aV (n:=f+3) (L:=[]) jq (by simp[b32]) (q:=39) (e:=id1) ⟨jV (by decide) ⟨_,_,rfl,by decide⟩,.inr rfl,Sm.enc (by intro c hc;simp only[br,List.mem_cons,List.not_mem_nil,or_false]at hc;rcases hc with rfl | rfl | rfl | rfl<;>exact .inl (by decide)) (.inr rfl),by simp⟩ a2
 obtain⟨t2,n2,v2,e2,b2⟩:=aV (n:=f+2) (L:=[]++[t1]) jq (by simp[b32]) (q:=39) (e:=id1) ⟨jV (by decide) ⟨_,_,rfl,by decide⟩,.inr rfl,Sm.enc (by intro c hc;simp only[cN,List.mem_cons,List.not_mem_nil,or_false]at hc;rcases hc with rfl | rfl | rfl | rfl | rfl<;>exact .inl (by decide)) (.inr rfl),by
  intro t ht
  simp only[List.nil_append,List.mem_singleton]at ht
  subst ht
  rw[n1];decide⟩ b1
 obtain⟨t3,n3,v3,e3,b3⟩:=aV (n:=f+1) (L:=[]++[t1]++[t2]) jq (by simp[b32]) (q:=39) (e:=id1) ⟨jV (by decide) ⟨_,_,rfl,by decide⟩,.inr rfl,(hM.app (by intro c hc;simp only[List.mem_singleton]at hc;subst hc;exact .inl (by decide))).enc (.inr rfl),by
  intro t ht
  simp only[List.nil_append,List.cons_append,List.mem_cons,List.not_mem_nil,or_false]at ht
  rcases ht with rfl | rfl
  ·rw[n1];decide
  ·rw[n2];decide⟩ b2
 obtain⟨j,e4,b4⟩:=kB (n:=f) (L:=[]++[t1]++[t2]++[t3]) (w:=[]) (fun c hc=>by cases hc) b3
 rw[<-hf]at e1
 have ha:=((e1.trans e2).trans e3).trans e4
 have nk:=rJ (k:=dQ) (by decide) ⟨_,_,rfl,by decide⟩
 obtain⟨nmE,hnmE,he⟩:=gH (may:=aH s rd cl) (x:=x.at i) (x1:=x.at (i+dQ.length)) (k:=dQ) (read:=js s) ⟨nk.1,nk.2,fh.cons (by decide)⟩ a1 (fun nm hnm=>by
  unfold aH
  rw[if_pos hnm]
  have:decide ((Xs.at (x.at i) ((x.at i).2.i+dQ.length)).2.keys.length<64)=true:=decide_eq_true hkn
  rw[this];rfl) ha
 generalize hT:(⟨nmE,(x.at i).2.i-1,(x.at i).2.i,[]++[t1]++[t2]++[t3],true⟩:Tg)=tg at he
 have tw:tg.whole=true:=by rw[<-hT]
 have tl:tg.list=[t1,t2,t3]:=by rw[<-hT];rfl
 have g1:cK tg xId=some t3:=by
  unfold cK
  rw[tl,List.find?_cons_of_neg (by rw[n1];decide),List.find?_cons_of_neg (by rw[n2];decide),List.find?_cons_of_pos (by rw[n3];decide)]
 have g2:cK tg dT=some t1:=by
  unfold cK
  rw[tl,List.find?_cons_of_pos (by rw[n1];decide)]
 have g3:cK tg bV=some t2:=by
  unfold cK
  rw[tl,List.find?_cons_of_neg (by rw[n1];decide),List.find?_cons_of_pos (by rw[n2];decide)]
 have nd:bJ tg [xId,dT,bV]= .ok ():=by
  unfold bJ;rw[g1];simp only[Option.isSome_some,aP]
  unfold bJ;rw[g2];simp only[Option.isSome_some,aP]
  unfold bJ;rw[g3];rfl
 have ck:∀r:Xd,(r.keys.any fun k=>eqB k.1 (mkB (M++[108])))=false->bo r tg.list= .ok ():=by
  intro r hr
  rw[tl]
  unfold bo
  rw[n1,v1,kN,if_pos (by decide),show decide (br=br\/br=bU)=true by decide]
  simp only[aP]
  unfold bo
  rw[n2,if_neg (by decide),if_neg (by decide)]
  unfold bo
  rw[n3,v3,if_neg (by decide),if_pos (by decide),hr]
  simp only[Bool.not_false,aP]
  rfl
 refine⟨j,jU hb a1 (by decide) ?_,b4⟩
 rw[he]
 show js s tg (x.1,{x.2 with i:=j})=_
 unfold js below
 rw[nd]
 simp only[Er.bind]
 rw[ck {x.2 with i:=j} hnew]
 simp only[]
 unfold within
 rw[if_pos tw]
 unfold aw
 rw[g1,g2,g3]
 simp only[Option.map_some,Option.getD_some,v1,v2,v3]
end
section
variable {s:ByteArray} {rd:ByteArray->Option (Nat × Nat)} {cl:Nat->Nat}
theorem pq {M:List UInt8} {N k at_:Nat} (h:k<N):gd (i6 M N) (mkB (M++dec k),at_)= .ok k:=by
 unfold gd
 cases hf:(i6 M N).find? fun p=>eqB p.1 (mkB (M++dec k))with
 | none=>
  have:=List.find?_eq_none.1 hf (mkB (M++dec k),k) (List.mem_map.2 ⟨k,List.mem_range.2 h,rfl⟩)
  exact absurd (uf rfl) this
 | some p=>
  have h2:=List.find?_some hf
  obtain⟨q,hq,rfl⟩:=List.mem_map.1 (List.mem_of_find?_eq_some hf)
  simp only[eqB,kN,beq_iff_eq,List.append_cancel_left_eq]at h2
  have:=congrArg qz h2
  rw[gY,gY]at this
  subst this;rfl
theorem nr {M:List UInt8} {N:Nat}:∀{es:List (Nat × Nat)} {E:List (ByteArray × Nat)},E.map (·.1)=pm M es->(∀e∈es,e.1<N/\e.2<N)->cd (i6 M N) E= .ok es
 | [],E,h,_=>by
  have:E=[]:=by simpa[pm]using h
  subst this;rfl
 | e::es,E,h,hb=>by
  have h:E.map (·.1)=mkB (M++dec e.1)::mkB (M++dec e.2)::pm M es:=h
  match E,h with
  | (n1,a1)::(n2,a2)::E,h=>
   simp only[List.map_cons,List.cons.injEq]at h
   obtain⟨rfl,rfl,h⟩:=h
   have b:=hb e (by simp)
   rw[cd,pq b.1]
   simp only[Er.bind]
   rw[pq b.2]
   simp only[]
   rw[nr h fun e he=>hb e (by simp[he])]
def rN :List UInt8:=[32,110,111,110,101,32]
def wn (M:List UInt8) (Y:Nat->Option (List UInt8)) (es:List (Nat × Nat)) (N:Nat):List UInt8:=
 60::(cq++(b32++(cJ [97] 39 id1 [49]++([]++62::([]++60::rK M ([]++60::33::45::45::(rN++(cb++([]++60::rM M (ol M Y es N ([]++60::47::(cq++([]++62::[])))))))))))))
theorem uh {M:List UInt8} (hM:Sm M) {Y:Nat->Option (List UInt8)} (hy:∀v z,Y v=some z->(∀c∈z,bD c.toNat=true)/\z.length<=256) {es:List (Nat × Nat)} {N:Nat} (hN:N<=1024) (hE:es.length<=3072) (hb:∀e∈es,e.1<N/\e.2<N) (hsz:N+es.length+10<=s.size) (hs:s.size<=262144) (ht:s.data.toList=wn M Y es N):
  eV s rd cl= .ok ⟨N,false,es,if iT Y N=true then ep Y N else [],[],[]⟩:=by
 have a:At s 0 (wn M Y es N):=by rw[<-ht];exact At.start s
 obtain⟨_,h60,a'⟩:=At.cons (c:=60) a
 have h60:bt s 0=60:=h60
 have a1:At s (0+0+1) (cq++(b32++(cJ [97] 39 id1 [49]++([]++62::([]++60::rK M ([]++60::33::45::45::(rN++(cb++([]++60::rM M (ol M Y es N ([]++60::47::(cq++([]++62::[]))))))))))))):=a'
 obtain⟨_,h103,_⟩:=At.cons (c:=103) (l:=[114,97,112,104,109,108]++_) a1
 have h103:bt s (0+1)=103:=h103
 have hd:head s= .ok 0:=by
  unfold head
  have:same s ib 0=1:=by
   unfold ib same
   rw[h60,if_pos (by decide)]
   unfold same
   rw[h103,if_neg (by decide)]
  rw[this]
  rfl
 obtain⟨hb0,_⟩:=fY (n:=s.size) (i:=0) (w:=[]) (c:=103) (fun c hc=>by cases hc) (by decide) (show At s 0 ([]++60::103::_)from a)
 have hb0:cT s (s.size+1) 0= .ok (some 1):=hb0
 have a2:=At.app a1
 obtain⟨f,hf⟩:∃f,s.size+1=f+2:=⟨s.size-1,by omega⟩
 obtain⟨t1,n1,v1,e1,b1⟩:=aV (n:=f+1) (L:=[]) jq (by simp[b32]) (q:=39) (e:=id1) (x:=[49]) ⟨jV (by decide) ⟨_,_,rfl,by decide⟩,.inr rfl,Sm.enc (by intro c hc;simp only[List.mem_singleton]at hc;subst hc;exact .inr (by decide)) (.inr rfl),by simp⟩ a2
 obtain⟨j,e4,b4⟩:=fZ (n:=f) (L:=[]++[t1]) (w:=[]) (fun c hc=>by cases hc) b1
 rw[<-hf]at e1
 have ha:=e1.trans e4
 have nk:=rJ (k:=cq) (by decide) ⟨_,_,rfl,by decide⟩
 obtain⟨nmE,hnmE,he⟩:=gH (may:=mQ s rd cl) (x:=([],{bn with i:=1})) (x1:=([],{bn with i:=1+cq.length})) (k:=cq) (read:=fun t x=>within s (elem s (aH s rd cl)) t x) ⟨nk.1,nk.2,fh.cons (by decide)⟩ a1 (fun nm hnm=>by
  unfold mQ
  rw[if_pos hnm];rfl) ha
 obtain⟨m,hm⟩:∃m,s.size=m+3:=⟨s.size-3,by omega⟩
 obtain⟨hk1,c1⟩:=fY (n:=s.size) (w:=[]) (c:=107) (fun c hc=>by cases hc) (by decide) (show At s j ([]++60::107::_)from b4)
 obtain⟨j1,d1,d2⟩:=sO (rd:=rd) (cl:=cl) (nm:=nmE) (n:=m+3) (x:=([],{bn with i:=j})) hM rfl (by show 0<64;omega) (by omega) hk1 c1
 obtain⟨n1',n2'⟩:=sJ (n:=s.size) (w:=[]) (note:=rN) (fun c hc=>by cases hc) (by decide) d2
 obtain⟨hk2,c2⟩:=fY (n:=m+2) (w:=[]) (c:=107) (fun c hc=>by cases hc) (by decide) (show At s _ ([]++60::107::_)from n2')
 have hk2:=(n1'.trans (by rw[hm])).trans hk2
 obtain⟨j2,d3,d4⟩:=sP (rd:=rd) (cl:=cl) (nm:=nmE) (n:=m+2) (x:=([],{bn with i:=j1,keys:=[]++[(mkB (M++[119]),mkB bU,mkB cU)]})) hM (by simp[eqB,kN]) (by show 1<64;omega) (by omega) hk2 c2
 have kk:pj M ([]++[(mkB (M++[119]),mkB bU,mkB cU)]++[(mkB (M++[108]),mkB br,mkB cN)]):=by
  refine⟨mkB (M++[108]),?_⟩
  simp only[List.nil_append,List.cons_append]
  rw[List.find?_cons_of_neg (by simp[eqB,kN]),List.find?_cons_of_pos (by simp[eqB])]
 obtain⟨j3,E,W,S,f1,f2,f3⟩:=qG (rd:=rd) (cl:=cl) hM hy (nm:=nmE) (n:=m+1) (x:=([],{bn with i:=j2,keys:=[]++[(mkB (M++[119]),mkB bU,mkB cU)]++[(mkB (M++[108]),mkB br,mkB cN)]})) kk ⟨rfl,rfl,rfl,rfl,rfl,rfl⟩ hN hE hsz d4
 obtain⟨j4,g1,g2⟩:=iH (el:=elem s (aH s rd cl)) (nm:=nmE) (n:=m) (x:=([],{bn with i:=j3,keys:=[]++[(mkB (M++[119]),mkB bU,mkB cU)]++[(mkB (M++[108]),mkB br,mkB cN)],dir:=false,graph:=true,n:=N,ids:=i6 M N,ends:=[]++E,labels:=ep Y N,spots:=S,weights:=W,h0:=iT Y N})) nk hnmE (w:=[]) (w2:=[]) (fun c hc=>by cases hc) (fun c hc=>by cases hc) f2
 have el:elem s (mQ s rd cl) ([],{bn with i:=1})= .ok ([],{bn with i:=j4,keys:=[]++[(mkB (M++[119]),mkB bU,mkB cU)]++[(mkB (M++[108]),mkB br,mkB cN)],dir:=false,graph:=true,n:=N,ids:=i6 M N,ends:=[]++E,labels:=ep Y N,spots:=S,weights:=W,h0:=iT Y N}):=by
  rw[he]
  unfold within
  rw[if_neg (by simp)]
  show inX s (elem s (aH s rd cl)) nmE (s.size+1) ([],{bn with i:=j})=_
  rw[show s.size+1=m+3+1 by omega]
  refine d1.trans ?_
  refine Eq.trans d3 ?_
  refine Eq.trans f1 ?_
  exact g1
 have be:=ue (n:=s.size) g2
 have wh:lw s rd cl 0= .ok {bn with i:=j4,keys:=[]++[(mkB (M++[119]),mkB bU,mkB cU)]++[(mkB (M++[108]),mkB br,mkB cN)],dir:=false,graph:=true,n:=N,ids:=i6 M N,ends:=[]++E,labels:=ep Y N,spots:=S,weights:=W,h0:=iT Y N}:=by
  unfold lw
  rw[hb0]
  simp only[Er.bind]
  rw[el]
  simp only[]
  rw[be]
 unfold eV
 rw[decide_eq_true hs,hd]
 simp only[aP,Er.bind]
 rw[wh]
 simp only[aP,List.nil_append]
 rw[nr f3 hb]
 rfl
end
end Go.Proofs.YtlflalecmhgmjaaGreatDoor.G
