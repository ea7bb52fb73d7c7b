/- The program's attributes and tags of GraphML, by the plain reader. Conditions: none. -/
import Derived.Test.YtemphinmoihdaaaGreatDoorQText
import Derived.Test.YtemphinmoihdaaaGreatDoorSXw
set_option linter.unusedVariables false
set_option linter.unusedSimpArgs false
namespace Go.Proofs.YtemphinmoihdaaaGreatDoor.N
open Go.Proofs.YtemphinmoihdaaaGreatDoor
open Go.X
set_option maxRecDepth 100000
abbrev ptr (b:Nat):Value:=.pointer (some ⟨b,0,none⟩)
def PY (a:G.Atr):Value:=.agg #[.string a.name,.string a.says,QM (a.at_:Int)]
def eA :En G.Atr:=⟨3,fun a=>[.string a.name,.string a.says,QM (a.at_:Int)],QA,fun _=>rfl,fun a v h=>by simp at h;rcases h with rfl | rfl | rfl<;>rfl⟩
def AtV (h:ab) (A:QR) (l:List G.Atr):Prop:=∀(k:Nat) (a:G.Atr),l[k]? =some a->∃g o,A=some ⟨g,o,none⟩/\ac h g (o+k*3)=some (.string a.name)/\ac h g (o+k*3+1)=some (.string a.says)/\ac h g (o+k*3+1+1)=some (QM (a.at_:Int))
theorem lg {h0 h:ab} {M:List Nat} {cs:List Ck} {ty:TypeId} {A:QR} {n C:Nat} {l:List G.Atr} (Y:Sy h0 M h cs) (k:Nat) (hk:cs[k]? =some (Ck.sl eA ty A n C l)):AtV h A l:=by
 intro j a ha
 have hl:=Y.lenS k hk
 have hj:=(List.getElem?_eq_some_iff.1 ha).1
 obtain⟨g,hg,-,-⟩:=Y.atS k hk (i:=(j:Int)) Qz Qz
 exact⟨g,0,hg,Y.cellS k hk hg ha (t:=0) rfl,Y.cellS k hk hg ha (t:=1) rfl,Y.cellS k hk hg ha (t:=2) rfl⟩
theorem AtV.fr {h h':ab} {M:List Nat} {A:QR} {l:List G.Atr} (V:AtV h A l) (f:Fr M h h') (hm:∀g∈ai A,g∉M):AtV h' A l:=by
 intro k a ha
 obtain⟨g,o,e,c0,c1,c2⟩:=V k a ha
 have hg:g∉M:=hm g (by rw[e];simp[ai])
 exact⟨g,o,e,f.cell c0 hg,f.cell c1 hg,f.cell c2 hg⟩
theorem jl {a b:ByteArray}:(a.toList==b.toList)=decide (a.data.toList=b.data.toList):=by
 rw[Lib.toList_data a,Lib.toList_data b]
 by_cases h:a.data.toList=b.data.toList
 ·rw[decide_eq_true h,h];simp
 ·rw[decide_eq_false h];simpa using h
theorem fk {a b:ByteArray}:G.eqB a b=decide (a.data.toList=b.data.toList):=by
 rw[Bool.eq_iff_iff];simp[G.eqB]
theorem gP {α:Type} {l:List α} {k:Nat} {a:α} (h:l[k]? =some a):l.take (k+1)=l.take k++[a]:=by
 rw[List.take_add_one,h];rfl
section
variable {h:ab} {b i:Nat} {s:ByteArray}
theorem PZ {A:QR} {n C:Nat} {ah:List G.Atr} (L:Lx h b s i) (V:AtV h A ah) (hb:b∉ai A) (hn:n=ah.length) (hl:ah.length<=262144) (hi:i<=s.size) (hs:s.size<=262144):
  QJ 84 #[.pointer (some ⟨b,0,none⟩),.slice A n C] h (fun v h'=>∃a j,G.jT s ah i= .ok (a,j)/\i<j/\j<=s.size/\v=PY a/\Mv b h h' j) (fun v h'=>∃f,G.jT s ah i= .no f/\v=flx f/\Fr [b] h h'):=by
 subst hn
 have bl:=L.lt
 apply GH
 unfold S84
 intro hv
 have M0:Mv b h hv i:=(Mv.refl L).push _
 have L0:=L.mv M0
 have s0:hv.size=h.size+1:=by simp[hv]
 clear_value hv
 refine⟨b,0,rfl,_,L0.c1,?_⟩
 refine az [b] (JQ L0 hi hs) QF (fun _ _ r=>by obtain⟨_,_,_,_,_,_,m⟩:=r;exact m.fr) (fun _ _ r=>Fr.of_eq r.2.2) (fun v hv2 r=>?_) fun v hv2 r=>?_
 rotate_left
 ·obtain⟨e,rfl,rfl⟩:=r
  exact⟨_,by unfold G.jT;rw[e];rfl,rfl,M0.fr⟩
 obtain⟨nm,j1,e1,q1,q2,rfl,M1⟩:=r
 have s2:h.size<hv2.size:=by have:=M1.fr.size;omega
 have M2:=M0.trans M1
 refine⟨nm,rfl,?_⟩
 intro hv3 hv4
 have M4:Mv b h hv4 j1:=(((M2.push _).hsetn Qz).hsetn Qz).hsetn Qz
 have s4:hv4.size=hv2.size+1:=by simp[hv4,hv3]
 clear_value hv4
 clear hv3
 refine⟨fun l h'=>∃k:Nat,l=[QM (k:Int)]/\k<=ah.length/\hv4.size<=h'.size/\Mv b h h' j1/\∀a∈ah.take k,G.eqB a.name nm=false,mI ah.length,⟨0,rfl,Nat.zero_le _,Nat.le_refl _,M4,QB⟩,?_⟩
 rintro x2 hv5 ⟨k,e,hk,hsz,M5,hno⟩
 cases e
 have L5:=L.mv M5
 refine af (fun q=>?_) fun q=>?_
 ·obtain⟨a,ha⟩:∃a,ah[k]? =some a:=⟨_,List.getElem?_eq_getElem Qz⟩
  obtain⟨g,o,eg,c0,c1,c2⟩:=V.fr M5.fr (by intro g hg;simp;rintro rfl;exact hb hg) k a ha
  refine⟨g,o,eg,Qz,Qz,a.name,by rw[Int.toNat_natCast];exact c0,a.says,by rw[Int.toNat_natCast];exact c1,(a.at_:Int),by rw[Int.toNat_natCast];exact c2,?_⟩
  intro hv6 hv7
  have f7:Fr [] hv5 hv7:=((((Fr.push hv5 _).hsetL (Nat.le_refl _)).hsetL (Nat.le_refl _)).hsetL (Nat.le_refl _))
  have M7:Mv b h hv7 j1:=M5.ext f7 QB
  clear_value hv7
  clear hv6
  rw[jl,wrN Qz]
  refine aq (fun q3=>⟨rfl,⟨k+1,rfl,Qz,by have:=f7.size;omega,M7,?_⟩,by simp only[mI];omega⟩) fun q3=>⟨_,?_,rfl,M7.fr⟩
  ·intro x hx
   rw[gP ha,List.mem_append,List.mem_singleton]at hx
   rcases hx with hx | rfl
   ·exact hno x hx
   ·rw[fk];simpa using q3
  ·unfold G.jT
   rw[e1]
   simp only[G.Er.bind]
   have:(ah.all fun a=> !G.eqB a.name nm)=false:=by
    rw[List.all_eq_false]
    exact⟨a,List.mem_of_getElem? ha,by rw[fk];simpa using q3⟩
   rw[this];rfl
 ·have hall:(ah.all fun a=> !G.eqB a.name nm)=true:=by
   rw[List.all_eq_true]
   intro a ha
   rw[List.take_of_length_le Qz]at hno
   rw[hno a ha];rfl
  have eA:G.jT s ah i=(G.want s 61 j1).bind fun k=>G.bJ (decide (G.bt s k=34\/G.bt s k=39)) (k,15) <| (G.jc s (fun c=>decide (c=G.bt s k)) (fun c=>G.bO c&&decide (c≠60)) (k+1) []).bind fun(o,e)=>
    match o with
    | some l=>.ok (⟨nm,G.mkB l,k+1⟩,e+1)
    | none=>.no (k,15):=by
   unfold G.jT
   rw[e1]
   simp only[G.Er.bind]
   rw[hall];rfl
  refine az [b] (yW (c:=61) L5 QA hs) QF (fun _ _ r=>r.2.2.2.fr) (fun _ _ r=>Fr.of_eq r.2.2) (fun v hv9 r=>?_) fun v hv9 r=>?_
  rotate_left
  ·obtain⟨e,rfl,rfl⟩:=r
   exact⟨_,by rw[eA,e];rfl,rfl,M5.fr⟩
  obtain⟨e2,q4,rfl,M9⟩:=r
  have M9:=M5.trans M9
  have L9:=L.mv M9
  rw[e2]at eA
  simp only[G.Er.bind]at eA
  refine⟨rfl,?_⟩
  intro K
  refine⟨b,0,rfl,_,L9.c1,?_⟩
  have kk:∀(Q:UInt8),(Q=34\/Q=39)->G.bt s (j1+1)=Q.toNat->K hv9:=by
   intro Q hQ hbt
   have hlt:j1+1<s.size:=G.mZ (by rw[hbt];have:=Q.toNat_lt;omega)
   obtain⟨c,hc,hb2⟩:=get_at hlt
   have cQ:c=Q:=UInt8.toNat_inj.1 (by rw[<-hb2,hbt])
   have e34:decide (Q.toNat=34\/Q.toNat=39)=true:=by rcases hQ with rfl | rfl<;>decide
   rw[hbt,e34]at eA
   simp only[G.bJ]at eA
   refine⟨b,0,rfl,_,L9.c1,b,0,rfl,_,L9.c0,b,0,rfl,_,L9.c1,Qz,Qz,c,by rw[Int.toNat_natCast];exact hc,b,0,rfl,_,L9.c1,b,0,rfl,Qz,Qz,L9.cell,L9.fr,?_⟩
   rw[wrN Qz]
   intro hv15
   have M15:Mv b h hv15 (j1+1+1):=M9.trans (Mv.to L9 _)
   have L15:=L.mv M15
   clear_value hv15
   refine⟨b,0,rfl,_,L15.c1,?_⟩
   intro hv16
   have M16:Mv b h hv16 (j1+1+1):=M15.hsetn Qz
   have L16:=L.mv M16
   clear_value hv16
   have eU:Utf8.encode ((c.toNat:Nat):Int)=G.mkB [Q]:=by rw[cQ];rcases hQ with rfl | rfl<;>kernel_rfl
   rw[eU]
   refine az [b] (IZ (e:=Q) (fun n h=>MJ) QC QC L16 Qz hs) QF (fun _ _ r=>by obtain⟨_,_,_,_,_,_,_,_,m⟩:=r;exact m.fr) (fun _ _ r=>by obtain⟨_,_,_,m⟩:=r;exact m) (fun v hv17 r=>?_) fun v hv17 r=>?_
   rotate_left
   ·obtain⟨f,e3,rfl,f17⟩:=r
    exact⟨f,by rw[eA,e3],rfl,M16.fr.trans f17⟩
   obtain⟨o,j2,e3,rfl,q6,q7,q8,-,M17⟩:=r
   have M17:=M16.trans M17
   have L17:=L.mv M17
   rw[e3]at eA
   simp only[G.Er.bind]at eA
   cases o with
   | none=>exact⟨_,_,rfl,aq (fun z=>absurd z QA) fun _=>⟨_,eA,rfl,M17.fr⟩⟩
   | some l=>
    have hj2:=(q8 l rfl).1
    refine⟨_,_,rfl,aq (fun _=>⟨rfl,b,0,rfl,_,L17.c1,b,0,rfl,Qz,Qz,L17.cell,L17.fr,?_⟩) fun z=>absurd z QA⟩
    rw[wrN Qz]
    intro hv19 hv20 hv21
    exact⟨⟨nm,G.mkB l,j1+1+1⟩,j2+1,eA,Qz,Qz,rfl,((((M17.trans (Mv.to L17 (j2+1))).hsetn Qz).hsetn (Nat.le_refl _)).hsetn (Nat.le_refl _)).hsetn (Nat.le_refl _)⟩
  refine bV (yV (c:=34) L9 QA) ⟨_,rfl,Fr.refl _ _,af (fun q5=>⟨Fr.refl _ _,aq (fun _=>⟨rfl,Fr.refl _ _,kk 34 (.inl rfl) q5⟩) fun z=>absurd z QA⟩) fun q5=>?_⟩
  refine bV (yV (c:=39) L9 QA) ⟨_,rfl,Fr.refl _ _,aq (fun q6=>⟨rfl,Fr.refl _ _,kk 39 (.inr rfl) (of_decide_eq_true q6)⟩) fun q6=>⟨_,?_,rfl,M9.fr⟩⟩
  have q6:=of_decide_eq_false q6
  rw[eA,decide_eq_false (fun z=>z.elim q5 q6)];rfl
theorem Ah {α:Type} {p:α->Bool}:∀{l:List α} {k:Nat} {a:α},l[k]? =some a->p a=true->(∀x∈l.take k,p x=false)->l.find? p=some a
 | [],_,_,h,_,_=>by simp at h
 | x::l,0,a,h,hp,_=>by simp at h;subst h;rw[List.find?_cons,hp]
 | x::l,k+1,a,h,hp,hn=>by
  rw[List.find?_cons,hn x QB]
  exact Ah (l:=l) (k:=k) (by simpa using h) hp fun y hy=>hn y (by simp[hy])
def atP (p:QR) (A:QR) (l:List G.Atr) (nm:QS):Prop:=
 (p=none/\l.find? (fun a=>a.name.data.toList==nm)=none)\/∃k a g o,l[k]? =some a/\l.find? (fun a=>a.name.data.toList==nm)=some a/\A=some ⟨g,o,none⟩/\p=some ⟨g,o+k*3,none⟩
theorem yX {t:Nat} {A:QR} {n C:Nat} {l:List G.Atr} {x:ByteArray} (hc:ac h t 3=some (.slice A n C)) (V:AtV h A l) (hn:n=l.length) (hl:l.length<=262144):
  QH 86 #[.pointer (some ⟨t,0,none⟩),.string x] h fun v h'=>∃p,v= .pointer p/\h'=h/\atP p A l x.data.toList:=by
 subst hn
 apply GI
 unfold S86
 have hc:ac h t (0+3)=some (.slice A l.length C):=hc
 refine⟨t,0,rfl,_,_,_,hc,?_⟩
 refine⟨fun z h'=>∃k:Nat,z=[QM (k:Int)]/\k<=l.length/\h'=h/\∀a∈l.take k,(a.name.data.toList==x.data.toList)=false,mI l.length,⟨0,rfl,Nat.zero_le _,rfl,QB⟩,?_⟩
 rintro z hv ⟨k,e,hk,rfl,hno⟩
 cases e
 refine af (fun q=>?_) fun q=>?_
 ·obtain⟨a,ha⟩:∃a,l[k]? =some a:=⟨_,List.getElem?_eq_getElem Qz⟩
  obtain⟨g,o,eg,c0,-,-⟩:=V k a ha
  refine⟨t,0,rfl,_,_,_,hc,g,o,eg,Qz,Qz,a.name,by rw[Int.toNat_natCast];exact c0,?_⟩
  rw[jl]
  refine af (fun q2=>?_) fun q2=>?_
  ·refine⟨t,0,rfl,_,_,_,hc,g,o,eg,Qz,Qz,_,rfl,rfl,.inr ⟨k,a,g,o,ha,?_,eg,by rw[Int.toNat_natCast]⟩⟩
   exact Ah ha (by simpa using q2) hno
  ·rw[wrN Qz]
   refine⟨⟨k+1,rfl,Qz,rfl,fun y hy=>?_⟩,by simp only[mI];omega⟩
   rw[gP ha,List.mem_append,List.mem_singleton]at hy
   rcases hy with hy | rfl
   ·exact hno y hy
   ·simpa using q2
 ·refine⟨_,rfl,rfl,.inl ⟨rfl,?_⟩⟩
  rw[List.take_of_length_le Qz]at hno
  rw[List.find?_eq_none]
  intro a ha
  rw[hno a ha];simp
theorem yY (l:QS):(G.mkB l).data.toList=l:=by simp[G.mkB]
theorem CW {t:Nat} {A:QR} {C:Nat} {tg:G.Tg} {g o c:Nat} {nms:List QS} (hc:ac h t 3=some (.slice A tg.list.length C)) (ha:ac h t 1=some (QM (tg.at_:Int))) (V:AtV h A tg.list) (hl:tg.list.length<=262144) (hm:nms.length<=262144)
  (hn:∀(k:Nat) (x:QS),nms[k]? =some x->ac h g (o+k*1)=some (.string (G.mkB x))):
  QJ 85 #[.pointer (some ⟨t,0,none⟩),.slice (some ⟨g,o,none⟩) nms.length c] h (fun v h'=>G.fJ tg nms= .ok ()/\v= .tuple #[]/\h'=h) (fun v h'=>∃f,G.fJ tg nms= .no f/\v=flx f/\h'=h):=by
 apply GJ
 unfold S85
 refine⟨fun z h'=>∃k:Nat,z=[QM (k:Int)]/\k<=nms.length/\h'=h/\G.fJ tg nms=G.fJ tg (nms.drop k),mI nms.length,⟨0,rfl,Nat.zero_le _,rfl,rfl⟩,?_⟩
 rintro z hv ⟨k,e,hk,rfl,hno⟩
 cases e
 refine af (fun q=>?_) fun q=>?_
 ·obtain⟨x,hx⟩:∃x,nms[k]? =some x:=⟨_,List.getElem?_eq_getElem Qz⟩
  have hd:nms.drop k=x::nms.drop (k+1):=by
   obtain⟨h1,h2⟩:=List.getElem?_eq_some_iff.1 hx
   rw[List.drop_eq_getElem_cons h1,h2]
  rw[hd,G.fJ]at hno
  refine⟨g,o,rfl,Qz,Qz,_,by rw[Int.toNat_natCast];exact hn k x hx,t,0,rfl,_,ha,?_⟩
  refine ao [] (yX hc V rfl hl) QB (fun _ _ r=>by obtain⟨_,_,r,_⟩:=r;exact Fr.of_eq r) fun v hv2 r=>?_
  obtain⟨p,rfl,rfl,hp⟩:=r
  rw[yY]at hp
  refine⟨p,rfl,Fr.refl _ _,?_⟩
  rw[wrN Qz]
  rcases hp with⟨rfl,hf⟩ | ⟨_,a,g2,o2,_,hf,_,rfl⟩
  ·refine aq (fun z=>absurd z QA) fun _=>⟨_,?_,rfl,rfl⟩
   rw[hno]
   unfold G.kO
   rw[hf];rfl
  ·refine aq (fun _=>⟨rfl,Fr.refl _ _,⟨k+1,rfl,Qz,rfl,?_⟩,by simp only[mI];omega⟩) fun z=>absurd z QB
   rw[hno]
   unfold G.kO
   rw[hf];rfl
 ·refine⟨?_,rfl,rfl⟩
  rw[hno,List.drop_of_length_le Qz];rfl
end
def tgC (A:QR) (C:Nat) (nm:ByteArray) (a0 n0:Nat) (l:List G.Atr) (w:Bool):List Value:=[.string nm,QM (a0:Int),QM (n0:Int),.slice A l.length C,.bool w]
def atC (b:Nat) (ty:TypeId) (s:ByteArray) (i:Nat) (cells:List Value) (t:Nat) (A:QR) (C:Nat) (nm:ByteArray) (a0 n0:Nat) (l:List G.Atr) (w:Bool):List Ck:=
 [Ck.ob b ty (.string s:: QM (i:Int)::cells),Ck.ob t 111 (tgC A C nm a0 n0 l w),Ck.sl eA 142 A l.length C l]
theorem P0 {h:ab} {b t i a0 n0 C n:Nat} {ty:TypeId} {s nm:ByteArray} {cells:List Value} {A:QR} {l:List G.Atr} (H:Hp h (atC b ty s i cells t A C nm a0 n0 l false)) (hi:i<=s.size) (hl:l.length<=i) (hs:s.size<=262144) (hn:G.bw s n l i≠ .un):
  QJ 64 #[ptr b,ptr t] h
   (fun v h'=>∃l' w j A' C',G.bw s n l i= .ok (l',w,j)/\i<j/\j<=s.size/\l'.length<=j/\v= .tuple #[]/\Sq h (atC b ty s i cells t A C nm a0 n0 l false) h' (atC b ty s j cells t A' C' nm a0 n0 l' w))
   (fun v h'=>∃f,G.bw s n l i= .no f/\v=flx f/\Fr (aF (atC b ty s i cells t A C nm a0 n0 l false)) h h'):=by
 generalize hC:atC b ty s i cells t A C nm a0 n0 l false=C0 at H ⊢
 have Q0:Sq h C0 h (atC b ty s i cells t A C nm a0 n0 l false):=by rw[hC];exact Sq.start H
 apply GK
 unfold S64
 refine⟨fun _ h'=>∃n' l' j A' C',G.bw s n l i=G.bw s n' l' j/\i<=j/\j<=s.size/\l'.length<=j/\Sq h C0 h' (atC b ty s j cells t A' C' nm a0 n0 l' false),vW s b,⟨n,l,i,A,C,rfl,Nat.le_refl _,hi,hl,Q0⟩,?_⟩
 rintro hv ⟨n',l',j,A',C',eL,hij,hj,hlj,Q⟩
 cases n' with
 | zero=>exact absurd (eL.trans rfl) hn
 | succ m=>
 rw[G.bw]at eL
 have Lj:=Q.sy.lx 0 rfl
 have hge:=G.uK G.cj s j
 have hle:=G.yy G.cj s _ j rfl hj
 refine ao [b] (JP Lj hj hs) QB (fun _ _ r=>r.2.fr) fun v hv2 r=>?_
 obtain⟨rfl,M2⟩:=r
 have Q2:Sq h C0 hv2 (atC b ty s (G.run G.cj s j) cells t A' C' nm a0 n0 l' false):=⟨Q.sy.mv 0 rfl M2,Q.ri⟩
 have L2:=Q2.sy.lx 0 rfl
 simp only at eL
 generalize G.run G.cj s j=j1 at*
 refine⟨_,rfl,bV (yV (c:=62) L2 QA) ⟨_,rfl,af (fun q=>?_) fun q=>?_⟩⟩
 ·rw[if_pos q]at eL
  have:j1<s.size:=G.mZ Qz
  refine⟨b,0,rfl,_,L2.c1,b,0,rfl,L2.cell,L2.fr,?_⟩
  rw[wrN Qz]
  intro hv4
  exact⟨l',false,j1+1,A',C',eL,Qz,Qz,Qz,rfl,Q2.sy.mv 0 rfl (Mv.to L2 (j1+1)),Q2.ri⟩
 rw[if_neg q]at eL
 refine bV (yV (c:=47) L2 QA) ⟨_,rfl,af (fun q2=>?_) fun q2=>?_⟩
 ·rw[if_pos q2]at eL
  have:j1<s.size:=G.mZ Qz
  refine⟨b,0,rfl,_,L2.c1,b,0,rfl,L2.cell,L2.fr,?_⟩
  rw[wrN Qz]
  intro hv6
  have Q6:Sq h C0 hv6 (atC b ty s (j1+1) cells t A' C' nm a0 n0 l' false):=⟨Q2.sy.mv 0 rfl (Mv.to L2 (j1+1)),Q2.ri⟩
  clear_value hv6
  have f6:∀{h'},Fr [b] hv6 h'->Fr (aF C0) h h':=fun f=>Sq.frT Q6 (f.mono fun x hx=>dm.2 ⟨0,_,rfl,by simpa[Ck.ob]using hx⟩)
  refine az [b] (yW (c:=62) (Q6.sy.lx 0 rfl) QA hs) QB (fun _ _ r=>r.2.2.2.fr) (fun _ _ r=>Fr.of_eq r.2.2) (fun v hv7 r=>?_) fun v hv7 r=>?_
  ·obtain⟨e2,q4,rfl,M7⟩:=r
   have Q7:Sq h C0 hv7 (atC b ty s (j1+1+1) cells t A' C' nm a0 n0 l' false):=⟨Q6.sy.mv 0 rfl M7,Q6.ri⟩
   rw[e2]at eL
   refine⟨rfl,t,0,rfl,⟨_,Q7.sy.cellO 1 rfl 4 rfl⟩,Q7.sy.freeO 1 rfl 4,?_⟩
   intro hv8
   exact⟨l',true,j1+1+1,A',C',eL,Qz,Qz,Qz,rfl,Q7.sy.stO 1 rfl 4 (.bool true),Q7.ri⟩
  ·obtain⟨e2,rfl,rfl⟩:=r
   rw[e2]at eL
   exact⟨_,eL,rfl,f6 (Fr.refl _ _)⟩
 rw[if_neg q2]at eL
 have f2:∀{h'},Fr [b] hv2 h'->Fr (aF C0) h h':=fun f=>Sq.frT Q2 (f.mono fun x hx=>dm.2 ⟨0,_,rfl,by simpa[Ck.ob]using hx⟩)
 refine⟨b,0,rfl,_,L2.c1,?_⟩
 refine aq (fun q3=>?_) fun q3=>?_
 rotate_left
 ·rw[q3]at eL
  exact⟨_,eL,rfl,f2 (Fr.refl _ _)⟩
 rw[q3]at eL
 simp only[G.bJ]at eL
 have q3:=of_decide_eq_true q3
 refine⟨rfl,b::ai A',QB,?_⟩
 have Y:=Q2.sy
 have ht:t∉b::ai A':=by
  rw[List.mem_cons,not_or]
  exact⟨Y.ne 1 0 QA rfl rfl (by simp[Ck.ob]) (by simp[Ck.ob]),fun z=>(Y.hp.ap 2 1 _ _ QA rfl rfl t z).1 (by simp[Ck.ob])⟩
 have hb:b∉ai A':=fun z=>(Y.hp.ap 2 0 _ _ QA rfl rfl b z).1 (by simp[Ck.ob])
 have hc3:ac hv2 t (0+3)=some (.slice A' l'.length C'):=Y.cellO 1 rfl 3 rfl
 refine⟨t,0,rfl,ht,_,_,_,hc3,t,0,rfl,ht,_,_,_,hc3,?_⟩
 refine az [b] (PZ L2 (lg Y 2 rfl) hb rfl Qz Qz hs) QB (fun _ _ r=>by obtain⟨_,_,_,_,_,_,m⟩:=r;exact m.fr) (fun _ _ r=>by obtain⟨_,_,_,m⟩:=r;exact m) (fun v hv10 r=>?_) fun v hv10 r=>?_
 rotate_left
 ·obtain⟨f,e3,rfl,m⟩:=r
  rw[e3]at eL
  exact⟨f,eL,rfl,f2 m⟩
 obtain⟨a,k,e3,k1,k2,rfl,M10⟩:=r
 rw[e3]at eL
 simp only[G.Er.bind]at eL
 have Q10:Sq h C0 hv10 (atC b ty s k cells t A' C' nm a0 n0 l' false):=⟨Y.mv 0 rfl M10,Q2.ri⟩
 have bl:∀g∈ai A',g<hv10.size:=fun g hg=>Q10.sy.ownS 2 rfl |>.lt g hg
 refine⟨_,_,_,rfl,M10.fr.mono QB,?_⟩
 intro hv11
 have f11:Fr [] hv10 hv11:=Fr.push _ _
 have Q11:=Q10.gr f11
 have s11:hv11.size=hv10.size+1:=by simp[hv11]
 clear_value hv11
 refine⟨(M10.fr.mono QB).trans f11.nil,_,Q11.sy.ownS 2 rfl,fun x hx z=>?_,Qz,by simp only[maxLen];omega,fun sA sC hv12 ow f gA _=>?_⟩
 ·simp only[List.mem_singleton]at hx
  have:=bl x z
  omega
 have Y12:=Q11.sy.appS 2 rfl [a] ow f gA rfl rfl
 refine⟨((M10.fr.mono QB).trans f11.nil).trans (f.mono fun x hx=>List.mem_cons_of_mem _ hx),t,0,rfl,?_,⟨_,Y12.cellO 1 rfl 3 rfl⟩,Y12.freeO 1 rfl 3,?_⟩
 ·have:=(Y.ok (k:=1) rfl:_)
  have:=bk hc3
  have:=M10.fr.size
  omega
 intro hv13
 have Q13:Sq h C0 hv13 (atC b ty s k cells t sA sC nm a0 n0 (l'++[a]) false):=by
  have e1:(l'++[a]).length=l'.length+1:=by simp
  unfold atC tgC
  rw[e1]
  refine⟨Y12.stO 1 rfl 3 (.slice sA (l'.length+1) sC),fun x hx=>Q2.ri x ?_⟩
  simp[rds,atC,Ck.ob,Ck.sl]at hx
 refine⟨⟨m,l'++[a],k,sA,sC,eL,Qz,k2,by simp;omega,Q13⟩,?_⟩
 rw[eZ (Q13.sy.lx 0 rfl),eZ Lj]
 omega
theorem MX {h:ab} {b i:Nat} {s nm:ByteArray} (L:Lx h b s i) (hi:i<=s.size) (hs:s.size<=262144):
  QJ 65 #[.pointer (some ⟨b,0,none⟩),.string nm] h (fun v h'=>∃j,G.iz s nm i= .ok j/\i<j/\j<=s.size/\v= .tuple #[]/\Mv b h h' j) (fun v h'=>∃f,G.iz s nm i= .no f/\v=flx f/\Fr [b] h h'):=by
 apply GM
 unfold S65
 refine az [b] (yW (c:=47) L QA hs) QB (fun _ _ r=>r.2.2.2.fr) (fun _ _ r=>Fr.of_eq r.2.2) (fun v h1 r=>?_) fun v h1 r=>?_
 rotate_left
 ·obtain⟨e,rfl,rfl⟩:=r
  exact⟨_,by unfold G.iz;rw[e];rfl,rfl,Fr.refl _ _⟩
 obtain⟨e1,i1,rfl,M1⟩:=r
 have L1:=L.mv M1
 refine⟨rfl,b,0,rfl,_,L1.c1,?_⟩
 refine az [b] (JQ L1 Qz hs) QB (fun _ _ r=>by obtain⟨_,_,_,_,_,_,m⟩:=r;exact m.fr) (fun _ _ r=>Fr.of_eq r.2.2) (fun v h2 r=>?_) fun v h2 r=>?_
 rotate_left
 ·obtain⟨e,rfl,rfl⟩:=r
  exact⟨_,by unfold G.iz;rw[e1];simp only[G.Er.bind];rw[e],rfl,M1.fr⟩
 obtain⟨x,j,e2,j1,j2,rfl,M2⟩:=r
 have M2:=M1.trans M2
 have eC:G.iz s nm i=G.bJ (G.eqB x nm) (i+1,15) (G.want s 62 (G.run G.cj s j)):=by
  unfold G.iz;rw[e1];simp only[G.Er.bind];rw[e2]
 refine⟨x,rfl,?_⟩
 rw[jl,<-fk]
 refine aq (fun q=>⟨rfl,?_⟩) fun q=>⟨_,by rw[eC,q];rfl,rfl,M2.fr⟩
 rw[q]at eC
 simp only[G.bJ]at eC
 have hge:=G.uK G.cj s j
 have hle:=G.yy G.cj s _ j rfl j2
 refine ao [b] (JP (L.mv M2) j2 hs) QB (fun _ _ r=>r.2.fr) fun v h3 r=>?_
 obtain⟨rfl,M3⟩:=r
 have M3:=M2.trans M3
 refine⟨_,rfl,?_⟩
 refine az [b] (yW (c:=62) (L.mv M3) QA hs) QB (fun _ _ r=>r.2.2.2.fr) (fun _ _ r=>Fr.of_eq r.2.2) (fun v h4 r=>?_) fun v h4 r=>?_
 ·obtain⟨e4,i4,rfl,M4⟩:=r
  exact⟨rfl,_,by rw[eC,e4],Qz,Qz,rfl,M3.trans M4⟩
 ·obtain⟨e,rfl,rfl⟩:=r
  exact⟨_,by rw[eC,e],rfl,M3.fr⟩
end Go.Proofs.YtemphinmoihdaaaGreatDoor.N
