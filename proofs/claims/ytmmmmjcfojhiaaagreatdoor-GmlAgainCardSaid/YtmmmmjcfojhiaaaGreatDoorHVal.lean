/- Reading numbers: the form, the value, and the refusals. Conditions: none. -/
import Derived.Test.YtmmmmjcfojhiaaaGreatDoorWFast
set_option linter.unusedVariables false
set_option linter.unusedSimpArgs false
set_option maxRecDepth 100000
set_option maxHeartbeats 1000000
open Go.IntKind (i64 u64 u8 i32)
namespace Go.Proofs.YtmmmmjcfojhiaaaGreatDoor.N
open Go.X Go.Proofs.YtmmmmjcfojhiaaaGreatDoor
open Go.RowKit (Below)
theorem toL (s:P0):s.toList=s.data.toList:=Lib.toList_data s
theorem Kx (s:P0):(s.toList==(⟨#[]⟩:P0).toList)=s.data.toList.isEmpty:=by
 rw[toL,toL]
 cases s.data.toList<;>rfl
def aI (l:PZ):PZ:=
 match l with
 | c::r=>if c=43\/c=45 then r else c::r
 | []=>[]
def dgN (l:PZ):Nat:=(l.takeWhile isD).length
theorem DX {s:P0} {k:Nat}:(s.extract k s.size).data.toList=s.data.toList.drop k:=by
 rw[Kj,QF (show s.data.toList.length<=s.size from P3 _)]
theorem DY {s:P0} {R:P0->Prop} (r:∀t:P0,t.data.toList=aI s.data.toList->R t):yP s R:=by
 apply Nc;unfold JQ
 rw[Kx]
 cases hl:s.data.toList with
 | nil=>exact⟨True,az rfl trivial,fun _=>r s (by rw[hl];rfl)⟩
 | cons c l=>
  have h0:0<s.size:=by show 0<s.data.toList.length;rw[hl];simp
  have hc:s[Int.toNat 0]? =some c:=by rw[qR,hl];rfl
  have hd:(s.extract (Int.toNat 1) s.size).data.toList=l:=by rw[show Int.toNat 1=1 from rfl,DX,hl];rfl
  refine⟨¬(c=43\/c=45),aJ rfl ⟨PB,PA,c,hc,au (fun h=>⟨PB,PA,r _ ?_⟩) fun h=>⟨PB,PA,c,hc,au (fun h2=>⟨PB,PA,r _ ?_⟩) fun h2=>?_⟩⟩,fun hJ=>r s ?_⟩
  ·rw[hd,hl];show l=if c=43\/c=45 then l else c::l;rw[if_pos (.inl (eqB.1 h))]
  ·rw[hd,hl];show l=if c=43\/c=45 then l else c::l;rw[if_pos (.inr (eqB.1 h2))]
  ·rintro(e | e)
   ·exact h (eqB.2 e)
   ·exact h2 (eqB.2 e)
  ·rw[hl];show c::l=if c=43\/c=45 then l else c::l;rw[if_neg hJ]
theorem DZ (l:PZ):dgN l<=l.length:=by
 unfold dgN;exact(List.takeWhile_sublist isD).length_le
theorem xz {s:P0} (hs:s.size<=9223372036854775807) {R:Int->Prop} (r:R (dgN s.data.toList:Int)):ve s R:=by
 apply Nf;unfold JR
 have hsz:s.size=s.data.toList.length:=rfl
 refine⟨fun n=>n=(dgN s.data.toList:Int),⟨fun i=>∃k:Nat,i=k/\k<=s.data.toList.length/\dgN s.data.toList=k+dgN (s.data.toList.drop k),fun i=>s.size-i.toNat,⟨0,rfl,QU _,PC⟩,?_⟩,fun _ h=>h▸r⟩
 rintro _ ⟨k,rfl,hk,hd⟩
 by_cases hlt:k<s.data.toList.length
 ·have hdr:s.data.toList.drop k=s.data.toList[k]::s.data.toList.drop (k+1):=Qz hlt
  have hat:s[Int.toNat (k:Int)]? =some s.data.toList[k]:=by rw[qR,P8,List.getElem?_eq_getElem hlt]
  generalize s.data.toList[k]=c at*
  rw[hdr]at hd
  by_cases hc:isD c=true
  ·have hc2:=cb.1 hc
   have hd2:dgN s.data.toList=(k+1)+dgN (s.data.toList.drop (k+1)):=by
    rw[hd];unfold dgN;rw[RX,if_pos hc,Qk];omega
   have hw:i64.wrap ((k:Int)+1)=((k+1:Nat):Int):=by rw[wr PA PA];omega
   refine⟨False,ae (fun _=>⟨PA,PA,c,hat,ae (fun _=>⟨PA,PA,c,hat,ae (fun _=>⟨⟨k+1,hw,hlt,hd2⟩,?_⟩) fun h=>absurd (show((c.toNat:Nat):Int)<=57 by omega) h⟩) fun h=>absurd (show((c.toNat:Nat):Int)>=48 by omega) h⟩) fun h=>absurd (show(k:Int)<(s.size:Int) by omega) h,fun h=>h.elim⟩
   dsimp only;rw[hw];omega
  ·have hc2:¬(48<=c.toNat/\c.toNat<=57):=fun h=>hc (cb.2 h)
   have hd2:(k:Int)=(dgN s.data.toList:Int):=by
    rw[hd];unfold dgN;rw[RX,if_neg hc];simp
   refine⟨True,ae (fun _=>⟨PA,PA,c,hat,ae (fun h1=>⟨PA,PA,c,hat,ae (fun h2=>absurd (show 48<=c.toNat/\c.toNat<=57 by omega) hc2) fun _=>hd2⟩) fun _=>trivial⟩) fun _=>trivial,fun _=>hd2⟩
 ·have hd2:(k:Int)=(dgN s.data.toList:Int):=by
   rw[hd,RF PA];simp[dgN]
  exact⟨True,ae (fun h=>absurd h PA) fun _=>trivial,fun _=>hd2⟩
def lN (l:PZ):Option PZ:=
 match l with
 | []=>some []
 | c::y=>if c=46 then(if dgN y=0 then none else some (y.drop (dgN y)))else some (c::y)
def xA (q:Option PZ):Bool:=
 match q with
 | none=>false
 | some []=>true
 | some (c::t)=>if c=101\/c=69 then decide (1<=(aI t).length)&&(decide ((aI t).length<=4)&&decide (dgN (aI t)=(aI t).length))else false
def fF (l:PZ):Bool:=if dgN (aI l)=0 then false else xA (lN ((aI l).drop (dgN (aI l))))
theorem zd {t:P0} {l:PZ} (h:t.data.toList=l):t.size=l.length:=by rw[<-h];rfl
theorem vI (l:PZ):(aI l).length<=l.length:=by
 unfold aI;split
 ·split<;>simp
 ·simp
theorem Ky {s:P0} (hs:s.size<=9223372036854775807) {R:Bool->Prop} (r:R (fF s.data.toList)):Ie s R:=by
 apply Nh;unfold JS
 refine DY fun t ht=>?_
 have hst:=zd ht
 have hle:=vI s.data.toList
 have hsl:s.size=s.data.toList.length:=rfl
 refine xz PA ?_
 rw[ht]
 unfold fF at r
 generalize aI s.data.toList=l at*
 have hn:=DZ l
 refine au (fun h=>?_) fun h=>?_
 ·rw[if_pos PA]at r;exact r
 rw[if_neg PA]at r
 have hx:(t.extract (Int.toNat (dgN l:Int)) t.size).data.toList=l.drop (dgN l):=by rw[P8,DX,ht]
 generalize hX:t.extract (Int.toNat (dgN l:Int)) t.size=X at*
 have hXs:=zd hx
 have hXl:(l.drop (dgN l)).length<=l.length:=by rw[Ry];omega
 refine⟨PA,PA,fun u=>lN (l.drop (dgN l))=some u.data.toList,?_,?_⟩
 ·rw[Kx,hx]
  generalize l.drop (dgN l)=y at*
  cases y with
  | nil=>exact az rfl (by show lN []=some X.data.toList;rw[hx];rfl)
  | cons c y=>
   refine aJ rfl ⟨PB,by rw[hXs];simp,c,by rw[qR,hx];rfl,fun u=>lN (c::y)=some u.data.toList,au (fun h46=>?_) fun h46=>?_,fun _ h=>h⟩
   ·have hc:c=46:=eqB.1 h46
    subst hc
    have hp:lN (46::y)=if dgN y=0 then none else some (y.drop (dgN y)):=rfl
    rw[hp]at r ⊢
    have hx1:(X.extract (Int.toNat 1) X.size).data.toList=y:=by rw[show Int.toNat 1=1 from rfl,DX,hx];rfl
    have hx1s:=zd hx1
    have hyl:y.length<=9223372036854775806:=by simp at hXl;omega
    have hdy:=DZ y
    have hX1:X.size=y.length+1:=by rw[hXs];simp
    refine⟨PB,PA,xz PA ?_⟩
    rw[hx1]
    refine au (fun hz=>?_) fun hz=>?_
    ·rw[if_pos (show dgN y=0 by omega)]at r;exact r
    ·have hw:i64.wrap (1+(dgN y:Int))=((1+dgN y:Nat):Int):=by rw[wr PA PA];omega
     rw[hw,if_neg (show ¬dgN y=0 by omega)]
     refine⟨PA,PA,?_⟩
     rw[P8];dsimp only;rw[DX,hx,Nat.add_comm];rfl
   ·have hc:c≠46:=fun e=>h46 (eqB.2 e)
    show(if c=46 then(if dgN y=0 then none else some (y.drop (dgN y)))else some (c::y))=some X.data.toList
    rw[if_neg hc,hx]
 ·intro u hu
  rw[hu]at r
  rw[Kx]
  have hul:u.data.toList.length<=l.length:=by
   have gen:∀z w:PZ,lN z=some w->w.length<=z.length:=by
    intro z w h
    unfold lN at h
    split at h
    ·cases h;exact P3 _
    ·split at h
     ·split at h
      ·cases h
      ·cases h;rw[Ry,Qk];omega
     ·cases h;exact P3 _
   exact Qg (gen _ _ hu) hXl
  have hus:u.size=u.data.toList.length:=rfl
  cases hl2:u.data.toList with
  | nil=>rw[hl2]at r;exact aJ rfl r
  | cons c y=>
   rw[hl2]at r hul
   have r:R (if c=101\/c=69 then decide (1<=(aI y).length)&&(decide ((aI y).length<=4)&&decide (dgN (aI y)=(aI y).length))else false):=r
   have hc0:u[Int.toNat 0]? =some c:=by rw[qR,hl2];rfl
   have h0:(0:Int)<((u.size:Nat):Int):=by rw[hus,hl2];simp
   refine az rfl ⟨c=101\/c=69,⟨PB,h0,c,hc0,cn (fun h1=>⟨PB,h0,c,hc0,cn (fun h2=>?_) fun h2=>.inr (eqB.1 h2)⟩) fun h1=>.inl (eqB.1 h1)⟩,fun hE=>?_⟩
   ·rw[if_neg (by rintro(e | e);exact h1 (eqB.2 e);exact h2 (eqB.2 e))]at r;exact r
   ·rw[if_pos hE]at r
    refine⟨PB,PA,DY fun v hv=>?_⟩
    rw[show Int.toNat 1=1 from rfl,DX,hl2]at hv
    have hv:v.data.toList=aI y:=hv
    have hvs:=zd hv
    have hvl:=vI y
    simp only[Qk]at hul
    refine ae (fun h1=>ae (fun h4=>xz PA ?_) fun h4=>?_) fun h1=>?_
    ·rw[hv]
     have:((dgN (aI y):Int)==((v.size:Nat):Int))=decide (dgN (aI y)=(aI y).length):=by
      rw[Rr];simp;omega
     rw[this]
     rw[decide_eq_true (show 1<=(aI y).length by omega),decide_eq_true (show(aI y).length<=4 by omega)]at r
     exact r
    ·rw[decide_eq_false (show ¬(aI y).length<=4 by omega),Bool.false_and,Bool.and_false]at r
     exact r
    ·rw[decide_eq_false (show ¬ 1<=(aI y).length by omega),Bool.false_and]at r
     exact r
end Go.Proofs.YtmmmmjcfojhiaaaGreatDoor.N
/- A text of the form of a number is one that the scan reads to its end. Conditions: none. -/
namespace Go.Proofs.YtmmmmjcfojhiaaaGreatDoor.N
open Go.X Go.Proofs.YtmmmmjcfojhiaaaGreatDoor
theorem pJ (l:PZ):l.drop (av l).2=aI l:=by
 unfold av aI
 cases l with
 | nil=>rfl
 | cons c r=>
  simp only[]
  by_cases h1:c=43
  ·rw[if_pos h1,if_pos (.inl h1)];rfl
  ·rw[if_neg h1]
   by_cases h2:c=45
   ·rw[if_pos h2,if_pos (.inr h2)];rfl
   ·rw[if_neg h2,if_neg (by rintro(e | e);exact h1 e;exact h2 e)];rfl
def dgt (c:UInt8):Nat:=c.toNat-48
theorem N2 {c:UInt8} (h:isD c=true):c≠46:=fun e=>by subst e;simp[isD]at h
theorem iI :∀(A:PZ) (st:RS) (t:PZ),(∀c∈A,isD c=true)->scan st (A++t)=scan (A.foldl (fun s c=>aN s (dgt c)) st) t
 | [],_,_,_=>rfl
 | c::A,st,t,h=>by
  have hc:=h c PC
  rw[QB,scan,if_neg (N2 hc),if_pos hc,iI A _ t (fun d hd=>h d (by simp[hd]))];rfl
theorem sq {st:RS} {t:PZ} (h:∀c r,t=c::r->c≠46/\isD c=false\/c=46/\st.dot=true):scan st t=(st,t):=by
 cases t with
 | nil=>rfl
 | cons c r=>
  rcases h c r rfl with⟨h1,h2⟩ | ⟨h1,h2⟩
  ·rw[scan,if_neg h1,h2];rfl
  ·rw[scan,if_pos h1,h2];rfl
theorem vJ (st:RS) (d:Nat):(aN st d).dig=true:=by unfold aN;split;rfl;split<;>rfl
theorem pK :∀(A:PZ) (st:RS),st.dig=true->(A.foldl (fun s c=>aN s (dgt c)) st).dig=true
 | [],_,h=>h
 | c::A,st,_=>pK A _ (vJ st _)
theorem Ao {A:PZ} (h:A≠[]) (st:RS):(A.foldl (fun s c=>aN s (dgt c)) st).dig=true:=by
 cases A with
 | nil=>exact absurd rfl h
 | cons c A=>exact pK A _ (vJ st _)
theorem D1 (st:RS) (d:Nat):(aN st d).dot=st.dot:=by unfold aN;split;rfl;split<;>rfl
theorem jF :∀(A:PZ) (st:RS),(A.foldl (fun s c=>aN s (dgt c)) st).dot=st.dot
 | [],_=>rfl
 | c::A,st=>by rw[List.foldl_cons,jF A,D1]
theorem sr :∀l:PZ,∃A t,l=A++t/\A.length=dgN l/\(∀c∈A,isD c=true)/\∀c r,t=c::r->isD c=false
 | []=>⟨[],[],rfl,rfl,PC,PC⟩
 | c::l=>by
  by_cases hc:isD c=true
  ·obtain⟨A,t,h1,h2,h3,h4⟩:=sr l
   refine⟨c::A,t,by rw[h1];rfl,?_,fun d hd=>?_,h4⟩
   ·unfold dgN at h2 ⊢
    rw[RX,if_pos hc,Qk,Qk,h2]
   ·rcases Qd.1 hd with rfl | hd
    ·exact hc
    ·exact h3 d hd
  ·refine⟨[],c::l,rfl,?_,PC,fun d r h=>?_⟩
   ·unfold dgN;rw[RX,if_neg hc]
   ·cases h;simpa using hc
theorem pM (l:PZ):∃A t,l=A++t/\A.length=dgN l/\(∀c∈A,isD c=true)/\t=l.drop (dgN l)/\∀c r,t=c::r->isD c=false:=by
 obtain⟨A,t,h1,h2,h3,h4⟩:=sr l
 exact⟨A,t,h1,h2,h3,by rw[<-h2,h1,List.drop_left],h4⟩
theorem zf {q:PZ} (h:xA (some q)=true):q=[]\/∃c sg ds,Expo q c sg ds:=by
 cases q with
 | nil=>exact .inl rfl
 | cons c t=>
  have h:(if c=101\/c=69 then decide (1<=(aI t).length)&&(decide ((aI t).length<=4)&&decide (dgN (aI t)=(aI t).length))else false)=true:=h
  split at h
  ·rename_i hc
   simp only[P6,decide_eq_true_eq]at h
   obtain⟨h1,h2,h3⟩:=h
   have hall:∀d∈aI t,isD d=true:=by
    obtain⟨A,u,e,hl,hA,_⟩:=pM (aI t)
    have:u=[]:=by
     have hlen:(aI t).length=A.length+u.length:=by rw[e,P9]
     exact Qb PA
    rw[this,QZ]at e
    rw[e];exact hA
   have hsp:∃sg,t=sg++aI t/\(sg=[]\/sg=[43]\/sg=[45]):=by
    cases t with
    | nil=>exact⟨[],rfl,.inl rfl⟩
    | cons a t=>
     by_cases ha:a=43\/a=45
     ·have:aI (a::t)=t:=by show(if a=43\/a=45 then t else a::t)=t;rw[if_pos ha]
      rw[this]
      exact⟨[a],rfl,.inr (ha.imp (fun e=>by rw[e]) fun e=>by rw[e])⟩
     ·have:aI (a::t)=a::t:=by show(if a=43\/a=45 then t else a::t)=_;rw[if_neg ha]
      rw[this];exact⟨[],rfl,.inl rfl⟩
   obtain⟨sg,e,hsg⟩:=hsp
   exact .inr ⟨c,sg,aI t,by rw[<-e],hc,hsg,fun e=>by rw[e]at h1;simp at h1,h2,hall⟩
  ·cases h
theorem xB {c:UInt8} (h:isD c=true):c≠120/\c≠88/\c≠95:=by
 have:=cb.1 h
 exact⟨fun e=>by subst e;exact absurd this PB,fun e=>by subst e;exact absurd this PB,fun e=>by subst e;exact absurd this PB⟩
theorem zg {q:PZ} (h:q=[]\/∃c sg ds,Expo q c sg ds):∀c∈q,c≠120/\c≠88/\c≠95:=by
 intro d hd
 rcases h with rfl | ⟨c,sg,ds,hE⟩
 ·simp at hd
 ·rw[hE.eq]at hd
  simp only[Qd,Qe]at hd
  rcases hd with rfl | hd | hd
  ·rcases hE.e with rfl | rfl<;>decide
  ·rcases hE.sg with e | e | e<;>subst e<;>simp at hd<;>subst hd<;>decide
  ·exact xB (hE.dg d hd)
theorem kK {s:P0} (hs:s.size<100000) (h:fF s.data.toList=true):∃st rest,Txt s st rest:=by
 generalize hl:s.data.toList=l at*
 unfold fF at h
 split at h
 ·cases h
 rename_i hn
 obtain⟨A,t,h1,h2,h3,h4,h5⟩:=pM (aI l)
 rw[<-h4]at h
 have hA:A≠[]:=fun e=>by rw[e]at h2;simp at h2;omega
 have hhead:tH l:=by
  obtain⟨a,A',rfl⟩:=RH hA
  have ha:=h3 a PC
  cases l with
  | nil=>simp[aI]at h1
  | cons c r=>
   by_cases hc:c=43\/c=45
   ·have e:aI (c::r)=r:=by show(if c=43\/c=45 then r else c::r)=r;rw[if_pos hc]
    rw[e]at h1
    exact⟨c,r,rfl,.inr ⟨hc,a,A'++t,h1,ha⟩⟩
   ·have e:aI (c::r)=c::r:=by show(if c=43\/c=45 then r else c::r)=_;rw[if_neg hc]
    rw[e]at h1
    have:c=a:=(List.cons.inj h1).1
    exact⟨c,r,rfl,.inl (by rw[this];exact ha)⟩
 have hsig:∀c∈l,c∈aI l\/c=43\/c=45:=by
  intro c hc
  cases l with
  | nil=>simp at hc
  | cons a r=>
   by_cases ha:a=43\/a=45
   ·have e:aI (a::r)=r:=by show(if a=43\/a=45 then r else a::r)=r;rw[if_pos ha]
    rw[e]
    rcases Qd.1 hc with rfl | hc
    ·exact .inr ha
    ·exact .inl hc
   ·have e:aI (a::r)=a::r:=by show(if a=43\/a=45 then r else a::r)=_;rw[if_neg ha]
    rw[e];exact .inl hc
 have fin:∀st rest,scan RS0 (aI l)=(st,rest)->st.dig=true->(rest=[]\/∃c sg ds,Expo rest c sg ds)->(∀c∈aI l,c≠120/\c≠88/\c≠95)->∃st rest,Txt s st rest:=by
  intro st rest q1 q2 q3 q4
  refine⟨st,rest,hs,by rw[hl];exact hhead,fun c hc=>?_,by rw[hl,pJ];exact q1,q2,q3⟩
  rw[hl]at hc
  rcases hsig c hc with e | rfl | rfl
  ·exact q4 c e
  ·decide
  ·decide
 have chA:∀c∈A,c≠120/\c≠88/\c≠95:=fun c hc=>xB (h3 c hc)
 have hsA:scan RS0 (aI l)=scan (A.foldl (fun s c=>aN s (dgt c)) RS0) t:=by rw[h1];exact iI A RS0 t h3
 have hdA:=Ao hA RS0
 have hdotA:(A.foldl (fun s c=>aN s (dgt c)) RS0).dot=false:=jF A RS0
 generalize A.foldl (fun s c=>aN s (dgt c)) RS0=s1 at*
 have stopE:∀(q:PZ) (st:RS),(q=[]\/∃c sg ds,Expo q c sg ds)->scan st q=(st,q):=by
  intro q st hq
  refine sq fun c r e=>.inl ?_
  rcases hq with rfl | ⟨c',sg,ds,hE⟩
  ·cases e
  ·rw[hE.eq]at e
   have:c'=c:=(List.cons.inj e).1
   rw[<-this]
   rcases hE.e with rfl | rfl<;>decide
 cases t with
 | nil=>
  refine fin s1 [] (by rw[hsA];rfl) hdA (.inl rfl) fun c hc=>?_
  rw[h1,QZ]at hc;exact chA c hc
 | cons c y=>
  by_cases hc:c=46
  ·subst hc
   have hp:lN (46::y)=if dgN y=0 then none else some (y.drop (dgN y)):=rfl
   rw[hp]at h
   split at h
   ·cases h
   rename_i hny
   obtain⟨B,u,g1,g2,g3,g4,g5⟩:=pM y
   rw[<-g4]at h
   have hq:=zf h
   have hs2:scan s1 (46::y)=scan (eO s1) y:=by rw[scan,if_pos rfl,hdotA];rfl
   have hs3:scan (eO s1) y=scan (B.foldl (fun s c=>aN s (dgt c)) (eO s1)) u:=by
    conv=>lhs;rw[g1]
    exact iI B _ u g3
   refine fin (B.foldl (fun s c=>aN s (dgt c)) (eO s1)) u (by rw[hsA,hs2,hs3];exact stopE u _ hq) (pK B (eO s1) hdA) hq fun c hc=>?_
   rw[h1,g1]at hc
   simp only[Qe,Qd]at hc
   rcases hc with hc | rfl | hc | hc
   ·exact chA c hc
   ·decide
   ·exact xB (g3 c hc)
   ·exact zg hq c hc
  ·have hp:lN (c::y)=some (c::y):=by show(if c=46 then _ else some (c::y))=_;rw[if_neg hc]
   rw[hp]at h
   have hq:=zf h
   refine fin _ (c::y) (by rw[hsA];exact stopE _ _ hq) hdA hq fun d hd=>?_
   rw[h1]at hd
   rcases Qe.1 hd with hd | hd
   ·exact chA d hd
   ·exact zg hq d hd
end Go.Proofs.YtmmmmjcfojhiaaaGreatDoor.N
/- weigh.Read answers as told, if ParseFloat has a value. Conditions: none. -/
namespace Go.Proofs.YtmmmmjcfojhiaaaGreatDoor.N
open Go.X Go.Proofs.YtmmmmjcfojhiaaaGreatDoor
open Go.RowKit (Below)
def P37 (s:P0) (V:Nat):Prop:=∃e:Option Int,(e=none\/e=some 1)/\∀R:Nat->Option Int->Prop,R V e->vc s 64 R
theorem kz {gl:GL} {h h':ab} (g:Gl gl h) (f:Fr [] h h'):Gl gl h':=g.congr fun b hb=>f.blk b (g.lt b hb) PC
theorem Iw {gl:GL} {h:ab} (g:Gl gl h):Hp h [Ck.glob gl]:=Hp.one g
theorem N3 {gl:GL} {h:ab} (H:Hp h [Ck.glob gl]):Gl gl h:=H.ok 0 _ rfl
theorem Kz {w:World} {b:Nat} {v:Value} (h:ac w.heap b 0=some v):w.cell? ⟨b,0,none⟩=some v:=by
 unfold ac at h
 unfold World.cell?
 grind
theorem call28 {s:P0} {V:Nat} {h:ab} {gl:GL} (hs:s.size<=281474976710656) (hV:P37 s V) (hp:Gl gl h):
  PJ 143 #[PU s,PN 64] h fun v h'=>Fr [] h h'/\(v= .tuple #[PS V,.nilIface]\/∃t i,v= .tuple #[PS V,.iface t i]):=by
 obtain⟨e,he,hV⟩:=hV
 have c:=hV (fun a b=>a=V/\b=e) ⟨rfl,rfl⟩ h gl (Iw hp)
 apply C1
 unfold Ni
 refine bB (c.mono fun v h' ⟨a,b,P,e1,e2,e3⟩=>⟨P.fr,show v= .tuple #[PS V,qN 153 e] by rw[e1,e2,e3]⟩) ?_
 rintro v h1 f1 rfl
 refine⟨V,?_⟩
 rcases he with rfl | rfl
 ·exact .inl ⟨rfl,az rfl ⟨f1,.inl rfl⟩⟩
 ·refine .inr ⟨153,PN 1,rfl,aJ rfl ?_⟩
  have g1:=kz hp f1
  obtain⟨te,pe,hc⟩:=g1.e2
  refine bB (R:=fun v _=>∃N,v= .iface 156 (PW (some ⟨N,0,none⟩))) (fun w hw=>?_) ?_
  ·have hcw:w.cell? ⟨4,0,none⟩=some (.iface te pe):=Kz PE
   exact(Go.Proofs.Tryz.strconv_toError_range (⟨#[80,97,114,115,101,70,108,111,97,116]⟩:P0) s 0 64 (.iface te pe) w hs hcw (.inr ⟨te,pe,rfl⟩)).mono
    fun e w' ⟨N,q1,q2,q3,q4⟩=>⟨_,q1,gI q4,by rw[<-hw];exact ju q4,N,rfl⟩
  ·rintro v h2 f2 ⟨N,rfl⟩
   exact .inr ⟨_,_,rfl,f1.trans f2.nil,.inr ⟨_,_,rfl⟩⟩
theorem xC (s t:P0):(s.toList==t.toList)=decide (s.data.toList=t.data.toList):=by
 grind [toL]
def cf (l:PZ) (V:Nat):Nat × Int:=
 if l=[78,97,78]then(9221120237041090561,0)else if l=[73,78,70]then(9218868437227405312,0)else if l=[45,73,78,70]then(18442240474082181120,0)
 else if fF l=false then(0,17)else if 64<l.length then(0,23)else if isInf (jk V)then(0,2)else(V,0)
theorem KA {R:Nat->Prop} (r:R 9218868437227405312):CX 1 R:=by
 apply Ic;unfold GD
 refine⟨fun v=>v=9218868437227405312,aJ PB rfl,?_⟩
 rintro _ rfl
 exact bh (oT _) ⟨_,rfl,r⟩
theorem KB {R:Nat->Prop} (r:R 18442240474082181120):CX (-1) R:=by
 apply Ic;unfold GD
 refine⟨fun v=>v=18442240474082181120,az PB rfl,?_⟩
 rintro _ rfl
 exact bh (oT _) ⟨_,rfl,r⟩
theorem N4 {x:Nat} {R:Nat->Prop} (r:R (jk x)):JO x R:=by
 apply Ph;unfold T63
 exact bh (Kw _) ⟨_,rfl,bh (oT _) ⟨_,rfl,r⟩⟩
theorem N5 {x:Nat} {R:Bool->Prop} (r:R (isInf (jk x))):Ad x 0 R:=by
 apply JP;unfold T44
 refine⟨fun y=>y=jk x,aJ PB (N4 rfl),?_⟩
 rintro _ rfl;exact r
theorem xD {s:P0} {V:Nat} {gl:GL} {h:ab} (g:Gl gl h) (hs:s.size<=9223372036854775807) (hV:fF s.data.toList=true->s.size<=64->P37 s V):
  PJ 100 #[PU s] h fun v h'=>v= .tuple #[PS (cf s.data.toList V).1,PN (cf s.data.toList V).2]/\Fr [] h h':=by
 have hsl:s.size=s.data.toList.length:=rfl
 apply C4
 unfold Nj
 rw[xC,xC,xC]
 have ret:∀(x:Nat) (e:Int) (h':ab),Fr [] h h'->cf s.data.toList V=(x,e)->(fun(v:Value) (h':ab)=>v= .tuple #[PS (cf s.data.toList V).1,PN (cf s.data.toList V).2]/\Fr [] h h') (.tuple #[PS x,PN e]) h':=
  fun x e h' f q=>⟨by rw[q],f⟩
 have k0:∀{h':ab},Hp h' []:=fun{h'}=>Hp.nil h'
 refine ae (fun h1=>bh (oT _) ⟨_,rfl,ret _ _ _ (Fr.refl _ _) (by unfold cf;grind)⟩) fun h1=>ae (fun h2=>?_) fun h2=>ae (fun h3=>?_) fun h3=>?_
 ·refine bB ((KA (R:=fun q=>q=9218868437227405312) rfl h k0).mono fun v h' ⟨a,P,e1,e2⟩=>⟨P.fr,show v= PS 9218868437227405312 by rw[e1,e2]⟩) ?_
  rintro v h' f rfl
  exact⟨_,rfl,ret _ _ _ f (by unfold cf;grind)⟩
 ·refine bB ((KB (R:=fun q=>q=18442240474082181120) rfl h k0).mono fun v h' ⟨a,P,e1,e2⟩=>⟨P.fr,show v= PS 18442240474082181120 by rw[e1,e2]⟩) ?_
  rintro v h' f rfl
  exact⟨_,rfl,ret _ _ _ f (by unfold cf;grind)⟩
 refine bB ((Ky hs (R:=fun q=>q=fF s.data.toList) rfl h k0).mono fun v h' ⟨a,P,e1,e2⟩=>⟨P.fr,show v= PV (fF s.data.toList) by rw[e1,e2]⟩) ?_
 rintro v h' f rfl
 refine⟨_,rfl,bj (fun hn=>ret _ _ _ f (by unfold cf;grind)) fun hn=>?_⟩
 have hnf:¬fF s.data.toList=false:=by rw[hn];decide
 refine ae (fun hl=>ret _ _ _ f (by unfold cf;grind)) fun hl=>?_
 have hlf:¬ 64<s.data.toList.length:=by omega
 intro K0
 refine bB (call28 PA (hV hn PA) (kz g f)) ?_
 rintro v h4 f4 hv
 have f5:=f.trans f4.nil
 have K:K0 V h4:=by
  show ag _ _ _ _ _ _
  refine bB ((N5 (x:=V) (R:=fun q=>q=isInf (jk V)) rfl h4 k0).mono fun v h' ⟨a,P,e1,e2⟩=>⟨P.fr,show v= PV (isInf (jk V)) by rw[e1,e2]⟩) ?_
  rintro v h6 f6 rfl
  refine⟨_,rfl,aU (fun hi=>ret _ _ _ (f5.trans f6.nil) (by unfold cf;grind)) fun hi=>ret _ _ _ (f5.trans f6.nil) (by unfold cf;grind)⟩
 grind
end Go.Proofs.YtmmmmjcfojhiaaaGreatDoor.N
namespace Go.Proofs.YtmmmmjcfojhiaaaGreatDoor.G
section
variable {s:P0} {rd:P0->Option (Nat × Nat)} {cl:Nat->Nat}
theorem sU {l l':Lv} {d v:Nat} {σ:Rd} {σ1:Nat->Rd} {x:Tk} {w0 k w1 y t:PZ} {P:Nat->Lv->Rd->Prop} (a:At s σ.i (w0++(k++(w1++(y++t))))) (h0:Bl w0) (hk:Wd k (w1++(y++t))) (h1:Bl w1) (hy:ji rd y v) (ht1:fX bM t) (ht2:fX du t)
  (hkey:∀t j,t.l=k->key l t {σ with i:=j}= .ok (x,l',σ1 j)) (hi:∀j,(σ1 j).i=j) (hx:x.kind=0\/x.kind=4)
  (ht:∀(u:Tok) j1 j,u.l=y->u.num=v->u.kind=4->σ.i<j->At s j t->∃σ2,bX cl x u {σ1 j1 with i:=j}= .ok σ2/\σ2.i=j/\cT s rd cl l' d σ2 P):cT s rd cl l d σ P:=by
 have a2:=At.app (At.app a)
 have a3:At s (σ1 (σ.i+w0.length+k.length)).i (w1++(y++t)):=by grind
 have hk0:0<k.length:=by obtain⟨c,q,rfl,_⟩:=hk.hd;simp
 obtain⟨u,u1,u2,u3,u4⟩:=ru (cl:=cl) (d:=d) h1 hy ht1 ht2 a3 hx
 have a4:=At.app (At.app a3)
 obtain⟨σ2,q1,q2,e,l2,r2,q3,q4⟩:=ht u (σ.i+w0.length+k.length) _ u1 u2 u3 (by rw[hi];omega) a4
 refine⟨e,l2,r2,lg h0 hk a (fun t ht=>hkey t _ ht) (fun m hm=>?_) ?_ ?_ q3,q4⟩
 ·grind
 ·grind
 ·rw[q2];exact a4.1
theorem oI {l l':Lv} {l2:Option Lv} {d:Nat} {σ:Rd} {σ1:Nat->Rd} {w0 k w1 t:PZ} {P:Nat->Lv->Rd->Prop} (a:At s σ.i (w0++(k++(w1++91::t)))) (h0:Bl w0) (hk:Wd k (w1++91::t)) (h1:Bl w1) (hd:d<16)
  (hkey:∀t j,t.l=k->key l t {σ with i:=j}= .ok (match l2 with | some l2=>.list l2 | none=>.none,l',σ1 j)) (hi:∀j,(σ1 j).i=j)
  (hin:∀j1 j,σ.i<j->At s j t->cT s rd cl (l2.getD .over) (d+1) {σ1 j1 with i:=j} fun e l3 r2=>∃r3,(match l2 with | some _=>behind l3 e r2 | none=>.ok r2)= .ok r3/\j<r3.i/\r3.i<=s.size/\cT s rd cl l' d r3 P):cT s rd cl l d σ P:=by
 have a2:=At.app (At.app a)
 have a3:At s (σ1 (σ.i+w0.length+k.length)).i (w1++91::t):=by grind
 have a4:At s ((σ1 (σ.i+w0.length+k.length)).i+w1.length+1) t:=(At.app a3).cons.2.2
 obtain⟨e,l3,r2,q1,r3,q2,q3,q4,e',l4,r4,q5,q6⟩:=hin (σ.i+w0.length+k.length) _ (by rw[hi];omega) a4
 rw[hi]at q3
 refine⟨e',l4,r4,lg h0 hk a (fun t ht=>hkey t _ ht) (fun m hm=>?_) ?_ q4 q5,q6⟩
 ·grind [oO,wT]
 ·omega
theorem mC {l:Lv} {d:Nat} {σ:Rd} {w0 t:PZ} {P:Nat->Lv->Rd->Prop} (a:At s σ.i (w0++93::t)) (h0:Bl w0) (hl:bV l=false) (hp:∀e j,σ.i<j->At s j t->P e l {σ with i:=j}):cT s rd cl l d σ P:=by
 obtain⟨q1,q2⟩:=yw (rd:=rd) (cl:=cl) (d:=d) hl h0 a
 exact⟨_,_,_,q1,hp _ _ PA q2⟩
theorem bl1 :Bl [32]:=.blank rfl .nil
end
end Go.Proofs.YtmmmmjcfojhiaaaGreatDoor.G
namespace Go.Proofs.YtmmmmjcfojhiaaaGreatDoor.N
open Go.Proofs.YtmmmmjcfojhiaaaGreatDoor
open Go.X
section
variable {gl:GL} {b d:Nat} {s:P0} {A:AD} {σ:G.Rd} {cl:Nat->Nat} {h:ab}
theorem th {x:G.Tk} {p:PY} {mo:Option (Nat × List PZ)} {fs tfs:Fs} (tk:TkR b A x p mo fs tfs):
  (p=none/\x= .none/\mo=none/\fs=[]/\tfs=[])\/∃t,p=some ⟨t,0,none⟩/\tfs[0]? =some (t,0,PN (x.kind:Int))/\x.kind≠0:=by
 cases x with
 | none=>obtain⟨a,b,c,d⟩:=tk;grind
 | list l=>obtain⟨t,kf,kc,ov,a1,a2,rfl⟩:=tk;grind [G.Tk.kind]
 | dir=>obtain⟨t,xR,a1,a2,a3,rfl⟩:=tk;exact .inr ⟨t,a1,rfl,PB⟩
 | id v=>obtain⟨t,xR,xV,a1,a2,a3,rfl⟩:=tk;grind [G.Tk.kind]
 | label v=>obtain⟨t,xR,xV,a1,a2,a3,rfl⟩:=tk;grind [G.Tk.kind]
 | spot v y=>obtain⟨t,xP,xR,g,a1,a2,a3,a4,rfl⟩:=tk;grind [G.Tk.kind]
 | fin k=>obtain⟨t,xR,xT,a1,a2,a3,rfl⟩:=tk;grind [G.Tk.kind]
 | weight k=>obtain⟨t,xR,xK,a1,a2,a3,rfl⟩:=tk;grind [G.Tk.kind]
theorem frR {C:List Ck} {x:G.Tk} {v:G.Tok} {w:Value} {h':ab} (r:tR gl b d s C h cl x v A σ w h'):Fr (ao C) h h':=by
 obtain⟨_,_,_,q,_⟩:=r;exact q.fr
theorem frE {C:List Ck} {x:G.Tk} {v:G.Tok} {w:Value} {h':ab} (r:tE C h cl x v σ w h'):Fr (ao C) h h':=by
 obtain⟨_,_,_,q⟩:=r;exact q
theorem Ly {x:G.Tk} {v:G.Tok} {p:PY} {mo:Option (Nat × List PZ)} {fs tfs:Fs} (hcl:qP cl) (tk:TkR b A x p mo fs tfs) (H:Hp h (stC gl b s A σ d++[Ck.fx none tfs])) (ri:G.RI cl s σ) (hb:TkB σ x)
  (hk:x.kind=v.kind) (h0:x.kind≠0) (h1:x.kind≠1) (hv:v.kind=4->v.says.size<=262144) {Hd:List Nat} {K E:Value->ab->Prop} (hH:∀z∈Hd,z∉ao (stC gl b s A σ d++[Ck.fx none tfs]))
  (k1:∀w h',tR gl b d s (stC gl b s A σ d++[Ck.fx none tfs]) h cl x v A σ w h'->K w h') (k2:∀w h',tE (stC gl b s A σ d++[Ck.fx none tfs]) h cl x v σ w h'->E w h'):
  ∃t f c,p=some ⟨t,0,none⟩/\tfs[1]? =some (t,1,.func f #[] c)/\ik Tryz.prog kH tG (some E) f #[] c [cQ v] h Hd K:=by
 cases x with
 | none=>exact absurd rfl h0
 | list l=>exact absurd rfl h1
 | dir=>
  obtain⟨t,xR,a1,a2,a3,a4⟩:=tk
  refine⟨t,_,_,a1,by rw[a4];rfl,?_⟩
  exact aK _ (Lu (cl:=cl) H a4) hH (fun _ _ r=>frR r) (fun _ _ r=>frE r) k1 k2
 | id k=>
  obtain⟨t,xR,xV,a1,a2,a3,a4⟩:=tk
  refine⟨t,_,_,a1,by rw[a4];rfl,?_⟩
  exact aK _ (OP (cl:=cl) H (hv hk.symm) a4) hH (fun _ _ r=>frR r) (fun _ _ r=>frE r) k1 k2
 | label k=>
  obtain⟨t,xR,xV,a1,a2,a3,a4⟩:=tk
  refine⟨t,_,_,a1,by rw[a4];rfl,?_⟩
  exact aK _ (Ft (cl:=cl) H ri hb a4) hH (fun _ _ r=>frR r) (fun _ _ r=>frE r) k1 k2
 | spot k y=>
  obtain⟨t,xP,xR,g,a1,a2,a3,a4,a5⟩:=tk
  refine⟨t,_,_,a1,by rw[a5];rfl,?_⟩
  exact ak _ (Fq (y:=y) hcl H ri hb a4 a5) hH (fun _ _ r=>frR r) k1
 | fin k=>
  obtain⟨t,xR,xT,a1,a2,a3,a4⟩:=tk
  refine⟨t,_,_,a1,by rw[a4];rfl,?_⟩
  exact aK _ (Lw (cl:=cl) H (hv hk.symm) hb a4) hH (fun _ _ r=>frR r) (fun _ _ r=>frE r) k1 k2
 | weight k=>
  obtain⟨t,xR,xK,a1,a2,a3,a4⟩:=tk
  refine⟨t,_,_,a1,by rw[a4];rfl,?_⟩
  have:=ri.el
  have hb':k/2<σ.weights.length:=hb
  exact ak _ (BD hcl H ri hb PA a4) hH (fun _ _ r=>frR r) k1
theorem BG {m:Nat} {ks:List PZ} {k:P0} {P:Int->Prop} {Q:Prop} (hm:cI h m=some (Ent (ek ks),(ek ks).length)) (k1:k.data.toList∈ks->P 1) (k2:k.data.toList∉ks->Q):
  ∃mr,some m=some mr/\∃es c,cI h mr=some (es,c)/\fw kB es/\(∀ev∈es.toList,ev.key= PU k->∃r:Int,ev.val= PN r/\P r)/\((∀e∈es.toList,e.key≠ PU k)->Q):=by
 refine⟨m,rfl,_,_,hm,lm _,fun ev he hk=>?_,fun q=>k2 fun hin=>?_⟩
 ·obtain⟨j,p,h3,rfl⟩:=gj he
  obtain⟨k',h4,rfl⟩:=mH h3
  have:k'=k.data.toList:=jx.1 hk
  grind
 ·obtain⟨j,hj⟩:=QO.1 hin
  refine q ⟨PU (G.mkB k.data.toList),PN 1,j⟩ (Si.1 (Rt (i:=j) ?_)) (jx.2 rfl)
  rw[gi]
  simp[ek,hj]
theorem Fu {l:G.Lv} {kf:Fn} {kc:Array Value} {ov:Value} {mo:Option (Nat × List PZ)} {fs:Fs} {h0:ab} {M:List Nat} {cs:List Ck} {k e:Nat} (lv:LvR b l (.func kf #[] kc) ov mo fs) (Y:Sy h0 M h cs) (hk:cs[k]? =some (Ck.fx mo fs))
  {Hd:List Nat} {K E:Value->ab->Prop} (k1:G.behind l e σ= .ok σ->K (.tuple #[]) h) (k2:∀f,G.behind l e σ= .no f->E (flt f) h):
  ∃f c,ov= .func f #[] c/\ik Tryz.prog kH tG (some E) f #[] c [PN (e:Int)] h Hd K:=by
 have none:(G.behind l e σ= .ok σ)->∀n,n=52->PI n #[PN (e:Int)] h Hd K:=by
  rintro q n rfl
  refine gG (v0:=.tuple #[]) ?_ (k1 q)
  apply Ga
  exact⟨rfl,rfl⟩
 cases l with
 | over=>exact absurd lv.1 PE
 | top=>exact absurd lv.1 PE
 | graph dd=>
  obtain⟨xR,xM,m,ks,a1,a2,a3,a4,a5⟩:=lv
  exact⟨_,_,a2,none rfl 52 rfl⟩
 | spot v x y=>
  obtain⟨xM,xR,xV,m,ks,a1,a2,a3,a4,a5⟩:=lv
  exact⟨_,_,a2,none rfl 52 rfl⟩
 | node v x y z=>
  obtain⟨xM,xR,xV,m,ks,a1,a2,a3,a4,a5⟩:=lv
  refine⟨_,_,a2,?_⟩
  subst a3
  have hm:=Y.mapF k hk
  refine aK (R:=fun w h'=>x=true/\w= .tuple #[]/\h'=h) (Rp:=fun w h'=>x=false/\w=flt (e,14)/\h'=h) [] ?_ PC (fun _ _ r=>Fr.of_eq r.2.2) (fun _ _ r=>Fr.of_eq r.2.2) (fun w h' r=>?_) fun w h' r=>?_
  ·apply Ca
   unfold LY
   refine⟨xM,0,rfl,some m,Y.factF k hk 0 (by rw[a5];rfl),BG hm (fun q=>?_) fun q=>?_⟩
   ·refine aF (fun _=>⟨rfl,?_,rfl,rfl⟩) fun z=>absurd z PB
    have:=(a4.2 _).1 q
    grind [G.eU,G.bm,kts]
   ·refine aF (fun z=>absurd z PB) fun _=>⟨?_,rfl,rfl⟩
    cases x with
    | false=>rfl
    | true=>exact absurd ((a4.2 _).2 (by simp[kts];exact .inl rfl)) q
  ·grind [G.behind,G.aB]
  grind [G.behind,G.aB]
 | edge v x y z=>
  obtain⟨xM,xK,xR,m,ks,a1,a2,a3,a4,a5⟩:=lv
  refine⟨_,_,a2,?_⟩
  subst a3
  have hm:=Y.mapF k hk
  have c0:=Y.factF k hk 0 (b:=xM) (o:=0) (v:=.map (some m)) (by rw[a5];rfl)
  have n1:G.bp≠G.bw:=by decide
  have n2:G.bp≠G.cN:=by decide
  have n3:G.bw≠G.cN:=by decide
  have s0:(⟨#[115,111,117,114,99,101]⟩:P0).data.toList=G.bp:=rfl
  have t0:(⟨#[116,97,114,103,101,116]⟩:P0).data.toList=G.bw:=rfl
  have hs:G.bp∈ks ↔ x=true:=by rw[a4.2];simp[kts,n1,n2]
  have ht:G.bw∈ks ↔ y=true:=by rw[a4.2];simp[kts,n3,Ne.symm n1]
  refine aK (R:=fun w h'=>(x&&y)=true/\w= .tuple #[]/\h'=h) (Rp:=fun w h'=>(x&&y)=false/\w=flt (e,14)/\h'=h) [] ?_ PC (fun _ _ r=>Fr.of_eq r.2.2) (fun _ _ r=>Fr.of_eq r.2.2) (fun w h' r=>?_) fun w h' r=>?_
  ·apply Ce
   unfold L9
   intro K k' k2'
   refine⟨xM,0,rfl,some m,c0,BG hm (fun q=>?_) fun q=>?_⟩
   ·rw[s0]at q
    refine aJ rfl ?_
    refine⟨xM,0,rfl,some m,c0,BG hm (fun q2=>?_) fun q2=>?_⟩
    ·rw[t0]at q2
     exact aF (fun _=>⟨rfl,PE,rfl,rfl⟩) fun z=>absurd z PB
    ·rw[t0]at q2
     refine aF (fun z=>absurd z PB) fun _=>⟨?_,rfl,rfl⟩
     grind
   ·rw[s0]at q
    refine az rfl ?_
    refine aF (fun z=>absurd z PB) fun _=>⟨?_,rfl,rfl⟩
    grind
  ·grind [G.behind,G.aB]
  grind [G.behind,G.aB]
theorem BH {C:List Ck} {l:G.Lv} {t:G.Tok} {kv ov w:Value} {fs:Fs} {h':ab} (r:kR gl b d s C h l t σ kv ov fs w h'):Fr (ao C) h h':=by
 obtain⟨_,_,_,_,_,_,_,_,_,_,_,q,_⟩:=r;exact q.fr
theorem BI {C:List Ck} {l:G.Lv} {t:G.Tok} {w:Value} {h':ab} (r:kE C h l t σ w h'):Fr (ao C) h h':=by
 obtain⟨_,_,_,f⟩:=r;exact f
theorem OQ {l:G.Lv} {t:G.Tok} {kF:Fn} {kX kY:Array Value} {ov:Value} {mo:Option (Nat × List PZ)} {fs:Fs} (lv:LvR b l (.func kF kX kY) ov mo fs) (H:Hp h (stC gl b s A σ d++[Ck.fx mo fs])) (ri:G.RI cl s σ) (hb:LvB σ l)
  {Hd:List Nat} {K E:Value->ab->Prop} (hH:∀z∈Hd,z∉ao (stC gl b s A σ d++[Ck.fx mo fs]))
  (k1:∀w h',kR gl b d s (stC gl b s A σ d++[Ck.fx mo fs]) h l t σ (.func kF kX kY) ov fs w h'->K w h') (k2:∀w h',kE (stC gl b s A σ d++[Ck.fx mo fs]) h l t σ w h'->E w h'):
  ik Tryz.prog kH tG (some E) kF kX kY [cQ t] h Hd K:=by
 cases l with
 | over=>exact absurd lv.1 PE
 | top=>
  obtain⟨a1,a2,a3⟩:=lv
  have e:=a1
  cases a1
  exact aK _ (Lk (cl:=cl) H ri e a2 a3) hH (fun _ _ r=>BH r) (fun _ _ r=>BI r) k1 k2
 | graph dd=>
  obtain⟨xR,xM,m,ks,a1,a2,a3,a4,a5⟩:=lv
  have e:=a1
  cases a1
  exact aK _ (Fg (cl:=cl) H ri e a2 a3 a4 a5) hH (fun _ _ r=>BH r) (fun _ _ r=>BI r) k1 k2
 | spot v x y=>
  obtain⟨xM,xR,xV,m,ks,a1,a2,a3,a4,a5⟩:=lv
  have e:=a1
  cases a1
  exact aK _ (IV (cl:=cl) H ri hb e a2 a3 a4 a5) hH (fun _ _ r=>BH r) (fun _ _ r=>BI r) k1 k2
 | node v x y z=>
  obtain⟨xM,xR,xV,m,ks,a1,a2,a3,a4,a5⟩:=lv
  have e:=a1
  cases a1
  exact aK _ (IX (cl:=cl) H ri hb e a2 a3 a4 a5) hH (fun _ _ r=>BH r) (fun _ _ r=>BI r) k1 k2
 | edge k x y z=>
  obtain⟨xM,xK,xR,m,ks,a1,a2,a3,a4,a5⟩:=lv
  have e:=a1
  cases a1
  exact aK _ (IW (cl:=cl) H ri hb e a2 a3 a4 a5) hH (fun _ _ r=>BH r) (fun _ _ r=>BI r) k1 k2
end
theorem z7 {s:P0} {i j:Nat} {t:G.Tok} (h:G.next s i= .ok (t,j)):t.kind=5\/t.says.size<=s.size:=by
 rw[yC]at h
 unfold kw at h
 have ex:∀a b:Nat,(s.extract a b).size<=s.size:=by grind [ByteArray.size_extract]
 have n0:G.noB.size<=s.size:=QU _
 split at h
 ·grind
 split at h
 ·grind
 split at h
 ·grind
 split at h
 ·cases q:G.str s (G.skp s i) (G.skp s i+1) []with
  | ok a=>rw[q]at h;obtain⟨l,k⟩:=a;cases h;exact .inl rfl
  | no f=>rw[q]at h;cases h
  | un=>rw[q]at h;cases h
 grind
theorem uT {rd:P0->Option (Nat × Nat)} {t v:G.Tok} (h:G.bn rd t= .ok v) (hv:v.kind=4):v.says=t.says/\t.kind≠5:=by
 grind [G.bn]
theorem LvB.I {σ:G.Rd} {l:G.Lv} (h:LvB σ l):G.LvI σ l:=by
 cases l<;>first | trivial | exact h
theorem TkB.I {σ:G.Rd} {x:G.Tk} (h:TkB σ x):G.TkI σ x:=by
 cases x with
 | list l=>exact LvB.I h
 | _=>first | trivial | exact h
theorem TkB.at {σ:G.Rd} {x:G.Tk} (h:TkB σ x) (i:Nat):TkB {σ with i:=i} x:=by
 cases x with
 | list l=>cases l<;>exact h
 | _=>exact h
theorem LvB.at {σ:G.Rd} {l:G.Lv} (h:LvB σ l) (i:Nat):LvB {σ with i:=i} l:=by
 cases l<;>exact h
section
variable (gl:GL) (b:Nat) (s:P0) (rd:P0->Option (Nat × Nat)) (cl:Nat->Nat)
def lR (C:List Ck) (h:ab) (n:Nat) (l:G.Lv) (d:Nat) (σ:G.Rd) (kv ov:Value) (fs:Fs) (v:Value) (h':ab):Prop:=
 ∃e l' σ' A' mo',G.list s rd cl n l d σ= .ok (e,l',σ')/\v= PN (e:Int)/\Sq h C h' (stC gl b s A' σ' d++[Ck.fx mo' fs])/\LvR b l' kv ov mo' fs/\Gr σ σ'
def lE (C:List Ck) (h:ab) (n:Nat) (l:G.Lv) (d:Nat) (σ:G.Rd) (v:Value) (h':ab):Prop:=
 ∃f,G.list s rd cl n l d σ= .no f/\v=flt f/\Fr (ao C) h h'
def yD (n:Nat):Prop:=∀(l:G.Lv) (d:Nat) (σ:G.Rd) (A:AD) (h:ab) (kv ov:Value) (mo:Option (Nat × List PZ)) (fs:Fs),Hp h (stC gl b s A σ d++[Ck.fx mo fs])->LvR b l kv ov mo fs->G.RI cl s σ->LvB σ l->d<=16->
 G.list s rd cl n l d σ≠ .un->PM 33 #[pt b,PV (G.bV l),kv] h (lR gl b s rd cl (stC gl b s A σ d++[Ck.fx mo fs]) h n l d σ kv ov fs) (lE s rd cl (stC gl b s A σ d++[Ck.fx mo fs]) h n l d σ)
def vR (C:List Ck) (h:ab) (n:Nat) (x:G.Tk) (d:Nat) (σ:G.Rd) (v:Value) (h':ab):Prop:=
 ∃σ' A',G.value s rd cl (G.list s rd cl n) x d σ= .ok σ'/\v= .tuple #[]/\Sq h C h' (stC gl b s A' σ' d)/\Gr σ σ'
def vE (C:List Ck) (h:ab) (n:Nat) (x:G.Tk) (d:Nat) (σ:G.Rd) (v:Value) (h':ab):Prop:=
 ∃f,G.value s rd cl (G.list s rd cl n) x d σ= .no f/\v=flt f/\Fr (ao C) h h'
def OS (n:Nat):Prop:=∀(x:G.Tk) (d:Nat) (σ:G.Rd) (A:AD) (h:ab) (p:PY) (mo:Option (Nat × List PZ)) (fs tfs:Fs),Hp h (stC gl b s A σ d++[Ck.fx mo fs,Ck.fx none tfs])->TkR b A x p mo fs tfs->G.RI cl s σ->TkB σ x->d<=16->
 G.value s rd cl (G.list s rd cl n) x d σ≠ .un->PM 51 #[pt b,PW p] h (vR gl b s rd cl (stC gl b s A σ d++[Ck.fx mo fs,Ck.fx none tfs]) h n x d σ) (vE s rd cl (stC gl b s A σ d++[Ck.fx mo fs,Ck.fx none tfs]) h n x d σ)
end
section
variable {gl:GL} {b:Nat} {s:P0} {rd:P0->Option (Nat × Nat)} {cl:Nat->Nat}
theorem inB {A:AD} {σ:G.Rd} {d:Nat} {rest:List Ck} {x:Nat} (h:x∈[b]):x∈ao (stC gl b s A σ d++rest):=by
 simp only[Qi]at h
 subst h
 exact bD.2 ⟨0,_,rfl,by simp[Ck.ob]⟩
theorem Sq.mvB {h0 h h':ab} {C rest:List Ck} {A:AD} {σ:G.Rd} {d j:Nat} (q:Sq h0 C h (stC gl b s A σ d++rest)) (m:Mv b h h' j):Sq h0 C h' (stC gl b s A {σ with i:=j} d++rest):=
 ⟨q.sy.mv 0 rfl m,q.ri⟩
theorem Sq.dep {h0 h:ab} {C rest:List Ck} {A:AD} {σ:G.Rd} {d:Nat} (q:Sq h0 C h (stC gl b s A σ d++rest)) (d':Nat):Sq h0 C (aj h b 2 (PN (d':Int))) (stC gl b s A σ d'++rest):=
 ⟨q.sy.stO 0 rfl 2 _,q.ri⟩
theorem Sq.dep0 {h0 h:ab} {C:List Ck} {A:AD} {σ:G.Rd} {d:Nat} (q:Sq h0 C h (stC gl b s A σ d)) (d':Nat):Sq h0 C (aj h b 2 (PN (d':Int))) (stC gl b s A σ d'):=
 ⟨q.sy.stO 0 rfl 2 _,q.ri⟩
theorem yE {n:Nat} (hr:qO rd gl) (hcl:qP cl) (hs:s.size<=262144) (IH:yD gl b s rd cl n):OS gl b s rd cl n:=by
 intro x d σ A h p mo1 fs1 tfs H tk ri hb hd hu
 generalize hC:stC gl b s A σ d++[Ck.fx mo1 fs1,Ck.fx none tfs]=C at H ⊢
 have Q0:Sq h C h (stC gl b s A σ d++[Ck.fx mo1 fs1,Ck.fx none tfs]):=by rw[hC];exact Sq.start H
 apply Gc
 unfold S51
 refine⟨b,0,rfl,?_⟩
 refine aK [b] (I1 (Q0.sy.lx 0 rfl) ri.i hs) PC (fun _ _ r=>by obtain⟨_,_,_,_,M⟩:=r;exact M.fr) (fun _ _ r=>by grind) (fun v hv r=>?_) fun v hv r=>?_
 rotate_left
 ·obtain⟨f,e,rfl,fr⟩:=r
  exact⟨f,by simp[G.value,e,G.Er.bind],rfl,by rw[<-hC];exact fr.mono fun x hx=>inB hx⟩
 obtain⟨t,i,e1,rfl,M⟩:=r
 have ni:=(G.iV ri.i).1 t i e1
 have Q1:Sq h C hv (stC gl b s A {σ with i:=i} d++[Ck.fx mo1 fs1,Ck.fx none tfs]):=Sq.mvB Q0 M
 have ri1:G.RI cl s {σ with i:=i}:=ri.at ni.2.1
 have hb1:TkB {σ with i:=i} x:=hb.at i
 have g1:Gr σ {σ with i:=i}:=⟨P3 _,P3 _,P3 _⟩
 have ev1:G.value s rd cl (G.list s rd cl n) x d σ=(G.bn rd t).bind fun v=>G.aB (decide (v.kind=1->d<16)) (v.at_,3) <| G.aB (decide (x.kind=0\/x.kind=v.kind)) (v.at_,22) <|
   if v.kind=1 then
    match x with
    | .list l=>(G.list s rd cl n l (d+1) {σ with i:=i}).bind fun(e,l',r2)=>G.behind l' e r2
    | _=>(G.list s rd cl n .over (d+1) {σ with i:=i}).bind fun(_,_,r2)=>.ok r2
   else G.bX cl x v {σ with i:=i}:=by
  unfold G.value
  rw[e1]
  rfl
 generalize hσ:({σ with i:=i}:G.Rd)=σ1 at*
 refine⟨_,_,_,_,rfl,?_⟩
 have hu1:G.bn rd t≠ .un:=by
  intro q
  rw[ev1,q]at hu
  exact hu rfl
 refine aK [] (OL hr (Q1.sy.glo 6 rfl) hu1) PC (fun _ _ r=>by grind) (fun _ _ r=>by grind) (fun v hv2 r=>?_) fun v hv2 r=>?_
 rotate_left
 ·obtain⟨f,e,rfl,fr⟩:=r
  exact⟨f,by rw[ev1,e];rfl,rfl,Q1.frT fr.nil⟩
 obtain⟨v,e2,rfl,f2⟩:=r
 have says:v.kind=4->v.says.size<=262144:=by
  grind [uT,z7]
 have Q2:Sq h C hv2 (stC gl b s A σ1 d++[Ck.fx mo1 fs1,Ck.fx none tfs]):=Q1.gr f2
 have ev2:G.value s rd cl (G.list s rd cl n) x d σ=(G.aB (decide (v.kind=1->d<16)) (v.at_,3) <| G.aB (decide (x.kind=0\/x.kind=v.kind)) (v.at_,22) <|
   if v.kind=1 then
    match x with
    | .list l=>(G.list s rd cl n l (d+1) σ1).bind fun(e,l',r2)=>G.behind l' e r2
    | _=>(G.list s rd cl n .over (d+1) σ1).bind fun(_,_,r2)=>.ok r2
   else G.bX cl x v σ1):=by rw[ev1,e2];rfl
 clear ev1
 refine⟨_,_,_,_,rfl,?_⟩
 intro hv3 hv4
 have Q4:Sq h C hv4 (stC gl b s A σ1 d++[Ck.fx mo1 fs1,Ck.fx none tfs]):=Q2.gr ((((((Fr.push hv2 _).hsetL (P3 _)).hsetL (P3 _)).hsetL (P3 _)).hsetL (P3 _)))
 have s4:hv4.size=hv2.size+1:=by simp[hv4,hv3]
 have hbl:b<hv2.size:=fN Q2.sy 0 rfl b (by simp[Ck.ob])
 have nin:∀z∈([hv2.size]:List Nat),z∉ao (stC gl b s A σ1 d++[Ck.fx mo1 fs1,Ck.fx none tfs]):=by
  intro z hz q
  simp only[Qi]at hz
  subst hz
  obtain⟨k,c,h1,h2⟩:=bD.1 q
  have:=fN Q2.sy k h1 _ h2
  omega
 clear_value hv4
 clear hv3
 by_cases hk:v.kind=1
 ·--a list
  have ek:((v.kind:Int)==(1:Int))=true:=by rw[hk];rfl
  rw[ek]
  refine⟨fun _ h'=>d<16/\hv2.size<h'.size/\Sq h C h' (stC gl b s A σ1 (d+1)++[Ck.fx mo1 fs1,Ck.fx none tfs]),?_,?_⟩
  ·refine aJ rfl ?_
   refine⟨b,0,rfl,(d:Int),Q4.sy.cellO 0 rfl 2 rfl,b,0,rfl,PA,⟨_,Q4.sy.cellO 0 rfl 2 rfl⟩,Q4.sy.freeO 0 rfl 2,?_⟩
   rw[wrN PA]
   intro hv5
   have Q5:Sq h C hv5 (stC gl b s A σ1 (d+1)++[Ck.fx mo1 fs1,Ck.fx none tfs]):=Sq.dep Q4 (d+1)
   refine⟨b,0,rfl,((d+1:Nat):Int),Q5.sy.cellO 0 rfl 2 rfl,?_⟩
   refine aF (fun q=>⟨rfl,Fr.refl _ _,?_,by simp[hv5,s4],Q5⟩) fun q=>⟨_,?_,rfl,Q5.fr⟩
   ·grind
   grind [G.aB]
  ·rintro hv7 ⟨hd16,s7,Q7⟩ K
   have ev3:G.value s rd cl (G.list s rd cl n) x d σ=(G.aB (decide (x.kind=0\/x.kind=v.kind)) (v.at_,22) <|
     match x with
     | .list l=>(G.list s rd cl n l (d+1) σ1).bind fun(e,l',r2)=>G.behind l' e r2
     | _=>(G.list s rd cl n .over (d+1) σ1).bind fun(_,_,r2)=>.ok r2):=by
    rw[ev2,if_pos hk]
    simp only[G.aB,hd16,implies_true,decide_true]
   clear ev2
   have ninA:∀z∈([hv2.size]:List Nat),z∉ao (stC gl b s A σ1 d++[Ck.fx mo1 fs1]):=fun z hz q=>by
    obtain⟨j,c,h1,h2⟩:=bD.1 q
    refine nin z hz (bD.2 ⟨j,c,?_,h2⟩)
    grind
   have Q7':Sq h C hv7 ((stC gl b s A σ1 (d+1)++[Ck.fx mo1 fs1])++[Ck.fx none tfs]):=Q7
   have HA:Hp hv7 (stC gl b s A σ1 (d+1)++[Ck.fx mo1 fs1]):=(Q7.pick [0,1,2,3,4,5,6,7] rfl).hp
   have k:(x.kind=0\/x.kind=v.kind)->K hv7:=by
    intro hxk
    rw[decide_eq_true hxk]at ev3
    simp only[G.aB]at ev3
    dsimp-zeta only[K]
    intro K2
    have k2:∀(hv22:ab) (σ':G.Rd) (A':AD),G.value s rd cl (G.list s rd cl n) x d σ= .ok σ'->Sq h C hv22 (stC gl b s A' σ' (d+1))->Gr σ σ'->K2 hv22:=by
     intro hv22 σ' A' a1 a2 a3
     dsimp-zeta only[K2]
     refine⟨fun _ h'=>Sq h C h' (stC gl b s A' σ' d),?_,fun hv24 q=>⟨σ',A',a1,rfl,q,a3⟩⟩
     refine aJ rfl ⟨b,0,rfl,((d+1:Nat):Int),a2.sy.cellO 0 rfl 2 rfl,b,0,rfl,PA,⟨_,a2.sy.cellO 0 rfl 2 rfl⟩,a2.sy.freeO 0 rfl 2,?_⟩
     grind [wr,Sq.dep0]
    refine aJ rfl ?_
    refine⟨fun _ h'=>∃σ' A',G.value s rd cl (G.list s rd cl n) x d σ= .ok σ'/\Sq h C h' (stC gl b s A' σ' (d+1))/\Gr σ σ',?_,fun hv17 ⟨σ',A',a1,a2,a3⟩=>k2 _ σ' A' a1 a2 a3⟩
    by_cases hxl:∃l,x= .list l
    ·obtain⟨l,rfl⟩:=hxl
     obtain⟨t0,kf,kc,ov,rfl,lv,a3⟩:=tk
     have ev3:G.value s rd cl (G.list s rd cl n) (.list l) d σ=(G.list s rd cl n l (d+1) σ1).bind fun(e,l',r2)=>G.behind l' e r2:=ev3
     have htop:G.bV l=false:=by
      cases l with
      | top=>
       have:=lv.1
       grind
      | _=>rfl
     have hun:G.list s rd cl n l (d+1) σ1≠ .un:=by
      intro q
      rw[ev3,q]at hu
      exact hu rfl
     refine aJ rfl ⟨t0,0,rfl,.func kf,#[],kc,Q7.sy.factF 8 rfl 1 (by rw[a3];rfl),?_⟩
     have c:=IH l (d+1) σ1 A hv7 _ ov mo1 fs1 HA lv ri1 hb1 PA hun
     rw[htop]at c
     refine aK _ c ninA (fun _ _ r=>by obtain⟨_,_,_,_,_,_,_,q,_⟩:=r;exact q.fr) (fun _ _ r=>by obtain⟨_,_,_,q⟩:=r;exact q) (fun w hv11 r=>?_) fun w hv11 r=>?_
     ·obtain⟨e,l',σ',A',mo',q1,rfl,q2,q3,q4⟩:=r
      have Q11:Sq h C hv11 ((stC gl b s A' σ' (d+1)++[Ck.fx mo' fs1])++[Ck.fx none tfs]):=Sq.call Q7' q2
      have ev4:G.value s rd cl (G.list s rd cl n) (.list l) d σ=G.behind l' e σ':=by rw[ev3,q1];rfl
      refine⟨(e:Int),rfl,t0,0,rfl,?_⟩
      obtain⟨f,c,hov,hcall⟩:=Fu (σ:=σ') (e:=e) (Hd:=[hv2.size]) (K:=fun v7 hv12=>v7= .tuple #[]/\∃σ' A',G.value s rd cl (G.list s rd cl n) (.list l) d σ= .ok σ'/\Sq h C hv12 (stC gl b s A' σ' (d+1))/\Gr σ σ') (E:=vE s rd cl C h n (.list l) d σ) q3 Q11.sy (k:=7) rfl
       (fun q=>⟨rfl,σ',A',ev4.trans q,Q11.pick [0,1,2,3,4,5,6] rfl,g1.trans q4⟩) fun f q=>⟨f,ev4.trans q,rfl,Q11.fr⟩
      exact⟨_,_,_,Q11.sy.factF 8 rfl 2 PE,hcall⟩
     ·obtain⟨f,q1,rfl,q2⟩:=r
      exact⟨f,by rw[ev3,q1];rfl,rfl,Q7'.frA q2⟩
    ·have hx0:x= .none:=by
      rcases th tk with⟨_,q,_⟩ | ⟨_,_,_,q⟩
      ·exact q
      ·exfalso
       cases x with
       | list l=>grind
       | none=>exact q rfl
       | _=>simp[G.Tk.kind,hk]at hxk
     subst hx0
     obtain⟨rfl,rfl,rfl,rfl⟩:=tk
     have ev3:G.value s rd cl (G.list s rd cl n) .none d σ=(G.list s rd cl n .over (d+1) σ1).bind fun(_,_,r2)=>.ok r2:=ev3
     have hun:G.list s rd cl n .over (d+1) σ1≠ .un:=by
      intro q
      rw[ev3,q]at hu
      exact hu rfl
     refine az rfl ⟨fun _ h'=>∃σ' A',G.value s rd cl (G.list s rd cl n) .none d σ= .ok σ'/\Sq h C h' (stC gl b s A' σ' (d+1))/\Gr σ σ',?_,fun _ q=>q⟩
     refine aJ rfl ?_
     refine aK _ (IH .over (d+1) σ1 A hv7 .nilFunc .nilFunc none [] HA ⟨rfl,rfl,rfl⟩ ri1 trivial PA hun) ninA (fun _ _ r=>by obtain⟨_,_,_,_,_,_,_,q,_⟩:=r;exact q.fr) (fun _ _ r=>by obtain⟨_,_,_,q⟩:=r;exact q) (fun w hv11 r=>?_) fun w hv11 r=>?_
     ·obtain⟨e,l',σ',A',mo',q1,rfl,q2,q3,q4⟩:=r
      have Q11:Sq h C hv11 ((stC gl b s A' σ' (d+1)++[Ck.fx mo' []])++[Ck.fx none []]):=Sq.call Q7' q2
      exact⟨(e:Int),rfl,σ',A',by rw[ev3,q1];rfl,Q11.pick [0,1,2,3,4,5,6] rfl,g1.trans q4⟩
     ·obtain⟨f,q1,rfl,q2⟩:=r
      exact⟨f,by rw[ev3,q1];rfl,rfl,Q7'.frA q2⟩
   rcases th tk with⟨rfl,hx,-⟩ | ⟨t0,rfl,hf,hx0⟩
   ·exact aJ rfl (aF (fun _=>⟨rfl,Fr.refl _ _,k (.inl (by rw[hx];rfl))⟩) fun z=>absurd z PB)
   ·refine az rfl ⟨t0,0,rfl,(x.kind:Int),Q7.sy.factF 8 rfl 0 hf,aF (fun q=>⟨rfl,Fr.refl _ _,k (.inr PE)⟩) fun q=>⟨_,?_,rfl,Q7.fr⟩⟩
    grind [G.aB]
 ·--no list
  have ek:((v.kind:Int)==(1:Int))=false:=by grind
  rw[ek]
  have ev3:G.value s rd cl (G.list s rd cl n) x d σ=(G.aB (decide (x.kind=0\/x.kind=v.kind)) (v.at_,22) <| G.bX cl x v σ1):=by
   rw[ev2,if_neg hk]
   simp[G.aB,hk]
  clear ev2
  refine⟨fun _ h'=>hv2.size<h'.size/\Sq h C h' (stC gl b s A σ1 d++[Ck.fx mo1 fs1,Ck.fx none tfs]),az rfl ⟨PA,Q4⟩,?_⟩
  rintro hv7 ⟨s7,Q7⟩ K
  have Q7':Sq h C hv7 ((stC gl b s A σ1 d++[Ck.fx none tfs])++[Ck.fx mo1 fs1]):=Q7.pick [0,1,2,3,4,5,6,8,7] rfl
  have HA:Hp hv7 (stC gl b s A σ1 d++[Ck.fx none tfs]):=(Q7.pick [0,1,2,3,4,5,6,8] rfl).hp
  have ninA:∀z∈([hv2.size]:List Nat),z∉ao (stC gl b s A σ1 d++[Ck.fx none tfs]):=fun z hz q=>by
   obtain⟨j,c,h1,h2⟩:=bD.1 q
   rcases dY h1 with h1 | ⟨_,h1⟩
   ·exact nin z hz (bD.2 ⟨j,c,gf h1,h2⟩)
   grind [Ck.fx]
  have k:(x.kind=0\/x.kind=v.kind)->K hv7:=by
   intro hxk
   rw[decide_eq_true hxk]at ev3
   simp only[G.aB]at ev3
   dsimp-zeta only[K]
   intro K2
   have k2:∀(hv22:ab) (σ':G.Rd) (A':AD),G.value s rd cl (G.list s rd cl n) x d σ= .ok σ'->Sq h C hv22 (stC gl b s A' σ' d)->Gr σ σ'->K2 hv22:=by
    intro hv22 σ' A' a1 a2 a3
    dsimp-zeta only[K2]
    exact⟨fun _ h'=>Sq h C h' (stC gl b s A' σ' d),az rfl a2,fun hv24 q=>⟨σ',A',a1,rfl,q,a3⟩⟩
   refine az rfl ?_
   refine⟨fun _ h'=>∃σ' A',G.value s rd cl (G.list s rd cl n) x d σ= .ok σ'/\Sq h C h' (stC gl b s A' σ' d)/\Gr σ σ',az rfl ⟨fun _ h'=>∃σ' A',G.value s rd cl (G.list s rd cl n) x d σ= .ok σ'/\Sq h C h' (stC gl b s A' σ' d)/\Gr σ σ',?_,fun _ q=>q⟩,fun hv17 ⟨σ',A',a1,a2,a3⟩=>k2 _ σ' A' a1 a2 a3⟩
   rcases th tk with⟨rfl,rfl,-⟩ | ⟨t0,rfl,hf,hx0⟩
   ·exact az rfl ⟨σ1,A,ev3,Q7.pick [0,1,2,3,4,5,6] rfl,g1⟩
   ·have hxv:x.kind=v.kind:=hxk.resolve_left hx0
    obtain⟨t1,f,c,hp,hf1,hcall⟩:=Ly (Hd:=[hv2.size]) (K:=fun v9 hv14=>v9= .tuple #[]/\∃σ' A',G.value s rd cl (G.list s rd cl n) x d σ= .ok σ'/\Sq h C hv14 (stC gl b s A' σ' d)/\Gr σ σ') (E:=vE s rd cl C h n x d σ) hcl tk HA ri1 hb1 hxv hx0 PA says ninA
     (fun w h' r=>by
      obtain⟨σ',q1,rfl,q2,q3⟩:=r
      have Q9:Sq h C h' (stC gl b s A σ' d++[Ck.fx mo1 fs1]):=Sq.call Q7' q2
      exact⟨rfl,σ',A,ev3.trans q1,Q9.pick [0,1,2,3,4,5,6] rfl,g1.trans q3⟩)
     (fun w h' r=>by
      obtain⟨f,q1,rfl,q2⟩:=r
      exact⟨f,ev3.trans q1,rfl,Q7'.frA q2⟩)
    cases hp
    exact aJ rfl ⟨t0,0,rfl,_,_,_,Q7.sy.factF 8 rfl 1 hf1,hcall⟩
  rcases th tk with⟨rfl,hx,-⟩ | ⟨t0,rfl,hf,hx0⟩
  ·exact aJ rfl (aF (fun _=>⟨rfl,Fr.refl _ _,k (.inl (by rw[hx];rfl))⟩) fun z=>absurd z PB)
  ·refine az rfl ⟨t0,0,rfl,(x.kind:Int),Q7.sy.factF 8 rfl 0 hf,aF (fun q=>⟨rfl,Fr.refl _ _,k (.inr PE)⟩) fun q=>⟨_,?_,rfl,Q7.fr⟩⟩
   grind [G.aB]
end
end Go.Proofs.YtmmmmjcfojhiaaaGreatDoor.N
