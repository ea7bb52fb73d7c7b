/- Reading numbers: the form, the value, and the refusals. Conditions: none. -/
import Derived.Test.YtemphinmoihdaaaGreatDoorWFast
import Derived.Test.YtemphinmoihdaaaGreatDoorMWr4
import Derived.Test.YtemphinmoihdaaaGreatDoorHRead
import Derived.Test.YtemphinmoihdaaaGreatDoorWPre
import Derived.Test.YtemphinmoihdaaaGreatDoorSXw
import Derived.Test.YtemphinmoihdaaaGreatDoorTGw
import Derived.Test.YtemphinmoihdaaaGreatDoorQWrite
import Derived.Test.YtemphinmoihdaaaGreatDoorQTag
set_option linter.unusedVariables false
set_option linter.unusedSimpArgs false
open Go.IntKind (i64 u64 u8 i32)
namespace Go.Proofs.YtemphinmoihdaaaGreatDoor.N
open Go.X Go.Proofs.YtemphinmoihdaaaGreatDoor
open Go.RowKit (Below)
set_option maxRecDepth 100000
set_option maxHeartbeats 1000000
theorem toL (s:ByteArray):s.toList=s.data.toList:=Lib.toList_data s
theorem Lh (s:ByteArray):(s.toList==(⟨#[]⟩:ByteArray).toList)=s.data.toList.isEmpty:=by
 rw[toL,toL]
 cases s.data.toList<;>rfl
def aK (l:QS):QS:=
 match l with
 | c::r=>if c=43\/c=45 then r else c::r
 | []=>[]
def dgN (l:QS):Nat:=(l.takeWhile isD).length
theorem EK {s:ByteArray} {k:Nat}:(s.extract k s.size).data.toList=s.data.toList.drop k:=by
 rw[OT,List.take_of_length_le (show s.data.toList.length<=s.size from Nat.le_refl _)]
theorem EL {s:ByteArray} {R:ByteArray->Prop} (r:∀t:ByteArray,t.data.toList=aK s.data.toList->R t):Av s R:=by
 apply Ov;unfold Kz
 rw[Lh]
 cases hl:s.data.toList with
 | nil=>exact⟨True,aV rfl trivial,fun _=>r s (by rw[hl];rfl)⟩
 | cons c l=>
  have h0:0<s.size:=by show 0<s.data.toList.length;rw[hl];simp
  have hc:s[Int.toNat 0]? =some c:=by rw[vh,hl];rfl
  have hd:(s.extract (Int.toNat 1) s.size).data.toList=l:=by rw[show Int.toNat 1=1 from rfl,EK,hl];rfl
  refine⟨¬(c=43\/c=45),br rfl ⟨QA,Qz,c,hc,aH (fun h=>⟨QA,Qz,r _ ?_⟩) fun h=>⟨QA,Qz,c,hc,aH (fun h2=>⟨QA,Qz,r _ ?_⟩) fun h2=>?_⟩⟩,fun hJ=>r s ?_⟩
  ·rw[hd,hl];show l=if c=43\/c=45 then l else c::l;rw[if_pos (.inl (eqB.1 h))]
  ·rw[hd,hl];show l=if c=43\/c=45 then l else c::l;rw[if_pos (.inr (eqB.1 h2))]
  ·rintro(e | e)
   ·exact h (eqB.2 e)
   ·exact h2 (eqB.2 e)
  ·rw[hl];show c::l=if c=43\/c=45 then l else c::l;rw[if_neg hJ]
theorem EM (l:QS):dgN l<=l.length:=by
 unfold dgN;exact(List.takeWhile_sublist isD).length_le
theorem zc {s:ByteArray} (hs:s.size<=9223372036854775807) {R:Int->Prop} (r:R (dgN s.data.toList:Int)):wU s R:=by
 apply Ox;unfold KA
 have hsz:s.size=s.data.toList.length:=rfl
 refine⟨fun n=>n=(dgN s.data.toList:Int),⟨fun i=>∃k:Nat,i=k/\k<=s.data.toList.length/\dgN s.data.toList=k+dgN (s.data.toList.drop k),fun i=>s.size-i.toNat,⟨0,rfl,Nat.zero_le _,QB⟩,?_⟩,fun _ h=>h▸r⟩
 rintro _ ⟨k,rfl,hk,hd⟩
 by_cases hlt:k<s.data.toList.length
 ·have hdr:s.data.toList.drop k=s.data.toList[k]::s.data.toList.drop (k+1):=List.drop_eq_getElem_cons hlt
  have hat:s[Int.toNat (k:Int)]? =some s.data.toList[k]:=by rw[vh,Int.toNat_natCast,List.getElem?_eq_getElem hlt]
  generalize s.data.toList[k]=c at*
  rw[hdr]at hd
  by_cases hc:isD c=true
  ·have hc2:=fl.1 hc
   have hd2:dgN s.data.toList=(k+1)+dgN (s.data.toList.drop (k+1)):=by
    rw[hd];unfold dgN;rw[List.takeWhile_cons,if_pos hc,List.length_cons];omega
   have hw:i64.wrap ((k:Int)+1)=((k+1:Nat):Int):=by rw[wr Qz Qz];omega
   refine⟨False,af (fun _=>⟨Qz,Qz,c,hat,af (fun _=>⟨Qz,Qz,c,hat,af (fun _=>⟨⟨k+1,hw,hlt,hd2⟩,?_⟩) fun h=>absurd (show((c.toNat:Nat):Int)<=57 by omega) h⟩) fun h=>absurd (show((c.toNat:Nat):Int)>=48 by omega) h⟩) fun h=>absurd (show(k:Int)<(s.size:Int) by omega) h,fun h=>h.elim⟩
   dsimp only;rw[hw];omega
  ·have hc2:¬(48<=c.toNat/\c.toNat<=57):=fun h=>hc (fl.2 h)
   have hd2:(k:Int)=(dgN s.data.toList:Int):=by
    rw[hd];unfold dgN;rw[List.takeWhile_cons,if_neg hc];simp
   refine⟨True,af (fun _=>⟨Qz,Qz,c,hat,af (fun h1=>⟨Qz,Qz,c,hat,af (fun h2=>absurd (show 48<=c.toNat/\c.toNat<=57 by omega) hc2) fun _=>hd2⟩) fun _=>trivial⟩) fun _=>trivial,fun _=>hd2⟩
 ·have hd2:(k:Int)=(dgN s.data.toList:Int):=by
   rw[hd,List.drop_eq_nil_of_le Qz];simp[dgN]
  exact⟨True,af (fun h=>absurd h Qz) fun _=>trivial,fun _=>hd2⟩
def nQ (l:QS):Option QS:=
 match l with
 | []=>some []
 | c::y=>if c=46 then(if dgN y=0 then none else some (y.drop (dgN y)))else some (c::y)
def zd (q:Option QS):Bool:=
 match q with
 | none=>false
 | some []=>true
 | some (c::t)=>if c=101\/c=69 then decide (1<=(aK t).length)&&(decide ((aK t).length<=4)&&decide (dgN (aK t)=(aK t).length))else false
def jJ (l:QS):Bool:=if dgN (aK l)=0 then false else zd (nQ ((aK l).drop (dgN (aK l))))
theorem AF {t:ByteArray} {l:QS} (h:t.data.toList=l):t.size=l.length:=by rw[<-h];rfl
theorem xv (l:QS):(aK l).length<=l.length:=by
 unfold aK;split
 ·split<;>simp
 ·simp
theorem Li {s:ByteArray} (hs:s.size<=9223372036854775807) {R:Bool->Prop} (r:R (jJ s.data.toList)):I6 s R:=by
 apply Oz;unfold KB
 refine EL fun t ht=>?_
 have hst:=AF ht
 have hle:=xv s.data.toList
 have hsl:s.size=s.data.toList.length:=rfl
 refine zc Qz ?_
 rw[ht]
 unfold jJ at r
 generalize aK s.data.toList=l at*
 have hn:=EM l
 refine aH (fun h=>?_) fun h=>?_
 ·rw[if_pos Qz]at r;exact r
 rw[if_neg Qz]at r
 have hx:(t.extract (Int.toNat (dgN l:Int)) t.size).data.toList=l.drop (dgN l):=by rw[Int.toNat_natCast,EK,ht]
 generalize hX:t.extract (Int.toNat (dgN l:Int)) t.size=X at*
 have hXs:=AF hx
 have hXl:(l.drop (dgN l)).length<=l.length:=by rw[List.length_drop];omega
 refine⟨Qz,Qz,fun u=>nQ (l.drop (dgN l))=some u.data.toList,?_,?_⟩
 ·rw[Lh,hx]
  generalize l.drop (dgN l)=y at*
  cases y with
  | nil=>exact aV rfl (by show nQ []=some X.data.toList;rw[hx];rfl)
  | cons c y=>
   refine br rfl ⟨QA,by rw[hXs];simp,c,by rw[vh,hx];rfl,fun u=>nQ (c::y)=some u.data.toList,aH (fun h46=>?_) fun h46=>?_,fun _ h=>h⟩
   ·have hc:c=46:=eqB.1 h46
    subst hc
    have hp:nQ (46::y)=if dgN y=0 then none else some (y.drop (dgN y)):=rfl
    rw[hp]at r ⊢
    have hx1:(X.extract (Int.toNat 1) X.size).data.toList=y:=by rw[show Int.toNat 1=1 from rfl,EK,hx];rfl
    have hx1s:=AF hx1
    have hyl:y.length<=9223372036854775806:=by simp at hXl;omega
    have hdy:=EM y
    have hX1:X.size=y.length+1:=by rw[hXs];simp
    refine⟨QA,Qz,zc Qz ?_⟩
    rw[hx1]
    refine aH (fun hz=>?_) fun hz=>?_
    ·rw[if_pos (show dgN y=0 by omega)]at r;exact r
    ·have hw:i64.wrap (1+(dgN y:Int))=((1+dgN y:Nat):Int):=by rw[wr Qz Qz];omega
     rw[hw,if_neg (show ¬dgN y=0 by omega)]
     refine⟨Qz,Qz,?_⟩
     rw[Int.toNat_natCast];dsimp only;rw[EK,hx,Nat.add_comm];rfl
   ·have hc:c≠46:=fun e=>h46 (eqB.2 e)
    show(if c=46 then(if dgN y=0 then none else some (y.drop (dgN y)))else some (c::y))=some X.data.toList
    rw[if_neg hc,hx]
 ·intro u hu
  rw[hu]at r
  rw[Lh]
  have hul:u.data.toList.length<=l.length:=by
   have gen:∀z w:QS,nQ z=some w->w.length<=z.length:=by
    intro z w h
    unfold nQ at h
    split at h
    ·cases h;exact Nat.le_refl _
    ·split at h
     ·split at h
      ·cases h
      ·cases h;rw[List.length_drop,List.length_cons];omega
     ·cases h;exact Nat.le_refl _
   exact Nat.le_trans (gen _ _ hu) hXl
  have hus:u.size=u.data.toList.length:=rfl
  cases hl2:u.data.toList with
  | nil=>rw[hl2]at r;exact br rfl r
  | cons c y=>
   rw[hl2]at r hul
   have r:R (if c=101\/c=69 then decide (1<=(aK y).length)&&(decide ((aK y).length<=4)&&decide (dgN (aK y)=(aK y).length))else false):=r
   have hc0:u[Int.toNat 0]? =some c:=by rw[vh,hl2];rfl
   have h0:(0:Int)<((u.size:Nat):Int):=by rw[hus,hl2];simp
   refine aV rfl ⟨c=101\/c=69,⟨QA,h0,c,hc0,fZ (fun h1=>⟨QA,h0,c,hc0,fZ (fun h2=>?_) fun h2=>.inr (eqB.1 h2)⟩) fun h1=>.inl (eqB.1 h1)⟩,fun hE=>?_⟩
   ·rw[if_neg (by rintro(e | e);exact h1 (eqB.2 e);exact h2 (eqB.2 e))]at r;exact r
   ·rw[if_pos hE]at r
    refine⟨QA,Qz,EL fun v hv=>?_⟩
    rw[show Int.toNat 1=1 from rfl,EK,hl2]at hv
    have hv:v.data.toList=aK y:=hv
    have hvs:=AF hv
    have hvl:=xv y
    simp only[List.length_cons]at hul
    refine af (fun h1=>af (fun h4=>zc Qz ?_) fun h4=>?_) fun h1=>?_
    ·rw[hv]
     have:((dgN (aK y):Int)==((v.size:Nat):Int))=decide (dgN (aK y)=(aK y).length):=by
      rw[Bool.eq_iff_iff];simp;omega
     rw[this]
     rw[decide_eq_true (show 1<=(aK y).length by omega),decide_eq_true (show(aK y).length<=4 by omega)]at r
     exact r
    ·rw[decide_eq_false (show ¬(aK y).length<=4 by omega),Bool.false_and,Bool.and_false]at r
     exact r
    ·rw[decide_eq_false (show ¬ 1<=(aK y).length by omega),Bool.false_and]at r
     exact r
end Go.Proofs.YtemphinmoihdaaaGreatDoor.N
/- A text of the form of a number is one that the scan reads to its end. Conditions: none. -/
namespace Go.Proofs.YtemphinmoihdaaaGreatDoor.N
open Go.X Go.Proofs.YtemphinmoihdaaaGreatDoor
set_option maxRecDepth 100000
set_option maxHeartbeats 1000000
theorem xw (l:QS):l.drop (dG l).2=aK l:=by
 unfold dG aK
 cases l with
 | nil=>rfl
 | cons c r=>
  simp only[]
  by_cases h1:c=43
  ·rw[if_pos h1,if_pos (.inl h1)];rfl
  ·rw[if_neg h1]
   by_cases h2:c=45
   ·rw[if_pos h2,if_pos (.inr h2)];rfl
   ·rw[if_neg h2,if_neg (by rintro(e | e);exact h1 e;exact h2 e)];rfl
def dgt (c:UInt8):Nat:=c.toNat-48
theorem O4 {c:UInt8} (h:isD c=true):c≠46:=fun e=>by subst e;simp[isD]at h
theorem lk :∀(A:QS) (st:RS) (t:QS),(∀c∈A,isD c=true)->scan st (A++t)=scan (A.foldl (fun s c=>bz s (dgt c)) st) t
 | [],_,_,_=>rfl
 | c::A,st,t,h=>by
  have hc:=h c QB
  rw[List.cons_append,scan,if_neg (O4 hc),if_pos hc,lk A _ t (fun d hd=>h d (by simp[hd]))];rfl
theorem ul {st:RS} {t:QS} (h:∀c r,t=c::r->c≠46/\isD c=false\/c=46/\st.dot=true):scan st t=(st,t):=by
 cases t with
 | nil=>rfl
 | cons c r=>
  rcases h c r rfl with⟨h1,h2⟩ | ⟨h1,h2⟩
  ·rw[scan,if_neg h1,h2];rfl
  ·rw[scan,if_pos h1,h2];rfl
theorem xx (st:RS) (d:Nat):(bz st d).dig=true:=by unfold bz;split;rfl;split<;>rfl
theorem rp :∀(A:QS) (st:RS),st.dig=true->(A.foldl (fun s c=>bz s (dgt c)) st).dig=true
 | [],_,h=>h
 | c::A,st,_=>rp A _ (xx st _)
theorem BH {A:QS} (h:A≠[]) (st:RS):(A.foldl (fun s c=>bz s (dgt c)) st).dig=true:=by
 cases A with
 | nil=>exact absurd rfl h
 | cons c A=>exact rp A _ (xx st _)
theorem EN (st:RS) (d:Nat):(bz st d).dot=st.dot:=by unfold bz;split;rfl;split<;>rfl
theorem lm :∀(A:QS) (st:RS),(A.foldl (fun s c=>bz s (dgt c)) st).dot=st.dot
 | [],_=>rfl
 | c::A,st=>by rw[List.foldl_cons,lm A,EN]
theorem um :∀l:QS,∃A t,l=A++t/\A.length=dgN l/\(∀c∈A,isD c=true)/\∀c r,t=c::r->isD c=false
 | []=>⟨[],[],rfl,rfl,QB,QB⟩
 | c::l=>by
  by_cases hc:isD c=true
  ·obtain⟨A,t,h1,h2,h3,h4⟩:=um l
   refine⟨c::A,t,by rw[h1];rfl,?_,fun d hd=>?_,h4⟩
   ·unfold dgN at h2 ⊢
    rw[List.takeWhile_cons,if_pos hc,List.length_cons,List.length_cons,h2]
   ·rcases List.mem_cons.1 hd with rfl | hd
    ·exact hc
    ·exact h3 d hd
  ·refine⟨[],c::l,rfl,?_,QB,fun d r h=>?_⟩
   ·unfold dgN;rw[List.takeWhile_cons,if_neg hc]
   ·cases h;simpa using hc
theorem rq (l:QS):∃A t,l=A++t/\A.length=dgN l/\(∀c∈A,isD c=true)/\t=l.drop (dgN l)/\∀c r,t=c::r->isD c=false:=by
 obtain⟨A,t,h1,h2,h3,h4⟩:=um l
 exact⟨A,t,h1,h2,h3,by rw[<-h2,h1,List.drop_left],h4⟩
theorem AG {q:QS} (h:zd (some q)=true):q=[]\/∃c sg ds,Expo q c sg ds:=by
 cases q with
 | nil=>exact .inl rfl
 | cons c t=>
  have h:(if c=101\/c=69 then decide (1<=(aK t).length)&&(decide ((aK t).length<=4)&&decide (dgN (aK t)=(aK t).length))else false)=true:=h
  split at h
  ·rename_i hc
   simp only[Bool.and_eq_true,decide_eq_true_eq]at h
   obtain⟨h1,h2,h3⟩:=h
   have hall:∀d∈aK t,isD d=true:=by
    obtain⟨A,u,e,hl,hA,_⟩:=rq (aK t)
    have:u=[]:=by
     have hlen:(aK t).length=A.length+u.length:=by rw[e,List.length_append]
     exact List.eq_nil_of_length_eq_zero Qz
    rw[this,List.append_nil]at e
    rw[e];exact hA
   have hsp:∃sg,t=sg++aK t/\(sg=[]\/sg=[43]\/sg=[45]):=by
    cases t with
    | nil=>exact⟨[],rfl,.inl rfl⟩
    | cons a t=>
     by_cases ha:a=43\/a=45
     ·have:aK (a::t)=t:=by show(if a=43\/a=45 then t else a::t)=t;rw[if_pos ha]
      rw[this]
      exact⟨[a],rfl,.inr (ha.imp (fun e=>by rw[e]) fun e=>by rw[e])⟩
     ·have:aK (a::t)=a::t:=by show(if a=43\/a=45 then t else a::t)=_;rw[if_neg ha]
      rw[this];exact⟨[],rfl,.inl rfl⟩
   obtain⟨sg,e,hsg⟩:=hsp
   exact .inr ⟨c,sg,aK t,by rw[<-e],hc,hsg,fun e=>by rw[e]at h1;simp at h1,h2,hall⟩
  ·cases h
theorem zf {c:UInt8} (h:isD c=true):c≠120/\c≠88/\c≠95:=by
 have:=fl.1 h
 exact⟨fun e=>by subst e;exact absurd this QA,fun e=>by subst e;exact absurd this QA,fun e=>by subst e;exact absurd this QA⟩
theorem AH {q:QS} (h:q=[]\/∃c sg ds,Expo q c sg ds):∀c∈q,c≠120/\c≠88/\c≠95:=by
 intro d hd
 rcases h with rfl | ⟨c,sg,ds,hE⟩
 ·simp at hd
 ·rw[hE.eq]at hd
  simp only[List.mem_cons,List.mem_append]at hd
  rcases hd with rfl | hd | hd
  ·rcases hE.e with rfl | rfl<;>decide
  ·rcases hE.sg with e | e | e<;>subst e<;>simp at hd<;>subst hd<;>decide
  ·exact zf (hE.dg d hd)
theorem zg {s:ByteArray} (hs:s.size<100000) (h:jJ s.data.toList=true):∃st rest,Txt s st rest:=by
 generalize hl:s.data.toList=l at*
 unfold jJ at h
 split at h
 ·cases h
 rename_i hn
 obtain⟨A,t,h1,h2,h3,h4,h5⟩:=rq (aK l)
 rw[<-h4]at h
 have hA:A≠[]:=fun e=>by rw[e]at h2;simp at h2;omega
 have hhead:vk l:=by
  obtain⟨a,A',rfl⟩:=List.exists_cons_of_ne_nil hA
  have ha:=h3 a QB
  cases l with
  | nil=>simp[aK]at h1
  | cons c r=>
   by_cases hc:c=43\/c=45
   ·have e:aK (c::r)=r:=by show(if c=43\/c=45 then r else c::r)=r;rw[if_pos hc]
    rw[e]at h1
    exact⟨c,r,rfl,.inr ⟨hc,a,A'++t,h1,ha⟩⟩
   ·have e:aK (c::r)=c::r:=by show(if c=43\/c=45 then r else c::r)=_;rw[if_neg hc]
    rw[e]at h1
    have:c=a:=(List.cons.inj h1).1
    exact⟨c,r,rfl,.inl (by rw[this];exact ha)⟩
 have hsig:∀c∈l,c∈aK l\/c=43\/c=45:=by
  intro c hc
  cases l with
  | nil=>simp at hc
  | cons a r=>
   by_cases ha:a=43\/a=45
   ·have e:aK (a::r)=r:=by show(if a=43\/a=45 then r else a::r)=r;rw[if_pos ha]
    rw[e]
    rcases List.mem_cons.1 hc with rfl | hc
    ·exact .inr ha
    ·exact .inl hc
   ·have e:aK (a::r)=a::r:=by show(if a=43\/a=45 then r else a::r)=_;rw[if_neg ha]
    rw[e];exact .inl hc
 have fin:∀st rest,scan RS0 (aK l)=(st,rest)->st.dig=true->(rest=[]\/∃c sg ds,Expo rest c sg ds)->(∀c∈aK l,c≠120/\c≠88/\c≠95)->∃st rest,Txt s st rest:=by
  intro st rest q1 q2 q3 q4
  refine⟨st,rest,hs,by rw[hl];exact hhead,fun c hc=>?_,by rw[hl,xw];exact q1,q2,q3⟩
  rw[hl]at hc
  rcases hsig c hc with e | rfl | rfl
  ·exact q4 c e
  ·decide
  ·decide
 have chA:∀c∈A,c≠120/\c≠88/\c≠95:=fun c hc=>zf (h3 c hc)
 have hsA:scan RS0 (aK l)=scan (A.foldl (fun s c=>bz s (dgt c)) RS0) t:=by rw[h1];exact lk A RS0 t h3
 have hdA:=BH hA RS0
 have hdotA:(A.foldl (fun s c=>bz s (dgt c)) RS0).dot=false:=lm A RS0
 generalize A.foldl (fun s c=>bz s (dgt c)) RS0=s1 at*
 have stopE:∀(q:QS) (st:RS),(q=[]\/∃c sg ds,Expo q c sg ds)->scan st q=(st,q):=by
  intro q st hq
  refine ul fun c r e=>.inl ?_
  rcases hq with rfl | ⟨c',sg,ds,hE⟩
  ·cases e
  ·rw[hE.eq]at e
   have:c'=c:=(List.cons.inj e).1
   rw[<-this]
   rcases hE.e with rfl | rfl<;>decide
 cases t with
 | nil=>
  refine fin s1 [] (by rw[hsA];rfl) hdA (.inl rfl) fun c hc=>?_
  rw[h1,List.append_nil]at hc;exact chA c hc
 | cons c y=>
  by_cases hc:c=46
  ·subst hc
   have hp:nQ (46::y)=if dgN y=0 then none else some (y.drop (dgN y)):=rfl
   rw[hp]at h
   split at h
   ·cases h
   rename_i hny
   obtain⟨B,u,g1,g2,g3,g4,g5⟩:=rq y
   rw[<-g4]at h
   have hq:=AG h
   have hs2:scan s1 (46::y)=scan (gi s1) y:=by rw[scan,if_pos rfl,hdotA];rfl
   have hs3:scan (gi s1) y=scan (B.foldl (fun s c=>bz s (dgt c)) (gi s1)) u:=by
    conv=>lhs;rw[g1]
    exact lk B _ u g3
   refine fin (B.foldl (fun s c=>bz s (dgt c)) (gi s1)) u (by rw[hsA,hs2,hs3];exact stopE u _ hq) (rp B (gi s1) hdA) hq fun c hc=>?_
   rw[h1,g1]at hc
   simp only[List.mem_append,List.mem_cons]at hc
   rcases hc with hc | rfl | hc | hc
   ·exact chA c hc
   ·decide
   ·exact zf (g3 c hc)
   ·exact AH hq c hc
  ·have hp:nQ (c::y)=some (c::y):=by show(if c=46 then _ else some (c::y))=_;rw[if_neg hc]
   rw[hp]at h
   have hq:=AG h
   refine fin _ (c::y) (by rw[hsA];exact stopE _ _ hq) hdA hq fun d hd=>?_
   rw[h1]at hd
   rcases List.mem_append.1 hd with hd | hd
   ·exact chA d hd
   ·exact AH hq d hd
end Go.Proofs.YtemphinmoihdaaaGreatDoor.N
/- weigh.Read answers as told, if ParseFloat has a value. Conditions: none. -/
namespace Go.Proofs.YtemphinmoihdaaaGreatDoor.N
open Go.X Go.Proofs.YtemphinmoihdaaaGreatDoor
open Go.RowKit (Below)
set_option maxRecDepth 100000
set_option maxHeartbeats 1000000
def P37 (s:ByteArray) (V:Nat):Prop:=∃e:Option Int,(e=none\/e=some 1)/\∀R:Nat->Option Int->Prop,R V e->DY s 64 R
theorem Jg {gl:GL} {h h':ab} (g:Gl gl h) (f:Fr [] h h'):Gl gl h':=g.congr fun b hb=>f.blk b (g.lt b hb) QB
theorem O5 {gl:GL} {h:ab} (g:Gl gl h):Hp h [Ck.glob gl]:=Hp.one g
theorem Ll {w:World} {b:Nat} {v:Value} (h:ac w.heap b 0=some v):w.cell? ⟨b,0,none⟩=some v:=by
 unfold ac at h
 unfold World.cell?
 grind
theorem call28 {s:ByteArray} {V:Nat} {h:ab} {gl:GL} (hs:s.size<=281474976710656) (hV:P37 s V) (hp:Gl gl h):
  QH 182 #[.string s,QM 64] h fun v h'=>Fr [] h h'/\(v= .tuple #[QQ V,.nilIface]\/∃t i,v= .tuple #[QQ V,.iface t i]):=by
 obtain⟨e,he,hV⟩:=hV
 have c:=hV (fun a b=>a=V/\b=e) ⟨rfl,rfl⟩ h gl (O5 hp)
 apply D5
 unfold OA
 refine gF (c.mono fun v h' ⟨a,b,P,e1,e2,e3⟩=>⟨P.fr,show v= .tuple #[QQ V,B8 283 e] by rw[e1,e2,e3]⟩) ?_
 rintro v h1 f1 rfl
 refine⟨V,?_⟩
 rcases he with rfl | rfl
 ·exact .inl ⟨rfl,aV rfl ⟨f1,.inl rfl⟩⟩
 ·refine .inr ⟨283,QM 1,rfl,br rfl ?_⟩
  have g1:=Jg hp f1
  obtain⟨te,pe,hc⟩:=g1.e2
  refine gF (R:=fun v _=>∃N,v= .iface 284 (.pointer (some ⟨N,0,none⟩))) (fun w hw=>?_) ?_
  ·have hcw:w.cell? ⟨9,0,none⟩=some (.iface te pe):=Ll QD
   exact(Go.Proofs.Tryz.strconv_toError_range (⟨#[80,97,114,115,101,70,108,111,97,116]⟩:ByteArray) s 0 64 (.iface te pe) w hs hcw (.inr ⟨te,pe,rfl⟩)).mono
    fun e w' ⟨N,q1,q2,q3,q4⟩=>⟨_,q1,qq q4,by rw[<-hw];exact vV q4,N,rfl⟩
  ·rintro v h2 f2 ⟨N,rfl⟩
   exact .inr ⟨_,_,rfl,f1.trans f2.nil,.inr ⟨_,_,rfl⟩⟩
theorem zh (s t:ByteArray):(s.toList==t.toList)=decide (s.data.toList=t.data.toList):=by
 grind [toL]
def fU (l:QS) (V:Nat):Nat × Int:=
 if l=[78,97,78]then(9221120237041090561,0)else if l=[73,78,70]then(9218868437227405312,0)else if l=[45,73,78,70]then(18442240474082181120,0)
 else if jJ l=false then(0,17)else if 64<l.length then(0,23)else if isInf (qV V)then(0,2)else(V,0)
theorem Ln {R:Nat->Prop} (r:R 9218868437227405312):D1 1 R:=by
 apply I5;unfold Hq
 refine⟨fun v=>v=9218868437227405312,br QA rfl,?_⟩
 rintro _ rfl
 exact bM (oE _) ⟨_,rfl,r⟩
theorem Lo {R:Nat->Prop} (r:R 18442240474082181120):D1 (-1) R:=by
 apply I5;unfold Hq
 refine⟨fun v=>v=18442240474082181120,aV QA rfl,?_⟩
 rintro _ rfl
 exact bM (oE _) ⟨_,rfl,r⟩
theorem O6 {x:Nat} {R:Nat->Prop} (r:R (qV x)):Kx x R:=by
 apply Qk;unfold T76
 exact bM (Lf _) ⟨_,rfl,bM (oE _) ⟨_,rfl,r⟩⟩
theorem O7 {x:Nat} {R:Bool->Prop} (r:R (isInf (qV x))):Bt x 0 R:=by
 apply Ky;unfold T55
 refine⟨fun y=>y=qV x,br QA (O6 rfl),?_⟩
 rintro _ rfl;exact r
theorem Lp {s:ByteArray} {V:Nat} {gl:GL} {h:ab} (g:Gl gl h) (hs:s.size<=9223372036854775807) (hV:jJ s.data.toList=true->s.size<=64->P37 s V):
  QH 149 #[.string s] h fun v h'=>v= .tuple #[QQ (fU s.data.toList V).1,QM (fU s.data.toList V).2]/\Fr [] h h':=by
 have hsl:s.size=s.data.toList.length:=rfl
 apply D6
 unfold OB
 rw[zh,zh,zh]
 have ret:∀(x:Nat) (e:Int) (h':ab),Fr [] h h'->fU s.data.toList V=(x,e)->(fun(v:Value) (h':ab)=>v= .tuple #[QQ (fU s.data.toList V).1,QM (fU s.data.toList V).2]/\Fr [] h h') (.tuple #[QQ x,QM e]) h':=
  fun x e h' f q=>⟨by rw[q],f⟩
 have k0:∀{h':ab},Hp h' []:=fun{h'}=>Hp.nil h'
 refine af (fun h1=>bM (oE _) ⟨_,rfl,ret _ _ _ (Fr.refl _ _) (by unfold fU;grind)⟩) fun h1=>af (fun h2=>?_) fun h2=>af (fun h3=>?_) fun h3=>?_
 ·refine gF ((Ln (R:=fun q=>q=9218868437227405312) rfl h k0).mono fun v h' ⟨a,P,e1,e2⟩=>⟨P.fr,show v= QQ 9218868437227405312 by rw[e1,e2]⟩) ?_
  rintro v h' f rfl
  exact⟨_,rfl,ret _ _ _ f (by unfold fU;grind)⟩
 ·refine gF ((Lo (R:=fun q=>q=18442240474082181120) rfl h k0).mono fun v h' ⟨a,P,e1,e2⟩=>⟨P.fr,show v= QQ 18442240474082181120 by rw[e1,e2]⟩) ?_
  rintro v h' f rfl
  exact⟨_,rfl,ret _ _ _ f (by unfold fU;grind)⟩
 refine gF ((Li hs (R:=fun q=>q=jJ s.data.toList) rfl h k0).mono fun v h' ⟨a,P,e1,e2⟩=>⟨P.fr,show v= .bool (jJ s.data.toList) by rw[e1,e2]⟩) ?_
 rintro v h' f rfl
 refine⟨_,rfl,bo (fun hn=>ret _ _ _ f (by unfold fU;grind)) fun hn=>?_⟩
 have hnf:¬jJ s.data.toList=false:=by rw[hn];decide
 refine af (fun hl=>ret _ _ _ f (by unfold fU;grind)) fun hl=>?_
 have hlf:¬ 64<s.data.toList.length:=by omega
 intro K0
 refine gF (call28 Qz (hV hn Qz) (Jg g f)) ?_
 rintro v h4 f4 hv
 have f5:=f.trans f4.nil
 have K:K0 V h4:=by
  show aj _ _ _ _ _ _
  refine gF ((O7 (x:=V) (R:=fun q=>q=isInf (qV V)) rfl h4 k0).mono fun v h' ⟨a,P,e1,e2⟩=>⟨P.fr,show v= .bool (isInf (qV V)) by rw[e1,e2]⟩) ?_
  rintro v h6 f6 rfl
  refine⟨_,rfl,cd (fun hi=>ret _ _ _ (f5.trans f6.nil) (by unfold fU;grind)) fun hi=>ret _ _ _ (f5.trans f6.nil) (by unfold fU;grind)⟩
 grind
end Go.Proofs.YtemphinmoihdaaaGreatDoor.N
namespace Go.Proofs.YtemphinmoihdaaaGreatDoor.G
section
variable {s:ByteArray} {rd:ByteArray->Option (Nat × Nat)} {cl:Nat->Nat}
end
end Go.Proofs.YtemphinmoihdaaaGreatDoor.G
namespace Go.Proofs.YtemphinmoihdaaaGreatDoor.N
open Go.X Go.Proofs.YtemphinmoihdaaaGreatDoor
set_option maxRecDepth 100000
set_option maxHeartbeats 1000000
def scB (b:ByteArray):RS × QS:=scan RS0 (b.data.toList.drop (dG b.data.toList).2)
theorem EP (l:QS) (V:Nat):0<=(fU l V).2:=by
 unfold fU
 split
 ·decide
 split
 ·decide
 split
 ·decide
 split
 ·decide
 split
 ·decide
 split<;>simp
end Go.Proofs.YtemphinmoihdaaaGreatDoor.N
namespace Go.Proofs.YtemphinmoihdaaaGreatDoor.G
section
variable {s:ByteArray} {rd:ByteArray->Option (Nat × Nat)} {cl:Nat->Nat}
end
end Go.Proofs.YtemphinmoihdaaaGreatDoor.G
namespace Go.Proofs.YtemphinmoihdaaaGreatDoor.N
open Go.Proofs.YtemphinmoihdaaaGreatDoor
open Go.X
open Go.Proofs
set_option maxRecDepth 100000
theorem Pz :G.dec 0=[48]:=by rw[G.dec];rfl
def tx0 :Nat->QS:=fun _=>[]
section
variable {gl:GL} {h:ab} {aL:QR} {nL cL:Nat} {ls:List ByteArray}
end
theorem FJ (xs:List Int):(strOf xs).data.toList=xs.map fun n=>UInt8.ofNat n.toNat:=by
 have gen:∀(xs:List Int) (b:ByteArray),(xs.foldl (fun r n=>r.push (UInt8.ofNat n.toNat)) b).data.toList=b.data.toList++xs.map fun n=>UInt8.ofNat n.toNat:=by
  intro xs
  induction xs with
  | nil=>intro b;simp
  | cons x xs ih=>intro b;rw[List.foldl_cons,ih];simp[ByteArray.push]
 have:=gen xs ByteArray.empty
 unfold strOf
 rw[this];rfl
theorem qu (l:QS):strOf (bI l)=G.mkB l:=by
 apply ByteArray.ext;apply Array.ext'
 rw[FJ,sK,bI,List.map_map]
 conv=>rhs;rw[<-List.map_id l]
 apply List.map_congr_left
 intro x _
 simp
theorem Mj {a b:Int} {xs ys:Es} (hx:xs.length<=9223372036854775807) {R:Bool->Prop} (r:R (decide (a=b)&&decide (xs=ys))):KD a xs b ys R:=by
 apply Qm
 unfold T44
 refine fZ (fun h=>?_) fun h=>?_
 ·rw[decide_eq_false h,Bool.false_and]at r;exact r
 rw[decide_eq_true h,Bool.true_and,<-Cq]at r
 refine fZ (fun h=>?_) fun h=>?_
 ·rw[pZ Qz]at r;exact r
 refine⟨fun i=>∃k:Nat,i=k/\k<=xs.length/\((xs.zip ys).take k).all (fun p=>decide (p.1=p.2))=true,fun i=>((xs.length:Int)-i).toNat,⟨0,rfl,Qz,QB⟩,?_⟩
 rintro _ ⟨k,rfl,hk,ha⟩
 refine af (fun hlt=>⟨Qz,hlt,fun x hx=>⟨Qz,Qz,fun y hy=>?_⟩⟩) fun hlt=>?_
 ·have hx:xs[k]? =some x:=by simpa using hx
  have hy:ys[k]? =some y:=by simpa using hy
  have e:((x.1==y.1)&&(x.2==y.2))=decide (x=y):=by
   rw[Bool.eq_iff_iff];simp[Prod.ext_iff]
  rw[e]
  refine bo (fun q=>?_) fun q=>?_
  ·rw[qx (f:=fun x y=>decide (x=y)) hx hy q]at r;exact r
  ·rw[wr Qz Qz]
   exact⟨⟨k+1,QB,Qz,nu (f:=fun x y=>decide (x=y)) hx hy q ha⟩,by dsimp only;omega⟩
 ·rw[qb (f:=fun x y=>decide (x=y)) Qz (show xs.length<=k by omega) ha]at r;exact r
section
variable {h0 h:ab} {C B:List Ck} {H:List Nat} {A:QR} {n c:Nat} {l:QS}
end
section
variable {gl:GL} {h:ab} {gA:QR} {gL gC:Nat} {es:Es} {g k:Int} {up:Bool}
end
theorem Cl {x y:Nat} {R:Bool->Prop} (r:R (x==y)):He x y R:=by
 apply Qc
 unfold T21
 have e:(((x:Int))==((y:Int)))=(x==y):=by grind
 refine bM (zY _) ⟨_,rfl,bM (zY _) ⟨_,rfl,?_⟩⟩
 rw[e];exact r
theorem Cm {x y:Nat} {R:Bool->Prop} (r:R (fe x y)):Dq x y R:=by
 apply Qf
 unfold T45
 rw[kH,kH]
 unfold fe at r
 refine⟨fun b=>b=(x==y)/\(isNaN x&&isNaN y)=false,cd (fun h1=>cd (fun h2=>?_) fun h2=>Cl ⟨rfl,QD⟩) fun h1=>Cl ⟨rfl,by rw[h1];rfl⟩,?_⟩
 ·grind
 grind
theorem Cn {x:Nat} {R:Nat->Prop} (r:R (bF x)):Dp x R:=by
 apply Qd
 unfold T23
 rw[kH]
 unfold bF at r
 refine cd (fun h=>P8 (bM (oE _) ⟨_,rfl,?_⟩)) fun h=>?_
 ·grind
 ·rw[if_neg (by rw[h];decide)]at r
  refine cd (fun h0=>?_) fun h0=>?_
  ·grind
  grind
theorem Mh {n:Int} {es:Es} {R:Int->Es->Prop} (he:es.length<1000000000000) (r:R n es):J7 n es R:=by
 grind [Qe,T22]
theorem PA {n:Int} {es:Es} {dr:Bool} {ls:List ByteArray} {ss:List (Nat × Nat)} {ws:List Nat} {R:Bool->Prop} (r:∀b,(b=true->es.length<=300/\ls.length<=2000/\ss.length<=2000/\ws.length<=4000)->R b):Ok5 n es dr ls ss ws R:=by
 apply ok5
 unfold T5
 have no:R false:=r false (fun h=>by cases h)
 refine⟨fun _=>True,⟨fun _ i=>∃k:Nat,i=k/\k<=ls.length,fun _ i=>((ls.length:Int)-i).toNat,⟨0,rfl,Qz⟩,?_⟩,?_⟩
 ·rintro m _ ⟨k,rfl,hk⟩
  refine af (fun hlt=>af (fun h2=>⟨Qz,hlt,fun x hx=>?_⟩) fun _=>trivial) fun _=>trivial
  rw[wr (x:=(k:Int)+1) Qz Qz]
  exact⟨⟨k+1,QB,Qz⟩,QD⟩
 grind [af,Js]
theorem PB {n:Int} {es:Es} {dr:Bool} {ls:List ByteArray} {ss:List (Nat × Nat)} {ws:List Nat} {R:Int->Es->Bool->List ByteArray->List (Nat × Nat)->List Nat->Prop} (h1:es.length<=300) (h2:ls.length<=2000) (h3:ss.length<=2000) (h4:ws.length<=4000)
  (r:R n es dr ls (ss.map fun p=>(bF p.1,bF p.2)) (ws.map bF)):Ok9 n es dr ls ss ws R:=by
 apply ok9
 unfold T9
 refine⟨fun x x2 x3=>n=x/\es=x2/\ls=x3,Mh Qz ⟨Qz,rfl,rfl,(List.nil_append _).symm⟩,?_⟩
 rintro _ _ _ ⟨rfl,rfl,rfl⟩
 refine⟨fun i a b c d e f=>∃k:Nat,i=k/\k<=ss.length/\n=a/\es=b/\dr=c/\ls=d/\e=(ss.take k).map (fun p=>(bF p.1,bF p.2))/\f=[],fun i _ _ _ _ _ _=>((ss.length:Int)-i).toNat,⟨0,rfl,Qz,rfl,rfl,rfl,rfl,rfl,rfl⟩,?_⟩
 rintro _ _ _ _ _ _ _ ⟨k,rfl,hk,rfl,rfl,rfl,rfl,rfl,rfl⟩
 refine af (fun hlt=>⟨Qz,hlt,fun p hp=>Cn (Cn ⟨?_,?_,?_⟩)⟩) fun hlt=>?_
 ·grind
 ·rw[wr Qz Qz]
  have hp:ss[k]? =some p:=by simpa using hp
  exact⟨k+1,QB,Qz,rfl,rfl,rfl,rfl,by rw[List.take_add_one,hp];simp,rfl⟩
 ·grind [wr]
 have hk':ss.take k=ss:=List.take_of_length_le Qz
 refine⟨fun i a b c d e f=>∃k:Nat,i=k/\k<=ws.length/\n=a/\es=b/\dr=c/\ls=d/\e=ss.map (fun p=>(bF p.1,bF p.2))/\f=(ws.take k).map bF,fun i _ _ _ _ _ _=>((ws.length:Int)-i).toNat,⟨0,rfl,Qz,rfl,rfl,rfl,rfl,by rw[hk'],rfl⟩,?_⟩
 rintro _ _ _ _ _ _ _ ⟨j,rfl,hj,rfl,rfl,rfl,rfl,rfl,rfl⟩
 refine af (fun hlt=>⟨Qz,hlt,fun p hp=>Cn ⟨?_,?_,?_⟩⟩) fun hlt=>?_
 ·grind
 ·rw[wr Qz Qz]
  have hp:ws[j]? =some p:=by simpa using hp
  exact⟨j+1,QB,Qz,rfl,rfl,rfl,rfl,rfl,by rw[List.take_add_one,hp];simp⟩
 ·grind [wr]
 grind
theorem Mi {a b:MD} {R:Bool->Prop} (hl:a.es.length<=9223372036854775806/\a.ls.length<=9223372036854775806/\a.ss.length<=9223372036854775806/\a.ws.length<=9223372036854775806) (r:R (jw a b)):NB a.n a.es a.dir a.ls a.ss a.ws b.n b.es b.dir b.ls b.ss b.ws R:=by
 obtain⟨n,dr,es,ls,ss,ws⟩:=a
 obtain⟨n2,dr2,es2,ls2,ss2,ws2⟩:=b
 obtain⟨h1,h2,h3,h4⟩:=hl
 dsimp only at*
 apply Qg
 unfold T20
 have sB:∀v,jw ⟨n,dr,es,ls,ss,ws⟩ ⟨n2,dr2,es2,ls2,ss2,ws2⟩=v->R v:=fun v e=>e▸r
 refine⟨jw ⟨n,dr,es,ls,ss,ws⟩ ⟨n2,dr2,es2,ls2,ss2,ws2⟩=false,Mj Qz (bo (fun q=>?_) fun q1=>bo (fun q=>?_) fun q2=>fZ (fun q=>?_) fun q3=>fZ (fun q=>?_) fun q4=>fZ (fun q=>?_) fun q5=>?_),sB false⟩
 ·unfold jw;grind
 ·unfold jw;grind
 ·grind [jw]
 ·grind [jw,pZ]
 ·grind [jw,pZ]
 have eA:jw ⟨n,dr,es,ls,ss,ws⟩ ⟨n2,dr2,es2,ls2,ss2,ws2⟩=(eqL (fun x y=>decide (x=y)) ls ls2&&(eqL fe2 ss ss2&&eqL fe ws ws2)):=by
  grind [jw,Cq]
 rw[eA]at sB
 refine⟨fun i=>∃k:Nat,i=k/\k<=ls.length/\((ls.zip ls2).take k).all (fun p=>decide (p.1=p.2))=true,fun i=>((ls.length:Int)-i).toNat,⟨0,rfl,Qz,QB⟩,?_⟩
 rintro _ ⟨k,rfl,hk,ha⟩
 refine af (fun hlt=>⟨Qz,hlt,fun x hx=>⟨Qz,Qz,fun y hy=>?_⟩⟩) fun hlt=>?_
 ·have hx:ls[k]? =some x:=by simpa using hx
  have hy:ls2[k]? =some y:=by simpa using hy
  rw[yJ]
  refine bo (fun q=>sB false ?_) fun q=>?_
  ·grind [qx]
  ·rw[wr Qz Qz]
   exact⟨⟨k+1,QB,Qz,nu (f:=fun x y=>decide (x=y)) hx hy q ha⟩,QD⟩
 rw[qb (f:=fun x y=>decide (x=y)) (show ls.length=ls2.length by omega) (show ls.length<=k by omega) ha,Bool.true_and]at sB
 clear ha hk hlt
 refine⟨fun i=>∃k:Nat,i=k/\k<=ss.length/\((ss.zip ss2).take k).all (fun p=>fe2 p.1 p.2)=true,fun i=>((ss.length:Int)-i).toNat,⟨0,rfl,Qz,QB⟩,?_⟩
 rintro _ ⟨k,rfl,hk,ha⟩
 refine af (fun hlt=>⟨Qz,hlt,fun x hx=>⟨Qz,Qz,fun y hy=>?_⟩⟩) fun hlt=>?_
 ·have hx:ss[k]? =some x:=by simpa using hx
  have hy:ss2[k]? =some y:=by simpa using hy
  refine Cm (bo (fun q=>sB false ?_) fun q=>Cm (bo (fun q'=>sB false ?_) fun q'=>?_))
  ·grind [qx,fe2]
  ·grind [qx,fe2]
  ·rw[wr Qz Qz]
   exact⟨⟨k+1,QB,Qz,nu (f:=fe2) hx hy (by unfold fe2;rw[q,q'];rfl) ha⟩,QD⟩
 rw[qb (f:=fe2) (show ss.length=ss2.length by omega) (show ss.length<=k by omega) ha,Bool.true_and]at sB
 clear ha hk hlt
 refine⟨fun i=>∃k:Nat,i=k/\k<=ws.length/\((ws.zip ws2).take k).all (fun p=>fe p.1 p.2)=true,fun i=>((ws.length:Int)-i).toNat,⟨0,rfl,Qz,QB⟩,?_⟩
 rintro _ ⟨k,rfl,hk,ha⟩
 refine af (fun hlt=>⟨Qz,hlt,fun x hx=>⟨Qz,Qz,fun y hy=>?_⟩⟩) fun hlt=>sB true (qb (f:=fe) (show ws.length=ws2.length by omega) (show ws.length<=k by omega) ha)
 have hx:ws[k]? =some x:=by simpa using hx
 have hy:ws2[k]? =some y:=by simpa using hy
 refine Cm (bo (fun q=>sB false (qx hx hy q)) fun q=>?_)
 rw[wr Qz Qz]
 exact⟨⟨k+1,QB,Qz,nu hx hy q ha⟩,QD⟩
def CD :ByteArray:=⟨#[60,103,114,97,112,104,109,108,62,60,103,114,97,112,104,32,101,100,103,101,100,101,102,97,117,108,116,61,39,100,105,114,101,99,116,101,100,39,62,60,110,111,100,101,32,105,100,61,34,97,34,47,62,60,47,103,114,97,112,104,62,60,47,103,114,97,112,104,109,108,62]⟩
def CE :ByteArray:=⟨#[60,103,114,97,112,104,109,108,47,62]⟩
def dc1 :G.Dc:=⟨1,true,[],[],[],[]⟩
theorem yS :G.fL CE (fun _=>none) id= .no (10,14):=by kernel_rfl
theorem yT :G.fL CD (fun _=>none) id= .ok dc1:=by kernel_rfl
def va :ByteArray->QS:=fun _=>[]
theorem Mp :100<(wrX tx0 va 1 true [] [] [] []).length/\(wrX tx0 va 1 true [] [] [] []).length<=262144:=by
 unfold wrX gH
 simp only[List.length_append,dY,fu,fv,nz]
 refine⟨?_,?_⟩
 ·have:qL.size=38:=rfl
  have:qM.size=55:=rfl
  have:(mq true).size=8:=rfl
  omega
 ·have e1:(fp tx0 va [] [] 1 0).length<=25000:=by
   rw[fp,fp,List.append_nil]
   exact Ab ⟨by rw[bsz,bsz,bu,Pz];decide,QA⟩ QA (by simp[dD])
  have e2:(fq tx0 [] []).length=0:=rfl
  have:qL.size=38:=rfl
  have:qM.size=55:=rfl
  have:(mq true).size=8:=rfl
  have z1:(⟨#[60,47,103,114,97,112,104,62]⟩:ByteArray).size=8:=rfl
  have z2:(⟨#[60,47,103,114,97,112,104,109,108,62]⟩:ByteArray).size=10:=rfl
  have z20:(⟨#[60,103,114,97,112,104,32,101,100,103,101,100,101,102,97,117,108,116,61,34]⟩:ByteArray).size=20:=rfl
  have z3:(⟨#[34,62]⟩:ByteArray).size=2:=rfl
  simp only[List.length_nil,Nat.lt_irrefl,if_false]
  omega
theorem hdX {gl:GL} {h:ab} (g:Gl gl h):QH 4 #[] h fun v h'=>v= .bool true/\Fr [] h h':=by
 apply JY
 unfold S4
 refine ao (R:=rdX gl CD (fun _=>none) id h) [] (ok7 (s:=CD) tQ g QA (by rw[yT];simp)) QB ?_ ?_
 ·rintro v h' (⟨dc,aD,aL,aS,aW,nD,cD,nL,cL,nS,cS,nW,cW,_,_,q⟩ | ⟨f,_,_,q⟩)
  ·exact q.fr
  ·exact q
 rintro v h1 (⟨dc,aD,aL,aS,aW,nD,cD,nL,cL,nS,cS,nW,cW,e,rfl,q⟩ | ⟨f,e,_,q⟩)
 rotate_left
 ·rw[yT]at e;cases e
 rw[yT]at e
 obtain rfl:dc1=dc:=by injection e
 refine⟨1,aD,nD,cD,true,aL,nL,cL,aS,nS,cS,aW,nW,cW,0,0,rfl,?_⟩
 intro h2 h3
 have f3:Fr [] h1 h3:=((((((Fr.push h1 _).hsetL (Nat.le_refl _)).hsetL (Nat.le_refl _)).hsetL (Nat.le_refl _)).hsetL (Nat.le_refl _)).hsetL (Nat.le_refl _)).hsetL (Nat.le_refl _)
 have s3:h1.size<h3.size:=by simp[h3,h2]
 clear_value h3
 have Q3:Sq h [Ck.glob gl] h3 (dcX gl dc1 aD aL aS aW nD cD nL cL nS cS nW cW):=q.gr f3
 have g3:Gl gl h3:=Q3.sy.ok (k:=4) (c:=Ck.glob gl) rfl
 refine ao (R:=rdX gl CE (fun _=>none) id h3) [] (ok7 (s:=CE) tQ g3 QA (by rw[yS];simp)) QB ?_ ?_
 ·rintro v h' (⟨dc,aD,aL,aS,aW,nD,cD,nL,cL,nS,cS,nW,cW,_,_,q⟩ | ⟨f,_,_,q⟩)
  ·exact q.fr
  ·exact q
 rintro v h4 (⟨dc,_,_,_,_,_,_,_,_,_,_,_,_,e,rfl,q⟩ | ⟨f,e,rfl,f4⟩)
 ·rw[yS]at e;cases e
 rw[yS]at e
 obtain rfl:((10,14):G.F)=f:=by injection e
 refine⟨0,none,0,0,false,none,0,0,none,0,0,none,0,0,10,14,rfl,?_⟩
 intro h5 h6
 have f6:Fr [] h4 h6:=((((((Fr.push h4 _).hsetL (Nat.le_refl _)).hsetL (Nat.le_refl _)).hsetL (Nat.le_refl _)).hsetL (Nat.le_refl _)).hsetL (Nat.le_refl _)).hsetL (Nat.le_refl _)
 clear_value h6
 have Q6:=(Q3.gr f4).gr f6
 have Q7:Sq h [Ck.glob gl] h6 (dV gl aD nD cD (dc1.edges.map prX) aL nL cL dc1.labels aS nS cS dc1.spots aW nW cW dc1.weights):=by
  have Y:=((((Q6.sy.turn 0 rfl To.slvw).turn 1 rfl To.slvw).turn 2 rfl To.slvw).turn 3 rfl To.slvw).pick [4,0,1,2,3] rfl
  refine⟨Y,fun x hx=>?_⟩
  have hx:x∈glB gl++(oA aD nD++(oA aL nL++(oA aS nS++oA aW nW))):=by simpa[rds,dV,Ck.vw,Ck.glob]using hx
  simp only[List.mem_append]at hx
  rcases hx with hx | hx | hx | hx | hx
  ·exact .inl (by simpa[rds,Ck.glob]using hx)
  ·exact .inr (Q6.sy.ow 0 _ rfl x (lP hx))
  ·exact .inr (Q6.sy.ow 1 _ rfl x (lP hx))
  ·exact .inr (Q6.sy.ow 2 _ rfl x (lP hx))
  ·exact .inr (Q6.sy.ow 3 _ rfl x (lP hx))
 have eB:gv 1 (dc1.edges.map prX) dc1.labels dc1.spots dc1.weights=true:=by decide
 have eW:oS tx0 va 1 true (dc1.edges.map prX) dc1.labels dc1.spots dc1.weights=(wrX tx0 va 1 true [] [] [] [],0):=by
  have e0:(wrX tx0 va (1:Int).toNat true (ndE (dc1.edges.map prX)) dc1.labels dc1.spots dc1.weights)=wrX tx0 va 1 true [] [] [] []:=rfl
  unfold oS
  rw[eB,if_neg QA,e0,if_neg (by have:=Mp.2;omega)]
 refine ao (R:=fun v h'=>v= .tuple #[.string (G.mkB (wrX tx0 va 1 true [] [] [] [])),QM 0]/\Fr [] h6 h') [] ?_ QB (fun _ _ r=>r.2) ?_
 ·have:=ok6 (tx:=tx0) (esc:=va) (n:=1) (dir:=true) Q7.hp (by simp[dc1]) QA (fun _=>by simp[dc1]) (by simp[dc1]) (by simp[dc1])
  rw[eW]at this;exact this
 rintro v h7 ⟨rfl,f7⟩
 refine⟨_,0,rfl,?_⟩
 exact br rfl (br rfl (br rfl (br rfl (br rfl (br rfl (br (by rw[bu,decide_eq_true_eq];have:=Mp.1;omega) ⟨rfl,Q7.fr.trans f7⟩))))))
section
variable {h:ab}
end
section
variable {h0 hv:ab} {M:List Nat} {cs:List Ck} {A:QR} {c:Nat} {l:QS} {H:List Nat} {K:QR->Nat->ab->Prop}
end
def bc (c:UInt8):QS:=if c=38 then [38,97,109,112,59]else if c=60 then [38,108,116,59]else if c=62 then [38,103,116,59]else [c]
def bp (l:QS):QS:=l.flatMap bc
theorem qE (a b:QS):bp (a++b)=bp a++bp b:=List.flatMap_append
theorem lQ (c:UInt8) (b:QS):bp (c::b)=bc c++bp b:=rfl
theorem iA (c:UInt8):1<=(bc c).length/\(bc c).length<=5:=by
 unfold bc
 split
 ·exact⟨QA,QA⟩
 split
 ·exact⟨QA,QA⟩
 split
 ·exact⟨QA,QA⟩
 ·exact⟨QB,QB⟩
theorem wJ {c:UInt8} (h:(bc c).length=1):bc c=[c]:=by
 unfold bc at h ⊢
 split at h
 ·cases h
 split at h
 ·cases h
 split at h
 ·cases h
 ·grind
theorem qf (l:QS):l.length<=(bp l).length/\(bp l).length<=5*l.length:=by
 induction l with
 | nil=>simp[bp]
 | cons c l ih=>
  have:=iA c
  rw[lQ,List.length_append,List.length_cons];omega
theorem Bm (l:QS) (h:(bp l).length=l.length):bp l=l:=by
 induction l with
 | nil=>rfl
 | cons c l ih=>
  have h1:=iA c
  have h2:=qf l
  rw[lQ,List.length_append,List.length_cons]at h
  rw[lQ,wJ Qz,ih Qz];rfl
theorem CL (l:QS):(bp l).length=l.length+3*Lib.countByte l 62+3*Lib.countByte l 60+4*Lib.countByte l 38:=by
 unfold Lib.countByte
 induction l with
 | nil=>rfl
 | cons c l ih=>
  rw[lQ,List.length_append,List.length_cons,ih,List.count_cons,List.count_cons,List.count_cons]
  unfold bc
  by_cases h1:c=38
  ·subst h1;simp;omega
  by_cases h2:c=60
  ·subst h2;simp;omega
  by_cases h3:c=62
  ·subst h3;simp;omega
  simp[h1,h2,h3];omega
theorem tJ (l:QS) (k:Nat):bp l=bp (l.take k)++bp (l.drop k):=by
 rw[<-qE,List.take_append_drop]
def jC :QS:=[62,60,38]
def nsE (l:QS) (k:Nat):Nat:=l.length+((jC.take k).map fun c=>Lib.countByte l c*((bc c).length-1)).sum
theorem qF (l:QS):nsE l 0=l.length:=rfl
theorem iB (l:QS) {k:Nat} {c:UInt8} (h:jC[k]? =some c):nsE l (k+1)=nsE l k+Lib.countByte l c*((bc c).length-1):=by
 unfold nsE;rw[gP h];simp;omega
theorem JH (l:QS) (k:Nat):l.length<=nsE l k:=by unfold nsE;omega
theorem Gc (l:QS):nsE l 3=(bp l).length:=by
 rw[CL,iB l (k:=2) (c:=38) rfl,iB l (k:=1) (c:=60) rfl,iB l (k:=0) (c:=62) rfl,qF]
 have h1:(bc 62).length=4:=rfl
 have h2:(bc 60).length=4:=rfl
 have h3:(bc 38).length=5:=rfl
 rw[h1,h2,h3]
 omega
def mz (N:Nat) (l:QS):List Int:=bI l++List.replicate (N-l.length) 0
theorem CM {N:Nat} {l:QS} (y:UInt8) (h:l.length<N):(mz N l).set l.length ((y.toNat:Nat):Int)=mz N (l++[y]):=by
 unfold mz
 rw[List.set_append_right _ _ (by rw[kL];omega),kL,Nat.sub_self,qs,List.append_assoc,List.length_append]
 obtain⟨m,hm⟩:∃m,N-l.length=m+1:=⟨N-l.length-1,Qz⟩
 rw[hm,List.replicate_succ,List.set_cons_zero,show N-(l.length+ [y].length)=m by simp;omega];rfl
theorem JI {h0:ab} {M:List Nat} {b N:Nat}:∀(ys l:QS) (h:ab),Sy h0 M h [Ck.sl (eK .u8) 5 (some ⟨b,0,none⟩) N N (mz N l)]->l.length+ys.length<=N->
  Sy h0 M (jM h b l.length ((bI ys).map (Value.int .u8))) [Ck.sl (eK .u8) 5 (some ⟨b,0,none⟩) N N (mz N (l++ys))]
 | [],l,h,Y,_=>by rw[List.append_nil];exact Y
 | y::r,l,h,Y,hn=>by
  rw[List.length_cons]at hn
  have Y1:=Y.st1 0 rfl rfl (i:=l.length) ((y.toNat:Nat):Int) (v:=QP ((y.toNat:Nat):Int)) Qz rfl
  rw[show 0+l.length*(eK .u8).sz=l.length by show 0+l.length*1=_;omega,CM y Qz]at Y1
  have Y2:=JI r (l++[y]) _ Y1 (by rw[List.length_append];simp;omega)
  rw[List.append_assoc,List.length_append]at Y2
  exact Y2
end Go.Proofs.YtemphinmoihdaaaGreatDoor.N
