/- ParseFloat of a number's text of few digits, by floats alone. Conditions: none. -/
import Derived.Test.YtlflalecmhgmjaaGreatDoorWExact
import Derived.Test.YtlflalecmhgmjaaGreatDoorGTell
set_option linter.unusedVariables false
set_option linter.unusedSimpArgs false
namespace Go.Proofs.YtlflalecmhgmjaaGreatDoor.N
open Go.X Go.Proofs.YtlflalecmhgmjaaGreatDoor
set_option maxRecDepth 100000
set_option maxHeartbeats 1000000
def sgnN (ng:Bool):Nat:=if ng then 9223372036854775808 else 0
structure Txt (s:ByteArray) (st:RS) (rest:List UInt8):Prop where
 sz:s.size<100000
 hd:numHead s.data.toList
 ch:∀c∈s.data.toList,c≠120/\c≠88/\c≠95
 sc:scan RS0 (s.data.toList.drop (sgnOf s.data.toList).2)=(st,rest)
 dig:st.dig=true
 rest:rest=[]\/∃c sg ds,Expo rest c sg ds
theorem scan_lt {l:List UInt8} {st:RS} {rest:List UInt8}:∀{a:RS},a.nm<=19->a.m<10^a.nm->scan a l=(st,rest)->st.m<10000000000000000000:=by
 induction l with
 | nil=>
  intro a h1 h2 h
  simp only[scan,Prod.mk.injEq]at h
  rw[<-h.1]
  have:=Nat.pow_le_pow_right (n:=10) (by decide) h1
  omega
 | cons c r ih=>
  intro a h1 h2 h
  have stop:a.m<10000000000000000000:=by
   have:=Nat.pow_le_pow_right (n:=10) (by decide) h1
   omega
  simp only[scan]at h
  split at h
  ·split at h
   ·simp only[Prod.mk.injEq]at h;rw[<-h.1];exact stop
   ·exact ih (a:=dotS a) h1 h2 h
  ·split at h
   ·rename_i hd
    have hd:=isD_iff.1 hd
    refine ih (a:=stepD a (c.toNat-48)) ?_ ?_ h
    ·unfold stepD;split
     ·exact h1
     ·split
      ·show a.nm+1<=19;omega
      ·exact h1
    ·unfold stepD;split
     ·exact h2
     ·split
      ·show a.m*10+(c.toNat-48)<10^(a.nm+1);rw[Nat.pow_succ];omega
      ·exact h2
   ·simp only[Prod.mk.injEq]at h;rw[<-h.1];exact stop
def fastV (m:Nat) (e:Int) (ng:Bool):Nat:=if m=0 then(bits .or .u64 (sgnN ng:Int) 0).toNat else(exactF m e ng).1
theorem ok355f {s:ByteArray} {st:RS} {rest:List UInt8} {R:Nat->Int->Option Int->Prop} (h:Txt s st rest) (ht:st.tr=false) (h1: -345<=expV st rest) (h2:expV st rest<=310)
  (hx:st.m≠0->(exactF st.m (expV st rest) (sgnOf s.data.toList).1).2=true) (r:R (fastV st.m (expV st rest) (sgnOf s.data.toList).1) s.size none):Ok355 s R:=by
 apply ok355
 unfold T355
 have h0:0<s.size:=by
  obtain⟨c,l,hl,_⟩:=h.hd
  show 0<s.data.toList.length
  rw[hl];simp
 refine ok364' h.sz h.hd (cnd_f rfl (ok365' h0 h.sz h.ch h.sc h.dig h.rest ?_))
 have hm:=scan_lt (a:=RS0) (by decide) (by decide) h.sc
 rw[ht]
 generalize expV st rest=e at*
 generalize (sgnOf s.data.toList).1=ng at*
 have esz:((s.data.toList.length:Nat):Int)=(s.size:Int):=rfl
 rw[esz]
 refine cnd_f rfl (cnd_f rfl ⟨False,cnd_t rfl (ok337' ?_),fun h=>h⟩)
 have esg:IntKind.u64.wrap (((if ng=true then 1 else 0:Nat):Int)*2^min (Int.toNat 63) 64)=(sgnN ng:Int):=by
  cases ng<;>decide
 rw[esg]
 unfold fastV at r
 refine⟨by decide,cnd_eq (fun hz=>?_) fun hz=>?_⟩
 ·rw [if_pos (by omega)]at r
  exact callE_of (from373 _) ⟨_,rfl,r⟩
 rw[if_neg (by omega)]at r
 have hx:=hx (by omega)
 refine cnd_dec (fun hb=>absurd hb (by omega)) fun hb=>cnd_dec (fun hc=>absurd hc (by omega)) fun hc=>?_
 exact⟨(exactF st.m e ng).2=false,cnd_t rfl (ok374' (by omega) (by omega) (by omega) (cnd_b (fun _=>r) fun q=>q)),fun q=>by rw[hx]at q;cases q⟩
theorem ok323f {s:ByteArray} {st:RS} {rest:List UInt8} {R:Nat->Option Int->Prop} (h:Txt s st rest) (ht:st.tr=false) (h1: -345<=expV st rest) (h2:expV st rest<=310)
  (hx:st.m≠0->(exactF st.m (expV st rest) (sgnOf s.data.toList).1).2=true) (r:R (fastV st.m (expV st rest) (sgnOf s.data.toList).1) none):Ok323 s 64 R:=by
 apply ok323
 unfold T323
 apply ok342
 unfold T342
 refine cnd_f (by decide) (ok355f h ht h1 h2 hx ?_)
 generalize fastV st.m (expV st rest) (sgnOf s.data.toList).1=v at*
 refine⟨fun _=>⟨fun _=>cnd_f (by simp) r,fun c hc=>by cases hc⟩,fun c he=>by cases he⟩
end Go.Proofs.YtlflalecmhgmjaaGreatDoor.N
namespace Go.Proofs.YtlflalecmhgmjaaGreatDoor.N
open Go.X Go.Proofs.YtlflalecmhgmjaaGreatDoor
open Go.RowKit (Below)
set_option maxRecDepth 100000
set_option maxHeartbeats 1000000
theorem toL (s:ByteArray):s.toList=s.data.toList:=Lib.toList_data s
theorem toLe (s:ByteArray):(s.toList==(⟨#[]⟩:ByteArray).toList)=s.data.toList.isEmpty:=by
 rw[toL,toL]
 cases s.data.toList<;>rfl
def dropS (l:List UInt8):List UInt8:=
 match l with
 | c::r=>if c=43\/c=45 then r else c::r
 | []=>[]
def dgN (l:List UInt8):Nat:=(l.takeWhile isD).length
theorem ext1 {s:ByteArray} {k:Nat}:(s.extract k s.size).data.toList=s.data.toList.drop k:=by
 rw[extB,List.take_of_length_le (show s.data.toList.length<=s.size from Nat.le_refl _)]
theorem ok340' {s:ByteArray} {R:ByteArray->Prop} (r:∀t:ByteArray,t.data.toList=dropS s.data.toList->R t):Ok340 s R:=by
 apply ok340;unfold T340
 rw[toLe]
 cases hl:s.data.toList with
 | nil=>exact⟨True,cnd_f rfl trivial,fun _=>r s (by rw[hl];rfl)⟩
 | cons c l=>
  have h0:0<s.size:=by show 0<s.data.toList.length;rw[hl];simp
  have hc:s[Int.toNat 0]? =some c:=by rw[getB,hl];rfl
  have hd:(s.extract (Int.toNat 1) s.size).data.toList=l:=by rw[show Int.toNat 1=1 from rfl,ext1,hl];rfl
  refine⟨¬(c=43\/c=45),cnd_t rfl ⟨by decide,by omega,c,hc,cnd_eq (fun h=>⟨by decide,by omega,r _ ?_⟩) fun h=>⟨by decide,by omega,c,hc,cnd_eq (fun h2=>⟨by decide,by omega,r _ ?_⟩) fun h2=>?_⟩⟩,fun hJ=>r s ?_⟩
  ·rw [hd,hl];show l=if c=43\/c=45 then l else c::l;rw[if_pos (.inl (eqB.1 h))]
  ·rw [hd,hl];show l=if c=43\/c=45 then l else c::l;rw[if_pos (.inr (eqB.1 h2))]
  ·rintro (e | e)
   ·exact h (eqB.2 e)
   ·exact h2 (eqB.2 e)
  ·rw [hl];show c::l=if c=43\/c=45 then l else c::l;rw[if_neg hJ]
theorem dgN_le (l:List UInt8):dgN l<=l.length:=by
 unfold dgN;exact(List.takeWhile_sublist isD).length_le
theorem ok341' {s:ByteArray} (hs:s.size<=9223372036854775807) {R:Int->Prop} (r:R (dgN s.data.toList:Int)):Ok341 s R:=by
 apply ok341;unfold T341
 have hsz:s.size=s.data.toList.length:=rfl
 refine⟨fun n=>n=(dgN s.data.toList:Int),⟨fun i=>∃k:Nat,i=k/\k<=s.data.toList.length/\dgN s.data.toList=k+dgN (s.data.toList.drop k),fun i=>s.size-i.toNat,⟨0,rfl,Nat.zero_le _,by simp⟩,?_⟩,fun _ h=>h▸r⟩
 rintro _ ⟨k,rfl,hk,hd⟩
 by_cases hlt:k<s.data.toList.length
 ·have hdr:s.data.toList.drop k=s.data.toList[k]::s.data.toList.drop (k+1):=List.drop_eq_getElem_cons hlt
  have hat:s[Int.toNat (k:Int)]? =some s.data.toList[k]:=by rw[getB,Int.toNat_natCast,List.getElem?_eq_getElem hlt]
  generalize s.data.toList[k]=c at*
  rw[hdr]at hd
  by_cases hc:isD c=true
  ·have hc2:=isD_iff.1 hc
   have hd2:dgN s.data.toList=(k+1)+dgN (s.data.toList.drop (k+1)):=by
    rw[hd];unfold dgN;rw[List.takeWhile_cons,if_pos hc,List.length_cons];omega
   have hw:IntKind.i64.wrap ((k:Int)+1)=((k+1:Nat):Int):=by rw[wr (by omega) (by omega)];omega
   refine⟨False,cnd_dec (fun _=>⟨by omega,by omega,c,hat,cnd_dec (fun _=>⟨by omega,by omega,c,hat,cnd_dec (fun _=>⟨⟨k+1,hw,hlt,hd2⟩,?_⟩) fun h=>absurd (show((c.toNat:Nat):Int)<=57 by omega) h⟩) fun h=>absurd (show((c.toNat:Nat):Int)>=48 by omega) h⟩) fun h=>absurd (show(k:Int)<(s.size:Int) by omega) h,fun h=>h.elim⟩
   dsimp only;rw[hw];omega
  ·have hc2:¬(48<=c.toNat/\c.toNat<=57):=fun h=>hc (isD_iff.2 h)
   have hd2:(k:Int)=(dgN s.data.toList:Int):=by
    rw[hd];unfold dgN;rw[List.takeWhile_cons,if_neg hc];simp
   refine⟨True,cnd_dec (fun _=>⟨by omega,by omega,c,hat,cnd_dec (fun h1=>⟨by omega,by omega,c,hat,cnd_dec (fun h2=>absurd (show 48<=c.toNat/\c.toNat<=57 by omega) hc2) fun _=>hd2⟩) fun _=>trivial⟩) fun _=>trivial,fun _=>hd2⟩
 ·have hd2:(k:Int)=(dgN s.data.toList:Int):=by
   rw[hd,List.drop_eq_nil_of_le (by omega)];simp[dgN]
  exact⟨True,cnd_dec (fun h=>absurd h (by omega)) fun _=>trivial,fun _=>hd2⟩
def pntF (l:List UInt8):Option (List UInt8):=
 match l with
 | []=>some []
 | c::y=>if c=46 then(if dgN y=0 then none else some (y.drop (dgN y)))else some (c::y)
def expF (q:Option (List UInt8)):Bool:=
 match q with
 | none=>false
 | some []=>true
 | some (c::t)=>if c=101\/c=69 then decide (1<=(dropS t).length)&&(decide ((dropS t).length<=4)&&decide (dgN (dropS t)=(dropS t).length))else false
def numF (l:List UInt8):Bool:=if dgN (dropS l)=0 then false else expF (pntF ((dropS l).drop (dgN (dropS l))))
theorem sz_le {t:ByteArray} {l:List UInt8} (h:t.data.toList=l):t.size=l.length:=by rw[<-h];rfl
theorem dropS_le (l:List UInt8):(dropS l).length<=l.length:=by
 unfold dropS;split
 ·split<;>simp
 ·simp
theorem ok316' {s:ByteArray} (hs:s.size<=9223372036854775807) {R:Bool->Prop} (r:R (numF s.data.toList)):Ok316 s R:=by
 apply ok316;unfold T316
 refine ok340' fun t ht=>?_
 have hst:=sz_le ht
 have hle:=dropS_le s.data.toList
 have hsl:s.size=s.data.toList.length:=rfl
 refine ok341' (by omega) ?_
 rw[ht]
 unfold numF at r
 generalize dropS s.data.toList=l at*
 have hn:=dgN_le l
 refine cnd_eq (fun h=>?_) fun h=>?_
 ·rw [if_pos (by omega)]at r;exact r
 rw[if_neg (by omega)]at r
 have hx:(t.extract (Int.toNat (dgN l:Int)) t.size).data.toList=l.drop (dgN l):=by rw[Int.toNat_natCast,ext1,ht]
 generalize hX:t.extract (Int.toNat (dgN l:Int)) t.size=X at*
 have hXs:=sz_le hx
 have hXl:(l.drop (dgN l)).length<=l.length:=by rw[List.length_drop];omega
 refine⟨by omega,by omega,fun u=>pntF (l.drop (dgN l))=some u.data.toList,?_,?_⟩
 ·rw [toLe,hx]
  generalize l.drop (dgN l)=y at*
  cases y with
  | nil=>exact cnd_f rfl (by show pntF []=some X.data.toList;rw[hx];rfl)
  | cons c y=>
   refine cnd_t rfl ⟨by decide,by rw[hXs];simp,c,by rw[getB,hx];rfl,fun u=>pntF (c::y)=some u.data.toList,cnd_eq (fun h46=>?_) fun h46=>?_,fun _ h=>h⟩
   ·have hc:c=46:=eqB.1 h46
    subst hc
    have hp:pntF (46::y)=if dgN y=0 then none else some (y.drop (dgN y)):=rfl
    rw[hp]at r ⊢
    have hx1:(X.extract (Int.toNat 1) X.size).data.toList=y:=by rw[show Int.toNat 1=1 from rfl,ext1,hx];rfl
    have hx1s:=sz_le hx1
    have hyl:y.length<=9223372036854775806:=by simp at hXl;omega
    have hdy:=dgN_le y
    have hX1:X.size=y.length+1:=by rw[hXs];simp
    refine⟨by decide,by omega,ok341' (by omega) ?_⟩
    rw[hx1]
    refine cnd_eq (fun hz=>?_) fun hz=>?_
    ·rw [if_pos (show dgN y=0 by omega)]at r;exact r
    ·have hw:IntKind.i64.wrap (1+(dgN y:Int))=((1+dgN y:Nat):Int):=by rw[wr (by omega) (by omega)];omega
     rw[hw,if_neg (show ¬dgN y=0 by omega)]
     refine⟨by omega,by omega,?_⟩
     rw[Int.toNat_natCast];dsimp only;rw[ext1,hx,Nat.add_comm];rfl
   ·have hc:c≠46:=fun e=>h46 (eqB.2 e)
    show(if c=46 then(if dgN y=0 then none else some (y.drop (dgN y)))else some (c::y))=some X.data.toList
    rw[if_neg hc,hx]
 ·intro u hu
  rw[hu]at r
  rw[toLe]
  have hul:u.data.toList.length<=l.length:=by
   have gen:∀z w:List UInt8,pntF z=some w->w.length<=z.length:=by
    intro z w h
    unfold pntF at h
    split at h
    ·cases h;exact Nat.le_refl _
    ·split at h
     ·split at h
      ·cases h
      ·cases h;rw[List.length_drop,List.length_cons];omega
     ·cases h;exact Nat.le_refl _
   exact Nat.le_trans (gen _ _ hu) hXl
  have hus:u.size=u.data.toList.length:=rfl
  cases hl2:u.data.toList with
  | nil=>rw[hl2]at r;exact cnd_t rfl r
  | cons c y=>
   rw[hl2]at r hul
   have r:R (if c=101\/c=69 then decide (1<=(dropS y).length)&&(decide ((dropS y).length<=4)&&decide (dgN (dropS y)=(dropS y).length))else false):=r
   have hc0:u[Int.toNat 0]? =some c:=by rw[getB,hl2];rfl
   have h0:(0:Int)<((u.size:Nat):Int):=by rw[hus,hl2];simp
   refine cnd_f rfl ⟨c=101\/c=69,⟨by decide,h0,c,hc0,cnd_ne (fun h1=>⟨by decide,h0,c,hc0,cnd_ne (fun h2=>?_) fun h2=>.inr (eqB.1 h2)⟩) fun h1=>.inl (eqB.1 h1)⟩,fun hE=>?_⟩
   ·rw [if_neg (by rintro(e | e);exact h1 (eqB.2 e);exact h2 (eqB.2 e))]at r;exact r
   ·rw [if_pos hE]at r
    refine⟨by decide,by omega,ok340' fun v hv=>?_⟩
    rw[show Int.toNat 1=1 from rfl,ext1,hl2]at hv
    have hv:v.data.toList=dropS y:=hv
    have hvs:=sz_le hv
    have hvl:=dropS_le y
    simp only[List.length_cons]at hul
    refine cnd_dec (fun h1=>cnd_dec (fun h4=>ok341' (by omega) ?_) fun h4=>?_) fun h1=>?_
    ·rw [hv]
     have:((dgN (dropS y):Int)==((v.size:Nat):Int))=decide (dgN (dropS y)=(dropS y).length):=by
      rw[Bool.eq_iff_iff];simp;omega
     rw[this]
     rw[decide_eq_true (show 1<=(dropS y).length by omega),decide_eq_true (show(dropS y).length<=4 by omega)]at r
     exact r
    ·rw [decide_eq_false (show ¬(dropS y).length<=4 by omega),Bool.false_and,Bool.and_false]at r
     exact r
    ·rw [decide_eq_false (show ¬ 1<=(dropS y).length by omega),Bool.false_and]at r
     exact r
end Go.Proofs.YtlflalecmhgmjaaGreatDoor.N
/- A text of the form of a number is one that the scan reads to its end. Conditions: none. -/
namespace Go.Proofs.YtlflalecmhgmjaaGreatDoor.N
open Go.X Go.Proofs.YtlflalecmhgmjaaGreatDoor
set_option maxRecDepth 100000
set_option maxHeartbeats 1000000
theorem drop_sgn (l:List UInt8):l.drop (sgnOf l).2=dropS l:=by
 unfold sgnOf dropS
 cases l with
 | nil=>rfl
 | cons c r=>
  simp only[]
  by_cases h1:c=43
  ·rw [if_pos h1,if_pos (.inl h1)];rfl
  ·rw [if_neg h1]
   by_cases h2:c=45
   ·rw [if_pos h2,if_pos (.inr h2)];rfl
   ·rw [if_neg h2,if_neg (by rintro(e | e);exact h1 e;exact h2 e)];rfl
def dgt (c:UInt8):Nat:=c.toNat-48
theorem not46 {c:UInt8} (h:isD c=true):c≠46:=fun e=>by subst e;simp[isD]at h
theorem scan_app :∀(A:List UInt8) (st:RS) (t:List UInt8),(∀c∈A,isD c=true)->scan st (A++t)=scan (A.foldl (fun s c=>stepD s (dgt c)) st) t
 | [],_,_,_=>rfl
 | c::A,st,t,h=>by
  have hc:=h c (by simp)
  rw[List.cons_append,scan,if_neg (not46 hc),if_pos hc,scan_app A _ t (fun d hd=>h d (by simp[hd]))];rfl
theorem scan_stop {st:RS} {t:List UInt8} (h:∀c r,t=c::r->c≠46/\isD c=false\/c=46/\st.dot=true):scan st t=(st,t):=by
 cases t with
 | nil=>rfl
 | cons c r=>
  rcases h c r rfl with⟨h1,h2⟩ | ⟨h1,h2⟩
  ·rw [scan,if_neg h1,h2];rfl
  ·rw [scan,if_pos h1,h2];rfl
theorem step_dig (st:RS) (d:Nat):(stepD st d).dig=true:=by unfold stepD;split;rfl;split<;>rfl
theorem fold_dig :∀(A:List UInt8) (st:RS),st.dig=true->(A.foldl (fun s c=>stepD s (dgt c)) st).dig=true
 | [],_,h=>h
 | c::A,st,_=>fold_dig A _ (step_dig st _)
theorem fold_dig' {A:List UInt8} (h:A≠[]) (st:RS):(A.foldl (fun s c=>stepD s (dgt c)) st).dig=true:=by
 cases A with
 | nil=>exact absurd rfl h
 | cons c A=>exact fold_dig A _ (step_dig st _)
theorem step_dot (st:RS) (d:Nat):(stepD st d).dot=st.dot:=by unfold stepD;split;rfl;split<;>rfl
theorem fold_dot :∀(A:List UInt8) (st:RS),(A.foldl (fun s c=>stepD s (dgt c)) st).dot=st.dot
 | [],_=>rfl
 | c::A,st=>by rw[List.foldl_cons,fold_dot A,step_dot]
theorem dg_split0 :∀l:List UInt8,∃A t,l=A++t/\A.length=dgN l/\(∀c∈A,isD c=true)/\∀c r,t=c::r->isD c=false
 | []=>⟨[],[],rfl,rfl,by simp,by simp⟩
 | c::l=>by
  by_cases hc:isD c=true
  ·obtain ⟨A,t,h1,h2,h3,h4⟩:=dg_split0 l
   refine⟨c::A,t,by rw[h1];rfl,?_,fun d hd=>?_,h4⟩
   ·unfold dgN at h2 ⊢
    rw[List.takeWhile_cons,if_pos hc,List.length_cons,List.length_cons,h2]
   ·rcases List.mem_cons.1 hd with rfl | hd
    ·exact hc
    ·exact h3 d hd
  ·refine ⟨[],c::l,rfl,?_,by simp,fun d r h=>?_⟩
   ·unfold dgN;rw[List.takeWhile_cons,if_neg hc]
   ·cases h;simpa using hc
theorem dg_split (l:List UInt8):∃A t,l=A++t/\A.length=dgN l/\(∀c∈A,isD c=true)/\t=l.drop (dgN l)/\∀c r,t=c::r->isD c=false:=by
 obtain⟨A,t,h1,h2,h3,h4⟩:=dg_split0 l
 exact⟨A,t,h1,h2,h3,by rw[<-h2,h1,List.drop_left],h4⟩
theorem expo_of {q:List UInt8} (h:expF (some q)=true):q=[]\/∃c sg ds,Expo q c sg ds:=by
 cases q with
 | nil=>exact .inl rfl
 | cons c t=>
  have h:(if c=101\/c=69 then decide (1<=(dropS t).length)&&(decide ((dropS t).length<=4)&&decide (dgN (dropS t)=(dropS t).length))else false)=true:=h
  split at h
  ·rename_i hc
   simp only[Bool.and_eq_true,decide_eq_true_eq]at h
   obtain⟨h1,h2,h3⟩:=h
   have hall:∀d∈dropS t,isD d=true:=by
    obtain⟨A,u,e,hl,hA,_⟩:=dg_split (dropS t)
    have:u=[]:=by
     have hlen:(dropS t).length=A.length+u.length:=by rw[e,List.length_append]
     exact List.eq_nil_of_length_eq_zero (by omega)
    rw[this,List.append_nil]at e
    rw[e];exact hA
   have hsp:∃sg,t=sg++dropS t/\(sg=[]\/sg=[43]\/sg=[45]):=by
    cases t with
    | nil=>exact⟨[],rfl,.inl rfl⟩
    | cons a t=>
     by_cases ha:a=43\/a=45
     ·have:dropS (a::t)=t:=by show(if a=43\/a=45 then t else a::t)=t;rw[if_pos ha]
      rw[this]
      exact⟨[a],rfl,.inr (ha.imp (fun e=>by rw[e]) fun e=>by rw[e])⟩
     ·have:dropS (a::t)=a::t:=by show(if a=43\/a=45 then t else a::t)=_;rw[if_neg ha]
      rw[this];exact⟨[],rfl,.inl rfl⟩
   obtain⟨sg,e,hsg⟩:=hsp
   exact .inr ⟨c,sg,dropS t,by rw[<-e],hc,hsg,fun e=>by rw[e]at h1;simp at h1,h2,hall⟩
  ·cases h
theorem okch_d {c:UInt8} (h:isD c=true):c≠120/\c≠88/\c≠95:=by
 have:=isD_iff.1 h
 exact⟨fun e=>by subst e;exact absurd this (by decide),fun e=>by subst e;exact absurd this (by decide),fun e=>by subst e;exact absurd this (by decide)⟩
theorem expo_ch {q:List UInt8} (h:q=[]\/∃c sg ds,Expo q c sg ds):∀c∈q,c≠120/\c≠88/\c≠95:=by
 intro d hd
 rcases h with rfl | ⟨c,sg,ds,hE⟩
 ·simp at hd
 ·rw [hE.eq]at hd
  simp only[List.mem_cons,List.mem_append]at hd
  rcases hd with rfl | hd | hd
  ·rcases hE.e with rfl | rfl<;>decide
  ·rcases hE.sg with e | e | e<;>subst e<;>simp at hd<;>subst hd<;>decide
  ·exact okch_d (hE.dg d hd)
theorem txt_of_num {s:ByteArray} (hs:s.size<100000) (h:numF s.data.toList=true):∃st rest,Txt s st rest:=by
 generalize hl:s.data.toList=l at*
 unfold numF at h
 split at h
 ·cases h
 rename_i hn
 obtain⟨A,t,h1,h2,h3,h4,h5⟩:=dg_split (dropS l)
 rw[<-h4]at h
 have hA:A≠[]:=fun e=>by rw[e]at h2;simp at h2;omega
 have hhead:numHead l:=by
  obtain⟨a,A',rfl⟩:=List.exists_cons_of_ne_nil hA
  have ha:=h3 a (by simp)
  cases l with
  | nil=>simp[dropS]at h1
  | cons c r=>
   by_cases hc:c=43\/c=45
   ·have e:dropS (c::r)=r:=by show(if c=43\/c=45 then r else c::r)=r;rw[if_pos hc]
    rw[e]at h1
    exact⟨c,r,rfl,.inr ⟨hc,a,A'++t,h1,ha⟩⟩
   ·have e:dropS (c::r)=c::r:=by show(if c=43\/c=45 then r else c::r)=_;rw[if_neg hc]
    rw[e]at h1
    have:c=a:=(List.cons.inj h1).1
    exact⟨c,r,rfl,.inl (by rw[this];exact ha)⟩
 have hsig:∀c∈l,c∈dropS l\/c=43\/c=45:=by
  intro c hc
  cases l with
  | nil=>simp at hc
  | cons a r=>
   by_cases ha:a=43\/a=45
   ·have e:dropS (a::r)=r:=by show(if a=43\/a=45 then r else a::r)=r;rw[if_pos ha]
    rw[e]
    rcases List.mem_cons.1 hc with rfl | hc
    ·exact .inr ha
    ·exact .inl hc
   ·have e:dropS (a::r)=a::r:=by show(if a=43\/a=45 then r else a::r)=_;rw[if_neg ha]
    rw[e];exact .inl hc
 have fin:∀st rest,scan RS0 (dropS l)=(st,rest)->st.dig=true->(rest=[]\/∃c sg ds,Expo rest c sg ds)->(∀c∈dropS l,c≠120/\c≠88/\c≠95)->∃st rest,Txt s st rest:=by
  intro st rest q1 q2 q3 q4
  refine⟨st,rest,hs,by rw[hl];exact hhead,fun c hc=>?_,by rw[hl,drop_sgn];exact q1,q2,q3⟩
  rw[hl]at hc
  rcases hsig c hc with e | rfl | rfl
  ·exact q4 c e
  ·decide
  ·decide
 have chA:∀c∈A,c≠120/\c≠88/\c≠95:=fun c hc=>okch_d (h3 c hc)
 have hsA:scan RS0 (dropS l)=scan (A.foldl (fun s c=>stepD s (dgt c)) RS0) t:=by rw[h1];exact scan_app A RS0 t h3
 have hdA:=fold_dig' hA RS0
 have hdotA:(A.foldl (fun s c=>stepD s (dgt c)) RS0).dot=false:=fold_dot A RS0
 generalize A.foldl (fun s c=>stepD s (dgt c)) RS0=s1 at*
 have stopE:∀(q:List UInt8) (st:RS),(q=[]\/∃c sg ds,Expo q c sg ds)->scan st q=(st,q):=by
  intro q st hq
  refine scan_stop fun c r e=>.inl ?_
  rcases hq with rfl | ⟨c',sg,ds,hE⟩
  ·cases e
  ·rw [hE.eq]at e
   have:c'=c:=(List.cons.inj e).1
   rw[<-this]
   rcases hE.e with rfl | rfl<;>decide
 cases t with
 | nil=>
  refine fin s1 [] (by rw[hsA];rfl) hdA (.inl rfl) fun c hc=>?_
  rw[h1,List.append_nil]at hc;exact chA c hc
 | cons c y=>
  by_cases hc:c=46
  ·subst hc
   have hp:pntF (46::y)=if dgN y=0 then none else some (y.drop (dgN y)):=rfl
   rw[hp]at h
   split at h
   ·cases h
   rename_i hny
   obtain⟨B,u,g1,g2,g3,g4,g5⟩:=dg_split y
   rw[<-g4]at h
   have hq:=expo_of h
   have hs2:scan s1 (46::y)=scan (dotS s1) y:=by rw[scan,if_pos rfl,hdotA];rfl
   have hs3:scan (dotS s1) y=scan (B.foldl (fun s c=>stepD s (dgt c)) (dotS s1)) u:=by
    conv=>lhs;rw[g1]
    exact scan_app B _ u g3
   refine fin (B.foldl (fun s c=>stepD s (dgt c)) (dotS s1)) u (by rw[hsA,hs2,hs3];exact stopE u _ hq) (fold_dig B (dotS s1) hdA) hq fun c hc=>?_
   rw[h1,g1]at hc
   simp only[List.mem_append,List.mem_cons]at hc
   rcases hc with hc | rfl | hc | hc
   ·exact chA c hc
   ·decide
   ·exact okch_d (g3 c hc)
   ·exact expo_ch hq c hc
  ·have hp:pntF (c::y)=some (c::y):=by show(if c=46 then _ else some (c::y))=_;rw[if_neg hc]
   rw[hp]at h
   have hq:=expo_of h
   refine fin _ (c::y) (by rw[hsA];exact stopE _ _ hq) hdA hq fun d hd=>?_
   rw[h1]at hd
   rcases List.mem_append.1 hd with hd | hd
   ·exact chA d hd
   ·exact expo_ch hq d hd
end Go.Proofs.YtlflalecmhgmjaaGreatDoor.N
/- weigh.Read answers as told, if ParseFloat has a value. Conditions: none. -/
namespace Go.Proofs.YtlflalecmhgmjaaGreatDoor.N
open Go.X Go.Proofs.YtlflalecmhgmjaaGreatDoor
open Go.RowKit (Below)
set_option maxRecDepth 100000
set_option maxHeartbeats 1000000
def P37 (s:ByteArray) (V:Nat):Prop:=∃e:Option Int,(e=none\/e=some 1)/\∀R:Nat->Option Int->Prop,R V e->Ok323 s 64 R
theorem gl_fr {gl:GL} {h h':Heap} (g:Gl gl h) (f:Fr [] h h'):Gl gl h':=g.congr fun b hb=>f.blk b (g.lt b hb) (by simp)
theorem hp_gl {gl:GL} {h:Heap} (g:Gl gl h):Hp h [Ck.glob gl]:=Hp.one g
theorem cell_h {w:World} {b:Nat} {v:Value} (h:hcell w.heap b 0=some v):w.cell? ⟨b,0,none⟩=some v:=by
 unfold hcell at h
 unfold World.cell?
 cases hb:w.heap[b]? with
 | none=>rw[hb]at h;cases h
 | some o=>rw[hb]at h;cases o<;>simp_all
theorem call28 {s:ByteArray} {V:Nat} {h:Heap} {gl:GL} (hs:s.size<=281474976710656) (hV:P37 s V) (hp:Gl gl h):
  CallsH Tryz.prog 278 #[.string s,.int .i64 64] h fun v h'=>Fr [] h h'/\(v= .tuple #[.float .f64 V,.nilIface]\/∃t i,v= .tuple #[.float .f64 V,.iface t i]):=by
 obtain⟨e,he,hV⟩:=hV
 have c:=hV (fun a b=>a=V/\b=e) ⟨rfl,rfl⟩ h gl (hp_gl hp)
 apply calls278
 unfold S278
 refine callX_nil (c.mono fun v h' ⟨a,b,P,e1,e2,e3⟩=>⟨P.fr,show v= .tuple #[.float .f64 V,errV 297 e] by rw[e1,e2,e3]⟩) ?_
 rintro v h1 f1 rfl
 refine⟨V,?_⟩
 rcases he with rfl | rfl
 ·exact .inl ⟨rfl,cnd_f rfl ⟨f1,.inl rfl⟩⟩
 ·refine .inr ⟨297,.int .i64 1,rfl,cnd_t rfl ?_⟩
  have g1:=gl_fr hp f1
  obtain⟨te,pe,hc⟩:=g1.e2
  refine callX_nil (R:=fun v _=>∃N,v= .iface 300 (.pointer (some ⟨N,0,none⟩))) (fun w hw=>?_) ?_
  ·have hcw:w.cell? ⟨5,0,none⟩=some (.iface te pe):=cell_h (by rw[hw];exact hc)
   exact(Go.Proofs.Tryz.strconv_toError_range (⟨#[80,97,114,115,101,70,108,111,97,116]⟩:ByteArray) s 0 64 (.iface te pe) w hs hcw (.inr ⟨te,pe,rfl⟩)).mono
    fun e w' ⟨N,q1,q2,q3,q4⟩=>⟨_,q1,rest_below q4,by rw[<-hw];exact fr_below q4,N,rfl⟩
  ·rintro v h2 f2 ⟨N,rfl⟩
   exact .inr ⟨_,_,rfl,f1.trans f2.nil,.inr ⟨_,_,rfl⟩⟩
theorem strEq (s t:ByteArray):(s.toList==t.toList)=decide (s.data.toList=t.data.toList):=by
 rw[toL,toL]
 by_cases h:s.data.toList=t.data.toList
 ·rw [decide_eq_true h,h];simp
 ·rw [decide_eq_false h];simpa using h
def readV (l:List UInt8) (V:Nat):Nat × Int:=
 if l=[78,97,78]then(9221120237041090561,0)else if l=[73,78,70]then(9218868437227405312,0)else if l=[45,73,78,70]then(18442240474082181120,0)
 else if numF l=false then(0,17)else if 64<l.length then(0,23)else if isInf (absM V)then(0,2)else(V,0)
theorem ok276p {R:Nat->Prop} (r:R 9218868437227405312):Ok276 1 R:=by
 apply ok276;unfold T276
 refine⟨fun v=>v=9218868437227405312,cnd_t (by decide) rfl,?_⟩
 rintro _ rfl
 exact callE_of (from143 _) ⟨_,rfl,r⟩
theorem ok276n {R:Nat->Prop} (r:R 18442240474082181120):Ok276 (-1) R:=by
 apply ok276;unfold T276
 refine⟨fun v=>v=18442240474082181120,cnd_f (by decide) rfl,?_⟩
 rintro _ rfl
 exact callE_of (from143 _) ⟨_,rfl,r⟩
theorem ok146' {x:Nat} {R:Nat->Prop} (r:R (absM x)):Ok146 x R:=by
 apply ok146;unfold T146
 exact callE_of (bits101 _) ⟨_,rfl,callE_of (from143 _) ⟨_,rfl,r⟩⟩
theorem ok106z {x:Nat} {R:Bool->Prop} (r:R (isInf (absM x))):Ok106 x 0 R:=by
 apply ok106;unfold T106
 refine⟨fun y=>y=absM x,cnd_t (by decide) (ok146' rfl),?_⟩
 rintro _ rfl;exact r
theorem ok260' {s:ByteArray} {V:Nat} {gl:GL} {h:Heap} (g:Gl gl h) (hs:s.size<=9223372036854775807) (hV:numF s.data.toList=true->s.size<=64->P37 s V):
  CallsH Tryz.prog 260 #[.string s] h fun v h'=>v= .tuple #[.float .f64 (readV s.data.toList V).1,.int .i64 (readV s.data.toList V).2]/\Fr [] h h':=by
 have hsl:s.size=s.data.toList.length:=rfl
 apply calls260
 unfold S260
 rw[strEq,strEq,strEq]
 have ret:∀(x:Nat) (e:Int) (h':Heap),Fr [] h h'->readV s.data.toList V=(x,e)->(fun(v:Value) (h':Heap)=>v= .tuple #[.float .f64 (readV s.data.toList V).1,.int .i64 (readV s.data.toList V).2]/\Fr [] h h') (.tuple #[.float .f64 x,.int .i64 e]) h':=
  fun x e h' f q=>⟨by rw[q],f⟩
 have k0:∀{h':Heap},Hp h' []:=fun{h'}=>Hp.nil h'
 refine cnd_dec (fun h1=>callE_of (from143 _) ⟨_,rfl,ret _ _ _ (Fr.refl _ _) (by unfold readV;rw[if_pos h1];rfl)⟩) fun h1=>cnd_dec (fun h2=>?_) fun h2=>cnd_dec (fun h3=>?_) fun h3=>?_
 ·refine callX_nil ((ok276p (R:=fun q=>q=9218868437227405312) rfl h k0).mono fun v h' ⟨a,P,e1,e2⟩=>⟨P.fr,show v= .float .f64 9218868437227405312 by rw[e1,e2]⟩) ?_
  rintro v h' f rfl
  exact⟨_,rfl,ret _ _ _ f (by unfold readV;rw[if_neg h1,if_pos h2])⟩
 ·refine callX_nil ((ok276n (R:=fun q=>q=18442240474082181120) rfl h k0).mono fun v h' ⟨a,P,e1,e2⟩=>⟨P.fr,show v= .float .f64 18442240474082181120 by rw[e1,e2]⟩) ?_
  rintro v h' f rfl
  exact⟨_,rfl,ret _ _ _ f (by unfold readV;rw[if_neg h1,if_neg h2,if_pos h3])⟩
 refine callX_nil ((ok316' hs (R:=fun q=>q=numF s.data.toList) rfl h k0).mono fun v h' ⟨a,P,e1,e2⟩=>⟨P.fr,show v= .bool (numF s.data.toList) by rw[e1,e2]⟩) ?_
 rintro v h' f rfl
 refine⟨_,rfl,cnd_not (fun hn=>ret _ _ _ f (by unfold readV;rw[if_neg h1,if_neg h2,if_neg h3,if_pos hn])) fun hn=>?_⟩
 have hnf:¬numF s.data.toList=false:=by rw[hn];decide
 refine cnd_dec (fun hl=>ret _ _ _ f (by unfold readV;rw[if_neg h1,if_neg h2,if_neg h3,if_neg hnf,if_pos (by omega)])) fun hl=>?_
 have hlf:¬ 64<s.data.toList.length:=by omega
 intro K0
 refine callX_nil (call28 (by omega) (hV hn (by omega)) (gl_fr g f)) ?_
 rintro v h4 f4 hv
 have f5:=f.trans f4.nil
 have K:K0 V h4:=by
  show callX _ _ _ _ _ _
  refine callX_nil ((ok106z (x:=V) (R:=fun q=>q=isInf (absM V)) rfl h4 k0).mono fun v h' ⟨a,P,e1,e2⟩=>⟨P.fr,show v= .bool (isInf (absM V)) by rw[e1,e2]⟩) ?_
  rintro v h6 f6 rfl
  refine⟨_,rfl,cnd_b (fun hi=>ret _ _ _ (f5.trans f6.nil) (by unfold readV;rw[if_neg h1,if_neg h2,if_neg h3,if_neg hnf,if_neg hlf,if_pos hi])) fun hi=>ret _ _ _ (f5.trans f6.nil) (by unfold readV;rw[if_neg h1,if_neg h2,if_neg h3,if_neg hnf,if_neg hlf,if_neg (by rw[hi];decide)])⟩
 refine⟨V,?_⟩
 rcases hv with rfl | ⟨t,i,rfl⟩
 ·exact .inl ⟨rfl,K⟩
 ·exact .inr ⟨t,i,rfl,K⟩
end Go.Proofs.YtlflalecmhgmjaaGreatDoor.N
namespace Go.Proofs.YtlflalecmhgmjaaGreatDoor.G
def preT :List UInt8:=[35,32,119,114,105,116,116,101,110,32,98,121,32,104,97,110,100,10,103,114,97,112,104,32,91,32]
def edT :List UInt8:=[101,100,103,101,32,91,32,116,97,114,103,101,116,32]
def otT :List UInt8:=[32,111,116,104,101,114,32,91,32,97,32,91,32,98,32,49,32,93,32,93,32,115,111,117,114,99,101,32]
def clT :List UInt8:=[32,93,10]
def noT :List UInt8:=[110,111,100,101,91,105,100,32]
def enT :List UInt8:=[32,93,32,101,110,100,32,49,46,53]
def eT (f:Nat->Int) (e:Nat × Nat):List UInt8:=edT++(idt (f e.2)++(otT++(idt (f e.1)++clT)))
def nT (f:Nat->Int) (v:Nat):List UInt8:=noT++(idt (f v)++[93])
def nTs (f:Nat->Int):Nat->Nat->List UInt8
 | 0,_=>[]
 | k+1,v=>nT f v++nTs f k (v+1)
def firstT (f:Nat->Int) (es:List (Nat × Nat)) (n:Nat):List UInt8:=preT++(es.flatMap (eT f)++(nTs f n 0++enT))
section
variable {s:ByteArray} {rd:ByteArray->Option (Nat × Nat)} {cl:Nat->Nat}
theorem any_num {l l':Lv} {d v:Nat} {σ:Rd} {σ1:Nat->Rd} {x:Tk} {w0 k w1 y t:List UInt8} {P:Nat->Lv->Rd->Prop} (a:At s σ.i (w0++(k++(w1++(y++t))))) (h0:Bl w0) (hk:Wd k (w1++(y++t))) (h1:Bl w1) (hy:NumT rd y v) (ht1:Stop numbB t) (ht2:Stop wordB t)
  (hkey:∀t j,t.l=k->key l t {σ with i:=j}= .ok (x,l',σ1 j)) (hi:∀j,(σ1 j).i=j) (hx:x.kind=0\/x.kind=4)
  (ht:∀(u:Tok) j1 j,u.l=y->u.num=v->u.kind=4->σ.i<j->At s j t->∃σ2,take cl x u {σ1 j1 with i:=j}= .ok σ2/\σ2.i=j/\BigP s rd cl l' d σ2 P):BigP s rd cl l d σ P:=by
 have a2:=At.app (At.app a)
 have a3:At s (σ1 (σ.i+w0.length+k.length)).i (w1++(y++t)):=by rw[hi];exact a2
 have hk0:0<k.length:=by obtain⟨c,q,rfl,_⟩:=hk.hd;simp
 obtain⟨u,u1,u2,u3,u4⟩:=value_txt (cl:=cl) (d:=d) h1 hy ht1 ht2 a3 hx
 have a4:=At.app (At.app a3)
 obtain⟨σ2,q1,q2,e,l2,r2,q3,q4⟩:=ht u (σ.i+w0.length+k.length) _ u1 u2 u3 (by rw[hi];omega) a4
 refine⟨e,l2,r2,big_key h0 hk a (fun t ht=>hkey t _ ht) (fun m hm=>?_) ?_ ?_ q3,q4⟩
 ·rw [u4];exact q1
 ·rw [q2,hi];omega
 ·rw [q2];exact a4.1
theorem any_open {l l':Lv} {l2:Option Lv} {d:Nat} {σ:Rd} {σ1:Nat->Rd} {w0 k w1 t:List UInt8} {P:Nat->Lv->Rd->Prop} (a:At s σ.i (w0++(k++(w1++91::t)))) (h0:Bl w0) (hk:Wd k (w1++91::t)) (h1:Bl w1) (hd:d<16)
  (hkey:∀t j,t.l=k->key l t {σ with i:=j}= .ok (match l2 with | some l2=>.list l2 | none=>.none,l',σ1 j)) (hi:∀j,(σ1 j).i=j)
  (hin:∀j1 j,σ.i<j->At s j t->BigP s rd cl (l2.getD .over) (d+1) {σ1 j1 with i:=j} fun e l3 r2=>∃r3,(match l2 with | some _=>behind l3 e r2 | none=>.ok r2)= .ok r3/\j<r3.i/\r3.i<=s.size/\BigP s rd cl l' d r3 P):BigP s rd cl l d σ P:=by
 have a2:=At.app (At.app a)
 have a3:At s (σ1 (σ.i+w0.length+k.length)).i (w1++91::t):=by rw[hi];exact a2
 have a4:At s ((σ1 (σ.i+w0.length+k.length)).i+w1.length+1) t:=(At.app a3).cons.2.2
 obtain⟨e,l3,r2,q1,r3,q2,q3,q4,e',l4,r4,q5,q6⟩:=hin (σ.i+w0.length+k.length) _ (by rw[hi];omega) a4
 rw[hi]at q3
 refine⟨e',l4,r4,big_key h0 hk a (fun t ht=>hkey t _ ht) (fun m hm=>?_) ?_ q4 q5,q6⟩
 ·cases l2 with
  | some l2=>
   refine value_list h1 a3 hd ?_ q1 q2
   rw[hi];omega
  | none=>
   cases q2
   refine value_over h1 a3 hd ?_ q1
   rw[hi];omega
 ·omega
theorem any_close {l:Lv} {d:Nat} {σ:Rd} {w0 t:List UInt8} {P:Nat->Lv->Rd->Prop} (a:At s σ.i (w0++93::t)) (h0:Bl w0) (hl:isTop l=false) (hp:∀e j,σ.i<j->At s j t->P e l {σ with i:=j}):BigP s rd cl l d σ P:=by
 obtain⟨q1,q2⟩:=big_end (rd:=rd) (cl:=cl) (d:=d) hl h0 a
 exact⟨_,_,_,q1,hp _ _ (by omega) q2⟩
def idsF (f:Nat->Int) (n:Nat):List (Int × Nat):=(List.range n).map fun v=>(f v,v)
def EndsF (f:Nat->Int) (ts:List Tok) (es:List (Nat × Nat)):Prop:=ts.map Tok.l=es.flatMap fun e=>[idt (f e.1),idt (f e.2)]
def stF (f:Nat->Int) (ts:List Tok) (ws:List Nat) (n i:Nat):Rd:=⟨i,n,false,true,idsF f n,List.replicate n noB,List.replicate n (0,0),ws,false,false,false,ts⟩
theorem bl1 :Bl [32]:=.blank rfl .nil
theorem EndsF.len {f:Nat->Int} {ts:List Tok} {es:List (Nat × Nat)} (h:EndsF f ts es):ts.length=2*es.length:=by
 have:=congrArg List.length h
 rw[List.length_map]at this
 rw[this]
 clear this h
 induction es with
 | nil=>rfl
 | cons e es ih=>simp only[List.flatMap_cons,List.length_append,ih,List.length_cons,List.length_nil];omega
theorem edgeF {N:Nat} {f:Nat->Int} (hr:∀v,v<N->∃x,NumT rd (idt (f v)) x) (h1:∃x,NumT rd [49] x) (hw:∀v,v<N->(f v).natAbs<=2147483648) {e:Nat × Nat} (he:e.1<N/\e.2<N) {es:List (Nat × Nat)} {ts:List Tok} {ws:List Nat} (hts:EndsF f ts es) (hws:ws.length=es.length) (hm:es.length<3072) {i:Nat} {w0 t:List UInt8} {P:Nat->Lv->Rd->Prop} (h0:Bl w0)
  (a:At s i (w0++(eT f e++t))) (hp:∀ts' ws' j,i<j->EndsF f ts' (es++[e])->ws'.length=(es++[e]).length->At s j ([10]++t)->BigP s rd cl (.graph false) 1 (stF f ts' ws' 0 j) P):BigP s rd cl (.graph false) 1 (stF f ts ws 0 i) P:=by
 have hl:=hts.len
 obtain⟨x1,hx1⟩:=hr e.1 he.1
 obtain⟨x2,hx2⟩:=hr e.2 he.2
 obtain⟨x3,hx3⟩:=h1
 let z:Tok:=⟨0,0,noB,0⟩
 have a:At s i (w0++(kEdge++([32]++91::([32]++(kTarget++([32]++(idt (f e.2)++(otT++(idt (f e.1)++(clT++t)))))))))):=by
  simpa[eT,edT,kEdge,kTarget,List.append_assoc]using a
 refine any_open (σ:=stF f ts ws 0 i) (σ1:=fun j=>stF f (ts++[z,z]) (ws++[one64]) 0 j) (l2:=some (.edge ts.length false false false)) (l':=.graph false) a h0 (wdEdge _ (sep32 _)) bl1 (by decide) (fun t j e=>?_) (fun j=>rfl) fun j0 j1 lt1 a=>?_
 ·exact (key_edge e (by show ts.length/2<3072;omega)).trans rfl
 have lt1':i<j1:=lt1
 refine any_num (x:=.fin (ts.length+1)) (l':=.edge ts.length false true false) (σ1:=fun j=>stF f (ts++[z,z]) (ws++[one64]) 0 j) a bl1 (wdTarget _ (sep32 _)) bl1 hx2 (sep32 _).numb (sep32 _).word (fun t j e=>by simp[key,e,kSource,kTarget,must];rfl) (fun j=>rfl) (.inr rfl) fun u j0 j2 u1 u2 u3 lt2 a=>?_
 refine⟨stF f (ts++[z,u]) (ws++[one64]) 0 j2,?_,rfl,?_⟩
 ·simp only[take,u1,idt_whole (hw e.2 he.2),stF,set_two2]
 have lt2':j1<j2:=lt2
 have a:At s j2 ([32]++([111,116,104,101,114]++([32]++91::([32]++([97]++([32]++91::([32]++([98]++([32]++([49]++([32]++93::([32]++93::([32]++(kSource++([32]++(idt (f e.1)++(clT++t))))))))))))))))):=by
  simpa[otT,kSource,List.append_assoc]using a
 have wd:∀{k:List UInt8} (l:List UInt8),(∃c r,k=c::r/\lettr c.toNat=true)->(∀c∈k,wordB c.toNat=true)->Wd k ([32]++l):=fun l h1 h2=>wd_of h1 h2 _ (sep32 _)
 refine any_open (l2:=none) (l':=.edge ts.length false true false) (σ1:=fun j=>stF f (ts++[z,u]) (ws++[one64]) 0 j) a bl1 (wd _ ⟨111,_,rfl,rfl⟩ (by decide)) bl1 (by decide) (fun t j e=>by simp[key,e,kSource,kTarget,kWeight];rfl) (fun j=>rfl) fun j0 j3 lt3 a=>?_
 refine any_open (l2:=none) (l':=.over) (σ1:=fun j=>stF f (ts++[z,u]) (ws++[one64]) 0 j) a bl1 (wd _ ⟨97,_,rfl,rfl⟩ (by decide)) bl1 (by decide) (fun t j e=>by simp[key];rfl) (fun j=>rfl) fun j0 j4 lt4 a=>?_
 refine any_num (x:=.none) (l':=.over) (σ1:=fun j=>stF f (ts++[z,u]) (ws++[one64]) 0 j) a bl1 (wd _ ⟨98,_,rfl,rfl⟩ (by decide)) bl1 hx3 (sep32 _).numb (sep32 _).word (fun t j e=>by simp[key];rfl) (fun j=>rfl) (.inl rfl) fun v j0 j5 v1 v2 v3 lt5 a=>?_
 refine⟨stF f (ts++[z,u]) (ws++[one64]) 0 j5,rfl,rfl,?_⟩
 refine any_close a bl1 rfl fun e5 j6 lt6 a=>⟨stF f (ts++[z,u]) (ws++[one64]) 0 j6,rfl,?_,a.1,?_⟩
 ·have q3:j2<j3:=lt3
  have q4:j3<j4:=lt4
  have q5:j4<j5:=lt5
  have q6:j5<j6:=lt6
  show j4<j6
  omega
 have q3:j2<j3:=lt3
 have q4:j3<j4:=lt4
 have q5:j4<j5:=lt5
 have q6:j5<j6:=lt6
 refine any_close a bl1 rfl fun e6 j7 lt7 a=>⟨stF f (ts++[z,u]) (ws++[one64]) 0 j7,rfl,?_,a.1,?_⟩
 ·have q7:j6<j7:=lt7
  show j3<j7
  omega
 have q7:j6<j7:=lt7
 have a:At s j7 ([32]++(kSource++([32]++(idt (f e.1)++(clT++t))))):=a
 refine any_num (x:=.fin ts.length) (l':=.edge ts.length true true false) (σ1:=fun j=>stF f (ts++[z,u]) (ws++[one64]) 0 j) a bl1 (wdSource _ (sep32 _)) bl1 hx1 (sep32 _).numb (sep32 _).word (fun t j e=>by simp[key,e,must];rfl) (fun j=>rfl) (.inr rfl) fun u' j0 j8 u1' u2' u3' lt8 a=>?_
 refine⟨stF f (ts++[u',u]) (ws++[one64]) 0 j8,?_,rfl,?_⟩
 ·simp only[take,u1',idt_whole (hw e.1 he.1),stF,set_two1]
 have q8:j7<j8:=lt8
 have a:At s j8 ([32]++93::([10]++t)):=a
 refine any_close a bl1 rfl fun e8 j9 lt9 a=>⟨stF f (ts++[u',u]) (ws++[one64]) 0 j9,rfl,?_,a.1,?_⟩
 ·have q9:j8<j9:=lt9
  show j1<j9
  omega
 have q9:j8<j9:=lt9
 refine hp _ _ j9 (by omega) ?_ ?_ a
 ·unfold EndsF at hts ⊢
  rw[List.map_append,hts,List.flatMap_append]
  simp[u1,u1']
 ·simp [hws]
theorem edgesF {N:Nat} {f:Nat->Int} (hr:∀v,v<N->∃x,NumT rd (idt (f v)) x) (h1:∃x,NumT rd [49] x) (hw:∀v,v<N->(f v).natAbs<=2147483648) {t:List UInt8} {P:Nat->Lv->Rd->Prop}:∀(es2:List (Nat × Nat)) {es:List (Nat × Nat)} {ts:List Tok} {ws:List Nat} {i:Nat} {w0:List UInt8},(∀e∈es2,e.1<N/\e.2<N)->EndsF f ts es->ws.length=es.length->es.length+es2.length<=3072->Bl w0->
  At s i (w0++(es2.flatMap (eT f)++t))->(∀ts' ws' j w,i<=j->Bl w->EndsF f ts' (es++es2)->At s j (w++t)->BigP s rd cl (.graph false) 1 (stF f ts' ws' 0 j) P)->BigP s rd cl (.graph false) 1 (stF f ts ws 0 i) P
 | [],es,ts,ws,i,w0,he,hts,hws,hm,h0,a,hp=>hp ts ws i w0 (Nat.le_refl _) h0 (by rwa[List.append_nil]) a
 | e::es2,es,ts,ws,i,w0,he,hts,hws,hm,h0,a,hp=>by
  rw[List.flatMap_cons,List.append_assoc]at a
  rw[List.length_cons]at hm
  refine edgeF hr h1 hw (he e (by simp)) hts hws (by omega) h0 a fun ts' ws' j lt hts' hws' a=>?_
  refine edgesF hr h1 hw es2 (fun x hx=>he x (by simp[hx])) hts' hws' (by rw[List.length_append,List.length_singleton];omega) (.blank rfl .nil) a fun ts2 ws2 j2 w2 lt2 hw2 hts2 a=>hp ts2 ws2 j2 w2 (by omega) hw2 ?_ a
  rwa[List.append_assoc]at hts2
theorem nodesF {N:Nat} (hN:N<=1024) {f:Nat->Int} (hr:∀v,v<N->∃x,NumT rd (idt (f v)) x) (hw:∀v,v<N->(f v).natAbs<=2147483648) (hf:∀u v,u<N->v<N->f u=f v->u=v) {t:List UInt8} {P:Nat->Lv->Rd->Prop} {ts:List Tok} {ws:List Nat}:∀(k:Nat) {v i:Nat} {w0:List UInt8},v+k<=N->Bl w0->
  At s i (w0++(nTs f k v++t))->(∀j w,i<=j->Bl w->At s j (w++t)->BigP s rd cl (.graph false) 1 (stF f ts ws (v+k) j) P)->BigP s rd cl (.graph false) 1 (stF f ts ws v i) P
 | 0,v,i,w0,hm,h0,a,hp=>hp i w0 (Nat.le_refl _) h0 a
 | k+1,v,i,w0,hm,h0,a,hp=>by
  have a:At s i (w0++(kNode++([]++91::([]++(kId++([32]++(idt (f v)++93::(nTs f k (v+1)++t)))))))):=by
   simpa[nTs,nT,noT,kNode,kId,List.append_assoc]using a
  obtain⟨x,hx⟩:=hr v (by omega)
  let σ1:Nat->Rd:=fun j=>{stF f ts ws v j with n:=v+1,labels:=List.replicate v noB++[noB],spots:=List.replicate v (0,0)++[(0,0)]}
  refine any_open (σ:=stF f ts ws v i) (σ1:=σ1) (l2:=some (.node v false false false)) (l':=.graph false) a h0 ⟨⟨110,_,rfl,rfl⟩,by decide,Stop.cons rfl⟩ .nil (by decide) (fun t j e=>?_) (fun j=>rfl) fun j0 j1 lt1 a=>?_
  ·exact (key_node e (by show v<1024;omega)).trans rfl
  refine any_num (x:=.id v) (l':=.node v true false false) (σ1:=σ1) a .nil ⟨⟨105,_,rfl,rfl⟩,by decide,(sep32 _).word⟩ bl1 hx (Stop.cons rfl) (Stop.cons rfl) (fun t j e=>by simp[key,e,must];rfl) (fun j=>rfl) (.inr rfl) fun u j0 j2 u1 u2 u3 lt2 a=>?_
  have no:(idsF f v).any (fun p=>p.1==f v)=false:=by
   rw[List.any_eq_false]
   intro p hp
   obtain⟨k,hk,rfl⟩:=List.mem_map.1 hp
   have:=List.mem_range.1 hk
   simp only[beq_iff_eq]
   intro e
   have:=hf _ _ (by omega) (by omega) e
   omega
  refine⟨stF f ts ws (v+1) j2,?_,rfl,?_⟩
  ·simp only[take,u1,idt_whole (hw v (by omega)),σ1,stF,no,must,Bool.not_false]
   simp[idsF,range_map,List.replicate_succ']
  have a:At s j2 ([]++93::(nTs f k (v+1)++t)):=a
  refine any_close a .nil rfl fun e3 j3 lt3 a=>⟨stF f ts ws (v+1) j3,rfl,?_,a.1,?_⟩
  ·have q2:j1<j2:=lt2
   have q3:j2<j3:=lt3
   show j1<j3
   omega
  have q1:i<j1:=lt1
  have q2:j1<j2:=lt2
  have q3:j2<j3:=lt3
  have a:At s j3 ([]++(nTs f k (v+1)++t)):=a
  refine nodesF hN hr hw hf k (by omega) .nil a fun j w lt hw a=>?_
  rw[show v+1+k=v+(k+1) by omega]
  exact hp j w (by omega) hw a
theorem findF {f:Nat->Int} (n v:Nat) (hf:∀u v,u<n->v<n->f u=f v->u=v) (h:v<n):find (idsF f n) (f v)=some v:=by
 unfold find
 have:(idsF f n).find? (fun p=>p.1==f v)=some (f v,v):=by
  unfold idsF
  rw[List.find?_eq_some_iff_append]
  refine⟨by simp,(List.range v).map fun k=>(f k,k),(List.range' (v+1) (n-v-1)).map fun k=>(f k,k),?_,fun p hp=>?_⟩
  ·rw [<-List.map_cons (f:=fun k:Nat=>(f k,k)),<-List.map_append]
   congr 1
   rw[List.range_eq_range',List.range_eq_range',show n=v+((n-v-1)+1) by omega,<-List.range'_append_1,List.range'_succ]
   simp
  ·obtain ⟨k,hk,rfl⟩:=List.mem_map.1 hp
   have:=List.mem_range.1 hk
   simp only[Bool.not_eq_true',beq_eq_false_iff_ne,ne_eq]
   intro e
   have:=hf _ _ (by omega) (by omega) e
   omega
 rw[this];rfl
theorem edges_idsF {f:Nat->Int} {n:Nat} (hf:∀u v,u<n->v<n->f u=f v->u=v) (hw:∀v,v<n->(f v).natAbs<=2147483648):∀{es:List (Nat × Nat)} {ts:List Tok},(∀e∈es,e.1<n/\e.2<n)->EndsF f ts es->edges (idsF f n) ts= .ok es
 | [],ts,_,h=>by
  have:=h.len
  have:ts=[]:=List.eq_nil_of_length_eq_zero (by simpa using this)
  rw[this];rfl
 | e::es,ts,he,h=>by
  have hl:=h.len
  match ts,h,hl with
  | a::b::ts,h,hl=>
   have h':a.l=idt (f e.1)/\b.l=idt (f e.2)/\ts.map Tok.l=es.flatMap fun e=>[idt (f e.1),idt (f e.2)]:=by
    unfold EndsF at h;simpa using h
   obtain⟨q1,q2⟩:=he e (by simp)
   have en:∀{v:Nat} {t:Tok},v<n->t.l=idt (f v)->endOf (idsF f n) t= .ok v:=by
    intro v t hv ht
    unfold endOf
    rw[ht,idt_whole (hw v hv)]
    simp only[findF n v hf hv]
   rw[edges,en q1 h'.1]
   simp only[Er.bind]
   rw[en q2 h'.2.1]
   simp only[Er.bind]
   rw[edges_idsF hf hw (fun e q=>he e (by simp[q])) h'.2.2]
  | [a],h,hl=>simp at hl;omega
  | [],h,hl=>simp at hl
theorem read_first {f:Nat->Int} {n:Nat} (hr:∀v,v<n->∃x,NumT rd (idt (f v)) x) (h1:∃x,NumT rd [49] x) (h15:∃x,NumT rd [49,46,53] x) (hw:∀v,v<n->(f v).natAbs<=2147483648) (hf:∀u v,u<n->v<n->f u=f v->u=v) {es:List (Nat × Nat)} (hn:n<=1024) (hm:es.length<=3072) (he:∀e∈es,e.1<n/\e.2<n)
  (ht:s.data.toList=firstT f es n) (hs:s.size<=262144):read rd cl s= .ok ⟨n,false,es,[],[],[]⟩:=by
 have a0:At s 0 (preT++(es.flatMap (eT f)++(nTs f n 0++enT))):=by have:=At.start s;rwa[ht]at this
 have key0:BigP s rd cl .top 0 start fun e l r=>∃ts ws i,EndsF f ts es/\r=stF f ts ws n i:=by
  let note:List UInt8:=[32,119,114,105,116,116,101,110,32,98,121,32,104,97,110,100]
  have hb:Bl (35::(note++10::[])):=.note (by decide) .nil
  have a:At s 0 ((35::(note++10::[]))++(kGraph++([32]++91::([32]++(es.flatMap (eT f)++(nTs f n 0++enT)))))):=by
   simpa[preT,kGraph,note,List.append_assoc]using a0
  refine any_open (σ:=start) (σ1:=fun j=>{start with i:=j,graph:=true}) (l2:=some (.graph false)) (l':=.top) a hb (wdGraph _ (sep32 _)) bl1 (by decide) (fun t j e=>by simp[key,e,start,must]) (fun j=>rfl) fun j0 j1 lt1 a=>?_
  have e0:({start with i:=j1,graph:=true}:Rd)=stF f [] [] 0 j1:=rfl
  show BigP s rd cl (.graph false) 1 {start with i:=j1,graph:=true} _
  rw[e0]
  refine edgesF hr h1 hw es (es:=[]) he rfl rfl (by simpa using hm) bl1 a fun ts ws j2 w2 lt2 hw2 hts a=>?_
  refine nodesF hn hr hw hf n (by omega) hw2 a fun j3 w3 lt3 hw3 a=>?_
  rw[Nat.zero_add]
  have a:At s j3 ((w3++[32])++93::([32]++([101,110,100]++([32]++([49,46,53]++[]))))):=by simpa[enT,List.append_assoc]using a
  refine any_close a (hw3.app bl1) rfl fun e4 j4 lt4 a=>⟨stF f ts ws n j4,rfl,?_,a.1,?_⟩
  ·have q4:j3<j4:=lt4
   show j1<j4
   omega
  obtain⟨x,hx⟩:=h15
  refine any_num (x:=.none) (l':=.top) (σ1:=fun j=>stF f ts ws n j) a bl1 ⟨⟨101,_,rfl,rfl⟩,by decide,(sep32 _).word⟩ bl1 hx (Stop.nil _) (Stop.nil _) (fun t j e=>by simp[key,e,kGraph];rfl) (fun j=>rfl) (.inl rfl) fun u j0 j5 u1 u2 u3 lt5 a=>?_
  refine⟨stF f ts ws n j5,rfl,rfl,_,_,_,big_top .nil a,ts,ws,s.size,by simpa using hts,rfl⟩
 obtain⟨e,l,r,hb,ts,ws,i,k1,rfl⟩:=key0
 unfold read
 rw[must_t (decide_eq_true hs),hb (s.size+1) (by simp[start])]
 simp only[must,Er.bind]
 have eg:(stF f ts ws n i).graph=true:=rfl
 have ei:(stF f ts ws n i).ids=idsF f n:=rfl
 have ee:(stF f ts ws n i).ends=ts:=rfl
 rw[eg,ei,ee,edges_idsF hf hw he k1]
 rfl
end
end Go.Proofs.YtlflalecmhgmjaaGreatDoor.G
