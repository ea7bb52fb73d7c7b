/- strings.(*byteStringReplacer).Replace at three signs. Conditions: the text is short. -/
import Derived.Test.YtlflalecmhgmjaaGreatDoorSRw
import Derived.Test.YtlflalecmhgmjaaGreatDoorSEs
import Derived.Test.YtlflalecmhgmjaaGreatDoorHSt
import Derived.Test.YtlflalecmhgmjaaGreatDoorQGr2
import Derived.Tactics
import Derived.Tactics2
import Derived.Defers
import Derived.Laws.Pointers
import Derived.Laws.LoneSync
import Derived.RegionTactic
import Derived.RegionCalls
import Derived.ChangeAlike
set_option linter.unusedVariables false
set_option linter.unusedSimpArgs false
open Go.IntKind (i64 u64 u8 i32)
namespace Go.Proofs.YtlflalecmhgmjaaGreatDoor.N
open Go.Proofs.YtlflalecmhgmjaaGreatDoor
open Go.X
open Go.Proofs
set_option maxRecDepth 100000
abbrev RpE :=UInt8 × Option Addr × Nat
def RpE.ck (p:RpE):Ck:=Ck.sl (eK .u8) 5 p.2.1 (aZ p.1).length p.2.2 (bI (aZ p.1))
def jI (k:Nat):List ByteArray:=(gj.take k).map fun c=>(⟨#[c]⟩:ByteArray)
def tE (P:List RpE) (n:Nat):Value:=
 match P.find? fun p=>p.1.toNat==n with
 | some p=>.slice p.2.1 (aZ p.1).length p.2.2
 | none=>.slice none 0 0
structure RpOK (k:Nat) (cs:List Value) (P:List RpE) (aT:Option Addr) (cT:Nat):Prop where
 sg:P.map (·.1)=gj.take k
 cl:∀n,n<256->cs[n]? =some (tE P n)
 tr:cs[256]? =some (.slice aT k cT)
def gv (q k:Nat) (cs:List Value) (P:List RpE) (aT:Option Addr) (cT:Nat):List Ck:=Ck.ob q 319 cs::Ck.sl eS 9 aT k cT (jI k)::P.map RpE.ck
section
variable {q k:Nat} {cs:List Value} {P:List RpE} {aT:Option Addr} {cT:Nat} {h h0:ab} {M:List Nat}
theorem AN {c:UInt8}:c∈gj ↔ (aZ c).length≠1:=by
 unfold gj aZ
 by_cases h1:c=38
 ·subst h1;decide
 by_cases h2:c=60
 ·subst h2;decide
 by_cases h3:c=62
 ·subst h3;decide
 simp[h1,h2,h3]
theorem oQ (Y:Sy h0 M h (gv q 3 cs P aT cT)) (H:RpOK 3 cs P aT cT) (x:UInt8):∃A L C,ac h q (0+Int.toNat ((x.toNat:Nat):Int)*1)=some (.slice A L C)/\
  ((Option.isNone A=true/\aZ x=[x])\/(Option.isNone A=false/\L=(aZ x).length/\2<=L/\Reads h 1 A L (List.map (Value.int .u8) (bI (aZ x))))):=by
 have hc:=Y.cellO 0 rfl _ (H.cl x.toNat x.toNat_lt)
 rw[Int.toNat_natCast,Nat.mul_one,Nat.zero_add]
 unfold tE at hc
 cases hf:P.find? fun p=>p.1.toNat==x.toNat with
 | none=>
  rw[hf]at hc
  refine⟨_,_,_,hc,.inl ⟨rfl,pO ?_⟩⟩
  refine Decidable.byContradiction fun hn=>?_
  have hm:=AN.2 hn
  rw[show gj=gj.take 3 from rfl,<-H.sg]at hm
  obtain⟨p,hp,rfl⟩:=List.mem_map.1 hm
  have:=List.find?_eq_none.1 hf p hp
  simp at this
 | some p=>
  rw[hf]at hc
  have hp:=List.mem_of_find?_eq_some hf
  have he:p.1=x:=UInt8.toNat_inj.1 (by simpa using List.find?_some hf)
  have hx:x∈gj:=by
   rw[show gj=gj.take 3 from rfl,<-H.sg]
   exact List.mem_map.2 ⟨p,hp,he⟩
  have h2:=AN.1 hx
  have h3:=(eY x).1
  obtain⟨i,hi⟩:=List.mem_iff_getElem?.1 hp
  have hk:(gv q 3 cs P aT cT)[i+2]? =some (Ck.sl (eK .u8) 5 p.2.1 (aZ p.1).length p.2.2 (bI (aZ p.1))):=by
   show(P.map RpE.ck)[i]? =_
   rw[List.getElem?_map,hi];rfl
  have hr:=iQ (Y.readsS _ hk)
  have hc:ac h q x.toNat=some (.slice p.2.1 (aZ p.1).length p.2.2):=hc
  rw[he]at hc hr
  refine⟨_,_,_,hc,.inr ⟨?_,rfl,by omega,hr⟩⟩
  rcases hr.2 with⟨_,h4⟩ | ⟨b,o,h4,_⟩
  ·omega
  ·rw[h4];rfl
theorem CU {s:ByteArray} {c:UInt8} {h:ab}:ae Tryz.prog 237 #[.string s,.string ⟨#[c]⟩] h fun v h'=>v= .int .i64 (Lib.countByte s.data.toList c)/\h'=h:=dN (fun w=>Go.Proofs.Tryz.strings_Count_one s c w) ⟨rfl,rfl⟩
theorem AO (l:List UInt8) (c:UInt8):Lib.countByte l c<=l.length:=List.count_le_length
set_option maxHeartbeats 4000000 in
theorem CW {s:ByteArray} (Hm:Hp h (gv q 3 cs P aT cT)) (H:RpOK 3 cs P aT cT) (hs:s.size<=1000000):
  ae Tryz.prog 410 #[.pointer (some ⟨q,0,none⟩),.string s] h fun v h'=>v= .string (G.mkB (aJ s.data.toList))/\Fr [] h h':=by
 apply vc
 unfold C5
 have Y0:=Sy.start Hm
 have hT:=Y0.cellO 0 rfl 256 H.tr
 obtain⟨L,hL⟩:∃L,L=s.data.toList:=⟨_,rfl⟩
 have hLl:L.length=s.size:=by rw[hL];rfl
 have ge:=iU L
 rw[<-hL]
 refine⟨q,0,rfl,aT,3,cT,by rw[Nat.zero_add];exact hT,fun l h'=>l=[.int .i64 ((aJ L).length:Nat),.bool (decide ((aJ L).length≠L.length))]/\h'=h,af (fun q1=>?_) fun q1=>?_,?_⟩
 ·refine⟨q,0,rfl,aT,3,cT,by rw[Nat.zero_add];exact hT,fun l h'=>∃k:Nat,l=[.int .i64 (nsE L k:Nat),.bool (decide (nsE L k≠L.length)),.int .i64 (k:Int)]/\k<=3/\h'=h,
   fun l _=>match l with | [_,_,.int _ i]=>(3-i).toNat | _=>0,⟨0,by rw[lB,hLl];simp,by omega,rfl⟩,?_⟩
  rintro ns an x hv ⟨k,e,hk,rfl⟩
  cases e
  have nb:∀j,j<=3->nsE L j<=20000000:=by
   intro j hj
   have h1:=AO L 62
   have h2:=AO L 60
   have h3:=AO L 38
   have e1:nsE L 3=nsE L 2+_:=eZ L (k:=2) (c:=38) rfl
   have e2:nsE L 2=nsE L 1+_:=eZ L (k:=1) (c:=60) rfl
   have e3:nsE L 1=nsE L 0+_:=eZ L (k:=0) (c:=62) rfl
   have e0:=lB L
   rw[show(aZ 38).length=5 from rfl]at e1
   rw[show(aZ 60).length=4 from rfl]at e2
   rw[show(aZ 62).length=4 from rfl]at e3
   have:j=0\/j=1\/j=2\/j=3:=by omega
   rcases this with rfl | rfl | rfl | rfl<;>omega
  refine af (fun q2=>?_) fun q2=>?_
  ·have hk3:k<3:=by omega
   have hx:gj[k]? =some (gj[k]'hk3):=List.getElem?_eq_getElem hk3
   generalize gj[k]'hk3=c at hx
   obtain⟨b,ha,-⟩:=Y0.atS 1 rfl (i:=(k:Int)) (by omega) (by omega)
   have hxs:(jI 3)[k]? =some (⟨#[c]⟩:ByteArray):=by
    unfold jI
    rw[List.getElem?_map,show gj.take 3=gj from rfl,hx];rfl
   refine⟨b,0,ha,by omega,by omega,_,Y0.cellS 1 rfl ha (i:=k) (t:=0) hxs rfl,?_⟩
   refine ak (R:=fun v h'=>v= .int .i64 (Lib.countByte s.data.toList c)/\h'=hv) [] CU (by simp) (fun _ _ r=>r.2▸Fr.refl _ _) ?_
   rintro v h2 ⟨rfl,rfl⟩
   rw[<-hL]
   have e1:=eZ L hx
   have n1:=nb (k+1) (by omega)
   have n0:=nb k hk
   have g0:=AE L k
   obtain⟨A,B,C,hcl,hA⟩:=oQ Y0 H c
   have hm:(aZ c).length≠1:=AN.1 (List.mem_of_getElem? hx)
   have hp:=eY c
   refine⟨_,rfl,fun l h'=>l=[.int .i64 (nsE L (k+1):Nat),.bool (decide (nsE L (k+1)≠L.length))]/\h'=h2,?_,?_⟩
   ·generalize hcnt:Lib.countByte L c=n at e1
    refine⟨fun hn=>?_,fun hn=>?_⟩
    ·have hn0:n≠0:=by
      intro z
      rw[z]at hn
      simp at hn
     rcases hA with⟨-,hA⟩ | ⟨-,hB,hB2,-⟩
     ·rw[hA]at hm;simp at hm
     subst hB
     refine⟨by omega,(show(0:Int)<1 by decide),c,rfl,q,0,rfl,by omega,by have:=c.toNat_lt;omega,A,_,C,hcl,?_,rfl⟩
     have hmul:n<=n*((aZ c).length-1):=Nat.le_mul_of_pos_right _ (by omega)
     have hz:(n:Int)*(((aZ c).length:Nat)-(1:Int))=((n*((aZ c).length-1):Nat):Int):=by
      rw[Int.natCast_mul];congr 1;omega
     have hd:decide (nsE L (k+1)≠L.length)=true:=decide_eq_true (by omega)
     rw[hd,wr (x:=((aZ c).length:Nat)-(1:Int)) (by omega) (by omega),hz,wr (x:=((n*((aZ c).length-1):Nat):Int)) (by omega) (by omega),wr (by omega) (by omega),e1]
     rfl
    ·have hn0:n=0:=by
      have:(n:Int)=0:=by simpa using hn
      omega
     rw[hn0,Nat.zero_mul]at e1
     have e1:nsE L (k+1)=nsE L k:=e1
     exact⟨by rw[e1],rfl⟩
   ·rintro ns2 an2 h3 ⟨e,rfl⟩
    cases e
    rw[show i64.wrap ((k:Int)+1)=((k+1:Nat):Int) by rw[wr (by omega) (by omega)];omega]
    exact⟨⟨k+1,rfl,by omega,rfl⟩,by dsimp only;omega⟩
  ·obtain rfl:k=3:=by omega
   exact⟨by rw[x9],rfl⟩
 ·refine⟨fun l h'=>∃k:Nat,l=[.int .i64 ((s.size+(aJ (L.take k)).length-k:Nat):Int),.bool (decide ((aJ (L.take k)).length≠k)),.int .i64 (k:Int)]/\k<=s.size/\h'=h,
   fun l _=>match l with | [_,_,.int _ i]=>(s.size-i).toNat | _=>0,⟨0,rfl,by omega,rfl⟩,?_⟩
  rintro ns an x hv ⟨k,e,hk,rfl⟩
  cases e
  have gk:=iU (L.take k)
  rw[List.length_take,Nat.min_eq_left (by omega)]at gk
  refine af (fun q2=>?_) fun q2=>?_
  ·have hlt:k<s.size:=by omega
   obtain⟨y,hy,-⟩:=get_at hlt
   have hyl:L[k]? =some y:=by rw[hL,Array.getElem?_toList];exact hy
   have ek:aJ (L.take (k+1))=aJ (L.take k)++aZ y:=by rw[dj hyl,jE];simp[aJ]
   have el:(aJ (L.take (k+1))).length=(aJ (L.take k)).length+(aZ y).length:=by rw[ek,List.length_append]
   obtain⟨A,B,C,hcl,hA⟩:=oQ Y0 H y
   have hp:=eY y
   refine⟨by omega,q2,y,by rw[Int.toNat_natCast];exact hy,q,0,rfl,by omega,by have:=y.toNat_lt;omega,A,B,C,hcl,fun l h'=>l=[.int .i64 ((s.size+(aJ (L.take (k+1))).length-(k+1):Nat):Int),.bool (decide ((aJ (L.take (k+1))).length≠k+1))]/\h'=hv,bw (fun qA=>?_) fun qA=>?_,?_⟩
   ·rcases hA with⟨hB,hA⟩ | ⟨hA,hB,hB2,-⟩
    ·rw[hB]at qA;cases qA
    subst hB
    refine⟨q,0,rfl,by omega,by have:=y.toNat_lt;omega,A,_,C,hcl,?_,rfl⟩
    have hd:decide ((aJ (L.take (k+1))).length≠k+1)=true:=decide_eq_true (by omega)
    rw[hd,wr (x:=((aZ y).length:Nat)-(1:Int)) (by omega) (by omega),wr (by omega) (by omega),el]
    congr 2
    omega
   ·rcases hA with⟨hB,hA⟩ | ⟨hA,hB,hB2,-⟩
    ·have h1:(aZ y).length=1:=by rw[hA];rfl
     refine⟨?_,rfl⟩
     rw[el,h1,show s.size+((aJ (L.take k)).length+1)-(k+1)=s.size+(aJ (L.take k)).length-k by omega]
     congr 3
     simp
    ·rw[hA]at qA;cases qA
   ·rintro ns2 an2 h3 ⟨e,rfl⟩
    cases e
    rw[show i64.wrap ((k:Int)+1)=((k+1:Nat):Int) by rw[wr (by omega) (by omega)];omega]
    exact⟨⟨k+1,rfl,by omega,rfl⟩,by dsimp only;omega⟩
  ·have hke:k=L.length:=by omega
   subst hke
   rw[List.take_length,<-hLl]
   exact⟨by rw[show L.length+(aJ L).length-L.length=(aJ L).length by omega],rfl⟩
 ·rintro N an h6 ⟨e,rfl⟩
  simp only[List.cons.injEq,Value.int.injEq,Value.bool.injEq,true_and,and_true]at e
  obtain⟨rfl,rfl⟩:=e
  refine⟨fun qa=>?_,fun qa=>?_⟩
  ·have:(aJ L).length=L.length:=by simpa using qa
   exact⟨by rw[tA L this,hL,kL],Fr.refl _ _⟩
  ·generalize hN:(aJ L).length=N
   refine⟨by omega,by omega,by omega,by omega,?_⟩
   intro h7
   have Y7:Sy h6 [] h7 [Ck.sl (eK .u8) 5 (some ⟨h6.size,0,none⟩) N N (jk N [])]:=by
    have:=Sy.mkS (E:=eK .u8) (ty:=5) (Sy.start (Hp.nil h6)) (0:Int) N N (Nat.le_refl _) (by unfold maxLen;omega)
    exact this
   clear_value h7
   refine⟨fun l h'=>∃k:Nat,l=[.int .i64 ((aJ (L.take k)).length:Nat),.int .i64 (k:Int)]/\k<=s.size/\Sy h6 [] h' [Ck.sl (eK .u8) 5 (some ⟨h6.size,0,none⟩) N N (jk N (aJ (L.take k)))],
    fun l _=>match l with | [_,.int _ i]=>(s.size-i).toNat | _=>0,⟨0,rfl,by omega,Y7⟩,?_⟩
   rintro j i hv ⟨k,e,hk,Y⟩
   cases e
   have et:=nN L k
   refine af (fun q2=>?_) fun q2=>?_
   ·have hlt:k<s.size:=by omega
    obtain⟨y,hy,-⟩:=get_at hlt
    have hyl:L[k]? =some y:=by rw[hL,Array.getElem?_toList];exact hy
    have ek:aJ (L.take (k+1))=aJ (L.take k)++aZ y:=by rw[dj hyl,jE];simp[aJ]
    have el:(aJ (L.take (k+1))).length=(aJ (L.take k)).length+(aZ y).length:=by rw[ek,List.length_append]
    have eN:(aJ (L.take (k+1))).length<=N:=by rw[<-hN,nN L (k+1),List.length_append];omega
    obtain⟨A,B,C,hcl,hA⟩:=oQ (Y0.gr Y.fr) H y
    have hp:=eY y
    refine⟨by omega,q2,y,by rw[Int.toNat_natCast];exact hy,q,0,rfl,by omega,by have:=y.toNat_lt;omega,A,B,C,hcl,fun l h'=>l=[.int .i64 ((aJ (L.take (k+1))).length:Nat)]/\Sy h6 [] h' [Ck.sl (eK .u8) 5 (some ⟨h6.size,0,none⟩) N N (jk N (aJ (L.take (k+1))))],bw (fun qA=>?_) fun qA=>?_,?_⟩
    ·rcases hA with⟨hB,hA⟩ | ⟨hA,hB,hB2,hR⟩
     ·rw[hB]at qA;cases qA
     subst hB
     have hmin:Nat.min (aZ y).length (Int.toNat ((N:Nat):Int)-Int.toNat (((aJ (L.take k)).length:Nat):Int))=(aZ y).length:=by
      rw[Int.toNat_natCast,Int.toNat_natCast];exact Nat.min_eq_left (by omega)
     refine⟨[h6.size],by simp,by omega,by rw[Int.toNat_natCast];omega,q,0,rfl,by omega,by have:=y.toNat_lt;omega,A,_,C,hcl,h6.size,(aJ (L.take k)).length,?_,_,by rw[hmin];exact hR,?_,?_,fj _ _ _ _,?_,?_⟩
     ·rw[if_neg (by rw[Int.toNat_natCast,Int.toNat_natCast];omega)]
      show some (Addr.add ⟨h6.size,0,none⟩ _)=_
      rw[bF,Int.toNat_natCast];simp
     ·intro v hv;obtain⟨n,-,rfl⟩:=List.mem_map.1 hv;rfl
     ·intro m hm
      rw[List.length_map,fQ]at hm
      have hx:(jk N (aJ (L.take k)))[(aJ (L.take k)).length+m]? =some ((jk N (aJ (L.take k)))[(aJ (L.take k)).length+m]'(by unfold jk;rw[List.length_append,fQ,List.length_replicate];omega)):=List.getElem?_eq_getElem _
      have:=Y.cellS 0 rfl rfl (t:=0) hx rfl
      rw[show 0+((aJ (L.take k)).length+m)*(eK .u8).sz+0=(aJ (L.take k)).length+m by show 0+_*1+0=_;omega]at this
      exact⟨⟨_,this⟩,Y.freeS 0 rfl rfl _⟩
     ·rw[hmin,wr (by omega) (by omega),el];rfl
     ·rw[ek]
      exact AF (aZ y) _ _ Y (by omega)
    ·rcases hA with⟨hB,hA⟩ | ⟨hA,hB,hB2,-⟩
     ·have h1:(aZ y).length=1:=by rw[hA];rfl
      have hx:(jk N (aJ (L.take k)))[(aJ (L.take k)).length]? =some ((jk N (aJ (L.take k)))[(aJ (L.take k)).length]'(by unfold jk;rw[List.length_append,fQ,List.length_replicate];omega)):=List.getElem?_eq_getElem _
      have hcl2:=Y.cellS 0 rfl rfl (t:=0) hx rfl
      have hc3:∃u,ac hv h6.size (0+Int.toNat (((aJ (L.take k)).length:Nat):Int)*1)=some u:=⟨_,hcl2⟩
      refine⟨h6.size,0,rfl,by omega,by rw[Int.toNat_natCast];omega,hc3,Y.freeS 0 rfl rfl _,?_,?_⟩
      ·rw[wr (by omega) (by omega),el,h1];rfl
      ·have Y1:=AF [y] _ _ Y (by simp;omega)
       rw[ek,hA]
       rw[Int.toNat_natCast,Nat.mul_one,Nat.zero_add]
       exact Y1
     ·rw[hA]at qA;cases qA
    ·rintro j2 h11 ⟨e,Y11⟩
     cases e
     rw[show i64.wrap ((k:Int)+1)=((k+1:Nat):Int) by rw[wr (by omega) (by omega)];omega]
     exact⟨⟨k+1,rfl,by omega,Y11⟩,by dsimp only;omega⟩
   ·have hke:k=L.length:=by omega
    subst hke
    rw[List.take_length]at Y
    refine⟨bI (aJ L),?_,by rw[jA],Y.fr⟩
    have:=iQ (Y.readsS 0 rfl)
    unfold jk at this
    rw[<-hN,Nat.sub_self,List.replicate_zero,List.append_nil]at this
    rw[Int.toNat_natCast,<-hN]
    exact this
end
theorem nM {h:ab} {b:Nat}:∀{vs:List Value} {o:Nat} {K:Prop},(∀v∈vs,v.oneCell'=true)->(∀j,j<vs.length->(∃u,ac h b (o+j)=some u)/\aq h b (o+j)=true)->K->stW h b o vs K
 | [],_,_,_,_,hk=>hk
 | v::r,o,K,h1,h2,hk=>by
  have e1:=h1 v (by simp)
  unfold stW w9
  rw[e1]
  have:=h2 0 (by simp)
  refine⟨this.1,this.2,nM (fun x hx=>h1 x (by simp[hx])) (fun j hj=>?_) hk⟩
  have:=h2 (j+1) (by simpa using hj)
  rwa[show o+1+j=o+(j+1) by omega]
theorem pM :∀(vs a c:List Value),vs.length<=c.length->fV (a++c) a.length vs=a++vs++c.drop vs.length
 | [],a,c,_=>by simp[fV]
 | v::r,a,[],h=>by simp at h
 | v::r,a,x::c,h=>by
  have:=pM r (a++[v]) c (by simpa using h)
  rw[fV,List.set_append_right _ _ (Nat.le_refl _),Nat.sub_self,List.set_cons_zero]
  simp only[List.append_assoc,List.length_append,List.length_cons,List.length_nil,List.cons_append,List.nil_append,List.drop_succ_cons]at this ⊢
  simpa using this
theorem uR {h0:ab} {M:List Nat} {b ty:Nat}:∀(vs:List Value) (o:Nat) (cs:List Ck) (k:Nat) (cells:List Value) (h:ab),Sy h0 M h cs->cs[k]? =some (Ck.ob b ty cells)->Sy h0 M (gz h b o vs) (cs.set k (Ck.ob b ty (fV cells o vs)))
 | [],o,cs,k,cells,h,Y,hk=>by
  rw[fV,gz]
  rwa[show cs.set k (Ck.ob b ty cells)=cs from by
   apply List.ext_getElem?
   intro i
   by_cases hi:k=i
   ·subst hi
    have:=(List.getElem?_eq_some_iff.1 hk).1
    rw[List.getElem?_set_self this,hk]
   ·rw[List.getElem?_set_ne hi]]
 | v::r,o,cs,k,cells,h,Y,hk=>by
  have Y1:=Y.stO k hk o v
  have hk1:(cs.set k (Ck.ob b ty (cells.set o v)))[k]? =some (Ck.ob b ty (cells.set o v)):=List.getElem?_set_self (List.getElem?_eq_some_iff.1 hk).1
  have Y2:=uR r (o+1) _ k _ _ Y1 hk1
  rw[List.set_set]at Y2
  exact Y2
def dS :List ByteArray:=[⟨#[38]⟩,⟨#[38,97,109,112,59]⟩,⟨#[60]⟩,⟨#[38,108,116,59]⟩,⟨#[62]⟩,⟨#[38,103,116,59]⟩]
section
variable {b p:Nat} {oc:List Value} {xA:Option Addr} {xC:Nat} {h:ab}
theorem s6o {k:Nat} {c:UInt8} (h:gj[k]? =some c):dS[4-2*k]? =some ⟨#[c]⟩/\dS[4-2*k+1]? =some (G.mkB (aZ c)):=by
 have hk:=(List.getElem?_eq_some_iff.1 h).1
 match k,hk,h with
 | 0,_,h=>cases h;exact⟨rfl,rfl⟩
 | 1,_,h=>cases h;exact⟨rfl,rfl⟩
 | 2,_,h=>cases h;exact⟨rfl,rfl⟩
theorem AC (c:UInt8):strOf [((c.toNat:Nat):Int)]=⟨#[c]⟩:=by
 have:=jA [c]
 exact this
set_option maxHeartbeats 4000000 in
theorem Ct (Hm:Hp h [Ck.ob b 227 oc,Ck.sl eS 9 xA 6 xC dS]) (ho:oc[4]? =some (.slice xA 6 xC)):
  ae Tryz.prog 223 #[.pointer (some ⟨b,0,none⟩)] h fun v h'=>∃q cs P aT cT,v= .iface 320 (.pointer (some ⟨q,0,none⟩))/\RpOK 3 cs P aT cT/\Sy h [] h' (gv q 3 cs P aT cT):=by
 apply vd
 unfold AP
 have Y0:=Sy.start Hm
 refine⟨b,0,rfl,xA,6,xC,by rw[Nat.zero_add];exact Y0.cellO 0 rfl 4 ho,?_⟩
 intro K
 have rd:∀{h':ab} {i:Int} {x:ByteArray},Fr [] h h'->0<=i->i<6->dS[i.toNat]? =some x->∃b o,xA=some ⟨b,o,none⟩/\0<=i/\i<((6:Nat):Int)/\∃x':ByteArray,ac h' b (o+Int.toNat i*1)=some (.string x')/\x'=x:=by
  intro h' i x f i0 i6 hx
  obtain⟨b',ha,-⟩:=Y0.atS 1 rfl (i:=i) i0 (by omega)
  exact⟨b',0,ha,i0,by omega,x,(Y0.gr f).cellS 1 rfl ha (i:=i.toNat) (t:=0) hx rfl,rfl⟩
 refine cq (by rfl) ?_
 show K h
 dsimp-zeta only[K]
 refine⟨fun l h'=>∃k:Nat,l=[.bool (decide (k=0)),.int .i64 ((2*k:Nat):Int)]/\k<=3/\h'=h,fun l _=>match l with | [_,.int _ i]=>(6-i).toNat | _=>0,⟨0,rfl,by omega,rfl⟩,?_⟩
 rintro nb i h3 ⟨k,e,hk,rfl⟩
 simp only[List.cons.injEq,Value.int.injEq,Value.bool.injEq,true_and,and_true]at e
 obtain⟨rfl,rfl⟩:=e
 refine af (fun q1=>?_) fun q1=>?_
 ·have hk3:k<3:=by omega
  have h2:∃x y,dS[2*k]? =some x/\dS[2*k+1]? =some y/\x.size=1/\4<=y.size/\y.size<=5:=by
   match k,hk3 with
   | 0,_=>exact⟨_,_,rfl,rfl,rfl,by decide,by decide⟩
   | 1,_=>exact⟨_,_,rfl,rfl,rfl,by decide,by decide⟩
   | 2,_=>exact⟨_,_,rfl,rfl,rfl,by decide,by decide⟩
  obtain⟨x,y,hx,hy,sx,sy,sy5⟩:=h2
  obtain⟨b5,o5,a1,a2,a3,x4,a4,rfl⟩:=rd (h':=h3) (i:=((2*k:Nat):Int)) (x:=x) (Fr.refl _ _) (by omega) (by omega) (by rw[Int.toNat_natCast];exact hx)
  refine⟨b5,o5,a1,a2,a3,_,a4,cq (by rw[sx];rfl) ?_⟩
  have w1:i64.wrap (((2*k:Nat):Int)+1)=((2*k+1:Nat):Int):=by rw[wr (by omega) (by omega)];omega
  have w2:i64.wrap (((2*k:Nat):Int)+2)=((2*(k+1):Nat):Int):=by rw[wr (by omega) (by omega)];omega
  rw[w1,w2]
  obtain⟨b6,o6,c1,c2,c3,x5,c4,rfl⟩:=rd (h':=h3) (i:=((2*k+1:Nat):Int)) (x:=y) (Fr.refl _ _) (by omega) (by omega) (by rw[Int.toNat_natCast];exact hy)
  refine⟨b6,o6,c1,c2,c3,_,c4,fun l h'=>l=[.bool false]/\h'=h3,bG ?_ ⟨rfl,rfl⟩,?_⟩
  ·simp only[bne_iff_ne,ne_eq];omega
  ·rintro nb2 h5 ⟨e,rfl⟩
   cases e
   exact⟨⟨k+1,by rw[decide_eq_false (by omega)],by omega,rfl⟩,by dsimp only;omega⟩
 ·obtain rfl:k=3:=by omega
  refine cq (by decide) ⟨by decide,by decide,by decide,by decide,by decide,?_⟩
  intro h6 h7
  have Y6:Sy h3 [] h6 [Ck.sl eS 9 (some ⟨h3.size,0,none⟩) 0 3 []]:=by
   have:=Sy.mkS (E:=eS) (ty:=9) (Sy.start (Hp.nil h3)) ByteArray.empty 3 0 (by decide) (by decide)
   exact this
  have e6:h6.size=h3.size+1:=by simp[h6]
  have Y7:Sy h3 [] h7 [Ck.sl eS 9 (some ⟨h3.size,0,none⟩) 0 3 [],Ck.ob h6.size 319 (List.replicate 257 (.slice none 0 0))]:=Y6.newO _
  clear_value h7
  have lv:((List.replicate 256 (.slice none 0 0)++[.slice (some ⟨h3.size,0,none⟩) (Int.toNat (0:Int)) (Int.toNat (i64.wrap (Int.tdiv ((6:Nat):Int) (2:Int))))]:List Value)).length=257:=by simp
  refine nM ?_ (fun j hj=>?_) ?_
  ·intro v hv
   rcases List.mem_append.1 hv with hv | hv
   ·rw[(List.mem_replicate.1 hv).2];rfl
   ·rw[List.mem_singleton.1 hv];rfl
  ·rw[lv]at hj
   refine⟨⟨_,Y7.cellO 1 rfl (0+j) (v:=.slice none 0 0) ?_⟩,Y7.freeO 1 rfl _⟩
   rw[List.getElem?_replicate,if_pos (by omega)]
  intro h8
  have Y8:Sy h3 [] h8 (Ck.ob h6.size 319 (List.replicate 256 (.slice none 0 0)++[.slice (some ⟨h3.size,0,none⟩) 0 3])::Ck.sl eS 9 (some ⟨h3.size,0,none⟩) 0 3 (jI 0)::([]:List RpE).map RpE.ck):=by
   have:=uR (List.replicate 256 (.slice none 0 0)++[.slice (some ⟨h3.size,0,none⟩) 0 3]) 0 _ 1 _ _ Y7 rfl
   have e:=pM (List.replicate 256 (.slice none 0 0)++[.slice (some ⟨h3.size,0,none⟩) 0 3]) [] (List.replicate 257 (.slice none 0 0)) (by simp)
   simp only[List.nil_append,List.length_nil]at e
   rw[e,List.drop_of_length_le (by simp),List.append_nil]at this
   exact this.pick [1,0] rfl
  clear_value h8
  generalize hq:h6.size=q at*
  have rep0:RpOK 0 (List.replicate 256 (.slice none 0 0)++[.slice (some ⟨h3.size,0,none⟩) 0 3]) [] (some ⟨h3.size,0,none⟩) 3:=by
   refine⟨rfl,fun n hn=>?_,?_⟩
   ·rw[List.getElem?_append_left (by simpa using hn),List.getElem?_replicate,if_pos hn];rfl
   ·rw[List.getElem?_append_right (by simp)];simp
  refine⟨fun l h'=>∃(k:Nat) (cs:List Value) (P:List RpE) (aT:Option Addr) (cT:Nat),l=[.int .i64 (4-2*(k:Int))]/\k<=3/\RpOK k cs P aT cT/\Sy h3 [] h' (gv q k cs P aT cT),
   fun l _=>match l with | [.int _ i]=>(i+2).toNat | _=>0,⟨0,_,[],_,_,rfl,by omega,rep0,Y8⟩,?_⟩
  rintro i h9 ⟨k,cs,P,aT,cT,e,hk,H,Y⟩
  simp only[List.cons.injEq,Value.int.injEq,true_and,and_true]at e
  subst e
  refine af (fun q2=>?_) fun q2=>?_
  ·have hk3:k<3:=by omega
   have hx:gj[k]? =some (gj[k]'hk3):=List.getElem?_eq_getElem hk3
   generalize gj[k]'hk3=c at hx
   obtain⟨s1,s2⟩:=s6o hx
   have hp:=eY c
   have ec:=c.toNat_lt
   obtain⟨b7,o7,a1,a2,a3,x6,a4,rfl⟩:=rd (h':=h9) (i:=4-2*(k:Int)) (x:=⟨#[c]⟩) Y.fr (by omega) (by omega) (by rw[show(4-2*(k:Int)).toNat=4-2*k by omega];exact s1)
   refine⟨b7,o7,a1,a2,a3,_,a4,by decide,by show(0:Int)<1;decide,c,rfl,?_⟩
   have w1:i64.wrap (4-2*(k:Int)+1)=((4-2*k+1:Nat):Int):=by rw[wr (by omega) (by omega)];omega
   have w2:i64.wrap (4-2*(k:Int)-2)=4-2*((k+1:Nat):Int):=by rw[wr (by omega) (by omega)];omega
   rw[w1,w2]
   obtain⟨b8,o8,c1,c2,c3,x7,c4,rfl⟩:=rd (h':=h9) (i:=((4-2*k+1:Nat):Int)) (x:=G.mkB (aZ c)) Y.fr (by omega) (by omega) (by rw[Int.toNat_natCast];exact s2)
   have nm:c∉P.map (·.1):=by
    rw[H.sg]
    match k,hk3,hx with
    | 0,_,hx=>cases hx;decide
    | 1,_,hx=>cases hx;decide
    | 2,_,hx=>cases hx;decide
   have nf:P.find? (fun p=>p.1.toNat==c.toNat)=none:=by
    rw[List.find?_eq_none]
    intro p hp he
    exact nm (List.mem_map.2 ⟨p,hp,UInt8.toNat_inj.1 (by simpa using he)⟩)
   have hc:=Y.cellO 0 rfl _ (H.cl c.toNat ec)
   unfold tE at hc
   rw[nf]at hc
   refine⟨b8,o8,c1,c2,c3,_,c4,by omega,by omega,none,0,0,?_,fun l h'=>∃(cs':List Value) (aT':Option Addr) (cT':Nat),l=[]/\cs'=cs.set 256 (.slice aT' (k+1) cT')/\Sy h3 [] h' (Ck.ob q 319 cs'::Ck.sl eS 9 aT' (k+1) cT' (jI (k+1))::P.map RpE.ck),bG rfl ?_,?_⟩
   ·rw[Int.toNat_natCast,Nat.mul_one,Nat.zero_add];exact hc
   ·refine⟨aT,k,cT,by rw[Nat.zero_add];exact Y.cellO 0 rfl 256 H.tr,?_⟩
    intro h10
    have Y10:Sy h3 [] h10 (gv q k cs P aT cT):=Y.gr (Fr.push h9 _)
    have r10:Reads h10 1 (some ⟨h9.size,0,none⟩) 1 (List.map (Value.int IntKind.u8) [((c.toNat:Nat):Int)]):=by
     refine⟨rfl,.inr ⟨_,_,rfl,fun j v hj=>?_⟩⟩
     have hb:h10[h9.size]? =some (.cells #[.int .u8 ((c.toNat:Nat):Int)] 5 (0,0)):=ba
     rw[aI hb]
     match j,hj with
     | 0,hj=>exact hj
    have e10:h10.size=h9.size+1:=by simp[h10]
    clear_value h10
    refine⟨[((c.toNat:Nat):Int)],r10,?_⟩
    rw[AC]
    intro h11
    have Y11:Sy h3 [] h11 (gv q k cs P aT cT):=Y10.gr (Fr.push h10 _)
    clear_value h11
    refine⟨_,Y11.ownS 1 rfl,?_,by omega,by unfold maxLen;omega,?_⟩
    ·intro x hx hq
     rw[List.mem_singleton.1 hx]at hq
     have:=kY Y10 1 rfl _ hq
     omega
    intro sA sC h12 ow f g _
    have Y12:=Y11.appS 1 rfl [(⟨#[c]⟩:ByteArray)] ow f g rfl rfl
    have hne:q≠h10.size:=by
     have:q<h10.size:=kY Y10 0 rfl q (by simp[Ck.ob])
     omega
    have tk:jI (k+1)=jI k++[(⟨#[c]⟩:ByteArray)]:=by unfold jI;rw[dj hx];simp
    refine⟨hne,⟨_,by rw[Nat.zero_add];exact Y12.cellO 0 rfl 256 H.tr⟩,Y12.freeO 0 rfl _,?_⟩
    intro h13
    have Y13:Sy h3 [] h13 _:=Y12.stO 0 rfl 256 (.slice sA (k+1) sC)
    exact⟨_,sA,sC,rfl,rfl,by rw[tk];exact Y13⟩
   ·rintro h14 ⟨cs',aT',cT',-,hcs,Y14⟩
    have l256:=(List.getElem?_eq_some_iff.1 H.tr).1
    have sz:(G.mkB (aZ c)).size=(aZ c).length:=aB _
    refine⟨by rw[sz];unfold maxLen;omega,fun rC h15 ow f15=>?_⟩
    have Y15:Sy h3 [] h15 (Ck.ob q 319 cs'::Ck.sl eS 9 aT' (k+1) cT' (jI (k+1))::(P++[((c,some ⟨h14.size,0,none⟩,rC):RpE)]).map RpE.ck):=by
     have e1:Lib.strCells (G.mkB (aZ c))=(eK .u8).l (bI (aZ c)):=by
      have:=(fC (G.mkB (aZ c))).symm
      rw[this];unfold fB bI;rw[jB]
     rw[e1,sz]at ow
     have:=Y14.add f15 (Ck.sl (eK .u8) 5 (some ⟨h14.size,0,none⟩) (aZ c).length rC (bI (aZ c))) ⟨ow,fQ _⟩ (by simp[Ck.sl,ag]) (by simp[Ck.sl])
     rw[List.map_append]
     exact this
    have c256:cs'[256]? =some (.slice aT' (k+1) cT'):=by rw[hcs,List.getElem?_set_self l256]
    have cel:∀n,n<256->cs'[n]? =cs[n]? :=fun n hn=>by rw[hcs,List.getElem?_set_ne (by omega)]
    have hc2:=Y15.cellO 0 rfl c.toNat (v:=.slice none 0 0) (by rw[cel _ ec,H.cl _ ec];unfold tE;rw[nf])
    refine⟨by omega,by omega,⟨_,by rw[Int.toNat_natCast,Nat.mul_one,Nat.zero_add];exact hc2⟩,Y15.freeO 0 rfl _,?_⟩
    rw[Int.toNat_natCast,Nat.mul_one,Nat.zero_add,sz]
    intro h16
    have Y16:Sy h3 [] h16 _:=Y15.stO 0 rfl c.toNat (.slice (some ⟨h14.size,0,none⟩) (aZ c).length rC)
    refine⟨⟨k+1,cs'.set c.toNat (.slice (some ⟨h14.size,0,none⟩) (aZ c).length rC),P++[((c,some (⟨h14.size,0,none⟩:Addr),rC):RpE)],aT',cT',rfl,by omega,⟨?_,fun n hn=>?_,?_⟩,Y16⟩,by dsimp only;omega⟩
    ·rw[List.map_append,H.sg,dj hx];rfl
    ·unfold tE
     rw[List.find?_append]
     by_cases hnc:c.toNat=n
     ·subst hnc
      rw[List.getElem?_set_self (by rw[hcs,List.length_set];omega),nf]
      simp
     ·rw[List.getElem?_set_ne hnc,cel n hn,H.cl n hn]
      unfold tE
      have:([((c,some ⟨h14.size,0,none⟩,rC):RpE)].find? fun p=>p.1.toNat==n)=none:=by simp[hnc]
      rw[this,Option.or_none]
    ·rw[List.getElem?_set_ne (by omega),c256]
  ·obtain rfl:k=3:=by omega
   exact⟨q,cs,P,aT,cT,rfl,H,Y⟩
theorem Cu {d st sm r:Value} (Hm:Hp h [Ck.ob b 227 [d,st,sm,r,.slice xA 6 xC],Ck.sl eS 9 xA 6 xC dS]):
  ae Tryz.prog 178 #[.pointer (some ⟨b,0,none⟩)] h fun v h'=>v= .tuple #[]/\∃q cs P aT cT,RpOK 3 cs P aT cT/\
   Sy h [b] h' (Ck.ob b 227 [d,st,sm,.iface 320 (.pointer (some ⟨q,0,none⟩)),.slice none 0 0]::gv q 3 cs P aT cT):=by
 apply ve
 unfold C6
 intro K
 have Y0:Sy h [b] h [Ck.ob b 227 [d,st,sm,r,.slice xA 6 xC]]:=Sy.start (Hm.pick [0] rfl)
 refine ak [] (Ct Hm rfl) (by simp) (fun _ _ r=>r.choose_spec.choose_spec.choose_spec.choose_spec.choose_spec.2.2.fr) ?_
 rintro v h1 ⟨q,cs,P,aT,cT,rfl,H,Z⟩
 have Y1:Sy h [b] h1 ([Ck.ob b 227 [d,st,sm,r,.slice xA 6 xC]]++gv q 3 cs P aT cT):=by
  refine Y0.callV Z ?_
  have:∀P:List RpE,Nv (P.map RpE.ck):=fun P=>by induction P with
   | nil=>trivial
   | cons p P ih=>exact⟨rfl,ih⟩
  exact⟨rfl,rfl,this P⟩
 refine .inr ⟨320,_,rfl,b,0,rfl,⟨_,Y1.cellO 0 rfl 3 rfl⟩,Y1.freeO 0 rfl _,?_⟩
 intro h3
 have Y3:Sy h [b] h3 _:=Y1.stO 0 rfl 3 (.iface 320 (.pointer (some ⟨q,0,none⟩)))
 clear_value h3
 show K h3
 refine⟨b,0,rfl,⟨_,Y3.cellO 0 rfl 4 rfl⟩,Y3.freeO 0 rfl _,?_⟩
 intro h5
 have Y5:Sy h [b] h5 _:=Y3.stO 0 rfl 4 (.slice none 0 0)
 exact⟨rfl,q,cs,P,aT,cT,H,Y5⟩
end
theorem zZ (w:World):(callFunc 343 #[]).run Tryz.prog w= .ok (.value (.tuple #[])) w:=run_call_mark0 Tryz.func343 (by kernel_rfl) (by kernel_rfl) (by kernel_rfl) .disable (by kernel_rfl) w
theorem z6 (w:World):(callFunc 345 #[]).run Tryz.prog w= .ok (.value (.tuple #[])) w:=run_call_mark0 Tryz.func345 (by kernel_rfl) (by kernel_rfl) (by kernel_rfl) .enable (by kernel_rfl) w
theorem CH (a:Addr) (w:World):(callFunc 346 #[.pointer (some a)]).run Tryz.prog w= .ok (.value (.tuple #[])) w:=run_call_marked Tryz.func346 (by kernel_rfl) (by kernel_rfl) (by kernel_rfl) .acquire (by kernel_rfl) a w
theorem CI (a:Addr) (w:World):(callFunc 348 #[.pointer (some a)]).run Tryz.prog w= .ok (.value (.tuple #[])) w:=run_call_marked Tryz.func348 (by kernel_rfl) (by kernel_rfl) (by kernel_rfl) .releaseMerge (by kernel_rfl) a w
theorem u5 (a:Addr) (x:Value) (u:FrameMode) (w:World) (hc:w.cell? a=some x) (hz:w.frozen? a=false):
  CallsD Tryz.prog 282 #[.pointer (some a),.bool true] u w fun e u' w'=>u'=u/\(e= .returned (.tuple #[])/\w'=w.drew.setCell a (.int .u32 1)):=by
 have hc':w.drew.cell? a=some x:=by go_simp
 have hz':w.drew.frozen? a=false:=by go_simp
 have hst:=run_call_store (P:=Tryz.prog) Tryz.func326 (by kernel_rfl) (by kernel_rfl) (by kernel_rfl) (by kernel_rfl) (k:=.u32) (y:=1) hc' hz'
 go_enter_d Tryz.func282,Tryz.ntmps282
 go_wp2
 go_region_calls
 all_goals (go_end0;exact⟨rfl,rfl⟩)
theorem tD (a:Addr) (u:FrameMode) (w:World) (hc:w.cell? a=some (.int .i32 1)) (hz:w.frozen? a=false):
  CallsD Tryz.prog 281 #[.pointer (some a)] u w fun e u' w'=>u'=u/\(e= .returned (.tuple #[])/\w'=w.setCell a (.int .i32 0)):=by
 have hd:=zZ
 have he:=z6
 have hr:=CI
 have hadd:=run_call_add (P:=Tryz.prog) Tryz.func349 (by kernel_rfl) (by kernel_rfl) (by kernel_rfl) .i32 (by kernel_rfl) (y:= -1) (s:=0) hc hz (by simp[go_sem];rfl)
 have hcv:=run_convert_to_unsafe (P:=Tryz.prog) (src:=379) (dst:=206) Tryz.underlying379 Tryz.underlying206 (by kernel_rfl) hc
 go_enter_d Tryz.func281,Tryz.ntmps281
 go_wp2
 go_end0
 go_wp2
 go_end0
 exact⟨rfl,rfl⟩
theorem yh (a:Addr) (w:World) (hc:w.cell? a=some (.int .i32 0)) (hz:w.frozen? a=false):
  Calls Tryz.prog 280 #[.pointer (some a)] w fun e w'=>e= .returned (.tuple #[])/\w'=w.setCell a (.int .i32 1):=by
 have hd:=zZ
 have he:=z6
 have ha:=CH
 have hcas:=run_call_cas_hit (P:=Tryz.prog) Tryz.func344 (by kernel_rfl) (by kernel_rfl) (by kernel_rfl) .i32 (by kernel_rfl) (y:=1) hc hz
 have hc':(w.setCell a (.int .i32 1)).cell? a=some (.int .i32 1):=World.cell?_setCell_same w a _ hc
 have hcv:=run_convert_to_unsafe (P:=Tryz.prog) (src:=379) (dst:=206) Tryz.underlying379 Tryz.underlying206 (by kernel_rfl) hc'
 go_enter Tryz.func280,Tryz.ntmps280
 go_wp2
 first | go_end0 | (simp only[Exit.inBlock,Exit.then];refine bodyPost_ret (results_none rfl _ _ _) rfl ?_) | refine bodyPost_ret (results_none rfl _ _ _) rfl ?_
 go_wp2
 go_end0
 exact⟨rfl,rfl⟩
theorem sE (a:Addr) (w:World) (h0:w.cell? a=some (.int .u32 0)):Calls Tryz.prog 221 #[.pointer (some a)] w fun e w'=>e= .returned (.bool false)/\w'=w:=by
 have hl:=run_call_load (P:=Tryz.prog) Tryz.func279 (by kernel_rfl) (by kernel_rfl) (by kernel_rfl) .u32 (by kernel_rfl) h0
 go_enter Tryz.func221,Tryz.ntmps221
 go_wp2
 go_ret
 exact⟨rfl,rfl⟩
def rcO (d st:Int) (r x:Value):List Value:=[.int .u32 d,.int .i32 st,.int .u32 0,r,x]
section
variable {b:Nat} {xA:Option Addr} {xC:Nat}
set_option maxHeartbeats 2000000 in
theorem yi (w:World) (H:Hp w.heap [Ck.ob b 227 (rcO 0 0 .nilIface (.slice xA 6 xC)),Ck.sl eS 9 xA 6 xC dS]):
  Calls Tryz.prog 222 #[.pointer (some ⟨b,0,none⟩),.func (.func 178) #[.pointer (some ⟨b,0,none⟩)] #[]] w fun e w'=>e= .returned (.tuple #[])/\Go.X.Rest w w'/\∃q cs P aT cT,RpOK 3 cs P aT cT/\
   Sy w.heap [b] w'.heap (Ck.ob b 227 (rcO 1 0 (.iface 320 (.pointer (some ⟨q,0,none⟩))) (.slice none 0 0))::gv q 3 cs P aT cT):=by
 have hb:w.heap[b]? =some (.cells (rcO 0 0 .nilIface (.slice xA 6 xC)).toArray 227 (0,0)):=H.ok 0 _ rfl
 have c0:w.cell? ⟨b,0,none⟩=some (.int .u32 0):=by simp[World.cell?,hb,rcO]
 have c1:w.cell? ⟨b,1,none⟩=some (.int .i32 0):=by simp[World.cell?,hb,rcO]
 have z1:w.frozen? ⟨b,1,none⟩=false:=by simp[World.frozen?,hb]
 have d0:(w.setCell ⟨b,1,none⟩ (.int .i32 1)).cell? ⟨b,0,none⟩=some (.int .u32 0):=(World.cell?_setCell_other _ ⟨b,1,none⟩ ⟨b,0,none⟩ _ (by simp)).trans c0
 have hnot:∀(x:Bool) (w:World),(Op.unary .not (.bool x)).run Tryz.prog w= .ok (.bool (!x)) w:=fun _ _=>rfl
 have Y0:Sy w.heap [b] w.heap [Ck.ob b 227 (rcO 0 0 .nilIface (.slice xA 6 xC))]:=Sy.start (H.pick [0] rfl)
 go_enter_defers Tryz.func222,Tryz.ntmps222
 go_wp2_with (fail)
 refine(yh ⟨b,1,none⟩ _ c1 z1).mono ?_
 rintro e w1 ⟨rfl,rfl⟩
 go_wp2_with (fail)
 refine(sE ⟨b,0,none⟩ _ d0).mono ?_
 rintro e w2 ⟨rfl,rfl⟩
 go_wp2_with (fail)
 have Y1:Sy w.heap [b] (w.setCell ⟨b,1,none⟩ (.int .i32 1)).heap ([Ck.ob b 227 (rcO 0 1 .nilIface (.slice xA 6 xC))]++[]):=by
  rw[heap_setCell];exact Y0.stO 0 rfl 1 (.int .i32 1)
 have H1:Hp (w.setCell ⟨b,1,none⟩ (.int .i32 1)).heap [Ck.ob b 227 [.int .u32 0,.int .i32 1,.int .u32 0,.nilIface,.slice xA 6 xC],Ck.sl eS 9 xA 6 xC dS]:=by
  rw[heap_setCell];exact((Sy.start H).stO 0 rfl 1 (.int .i32 1)).hp
 refine(Cu H1 _ rfl).mono ?_
 rintro e w3 ⟨v,rfl,r3,rfl,q,cs,P,aT,cT,R3,Y3⟩
 have hb3:w3.heap[b]? =some (.cells (rcO 0 1 (.iface 320 (.pointer (some ⟨q,0,none⟩))) (.slice none 0 0)).toArray 227 (0,0)):=Y3.hp.ok 0 _ rfl
 have k0:w3.cell? ⟨b,0,none⟩=some (.int .u32 0):=by simp[World.cell?,hb3,rcO]
 have k1:w3.cell? ⟨b,1,none⟩=some (.int .i32 1):=by simp[World.cell?,hb3,rcO]
 have zz:∀o,w3.frozen? ⟨b,o,none⟩=false:=fun o=>by simp[World.frozen?,hb3]
 go_wp2_with (fail)
 refine leaves_cons (f:=282) (args:=#[.pointer (some ⟨b,0,none⟩),.bool true]) (by simp) (by simp[go_sem]) ?_
 refine(u5 ⟨b,0,none⟩ (.int .u32 0) .returning _ k0 (zz 0)).mono ?_
 rintro e u' w4 ⟨rfl,rfl,rfl⟩
 refine leaves_cons (f:=281) (args:=#[.pointer (some ⟨b,1,none⟩)]) (by simp[settle]) (by simp[go_sem]) ?_
 refine(tD ⟨b,1,none⟩ _ _ ?_ (by simp[zz])).mono ?_
 ·refine(World.cell?_setCell_other _ ⟨b,0,none⟩ ⟨b,1,none⟩ _ (by simp)).trans ?_
  rw[World.cell?_drew];exact k1
 rintro e u' w5 ⟨rfl,rfl,rfl⟩
 have Nv1:Nv (Ck.ob b 227 [.int .u32 0,.int .i32 1,.int .u32 0,.iface 320 (.pointer (some ⟨q,0,none⟩)),.slice none 0 0]::gv q 3 cs P aT cT):=by
  have:∀P:List RpE,Nv (P.map RpE.ck):=fun P=>by induction P with
   | nil=>trivial
   | cons p P ih=>exact⟨rfl,ih⟩
  exact⟨rfl,rfl,rfl,this P⟩
 have Y4:=Sy.call Y1 Y3 Nv1
 rw[List.append_nil]at Y4
 have Y5:=(Y4.stO 0 rfl 0 (.int .u32 1)).stO 0 rfl 1 (.int .i32 0)
 have h5:((w3.drew.setCell ⟨b,0,none⟩ (.int .u32 1)).setCell ⟨b,1,none⟩ (.int .i32 0)).heap=am (am w3.heap b 0 (.int .u32 1)) b 1 (.int .i32 0):=by
  rw[heap_setCell,heap_setCell];rfl
 have r5:Go.X.Rest w ((w3.drew.setCell ⟨b,0,none⟩ (.int .u32 1)).setCell ⟨b,1,none⟩ (.int .i32 0)):=((((Go.X.Rest.setCell w _ _).trans r3).trans (Go.X.Rest.drew w3)).trans (Go.X.Rest.setCell _ _ _)).trans (Go.X.Rest.setCell _ _ _)
 rw[<-h5]at Y5
 exact⟨_,results_none rfl _ _ _,rfl,r5,q,cs,P,aT,cT,R3,Y5⟩
theorem CJ {h:ab} (hc:ac h b 0=some (.int .u32 0)):ae Tryz.prog 221 #[.pointer (some ⟨b,0,none⟩)] h fun v h'=>v= .bool false/\h'=h:=
 fun w hw=>(sE ⟨b,0,none⟩ w (by subst hw;rw[aV];exact hc)).mono fun e w' ⟨h1,h2⟩=>⟨_,h1,by rw[h2];exact Go.X.Rest.refl w,rfl,by rw[h2,hw]⟩
def AL (b:Nat) (h:ab) (v:Value) (h':ab):Prop:=v= .tuple #[]/\∃q cs P aT cT,RpOK 3 cs P aT cT/\
 Sy h [b] h' (Ck.ob b 227 (rcO 1 0 (.iface 320 (.pointer (some ⟨q,0,none⟩))) (.slice none 0 0))::gv q 3 cs P aT cT)
theorem CK {h:ab} (H:Hp h [Ck.ob b 227 (rcO 0 0 .nilIface (.slice xA 6 xC)),Ck.sl eS 9 xA 6 xC dS]):ae Tryz.prog 222 #[.pointer (some ⟨b,0,none⟩),.func (.func 178) #[.pointer (some ⟨b,0,none⟩)] #[]] h (AL b h):=
 fun w hw=>by subst hw;exact(yi w H).mono fun e w' ⟨h1,h2,h3⟩=>⟨_,h1,h2,rfl,h3⟩
theorem CL {h:ab} (H:Hp h [Ck.ob b 227 (rcO 0 0 .nilIface (.slice xA 6 xC)),Ck.sl eS 9 xA 6 xC dS]):ae Tryz.prog 177 #[.pointer (some ⟨b,0,none⟩),.func (.func 178) #[.pointer (some ⟨b,0,none⟩)] #[]] h (AL b h):=by
 apply vg
 unfold C8
 refine⟨b,0,rfl,ak [] (CJ ((Sy.start H).cellO 0 rfl 0 rfl)) (by simp) (fun _ _ r=>r.2▸Fr.refl _ _) ?_⟩
 rintro v h1 ⟨rfl,rfl⟩
 refine⟨_,rfl,fun l h'=>l=[]/\AL b h1 (.tuple #[]) h',bG rfl ?_,fun h3 r=>r.2⟩
 refine ak [b] (CK H) (by simp) (fun _ _ r=>r.2.choose_spec.choose_spec.choose_spec.choose_spec.choose_spec.2.fr) ?_
 rintro v h2 r
 exact⟨r.1,rfl,rfl,r.2⟩
set_option maxHeartbeats 2000000 in
theorem CM {h:ab} {s:ByteArray} (H:Hp h [Ck.ob b 227 (rcO 0 0 .nilIface (.slice xA 6 xC)),Ck.sl eS 9 xA 6 xC dS]) (hs:s.size<=1000000):
  ae Tryz.prog 133 #[.pointer (some ⟨b,0,none⟩),.string s] h fun v h'=>v= .string (G.mkB (aJ s.data.toList))/\Fr [b] h h':=by
 intro w hw
 subst hw
 have hmf:∀(fn:Fn) (first cap:Array Value) (w:World),(Instr.makeFunc fn first cap).run Tryz.prog w= .ok (.func fn first cap) w:=fun _ _ _ _=>rfl
 have hm:∀(p:Addr) (w:World),(method 449 320 (.pointer (some p)) "Replace").run Tryz.prog w= .ok (410,.pointer (some p)) w:=fun _ _=>by kernel_rfl
 go_enter Tryz.func133,Tryz.ntmps133
 go_wp2_with (fail)
 refine(CL H _ rfl).mono ?_
 rintro e w1 ⟨v,rfl,r1,rfl,q,cs,P,aT,cT,R1,Y1⟩
 have hb1:w1.heap[b]? =some (.cells (rcO 1 0 (.iface 320 (.pointer (some ⟨q,0,none⟩))) (.slice none 0 0)).toArray 227 (0,0)):=Y1.hp.ok 0 _ rfl
 have k3:w1.cell? ⟨b,3,none⟩=some (.iface 320 (.pointer (some ⟨q,0,none⟩))):=by simp[World.cell?,hb1,rcO]
 go_wp2_with (fail)
 have H2:Hp w1.heap (gv q 3 cs P aT cT):=⟨fun k c hk=>Y1.hp.ok (k+1) c hk,fun i j c d hij hi hj=>Y1.hp.ap (i+1) (j+1) c d (by omega) hi hj⟩
 refine(CW H2 R1 hs _ rfl).mono ?_
 rintro e w2 ⟨v,rfl,r2,rfl,f2⟩
 go_wp2_with (fail)
 go_ret
 exact⟨_,rfl,r1.trans r2,rfl,Y1.fr.trans (f2.nil (M:=[b]))⟩
theorem CN {h:ab} {p:Nat} (Hm:Hp h [Ck.sl eS 9 (some ⟨p,0,none⟩) 6 6 dS]):ae Tryz.prog 132 #[.slice (some ⟨p,0,none⟩) 6 6] h fun v h'=>∃b xA xC,v= .pointer (some ⟨b,0,none⟩)/\h.size<=b/\
  Sy h [] h' [Ck.ob b 227 (rcO 0 0 .nilIface (.slice xA 6 xC)),Ck.sl eS 9 xA 6 xC dS]:=by
 apply vf
 unfold C7
 have Y0:Sy h [] h [Ck.sl eS 9 none 0 0 []]:=Sy.nilS (Sy.start (Hp.nil h)) eS 9
 refine⟨by decide,fun l h'=>h'=h,cq (by decide) rfl,?_⟩
 rintro _ rfl
 refine⟨_,(Sy.start Hm).readsS 0 rfl,(by intro z;cases z),fun v hv=>En.l_one _ v hv,_,Y0.ownS 0 rfl,by simp,by decide,by decide,fun sA sC h2 ow f g _=>?_⟩
 have Y2:=Y0.appS 0 rfl dS ow f g rfl rfl
 have le:=Y2.fr.size
 intro h3
 exact⟨_,sA,sC,rfl,le,(Y2.newO (ty:=227) (rcO 0 0 .nilIface (.slice sA 6 sC))).pick [1,0] rfl⟩
theorem EY {h:ab} {s:ByteArray} (hs:s.size<=1000000):ae Tryz.prog 90 #[.string s] h fun v h'=>v= .string (G.mkB (aJ s.data.toList))/\Fr [] h h':=by
 apply yo
 unfold S90
 intro h1
 have Y1:Sy h [] h1 [Ck.sl eS 9 (some ⟨h.size,0,none⟩) 6 6 dS]:=(Sy.start (Hp.nil h)).litS dS rfl (by decide)
 clear_value h1
 refine ak [] (CN Y1.hp) (by simp) (fun _ _ r=>r.choose_spec.choose_spec.choose_spec.2.2.fr) ?_
 rintro v h2 ⟨b,xA,xC,rfl,lb,Y2⟩
 refine⟨_,rfl,ak [b] (CM Y2.hp hs) (by simp) (fun _ _ r=>r.2) ?_⟩
 rintro v h3 ⟨rfl,f3⟩
 exact⟨_,rfl,rfl,Y1.fr.trans (((Y2.fr.nil (M:=[b])).trans f3).late fun x hx=>.inr (by rw[List.mem_singleton.1 hx];exact lb))⟩
theorem CO {gl:GL} {x:ByteArray} (hx:x.size<=256):uX gl (fun x=>aJ x.data.toList) x:=
 by
 have h1:=(iU x.data.toList).2
 have h2:x.data.toList.length=x.size:=rfl
 exact⟨fun h _=>EY (by omega),by show(aJ x.data.toList).length<=_;omega⟩
theorem u7 {n:Int} {es:Es} {ls:List ByteArray} {ss:List (Nat × Nat)} {ws:List Nat} (q:du n es ls ss ws=true) {x:ByteArray} (hx:x∈ls):x.size<=256:=by
 unfold du at q
 simp only[Bool.and_eq_true]at q
 have:=List.all_eq_true.1 q.2.2.2.2 x hx
 unfold jh at this
 grind
end
section
variable {gl:GL} {h:ab} {a:MD} {s:MDs}
set_option maxHeartbeats 2000000 in
theorem tB (Hm:Hp h (Ck.glob gl::a.vw s)) (hls:∀x∈a.ls,x.size<=9223372036854775807) (hss:∀p∈a.ss,p.1<18446744073709551616/\p.2<18446744073709551616) (hws:∀x∈a.ws,x<18446744073709551616):
  ae Tryz.prog 12 #[a.v s] h fun v h'=>v= .bool true/\Fr [] h h':=by
 apply yK
 unfold S12
 intro h1
 have Y1:Sy h [] h1 (Ck.glob gl::a.vw s):=(Sy.startM Hm rfl).gr (Fr.push h _)
 clear_value h1
 refine ak [] (hdX (Y1.ok (k:=0) (c:=Ck.glob gl) rfl)) (by simp) (fun _ _ r=>r.2) ?_
 rintro v h2 ⟨rfl,f2⟩
 have Y2:=Y1.gr f2
 refine⟨_,rfl,cq rfl ?_⟩
 refine ak (R:=fun v h'=>(∃r,v= .bool r/\(r=true->a.es.length<=300/\a.ls.length<=2000/\a.ss.length<=2000/\a.ws.length<=4000))/\Fr [] h2 h') [] ?_ (by simp) (fun _ _ r=>r.2) ?_
 ·exact(Cf (n:=a.n) (es:=a.es) (dr:=a.dir) (ls:=a.ls) (ss:=a.ss) (ws:=a.ws) (R:=fun r=>r=true->a.es.length<=300/\a.ls.length<=2000/\a.ss.length<=2000/\a.ws.length<=4000) (fun _ hb=>hb) h2 _ _ _ _ _ _ _ _ _ _ _ _ (Y2.pick [1,2,3,4] rfl).hp).mono fun v h' ⟨r,Y,e,q⟩=>⟨⟨r,e,q⟩,Y.fr⟩
 rintro v h3 ⟨⟨r,rfl,ha⟩,f3⟩
 have Y3:=Y2.gr f3
 refine⟨_,rfl,bw (fun q=>⟨rfl,Y3.fr⟩) fun q=>?_⟩
 obtain⟨a1,a2,a3,a4⟩:=ha q
 have ht:∀p∈a.ss,TxB gl txM p.1/\TxB gl txM p.2:=fun p hp=>⟨qT (hss p hp).1,qT (hss p hp).2⟩
 have htw:∀x∈a.ws,TxB gl txM x:=fun x hx=>qT (hws x hx)
 have dv:∀{h':ab},Sy h [] h' (Ck.glob gl::a.vw s)->Hp h' (dV gl s.aE s.nE s.cE a.es s.aL s.nL s.cL a.ls s.aS s.nS s.cS a.ss s.aW s.nW s.cW a.ws):=fun Y=>Y.hp
 refine ak [] (C4 (tx:=txM) (esc:=nn) (n:=a.n) (dir:=a.dir) (dv Y3) hls (by omega) (fun q2 x hx=>CO (u7 q2 hx)) (fun p hp=>⟨(ht p hp).1.1,(ht p hp).2.1⟩) fun x hx=>(htw x hx).1) (by simp) (fun _ _ r=>r.2) ?_
 rintro v h4 ⟨rfl,f4⟩
 have Y4:=Y3.gr f4
 refine⟨_,_,rfl,?_⟩
 refine ak [] (E2 (tx:=txM) (n:=a.n) (dir:=a.dir) (dv Y4) (by omega) ht htw) (by simp) (fun _ _ r=>r.2) ?_
 rintro v h5 ⟨rfl,f5⟩
 have Y5:=Y4.gr f5
 exact⟨_,_,rfl,bG (beq_self_eq_true _) ⟨by rw[beq_self_eq_true],Y5.fr⟩⟩
end
end Go.Proofs.YtlflalecmhgmjaaGreatDoor.N
