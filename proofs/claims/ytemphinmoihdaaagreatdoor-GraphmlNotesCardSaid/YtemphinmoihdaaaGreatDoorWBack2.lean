/- Checks of the shortest digits, exponent by exponent. Conditions: none. -/
import Derived.Test.YtemphinmoihdaaaGreatDoorWAtofIn
import Derived.Test.YtemphinmoihdaaaGreatDoorQEscL
import Derived.Test.YtemphinmoihdaaaGreatDoorWMono
set_option linter.unusedVariables false
set_option linter.unusedSimpArgs false
namespace Go.Proofs.YtemphinmoihdaaaGreatDoor.N
open Go.X Go.Proofs.YtemphinmoihdaaaGreatDoor
set_option maxRecDepth 100000
set_option maxHeartbeats 1000000
def okL (f:Int->Int) (k:Nat):Bool:=let e:=(k:Int)-1074;decide (0<=e+l2 (-f e))&&decide (e+l2 (-f e)<=3)
theorem HD :((List.range 2046).all (okL l10))=true:=by kernel_rfl
theorem HE :((List.range 2046).all (okL skw))=true:=by kernel_rfl
theorem KL {e:Int} (h1: -1074<=e) (h2:e<=971):0<=e+l2 (-l10 e)/\e+l2 (-l10 e)<=3:=by
 have:=List.all_eq_true.1 HD (e+1074).toNat (List.mem_range.2 Qz)
 simp only[okL,Bool.and_eq_true,decide_eq_true_eq]at this
 rwa[show(((e+1074).toNat:Nat):Int)-1074=e by omega]at this
theorem KM {e:Int} (h1: -1074<=e) (h2:e<=971):0<=e+l2 (-skw e)/\e+l2 (-skw e)<=3:=by
 have:=List.all_eq_true.1 HE (e+1074).toNat (List.mem_range.2 Qz)
 simp only[okL,Bool.and_eq_true,decide_eq_true_eq]at this
 rwa[show(((e+1074).toNat:Nat):Int)-1074=e by omega]at this
def ckS (h l:Nat) (p:Int):Bool:=(List.range 6).all fun k=>
 let e:=l2 (-p)+(k:Int)
 if skw e= -p then
  let s:=((-(e-11+l2 p+3)) % 64).toNat
  let dn:=(usc 9223372036854775296 h l s+0+3) % 18446744073709551616/4
  let dx:=(usc 9223372036854776832 h l s+18446744073709551616-0) % 18446744073709551616/4
  if dn<dx then(if dn<=dx/10*10 then true else decide (dn<=rnd (usc 9223372036854775808 h l s)))else true
 else true
theorem KN :ckL ckS Go.Pinned.pow10Rows 0=true:=by kernel_rfl
theorem HF :ckL (fun _ _ p=>ckN 18014398509481984 124 56 p) Go.Pinned.pow10Rows 0=true:=by kernel_rfl
def okB (k:Nat):Bool:=
 let e:=(k:Int)-1074
 decide (10^(-(-l10 e)).toNat*W 0<=W e*10^(-l10 e).toNat)&&decide (4*(10^(-(-skw e)).toNat*W 0)<=3*(W e*10^(-skw e).toNat))&&decide (l2 (skw e)<=e)&&decide (e<=l2 (skw e)+5)
theorem HG :((List.range 2046).all okB)=true:=by kernel_rfl
theorem KO {e:Int} (h1: -1074<=e) (h2:e<=971):aJ (-l10 e)*W 0<=W e*ten (-l10 e)/\4*(aJ (-skw e)*W 0)<=3*(W e*ten (-skw e))/\l2 (skw e)<=e/\e<=l2 (skw e)+5:=by
 have:=List.all_eq_true.1 HG (e+1074).toNat (List.mem_range.2 Qz)
 simp only[okB,Bool.and_eq_true,decide_eq_true_eq]at this
 rw[show(((e+1074).toNat:Nat):Int)-1074=e by omega]at this
 exact⟨this.1.1.1,this.1.1.2,this.1.2,this.2⟩
end Go.Proofs.YtemphinmoihdaaaGreatDoor.N
/- The shortest digits lie where they are rounded back. Conditions: none. -/
namespace Go.Proofs.YtemphinmoihdaaaGreatDoor.N
open Go.X Go.Proofs.YtemphinmoihdaaaGreatDoor
set_option maxRecDepth 100000
set_option maxHeartbeats 1000000
theorem In.scale {Y d Y' d' M:Nat} {e:Int} (hd:0<d) (h:In Y d M e) (hY:Y*d'=Y'*d) (hd':0<d'):In Y' d' M e:=by
 obtain⟨a1,a2,a3,a4,a5,a6,a7,a8⟩:=h
 have le1:∀c,Y<=c*(W e*d)->Y'<=c*(W e*d'):=fun c hc=>by
  refine Nat.le_of_mul_le_mul_right (c:=d) ?_ hd
  rw[<-hY]
  calc Y*d'<=c*(W e*d)*d':=Nat.mul_le_mul_right _ hc
   _=_:=by ac_rfl
 have lt1:∀c,Y<c*(W e*d)->Y'<c*(W e*d'):=fun c hc=>by
  refine Nat.lt_of_mul_lt_mul_right (a:=d) ?_
  rw[<-hY]
  calc Y*d'<c*(W e*d)*d':=Nat.mul_lt_mul_of_pos_right hc hd'
   _=_:=by ac_rfl
 have le2:∀c k,c*(W e*d)<=Y+k*(W e*d)->c*(W e*d')<=Y'+k*(W e*d'):=fun c k hc=>by
  refine Nat.le_of_mul_le_mul_right (c:=d) ?_ hd
  rw[Nat.add_mul,<-hY]
  calc c*(W e*d')*d=c*(W e*d)*d':=by ac_rfl
   _<=(Y+k*(W e*d))*d':=Nat.mul_le_mul_right _ hc
   _=Y*d'+k*(W e*d)*d':=Nat.add_mul _ _ _
   _=_:=by congr 1;ac_rfl
 have lt2:∀c k,c*(W e*d)<Y+k*(W e*d)->c*(W e*d')<Y'+k*(W e*d'):=fun c k hc=>by
  refine Nat.lt_of_mul_lt_mul_right (a:=d) ?_
  rw[Nat.add_mul,<-hY]
  calc c*(W e*d')*d=c*(W e*d)*d':=by ac_rfl
   _<(Y+k*(W e*d))*d':=Nat.mul_lt_mul_of_pos_right hc hd'
   _=Y*d'+k*(W e*d)*d':=Nat.add_mul _ _ _
   _=_:=by congr 1;ac_rfl
 refine⟨a1,a2,a3,le1 _ a4,fun h=>lt1 _ (a5 h),le2 _ 2 a6,fun h=>lt2 _ 2 (a7 h),fun h1 h2=>?_⟩
 have:=le2 (4*M) 1 Qz
 omega
theorem HH {x hi lo s:Nat} (hx:x<18446744073709551616) (hh:hi<18446744073709551616) (hs:2<=s):usc x hi lo s<4611686018427387904:=by
 have hd:=lq hx hh
 have h4:4<=2^s:=Nat.pow_le_pow_right (n:=2) QA hs
 unfold usc
 simp only[]
 have e:(4611686018427387904:Nat)=2^62:=by decide
 have hq:∀a:Nat,a<18446744073709551616->a/2^s<2^62:=fun a ha=>by
  refine Nat.div_lt_of_lt_mul ?_
  omega
 rw[e]
 split
 ·exact Nat.or_lt_two_pow (hq _ (Nat.mod_lt _ QA)) (by split<;>decide)
 ·exact Nat.or_lt_two_pow (hq _ hd) QA
theorem qh {y w s mo tol X g:Nat} {p ev:Int} (h1: -348<=p) (h2:p<=347) (hok:ckN X mo tol p=true) (x0:0<y) (x1:y<=X) (hx:y*2^w<18446744073709551616) (m1:mo+w<=128+s) (m2:65<=w+tol)
  (hs:(s:Int)= -(ev+l2 p+3)) (hs2:s<64) (hs3:2<=s) (hg:(g:Int)=ev+w+1076):scl (y*2^w) ev p=uex (y*ten p*2^g) (aJ p*W 0)/\scl (y*2^w) ev p<4611686018427387904:=by
 have es:((-(ev+l2 p+3)) % 64).toNat=s:=by omega
 unfold scl
 rw[es]
 refine⟨?_,HH hx (ru h1 h2) hs3⟩
 rw[D7 h1 h2 hok x0 x1 hx m1 m2]
 refine EF (yZ s p) (Nat.mul_pos (fR p) (fT 0)) ?_
 have:(2:Nat)^w*2^(127-l2 p).toNat*2^((0:Int)+1074).toNat=2^g*2^64*2^s*2^64*2^(l2 p-127).toNat:=by
  simp only[<-Nat.pow_add];congr 1;omega
 rw[Ax,Dn,wV,OD,pD]
 generalize (127-l2 p).toNat=k2 at*
 generalize ((0:Int)+1074).toNat=k4 at*
 generalize (l2 p-127).toNat=k5 at*
 calc y*2^w*(ten p*2^k2)*(aJ p*2^k4)=y*ten p*aJ p*(2^w*2^k2*2^k4):=by ac_rfl
  _=y*ten p*aJ p*(2^g*2^64*2^s*2^64*2^k5):=by rw[this]
  _=_:=by ac_rfl
theorem OJ {U N T D o:Nat} (hT:0<T) (hU:U=uex N T) (ho:o<=1) (hD:4*D+o<=U):4*D*T<=N/\(o=1->4*D*T<N):=by
 have hc:=gD (N:=N) hT
 rw[<-hU]at hc
 rcases hc with h | ⟨h1,h2,_⟩
 ·rw[<-h]
  refine⟨Nat.mul_le_mul_right _ Qz,fun h=>Nat.mul_lt_mul_of_pos_right Qz hT⟩
 ·have:=Nat.mul_le_mul_right T (show 4*D<=U-1 by omega)
  omega
theorem OL {U N T D o:Nat} (hT:0<T) (hU:U=uex N T) (ho:o<=1) (hD:U+o<=4*D):N<=4*D*T/\(o=1->N<4*D*T):=by
 have hc:=gD (N:=N) hT
 rw[<-hU]at hc
 rcases hc with h | ⟨h1,_,h2⟩
 ·rw[<-h]
  refine⟨Nat.mul_le_mul_right _ Qz,fun h=>Nat.mul_lt_mul_of_pos_right Qz hT⟩
 ·have:=Nat.mul_le_mul_right T (show U+1<=4*D by omega)
  omega
structure Sh (m:Nat) (ev:Int):Prop where
 B:0<W (ev+zOf ev)*ten (shP m ev)
 T:0<aJ (shP m ev)*W 0
 mx:scl (dZ m ev) ev (shP m ev)=uex ((2*(m/2^zOf ev)+1)*(2*(W (ev+zOf ev)*ten (shP m ev)))) (aJ (shP m ev)*W 0)
 md:scl m ev (shP m ev)=uex (2*(m/2^zOf ev)*(2*(W (ev+zOf ev)*ten (shP m ev)))) (aJ (shP m ev)*W 0)
 mn:∃k,(k=1\/k=2)/\(shA m ev=true->k=1)/\(shA m ev=false->k=2)/\∃N,N+k*(W (ev+zOf ev)*ten (shP m ev))=4*(m/2^zOf ev)*(W (ev+zOf ev)*ten (shP m ev))/\scl (dH m ev) ev (shP m ev)=uex N (aJ (shP m ev)*W 0)
 lx:scl (dZ m ev) ev (shP m ev)<4611686018427387904
 ln:scl (dH m ev) ev (shP m ev)<4611686018427387904
 ld:scl m ev (shP m ev)<4611686018427387904
 sm:W (ev+zOf ev)*ten (shP m ev)<16*(aJ (shP m ev)*W 0)
theorem OM {m:Nat} {ev:Int} (h:Mt m ev):Sh m ev:=by
 obtain⟨z1,z2⟩:=h.z
 obtain⟨hp1,hp2⟩:=h.p
 have htop:=h.top
 obtain⟨hh1,hh2,hh3⟩:=h.half
 have hlo:=h.lo;have hhi:=h.hi;have he0:=h.e0;have he1:=h.e1
 have hal:=h.al
 have hez: -1074<=ev+zOf ev/\ev+zOf ev<=971:=by unfold zOf;split<;>omega
 have hsum:0<=ev+zOf ev+l2 (shP m ev)/\ev+zOf ev+l2 (shP m ev)<=3:=by
  unfold shP
  by_cases hA:shA m ev=true
  ·rw[if_pos hA]
   simp only[shA,Bool.and_eq_true,decide_eq_true_eq]at hA
   have hz:(zOf ev:Int)=11:=by unfold zOf;grind
   rw[hz]
   exact KM Qz Qz
  ·rw[if_neg hA]
   exact KL hez.1 hez.2
 generalize hp:shP m ev=p at*
 obtain⟨s,hs⟩:∃s:Nat,(s:Int)= -(ev+l2 p+3):=⟨(-(ev+l2 p+3)).toNat,Qz⟩
 have hs1:5<=s:=by omega
 have hs2:s<64:=by omega
 have hsw:zOf ev<=s+6:=by omega
 have hM:m=m/2^zOf ev*2^zOf ev:=by
  grind [Nat.div_add_mod]
 have hMlt:m/2^zOf ev<9007199254740992:=by
  refine Nat.div_lt_of_lt_mul ?_
  omega
 have hM0:0<m/2^zOf ev:=Nat.div_pos Qz (Nat.two_pow_pos _)
 generalize hMM:m/2^zOf ev=M at*
 obtain⟨w,hw⟩:∃w,zOf ev=w+1:=⟨zOf ev-1,Qz⟩
 have h2w:2^zOf ev=2*2^w:=by grind
 have hw1:2^(zOf ev-1)=2^w:=by rw[hw];rfl
 have ckS1:=rl H8 hp1 hp2
 have ckW1:=rl HF hp1 hp2
 have eg:((ev+zOf ev+1075).toNat:Int)=ev+w+1076:=by omega
 have hW2:2^(ev+zOf ev+1075).toNat=2*W (ev+zOf ev):=by
  rw[pD,Nat.mul_comm,<-Nat.pow_succ];congr 1;omega
 have eN:∀y,y*ten p*2^(ev+zOf ev+1075).toNat=y*(2*(W (ev+zOf ev)*ten p)):=fun y=>by grind
 have emax:dZ m ev=(2*M+1)*2^w:=by
  unfold dZ
  grind
 have emid:m=2*M*2^w:=by
  grind
 have hmaxlt:(2*M+1)*2^w<18446744073709551616:=by
  grind
 have hmidlt:2*M*2^w<18446744073709551616:=by omega
 have hmx:=qh (y:=2*M+1) (w:=w) (s:=s) (ev:=ev) hp1 hp2 ckS1 Qz Qz hmaxlt Qz Qz hs hs2 Qz eg
 have hmd:=qh (y:=2*M) (w:=w) (s:=s) (ev:=ev) hp1 hp2 ckS1 Qz Qz hmidlt Qz Qz hs hs2 Qz eg
 rw[eN,<-emax]at hmx
 rw[eN,<-emid]at hmd
 have hmn:∃k,(k=1\/k=2)/\(shA m ev=true->k=1)/\(shA m ev=false->k=2)/\∃N,N+k*(W (ev+zOf ev)*ten p)=4*M*(W (ev+zOf ev)*ten p)/\scl (dH m ev) ev p=uex N (aJ p*W 0)/\scl (dH m ev) ev p<4611686018427387904:=by
  by_cases hA:shA m ev=true
  ·refine⟨1,.inl rfl,fun _=>rfl,fun h=>absurd (hA.symm.trans h) QA,?_⟩
   have hA2:=hA
   simp only[shA,Bool.and_eq_true,decide_eq_true_eq]at hA2
   have hz:zOf ev=11:=by unfold zOf;grind
   have hM52:M=4503599627370496:=by
    grind
   have emin:dH m ev=18014398509481983*2^9:=by
    unfold dH;grind
   have hmn:=qh (y:=18014398509481983) (w:=9) (s:=s) (ev:=ev) (g:=(ev+zOf ev+1074).toNat) hp1 hp2 ckW1 QA QA QA Qz Qz hs hs2 Qz Qz
   grind [pD]
  ·have hA':shA m ev=false:=by simpa using hA
   refine⟨2,.inr rfl,fun h=>absurd h hA,fun _=>rfl,?_⟩
   have emin:dH m ev=(2*M-1)*2^w:=by
    unfold dH
    rw[if_neg hA,hw1,Nat.sub_mul,Nat.one_mul]
    omega
   have hlt:(2*M-1)*2^w<18446744073709551616:=by
    have:=Nat.mul_le_mul_right (2^w) (show 2*M-1<=2*M by omega)
    omega
   have hmn:=qh (y:=2*M-1) (w:=w) (s:=s) (ev:=ev) hp1 hp2 ckS1 Qz Qz hlt Qz Qz hs hs2 Qz eg
   rw[eN,<-emin]at hmn
   refine⟨_,?_,hmn.1,hmn.2⟩
   rw[Nat.mul_left_comm,<-Nat.mul_assoc,<-Nat.add_mul];congr 1;omega
 obtain⟨k,k1,k2,k3,N,k4,k5,k6⟩:=hmn
 have hsm:W (ev+zOf ev)*ten p<16*(aJ p*W 0):=by
  have P:=(qO hp1 hp2).hi
  rw[Ax,wV]at P
  have P2:ten p*2^(127-l2 p).toNat<2^128*(aJ p*2^(l2 p-127).toNat):=Nat.lt_of_lt_of_le P (Nat.mul_le_mul_right _ QA)
  have e1:(2:Nat)^128*2^(l2 p-127).toNat*W (ev+zOf ev)<=16*W 0*2^(127-l2 p).toNat:=by
   rw[show(16:Nat)=2^4 by decide,pD,pD,<-Nat.pow_add,<-Nat.pow_add,<-Nat.pow_add,<-Nat.pow_add]
   exact Nat.pow_le_pow_right QA Qz
  refine Nat.lt_of_mul_lt_mul_right (a:=2^(127-l2 p).toNat) ?_
  calc W (ev+zOf ev)*ten p*2^(127-l2 p).toNat=ten p*2^(127-l2 p).toNat*W (ev+zOf ev):=by ac_rfl
   _<2^128*(aJ p*2^(l2 p-127).toNat)*W (ev+zOf ev):=Nat.mul_lt_mul_of_pos_right P2 (fT _)
   _=aJ p*(2^128*2^(l2 p-127).toNat*W (ev+zOf ev)):=by ac_rfl
   _<=aJ p*(16*W 0*2^(127-l2 p).toNat):=Nat.mul_le_mul_left _ e1
   _=_:=by ac_rfl
 subst hp
 rw[<-hMM]at hmx hmd k4
 exact⟨Nat.mul_pos (fT _) (Aw _),Nat.mul_pos (fR _) (fT 0),hmx.1,hmd.1,⟨k,k1,k2,k3,N,k4,k5⟩,hmx.2,k6,hmd.2,hsm⟩
end Go.Proofs.YtemphinmoihdaaaGreatDoor.N
/- The shortest digits are rounded back to their float. Conditions: none. -/
namespace Go.Proofs.YtemphinmoihdaaaGreatDoor.N
open Go.X Go.Proofs.YtemphinmoihdaaaGreatDoor
set_option maxRecDepth 100000
set_option maxHeartbeats 1000000
theorem HI {U N T D o:Nat} (hT:0<T) (hU:U=uex N T) (ho:o<=1) (h:4*D*T<=N) (h1:o=1->4*D*T<N):4*D+o<=U:=by
 have hc:=gD (N:=N) hT
 rw[<-hU]at hc
 apply Nat.le_of_not_lt
 intro hlt
 rcases hc with k | ⟨k1,k2,k3⟩
 ·by_cases h0:o=1
  ·have:=Nat.mul_le_mul_right T (show U<=4*D by omega)
   omega
  ·have:=Nat.mul_le_mul_right T (show U+1<=4*D by omega)
   grind
 ·have:=Nat.mul_le_mul_right T (show U+1<=4*D by omega)
  omega
theorem HJ {U N T D o:Nat} (hT:0<T) (hU:U=uex N T) (ho:o<=1) (h:N<=4*D*T) (h1:o=1->N<4*D*T):U+o<=4*D:=by
 have hc:=gD (N:=N) hT
 rw[<-hU]at hc
 apply Nat.le_of_not_lt
 intro hlt
 rcases hc with k | ⟨k1,k2,k3⟩
 ·by_cases h0:o=1
  ·have:=Nat.mul_le_mul_right T (show 4*D<=U by omega)
   omega
  ·have:=Nat.mul_le_mul_right T (show 4*D+1<=U by omega)
   grind
 ·have:=Nat.mul_le_mul_right T (show 4*D<=U-1 by omega)
  omega
theorem tW (d T:Nat):4*(d+1)*T=4*d*T+4*T:=by grind
theorem HK (p:Int):ten (-p)=aJ p:=rfl
theorem Ee (p:Int):aJ (-p)=ten p:=by unfold aJ ten;grind
theorem Ef {m:Nat} {ev:Int} (h:Mt m ev):
  In (4*((short m ev).1*ten (short m ev).2)*W 0) (aJ (short m ev).2) (m/2^zOf ev) (ev+zOf ev)/\(short m ev).1<144115188075855872/\0<(short m ev).1:=by
 have S:=OM h
 obtain⟨z1,z2⟩:=h.z
 obtain⟨hp1,hp2⟩:=h.p
 have hlo:=h.lo;have hhi:=h.hi;have he0:=h.e0;have he1:=h.e1;have hal:=h.al
 have hez: -1074<=ev+zOf ev/\ev+zOf ev<=971:=by unfold zOf;split<;>omega
 have hM:m=m/2^zOf ev*2^zOf ev:=by
  grind [Nat.div_add_mod]
 have hMlt:m/2^zOf ev<9007199254740992:=by
  refine Nat.div_lt_of_lt_mul ?_
  have:2^11<=2^zOf ev:=Nat.pow_le_pow_right QA z1
  omega
 have hM0:0<m/2^zOf ev:=by
  grind
 have hz11:ev+zOf ev≠ -1074->zOf ev=11:=by
  intro hne;unfold zOf at hne ⊢;grind
 have hmn52:ev+zOf ev= -1074\/4503599627370496<=m/2^zOf ev:=by
  grind
 have hspec:m/2^zOf ev=4503599627370496->ev+zOf ev≠ -1074->shA m ev=true:=by
  intro h1 h2
  rw[h1]at hM
  have hz:=hz11 h2
  rw[hz]at hM h2
  unfold shA
  grind
 obtain⟨k,k1,k2,k3,N,k4,k5⟩:=S.mn
 have hT:=S.T;have hB:=S.B;have hsm:=S.sm
 have emx:=S.mx;have emd:=S.md
 have lx:=S.lx;have ln:=S.ln;have ld:=S.ld
 have hok:=KO hez.1 hez.2
 have hBT:(k=2->aJ (shP m ev)*W 0<=W (ev+zOf ev)*ten (shP m ev))/\(k=1->4*(aJ (shP m ev)*W 0)<=3*(W (ev+zOf ev)*ten (shP m ev))):=by
  refine⟨fun hk=>?_,fun hk=>?_⟩
  ·have hA:shA m ev=false:=by
    grind
   have e:shP m ev= -l10 (ev+zOf ev):=by unfold shP;rw[hA];rfl
   rw[e];exact hok.1
  ·have hA:shA m ev=true:=by
    grind
   have hA2:=hA
   simp only[shA,Bool.and_eq_true,decide_eq_true_eq]at hA2
   have hz:zOf ev=11:=by omega
   have e:shP m ev= -skw (ev+zOf ev):=by unfold shP;grind
   rw[e];exact hok.2.1
 have hodd1:k=1->m/2^zOf ev % 2=0:=by
  intro hk
  have hA:shA m ev=true:=by
   grind
  have hA2:=hA
  simp only[shA,Bool.and_eq_true,decide_eq_true_eq]at hA2
  grind
 have hq1:k=1->fV m ev<cq m ev->¬fV m ev<=cq m ev/10*10->fV m ev<=rnd (scl m ev (shP m ev)):=by
  intro hk g1 g2
  have hA:shA m ev=true:=by
   grind
  have hA2:=hA
  simp only[shA,Bool.and_eq_true,decide_eq_true_eq]at hA2
  have hz:zOf ev=11:=by omega
  have e:shP m ev= -skw (ev+11):=by unfold shP;rw[hA];rfl
  have hcs:=rl KN hp1 hp2
  unfold ckS at hcs
  have hz2:(zOf ev:Int)=11:=by rw[hz];rfl
  rw[hz2]at hok
  have hkk:=List.all_eq_true.1 hcs (ev+11-l2 (-shP m ev)).toNat (List.mem_range.2 (by rw[e,Int.neg_neg];omega))
  have ee:l2 (-shP m ev)+(((ev+11-l2 (-shP m ev)).toNat:Nat):Int)=ev+11:=by rw[e,Int.neg_neg];omega
  simp only[ee]at hkk
  rw[if_pos Qz]at hkk
  have o0:gU m ev=0:=by unfold gU;rw[hz];omega
  have xm:dH m ev=9223372036854775296:=by unfold dH;grind
  have xM:dZ m ev=9223372036854776832:=by unfold dZ;rw[hz];omega
  have es:ev+11-11+l2 (shP m ev)+3=ev+l2 (shP m ev)+3:=by omega
  rw[es]at hkk
  have c1:(usc 9223372036854775296 (hiP (shP m ev)) (loP (shP m ev)) (-(ev+l2 (shP m ev)+3) % 64).toNat+0+3) % 18446744073709551616/4=fV m ev:=by
   unfold fV scl;rw[o0,xm]
  have c2:(usc 9223372036854776832 (hiP (shP m ev)) (loP (shP m ev)) (-(ev+l2 (shP m ev)+3) % 64).toNat+18446744073709551616-0) % 18446744073709551616/4=cq m ev:=by
   unfold cq scl;rw[o0,xM]
  have c3:usc 9223372036854775808 (hiP (shP m ev)) (loP (shP m ev)) (-(ev+l2 (shP m ev)+3) % 64).toNat=scl m ev (shP m ev):=by
   unfold scl;rw[hA2.1]
  rw[c1,c2,c3,if_pos g1,if_neg g2]at hkk
  grind
 have ho:gU m ev=m/2^zOf ev % 2:=rfl
 generalize hMM:m/2^zOf ev=M at*
 generalize hp:shP m ev=p at*
 generalize hBB:W (ev+zOf ev)*ten p=B at*
 have hTB:0<aJ p*W 0:=hT
 generalize hTT:aJ p*W 0=T at*
 have hdx:cq m ev=(scl (dZ m ev) ev p+18446744073709551616-M % 2) % 18446744073709551616/4:=by unfold cq;rw[ho,hp]
 have hdn:fV m ev=(scl (dH m ev) ev p+M % 2+3) % 18446744073709551616/4:=by unfold fV;rw[ho,hp]
 have hux1:1<=scl (dZ m ev) ev p:=by
  apply Nat.succ_le_of_lt
  apply Nat.pos_of_ne_zero
  grind [gD]
 generalize scl (dZ m ev) ev p=ux at*
 generalize scl (dH m ev) ev p=un at*
 have hdx2:∀D,D<=cq m ev ↔ 4*D+M % 2<=ux:=fun D=>by rw[hdx];omega
 have hdn2:∀D,fV m ev<=D ↔ un+M % 2<=4*D:=fun D=>by rw[hdn];omega
 have eMx:(2*M+1)*(2*B)=4*M*B+2*B:=by
  grind
 have eMd:2*M*(2*B)=4*M*B:=by
  grind
 rw[eMx]at emx
 rw[eMd]at emd
 have o1:M % 2<=1:=by omega
 have U1:∀D,D<=cq m ev->4*D*T<=4*M*B+2*B/\(M % 2=1->4*D*T<4*M*B+2*B):=fun D hD=>OJ hT emx o1 ((hdx2 D).1 hD)
 have L1:∀D,fV m ev<=D->4*M*B<=4*D*T+k*B/\(M % 2=1->4*M*B<4*D*T+k*B):=fun D hD=>by
  have:=OL hT k5 o1 ((hdn2 D).1 hD)
  omega
 have hkB:k*B<=2*B:=Nat.mul_le_mul_right _ Qz
 have mk:∀D,(4*D*T<=4*M*B+2*B)->(M % 2=1->4*D*T<4*M*B+2*B)->(4*M*B<=4*D*T+2*B)->(M % 2=1->4*M*B<4*D*T+2*B)->(k=1->4*M*B<=4*D*T+B)->In (4*D*T) (ten p) M (ev+zOf ev):=by
  intro D a1 a2 a3 a4 a5
  have e1:(4*M+2)*B=4*M*B+2*B:=Nat.add_mul _ _ _
  refine⟨hez.1,hMlt,hmn52,?_,fun h=>?_,?_,fun h=>?_,fun h1 h2=>?_⟩
  ·rw[hBB,e1];exact a1
  ·rw[hBB,e1];exact a2 h
  ·rw[hBB];exact a3
  ·rw[hBB];exact a4 h
  ·rw[hBB];grind
 have CA:∀D,fV m ev<=D->D<=cq m ev->In (4*D*T) (ten p) M (ev+zOf ev):=fun D d1 d2=>by
  obtain⟨a1,a2⟩:=U1 D d2
  obtain⟨b1,b2⟩:=L1 D d1
  exact mk D a1 a2 Qz (fun h=>by omega) (fun hk=>by grind)
 have fit:∀D,In (4*D*T) (ten p) M (ev+zOf ev)->In (4*(D*ten (-p))*W 0) (aJ (-p)) M (ev+zOf ev):=fun D hI=>by
  rw[HK,Ee]
  have:4*(D*aJ p)*W 0=4*D*T:=by grind
  grind
 have small:∀D,4*D*T<=4*M*B+2*B->D<144115188075855872:=fun D hD=>by
  have h1:(4*M+2)*B<=36028797018963966*B:=Nat.mul_le_mul_right _ Qz
  rw[Nat.add_mul]at h1
  apply Nat.lt_of_not_le
  intro hge
  have h2:4*144115188075855872*T<=4*D*T:=Nat.mul_le_mul_right _ Qz
  omega
 have posD:∀D,4*M*B<=4*D*T+2*B->0<D:=fun D hD=>by
  apply Nat.pos_of_ne_zero
  rintro rfl
  have:4*1*B<=4*M*B:=Nat.mul_le_mul_right _ Qz
  omega
 have hne:fV m ev<=cq m ev:=by
  apply Nat.le_of_not_lt
  intro hlt
  have q1:¬fV m ev<=cq m ev:=by omega
  have q2:¬cq m ev+1<=cq m ev:=by omega
  have r1:¬(N<=4*(cq m ev)*T/\(M % 2=1->N<4*(cq m ev)*T)):=fun hh=>q1 ((hdn2 _).2 (HJ hT k5 o1 hh.1 hh.2))
  have r2:¬(4*(cq m ev+1)*T<=4*M*B+2*B/\(M % 2=1->4*(cq m ev+1)*T<4*M*B+2*B)):=fun hh=>q2 ((hdx2 _).2 (HI hT emx o1 hh.1 hh.2))
  have e1:4*(cq m ev+1)*T=4*cq m ev*T+4*T:=tW _ _
  rw[e1]at r2
  rcases k1 with hk | hk
  ·have hodd:=hodd1 hk
   have:=hBT.2 hk
   rw[hk,Nat.one_mul]at k4
   omega
  ·have hbt:=hBT.1 hk
   rw[hk]at k4
   by_cases ho1:M % 2=1
   ·have s1:4*cq m ev*T<=N:=by
     omega
    have s2:4*M*B+2*B<=4*cq m ev*T+4*T:=by
     omega
    have hTB2:T=B:=by omega
    rw[hTB2]at s1 s2
    have s3:4*M*B=(4*cq m ev+2)*B:=by rw[Nat.add_mul];omega
    have:=Nat.eq_of_mul_eq_mul_right hB s3
    omega
   omega
 unfold short
 rw[hp]
 by_cases c1:fV m ev<=cq m ev/10*10
 ·rw[if_pos c1]
  have hle:cq m ev/10*10<=cq m ev:=Nat.div_mul_le_self _ _
  have hI:=CA _ c1 hle
  refine⟨?_,?_,?_⟩
  ·refine hI.scale (Aw p) ?_ (fR _)
   show 4*(cq m ev/10*10)*T*aJ (-(p-1))=4*(cq m ev/10*ten (-(p-1)))*W 0*ten p
   have e10:10*aJ p*aJ (-(p-1))=ten (-(p-1))*ten p:=by
    unfold ten aJ
    have:(10:Nat)*10^(-p).toNat=10^((-p).toNat+1):=by omega
    rw[this,<-Nat.pow_add,<-Nat.pow_add];congr 1;omega
   grind
  ·grind
  ·have b1:=(L1 _ c1).1
   have:=posD (cq m ev/10*10) Qz
   omega
 ·rw[if_neg c1]
  by_cases c2:fV m ev<cq m ev
  ·rw[if_pos c2]
   show In (4*(rnd (scl m ev p)*ten (-p))*W 0) (aJ (-p)) M (ev+zOf ev)/\rnd (scl m ev p)<_/\0<rnd (scl m ev p)
   have hr:=rm hT emd Qz
   have q1:=hq1
   generalize rnd (scl m ev p)=D at*
   have a1:=(U1 _ (Nat.le_refl _))
   have b1:=(L1 _ (Nat.le_refl _))
   have e4:4*(fV m ev+1)*T<=4*cq m ev*T:=Nat.mul_le_mul_right _ Qz
   have e5:4*(fV m ev+1)*T=4*fV m ev*T+4*T:=tW _ _
   have e6:(4*D+2)*T=4*D*T+2*T:=Nat.add_mul _ _ _
   rw[e6]at hr
   have up1:4*D*T<=4*M*B+2*B:=by omega
   have dn1:4*M*B<=4*D*T+2*B:=by omega
   refine⟨fit D (mk D up1 (fun h=>?_) dn1 (fun h=>?_) (fun hk=>?_)),small D up1,posD D dn1⟩
   ·omega
   ·omega
   ·have:=(L1 D (q1 hk c2 c1)).1
    grind
  ·rw[if_neg c2]
   show In (4*(fV m ev*ten (-p))*W 0) (aJ (-p)) M (ev+zOf ev)/\fV m ev<_/\0<fV m ev
   have:=(L1 _ (Nat.le_refl _)).1
   exact⟨fit _ (CA _ (Nat.le_refl _) hne),small _ (U1 _ hne).1,posD _ Qz⟩
end Go.Proofs.YtemphinmoihdaaaGreatDoor.N
/- What the scan makes of a text of digits, a point, and an exponent. Conditions: none. -/
namespace Go.Proofs.YtemphinmoihdaaaGreatDoor.N
open Go.X Go.Proofs.YtemphinmoihdaaaGreatDoor
set_option maxRecDepth 100000
set_option maxHeartbeats 1000000
abbrev fD (A:QS) (st:RS):RS:=A.foldl (fun s c=>bz s (dgt c)) st
def gx (A:QS) (a:Nat):Nat:=A.foldl (fun a c=>a*10+dgt c) a
theorem gR (A B:QS) (a:Nat):gx (A++B) a=gx B (gx A a):=List.foldl_append
theorem lh :∀(A:QS) (st:RS),st.nm=st.nd->(st.nd=0->st.m=0)->st.nm+A.length<=19->
  (fD A st).m=gx A st.m/\(fD A st).tr=st.tr/\(fD A st).nm=(fD A st).nd/\(fD A st).nm<=st.nm+A.length/\(fD A st).dp-(fD A st).nm=st.dp-st.nm-A.length/\((fD A st).nd=0->(fD A st).m=0)
 | [],st,h1,h2,h3=>⟨rfl,rfl,h1,Nat.le_refl _,by simp[fD],h2⟩
 | c::A,st,h1,h2,h3=>by
  simp only[List.length_cons]at h3 ⊢
  have e:fD (c::A) st=fD A (bz st (dgt c)):=rfl
  have ed:gx (c::A) st.m=gx A (st.m*10+dgt c):=rfl
  rw[e,ed]
  by_cases hz:dgt c=0/\st.nd=0
  ·have es:bz st (dgt c)=⟨st.m,st.tr,st.dot,true,st.nd,st.nm,st.dp-1⟩:=by unfold bz;rw[if_pos hz]
   have:=lh A (bz st (dgt c)) (by rw[es];exact h1) (by rw[es];exact h2) (by rw[es];show st.nm+_<=19;omega)
   rw[es]at this ⊢
   obtain⟨a1,a2,a3,a4,a5,a6⟩:=this
   refine⟨?_,a2,a3,?_,?_,a6⟩
   ·rw[a1,hz.1,h2 hz.2]
   ·dsimp only at a4;omega
   ·dsimp only at a5;omega
  ·have es:bz st (dgt c)=⟨st.m*10+dgt c,st.tr,st.dot,true,st.nd+1,st.nm+1,st.dp⟩:=by unfold bz;grind
   have:=lh A (bz st (dgt c)) (by rw[es];show st.nm+1=st.nd+1;omega) (by rw[es];intro h;exact absurd h QB) (by rw[es];show st.nm+1+_<=19;omega)
   rw[es]at this ⊢
   obtain⟨a1,a2,a3,a4,a5,a6⟩:=this
   refine⟨a1,a2,a3,?_,?_,a6⟩
   ·dsimp only at a4;omega
   ·dsimp only at a5;omega
theorem tX (A:QS) (st:RS):(fD A st).dot=st.dot:=lm A st
structure Form (l A B X:QS) (pt:Bool):Prop where
 eq:l=A++((if pt then 46::B else [])++X)
 a:A≠[]
 ad:∀c∈A,isD c=true
 b:pt=true->B≠[]
 b0:pt=false->B=[]
 bd:∀c∈B,isD c=true
 x:X=[]\/∃c sg ds,Expo X c sg ds
 x4:∀c sg ds,Expo X c sg ds->ds.length<=4
theorem wW {q:QS} {st:RS} (hq:q=[]\/∃c sg ds,Expo q c sg ds):scan st q=(st,q):=by
 refine ul fun c r e=>.inl ?_
 rcases hq with rfl | ⟨c',sg,ds,hE⟩
 ·cases e
 ·rw[hE.eq]at e
  have:c'=c:=(List.cons.inj e).1
  rw[<-this]
  rcases hE.e with rfl | rfl<;>decide
theorem wY {q:QS} (hq:q=[]\/∃c sg ds,Expo q c sg ds):∀c r,q=c::r->isD c=false:=by
 intro c r e
 rcases hq with rfl | ⟨c',sg,ds,hE⟩
 ·cases e
 ·rw[hE.eq]at e
  have:c'=c:=(List.cons.inj e).1
  rw[<-this]
  rcases hE.e with rfl | rfl<;>decide
theorem qi :∀{A t:QS},(∀c∈A,isD c=true)->(∀c r,t=c::r->isD c=false)->dgN (A++t)=A.length
 | [],t,_,ht=>by
  cases t with
  | nil=>rfl
  | cons c r=>unfold dgN;simp_all
 | c::A,t,hA,ht=>by
  have:=qi (A:=A) (fun d hd=>hA d (by simp[hd])) ht
  unfold dgN at this ⊢
  simp_all
theorem Form.scn {l A B X:QS} {pt:Bool} (h:Form l A B X pt):scan RS0 l=(fD B (if pt then gi (fD A RS0)else fD A RS0),X):=by
 rw[h.eq,lk A RS0 _ h.ad]
 have hdot:(fD A RS0).dot=false:=lm A RS0
 cases pt
 ·have hB:=h.b0 rfl
  subst hB
  exact wW h.x
 ·show scan (fD A RS0) (46::B++X)=_
  rw[List.cons_append,scan,if_pos rfl,hdot]
  show scan (gi (fD A RS0)) (B++X)=_
  rw[lk B _ X h.bd]
  exact wW h.x
theorem Az {X:QS} (hx:X=[]\/∃c sg ds,Expo X c sg ds) (h4:∀c sg ds,Expo X c sg ds->ds.length<=4):zd (some X)=true:=by
 rcases hx with rfl | ⟨c,sg,ds,hE⟩
 ·rfl
 ·have hl:=h4 c sg ds hE
  have hne:1<=ds.length:=by
   cases ds with
   | nil=>exact absurd rfl hE.ne
   | cons _ _=>simp
  have hd:aK (sg++ds)=ds:=by
   rcases hE.sg with rfl | rfl | rfl
   ·cases ds with
    | nil=>rfl
    | cons a r=>
     have ha:=fl.1 (hE.dg a QB)
     show(if a=43\/a=45 then r else a::r)=a::r
     rw[if_neg]
     rintro(e | e)<;>subst e<;>exact absurd ha QA
   ·rfl
   ·rfl
  rw[hE.eq]
  show(if c=101\/c=69 then _ else _)=true
  rw[if_pos hE.e,hd]
  have hn:dgN ds=ds.length:=by
   have:=qi (A:=ds) (t:=[]) hE.dg (fun c r e=>by cases e)
   grind
  grind
theorem Form.num {l0 l A B X:QS} {pt:Bool} (h:Form l A B X pt) (h0:aK l0=l):jJ l0=true:=by
 unfold jJ
 rw[h0,h.eq]
 have ht:∀c r,((if pt then 46::B else [])++X)=c::r->isD c=false:=by
  intro c r e
  cases pt
  ·exact wY h.x c r e
  ·have:(46:UInt8)=c:=(List.cons.inj e).1
   rw[<-this];decide
 have hA:A.length≠0:=fun e=>h.a (List.eq_nil_of_length_eq_zero e)
 rw[qi h.ad ht,if_neg hA,List.drop_left]
 cases pt
 ·show zd (nQ X)=true
  have:nQ X=some X:=by
   cases hX:X with
   | nil=>rfl
   | cons c r=>
    show(if c=46 then _ else some (c::r))=_
    rw[if_neg]
    intro e;subst e
    rcases h.x with e | ⟨c',sg,ds,hE⟩
    ·grind
    ·have:=hE.eq;rw[hX]at this
     have:=(List.cons.inj this).1
     rcases hE.e with e | e<;>rw[e]at this<;>cases this
  rw[this];exact Az h.x h.x4
 ·show zd (nQ (46::(B++X)))=true
  have hB:B.length≠0:=fun e=>h.b rfl (List.eq_nil_of_length_eq_zero e)
  have:nQ (46::(B++X))=some X:=by
   show(if(46:UInt8)=46 then(if dgN (B++X)=0 then none else some ((B++X).drop (dgN (B++X))))else some (46::(B++X)))=_
   rw[if_pos rfl,qi h.bd (wY h.x),if_neg hB,List.drop_left]
  rw[this];exact Az h.x h.x4
theorem Form.val {l A B X:QS} {pt:Bool} (h:Form l A B X pt) (h19:A.length+B.length<=19):
  (fD B (if pt then gi (fD A RS0)else fD A RS0)).m=gx (A++B) 0/\(fD B (if pt then gi (fD A RS0)else fD A RS0)).tr=false/\(gx (A++B) 0≠0->jd (fD B (if pt then gi (fD A RS0)else fD A RS0)) X=jH X-B.length):=by
 obtain⟨a1,a2,a3,a4,a5,a6⟩:=lh A RS0 rfl (fun _=>rfl) (by show 0+_<=19;omega)
 have r0:RS0.m=0/\RS0.nm=0/\RS0.tr=false:=⟨rfl,rfl,rfl⟩
 rw[r0.1]at a1
 rw[r0.2.1]at a4
 have hdot:(fD A RS0).dot=false:=lm A RS0
 rw[gR,<-a1]
 cases pt
 ·have hB:=h.b0 rfl
  subst hB
  refine⟨rfl,a2,fun hne=>?_⟩
  show jd (fD A RS0) X=_
  unfold jd
  have hne:(fD A RS0).m≠0:=hne
  grind
 ·have hd:gi (fD A RS0)=⟨(fD A RS0).m,(fD A RS0).tr,true,(fD A RS0).dig,(fD A RS0).nd,(fD A RS0).nm,(fD A RS0).nd⟩:=rfl
  obtain⟨b1,b2,b3,b4,b5,b6⟩:=lh B (gi (fD A RS0)) a3 a6 QD
  show(fD B (gi (fD A RS0))).m=_/\(fD B (gi (fD A RS0))).tr=false/\_
  refine⟨b1,b2.trans a2,fun hne=>?_⟩
  show jd (fD B (gi (fD A RS0))) X=_
  unfold jd
  rw[if_pos QD,tX B]
  grind
theorem Form.txt {s:ByteArray} {l A B X:QS} {pt:Bool} (h:Form l A B X pt) (h0:aK s.data.toList=l) (hs:s.size<100000):Txt s (fD B (if pt then gi (fD A RS0)else fD A RS0)) X:=by
 obtain⟨st,rest,hT⟩:=zg hs (h.num h0)
 have:=hT.sc
 rw[xw,h0,h.scn]at this
 grind
end Go.Proofs.YtemphinmoihdaaaGreatDoor.N
/- A number's text is read as it. Conditions: none. -/
namespace Go.Proofs.YtemphinmoihdaaaGreatDoor.N
open Go.X Go.Proofs.YtemphinmoihdaaaGreatDoor
set_option maxRecDepth 100000
set_option maxHeartbeats 1000000
def by8 (n:Int):UInt8:=UInt8.ofNat n.toNat
def bb (L:List Int):QS:=L.map by8
theorem KP (L:List Int):(strOf L).data.toList=bb L:=mH L
theorem vf (v:Int) (L:List Int):bb (v::L)=by8 v::bb L:=rfl
theorem Eg :bb []=[]:=rfl
theorem b46 :by8 46=46:=by decide
theorem b48 :by8 48=48:=by decide
theorem ON :by8 101=101:=by decide
theorem iG (A B:List Int):bb (A++B)=bb A++bb B:=List.map_append
def dig (v:Int):Prop:=48<=v/\v<=57
theorem Eh {v:Int} (h:dig v):(by8 v).toNat=v.toNat:=by
 grind [by8,UInt8.toNat_ofNat',dig]
theorem Ei {v:Int} (h:dig v):isD (by8 v)=true:=fl.2 (by rw[Eh h];unfold dig at h;omega)
theorem qP {L:List Int} (h:∀v∈L,dig v):∀c∈bb L,isD c=true:=by
 intro c hc
 obtain⟨v,hv,rfl⟩:=List.mem_map.1 hc
 exact Ei (h v hv)
def ckE (k:Nat):Bool:=match bb (gp ((k:Int)-999))with
 | s::ds=>(s==43||s==45)&&ds.all isD&&decide (ds.length<=3)&& !ds.isEmpty&&decide (jH (101::s::ds)=(k:Int)-999)
 | []=>false
theorem HL :((List.range 1999).all ckE)=true:=by kernel_rfl
theorem y8 {y:Int} (h:y.natAbs<1000):∃s ds,bb (gp y)=s::ds/\Expo (101::bb (gp y)) 101 [s] ds/\ds.length<=3/\jH (101::bb (gp y))=y:=by
 have:=List.all_eq_true.1 HL (y+999).toNat (List.mem_range.2 Qz)
 unfold ckE at this
 rw[show(((y+999).toNat:Nat):Int)-999=y by omega]at this
 split at this
 ·rename_i s ds e
  simp only[Bool.and_eq_true,Bool.or_eq_true,beq_iff_eq,decide_eq_true_eq,List.all_eq_true,Bool.not_eq_true',List.isEmpty_eq_false_iff]at this
  obtain⟨⟨⟨⟨h1,h2⟩,h3⟩,h4⟩,h5⟩:=this
  refine⟨s,ds,e,⟨by rw[e];rfl,.inl rfl,.inr ?_,h4,Qz,h2⟩,h3,QD⟩
  grind
 ·cases this
theorem AA (d n:Nat):∀k,k<=n->d<10^n->gx (bb ((dgL d n).take k)) 0=d/10^(n-k)
 | 0,_,hd=>by
  rw[Nat.sub_zero,Nat.div_eq_of_lt hd];rfl
 | k+1,hk,hd=>by
  have ih:=AA d n k Qz hd
  rw[List.take_add_one,vz Qz,iG,gR,ih]
  have hdg:dig ((48+d/10^(n-1-k) % 10:Nat):Int):=by
   grind [dig]
  show d/10^(n-k)*10+dgt (by8 _)=_
  unfold dgt
  rw[Eh hdg]
  have e1:n-k=n-1-k+1:=by omega
  have e2:n-(k+1)=n-1-k:=by omega
  rw[e1,e2,Nat.pow_succ,<-Nat.div_div_eq_div_mul]
  omega
theorem tY (L:List Int):∀n i,fW L n<=i->i<n->L[i]? =some 48
 | 0,_,_,h=>by omega
 | n+1,i,h1,h2=>by
  unfold fW at h1
  split at h1
  ·rename_i h
   by_cases e:i=n
   ·rw[e];exact h
   ·exact tY L n i h1 Qz
  ·omega
theorem wZ {d:Nat}:∀t,(∀i,i<t->d/10^i % 10=0)->d % 10^t=0
 | 0,_=>by omega
 | t+1,h=>by
  rw[Nat.pow_succ,Nat.mod_mul,wZ t (fun i hi=>h i Qz),h t Qz];rfl
theorem I9 :∀(k u:Nat),0<k->u<10^k->Lib.nDigits u<=k
 | 0,_,h,_=>absurd h QA
 | k+1,u,_,h=>by
  by_cases hu:u<10
  ·rw[Lib.nDigits_small hu];omega
  ·rw[Lib.nDigits_big hu]
   cases k with
   | zero=>omega
   | succ k=>
    have:=I9 (k+1) (u/10) Qz (Nat.div_lt_of_lt_mul Qz)
    omega
theorem HM {x:Nat} (hd0:0<dOf x) (hd:dOf x<144115188075855872):
  ∃t,(LOf x).length+t=ndg (dOf x)/\0<(LOf x).length/\(∀v∈LOf x,dig v)/\gx (bb (LOf x)) 0*10^t=dOf x/\ndg (dOf x)<=18:=by
 have hn1:=zp (dOf x)
 have hn18:ndg (dOf x)<=18:=by
  unfold ndg;rw[if_neg Qz]
  apply Nat.le_of_not_lt
  intro h
  have:=I9 18 (dOf x) QA (Nat.lt_trans hd QA)
  omega
 generalize hn:ndg (dOf x)=n at*
 have hk:=rv (dgL (dOf x) n) n
 have hL:LOf x=(dgL (dOf x) n).take (fW (dgL (dOf x) n) n):=by unfold LOf;rw[hn]
 have hlen:(LOf x).length=fW (dgL (dOf x) n) n:=by grind [jm]
 have hz:=tY (dgL (dOf x) n) n
 generalize fW (dgL (dOf x) n) n=k at*
 have hm:dOf x % 10^(n-k)=0:=by
  refine wZ _ fun i hi=>?_
  have:=hz (n-1-i) Qz Qz
  grind [vz]
 have hdm:=Nat.div_add_mod (dOf x) (10^(n-k))
 have hv:gx (bb (LOf x)) 0=dOf x/10^(n-k):=by rw[hL];exact AA _ _ _ hk hn1
 refine⟨n-k,Qz,?_,fun v hv=>?_,?_,hn18⟩
 ·rw[hlen]
  apply Nat.pos_of_ne_zero
  intro h0
  rw[h0,Nat.sub_zero,Nat.mod_eq_of_lt hn1]at hm
  omega
 ·grind [dgL,dig]
 grind
theorem nI (a:Nat):∀j,gx (bb (List.replicate j 48)) a=a*10^j
 | 0=>by rw[Nat.pow_zero,Nat.mul_one];rfl
 | j+1=>by
  rw[List.replicate_succ]
  show gx (bb (List.replicate j 48)) (a*10+dgt (by8 48))=_
  rw[nI]
  have:dgt (by8 48)=0:=by decide
  grind
def tZ (L:List Int) (dp:Int):List Int:=if dp-1< -4\/6<=dp-1 then lr L dp else eQ L dp
def pE (L:List Int) (dp:Int):QS:=if eO (bb (tZ L dp))then bb (tZ L dp)else bb (tZ L dp)++[46,48]
theorem AB (j:Nat):∀v∈List.replicate j (48:Int),dig v:=by
 grind [dig]
theorem OO {l:QS} (h:∀c∈l,isD c=true):eO l=false:=by
 refine ER fun j b _ hb=>?_
 have:=fl.1 (h b (List.mem_of_getElem? hb))
 have n1:b≠46:=fun e=>by simp_all
 have n2:b≠101:=fun e=>by simp_all
 simp[n1,n2]
theorem vg {l:QS} {c:UInt8} (h:c∈l) (hc:c=46\/c=101):eO l=true:=by
 obtain⟨i,hi,rfl⟩:=List.mem_iff_getElem.1 h
 exact Ih (List.getElem?_eq_getElem hi) hc
theorem ua :∀(z:Nat) (st:RS),st.nd=0->∃g,fD (bb (List.replicate z 48)) st=⟨st.m,st.tr,st.dot,g,0,st.nm,st.dp-z⟩
 | 0,st,h=>⟨st.dig,by
  show st=_
  obtain⟨a,b,c,d,e,f,g⟩:=st
  grind⟩
 | z+1,st,h=>by
  rw[List.replicate_succ]
  have e0:dgt (by8 48)=0:=by decide
  have e:fD (bb (48::List.replicate z 48)) st=fD (bb (List.replicate z 48)) (bz st (dgt (by8 48))):=rfl
  have es:bz st (dgt (by8 48))=⟨st.m,st.tr,st.dot,true,st.nd,st.nm,st.dp-1⟩:=by unfold bz;grind
  obtain⟨g,hg⟩:=ua z (bz st (dgt (by8 48))) QD
  grind
theorem Form.val2 {l B' X:QS} {z:Nat} (_h:Form l [48] (bb (List.replicate z 48)++B') X true) (h19:B'.length<=19):
  (fD (bb (List.replicate z 48)++B') (gi (fD [48] RS0))).m=gx ([48]++(bb (List.replicate z 48)++B')) 0/\(fD (bb (List.replicate z 48)++B') (gi (fD [48] RS0))).tr=false/\
   (gx ([48]++(bb (List.replicate z 48)++B')) 0≠0->jd (fD (bb (List.replicate z 48)++B') (gi (fD [48] RS0))) X=jH X-(bb (List.replicate z 48)++B').length):=by
 have e0:gi (fD [48] RS0)=⟨0,false,true,true,0,0,0⟩:=rfl
 have eF:fD (bb (List.replicate z 48)++B') (gi (fD [48] RS0))=fD B' (fD (bb (List.replicate z 48)) (gi (fD [48] RS0))):=List.foldl_append
 obtain⟨g,hg⟩:=ua z (gi (fD [48] RS0)) rfl
 rw[eF,hg,e0]
 have eD:gx ([48]++(bb (List.replicate z 48)++B')) 0=gx B' 0:=by
  rw[gR,gR]
  have:gx [48] 0=0:=rfl
  rw[this,nI,Nat.zero_mul]
 rw[eD]
 obtain⟨b1,b2,b3,b4,b5,b6⟩:=lh B' ⟨0,false,true,g,0,0,(0:Int)-z⟩ rfl (fun _=>rfl) QD
 refine⟨b1,b2,fun hne=>?_⟩
 unfold jd
 rw[if_pos QD,tX B']
 simp only[if_true]
 grind [bb]
structure Read (l:QS) (c:Nat) (q:Int) (j:Nat):Prop where
 sc:∀s:ByteArray,aK s.data.toList=l->s.size<100000->∃st X,Txt s st X/\st.tr=false/\st.m=c*10^j/\(st.m≠0->jd st X=q-j)
 nm:∀l0,aK l0=l->jJ l0=true
 hd:∃a r,l=a::r/\isD a=true
theorem Form.read {l A B X:QS} {pt:Bool} {c j:Nat} {q:Int} (h:Form l A B X pt) (h19:A.length+B.length<=19) (hv:gx (A++B) 0=c*10^j) (he:jH X-B.length=q-j):Read l c q j:=by
 refine⟨fun s h0 hs=>?_,fun l0 h0=>h.num h0,?_⟩
 ·obtain⟨v1,v2,v3⟩:=h.val h19
  exact⟨_,X,h.txt h0 hs,v2,v1.trans hv,fun hne=>(v3 Qz).trans he⟩
 ·obtain⟨a,A',rfl⟩:=List.exists_cons_of_ne_nil h.a
  exact⟨a,_,h.eq,h.ad a QB⟩
theorem Bw {L:List Int} {dp:Int} (hL:∀v∈L,dig v) (h0:0<L.length) (h18:L.length<=18) (hdp:(dp-1).natAbs<1000):
  ∃j:Nat,Read (pE L dp) (gx (bb L) 0) (dp-L.length) j/\j<=7/\(0<j->L.length+j<=7)/\(pE L dp).length<=40:=by
 have hbl:∀L:List Int,(bb L).length=L.length:=fun L=>List.length_map _
 unfold pE tZ
 by_cases hE:dp-1< -4\/6<=dp-1
 ·rw[if_pos hE]
  obtain⟨v,L',rfl⟩:=List.exists_cons_of_ne_nil (fun e=>by grind:L≠[])
  obtain⟨s,ds,x1,x2,x3,x4⟩:=y8 hdp
  have eb:bb (lr (v::L') dp)=[by8 v]++((if decide (L'≠[])then 46::bb L' else [])++101::bb (gp (dp-1))):=by
   unfold lr
   rw[if_neg (show ¬(v::L'=[]) by simp),if_neg (show ¬(v::L'=[]) by simp),iG,iG,iG]
   cases L' with
   | nil=>
    rw[if_neg (show ¬ 1< [v].length by simp),if_neg QB]
    grind [vf,ON]
   | cons a r=>
    rw[if_pos (show 1<(v::a::r).length by simp),if_pos (show decide (a::r≠[])=true by simp)]
    simp only[vf,Eg,b46,ON,List.cons_append,List.nil_append,List.append_assoc,List.take_succ_cons,List.take_zero,List.drop_succ_cons,List.drop_zero]
  have hde:eO (bb (lr (v::L') dp))=true:=vg (c:=101) (by rw[eb];simp) (.inr rfl)
  rw[if_pos hde]
  have hF:Form (bb (lr (v::L') dp)) [by8 v] (bb L') (101::bb (gp (dp-1))) (decide (L'≠[])):=by
   refine⟨eb,QB,fun c hc=>?_,fun h e=>?_,fun h=>?_,qP fun w hw=>hL w (by simp[hw]),.inr ⟨_,_,_,x2⟩,fun c sg d hX=>hX.le⟩
   ·grind [Ei]
   ·grind
   grind
  simp only[List.length_cons]at h18 ⊢
  refine⟨0,hF.read ?_ ?_ ?_,Qz,Qz,?_⟩
  ·grind
  ·rw[Nat.pow_zero,Nat.mul_one];rfl
  ·grind
  grind
 ·rw[if_neg hE]
  by_cases hd0:0<dp
  ·by_cases hd1:dp<(L.length:Int)
   ·--within
    have eb:bb (eQ L dp)=bb (L.take dp.toNat)++((if true then 46::bb (L.drop dp.toNat)else [])++[]):=by
     unfold eQ
     rw[if_pos hd0,if_pos hd1,show dp.toNat-L.length=0 by omega,show(-dp).toNat=0 by omega,iG,iG]
     simp[bb,by8]
    have hde:eO (bb (eQ L dp))=true:=vg (c:=46) (by rw[eb];simp) (.inl rfl)
    rw[if_pos hde]
    have ht:(L.take dp.toNat).length=dp.toNat:=by grind
    have hdl:(L.drop dp.toNat).length=L.length-dp.toNat:=List.length_drop
    have hF:Form (bb (eQ L dp)) (bb (L.take dp.toNat)) (bb (L.drop dp.toNat)) [] true:=by
     refine⟨eb,fun e=>?_,qP fun w hw=>hL w (List.mem_of_mem_take hw),fun _ e=>?_,fun h=>(by cases h),qP fun w hw=>hL w (List.mem_of_mem_drop hw),.inl rfl,fun c sg d hX=>hX.le⟩
     ·grind
     grind
    refine⟨0,hF.read ?_ ?_ ?_,Qz,Qz,?_⟩
    ·grind
    ·rw[Nat.pow_zero,Nat.mul_one,<-iG,List.take_append_drop]
    ·rw[hbl,hdl];show 0-_=_;omega
    grind
   ·--whole
    have eb:bb (eQ L dp)=bb (L++List.replicate (dp.toNat-L.length) 48):=by
     unfold eQ
     rw[if_pos hd0,if_neg hd1,List.append_nil,List.take_of_length_le Qz]
    have hdg:∀c∈bb (eQ L dp),isD c=true:=by
     grind [qP,AB]
    rw[if_neg (by rw[OO hdg];decide)]
    have hlen:(bb (eQ L dp)).length=dp.toNat:=by grind
    have hF:Form (bb (eQ L dp)++[46,48]) (bb (eQ L dp)) [48] [] true:=by
     refine⟨rfl,fun e=>?_,hdg,fun _=>by simp,fun h=>(by cases h),fun c hc=>?_,.inl rfl,fun c sg d hX=>hX.le⟩
     ·grind
     ·simp at hc;subst hc;decide
    refine⟨dp.toNat-L.length+1,hF.read ?_ ?_ ?_,Qz,Qz,?_⟩
    ·grind
    ·rw[gR,eb,iG,gR,nI]
     show gx (bb L) 0*10^(dp.toNat-L.length)*10+0=_
     grind
    ·show(0:Int)-((1:Nat):Int)=_;omega
    grind
  ·--zeros first
   have eb:bb (eQ L dp)=[48]++((if true then 46::(bb (List.replicate (-dp).toNat 48)++bb L)else [])++[]):=by
    unfold eQ
    rw[if_neg hd0,if_pos Qz,show dp.toNat=0 by omega,iG]
    simp only[List.drop_zero,if_true,List.append_nil,vf,Eg,b48,b46,iG]
   have hde:eO (bb (eQ L dp))=true:=vg (c:=46) (by rw[eb];simp) (.inl rfl)
   rw[if_pos hde]
   have hF:Form (bb (eQ L dp)) [48] (bb (List.replicate (-dp).toNat 48)++bb L) [] true:=by
    refine⟨eb,QB,fun c hc=>?_,fun _ e=>?_,fun h=>(by cases h),fun c hc=>?_,.inl rfl,fun c sg d hX=>hX.le⟩
    ·simp at hc;subst hc;decide
    ·grind
    grind [qP,AB]
   have hlB:(bb (List.replicate (-dp).toNat 48)++bb L).length=(-dp).toNat+L.length:=by grind
   obtain⟨v1,v2,v3⟩:=hF.val2 (by rw[hbl];omega)
   have eD:gx ([48]++(bb (List.replicate (-dp).toNat 48)++bb L)) 0=gx (bb L) 0:=by
    rw[gR,gR]
    have:gx [48] 0=0:=rfl
    rw[this,nI,Nat.zero_mul]
   rw[eD]at v1 v3
   refine⟨0,⟨fun s h0 hs=>?_,fun l0 h0=>hF.num h0,?_⟩,Qz,Qz,?_⟩
   ·refine⟨_,[],hF.txt h0 hs,v2,?_,fun hne=>?_⟩
    ·grind
    ·refine(v3 QD).trans ?_
     rw[hlB];show(0:Int)-_=_;omega
   ·exact⟨48,_,eb,QA⟩
   grind
end Go.Proofs.YtemphinmoihdaaaGreatDoor.N
/- WeighBack: a number's text leads back to it. Conditions: none. -/
namespace Go.Proofs.YtemphinmoihdaaaGreatDoor.N
open Go.X Go.Proofs.YtemphinmoihdaaaGreatDoor
set_option maxRecDepth 100000
set_option maxHeartbeats 1000000
theorem Ej (l:QS):eO l=true ↔ ∃c∈l,c=46\/c=101:=by
 constructor
 ·intro h
  apply Classical.byContradiction
  intro hn
  have:eO l=false:=ER fun j b _ hb=>by
   grind
  grind
 grind [vg]
theorem KQ (ng:Bool) (l:QS):eO ((if ng then [45]else [])++l)=eO l:=by
 rw[Bool.eq_iff_iff,Ej,Ej]
 grind
theorem HN (ng:Bool):bb (jK ng)=if ng then [45]else []:=by cases ng<;>rfl
def nK (x:Nat):QS:=if cG x=0 then pE [] 0 else pE (LOf x) (nR x)
theorem Bx {x:Nat} (hn:isNaN x=false) (h1:isInf x=false) (h2:isInf (gz x)=false):(cp x).data.toList=(if kC x then [45]else [])++nK x:=by
 unfold cp
 rw[if_neg (by rw[hn];decide),if_neg (by rw[h1];decide),if_neg (by rw[h2];decide)]
 have gen:∀L dp,(strOf (fmtG (kC x) L dp)).data.toList=(if kC x then [45]else [])++bb (tZ L dp):=fun L dp=>by
  rw[KP];unfold fmtG;rw[iG,HN];rfl
 have gen2:∀L dp,fC x=fmtG (kC x) L dp->(if eO (strOf (fC x)).data.toList then strOf (fC x)else strOf (fC x)++⟨#[46,48]⟩:ByteArray).data.toList=(if kC x then [45]else [])++pE L dp:=fun L dp e=>by
  rw[e,gen,KQ]
  unfold pE
  by_cases hd:eO (bb (tZ L dp))=true
  ·grind
  simp_all
 unfold nK
 by_cases h0:cG x=0
 ·rw[if_pos h0];exact gen2 [] 0 (by unfold fC;rw[if_pos h0])
 ·rw[if_neg h0];exact gen2 _ _ (by unfold fC;rw[if_neg h0])
theorem ub {ng:Bool} {l:QS} (h:∃a r,l=a::r/\isD a=true):aK ((if ng then [45]else [])++l)=l/\(dG ((if ng then [45]else [])++l)).1=ng:=by
 obtain⟨a,r,rfl,ha⟩:=h
 have hd:=fl.1 ha
 have n1:a≠43:=fun e=>by simp_all
 have n2:a≠45:=fun e=>by simp_all
 cases ng
 ·refine⟨?_,?_⟩
  ·show(if a=43\/a=45 then r else a::r)=a::r
   grind
  ·show(if a=43 then(false,1)else if a=45 then(true,1)else(false,0)).1=false
   grind
 ·exact⟨rfl,rfl⟩
theorem zsh {x:Nat} (hm:cG x≠0):zOf (kj x)=iL x:=by
 have hl:=E0 x
 obtain⟨b1,b2,b3⟩:=kp hm Qz
 have he:je x<2048:=Nat.mod_lt _ QA
 have b53:Lib.bitLen (cG x)<=53:=Lib.bitLen_le _ 53 QA hl
 have hs:iL x=64-Lib.bitLen (cG x):=rfl
 unfold kj kD
 by_cases h0:je x=0
 ·have hm2:cG x<2^52:=by unfold cG;rw[if_pos h0];exact xy x
  have:Lib.bitLen (cG x)<=52:=Lib.bitLen_le _ 52 QA hm2
  rw[if_pos h0]
  unfold zOf
  grind
 ·have hm2:2^52<=cG x:=by unfold cG;grind
  have:Lib.bitLen (cG x)=53:=AK (k:=52) hm2 hl Qz
  rw[if_neg h0]
  unfold zOf
  grind
theorem Ek {x:Nat} (h:x<18446744073709551616):gQ (cG x) (kD x-1075) (kC x)=x:=by
 have hs:jY (kC x)=x/9223372036854775808*9223372036854775808:=by
  unfold kC jY
  grind
 unfold gQ
 rw[hs]
 have hf:=xy x
 have hex:je x=x/4503599627370496 % 2048:=rfl
 have hfr:EZ x=x % 4503599627370496:=rfl
 unfold cG kD
 grind
theorem OP {m:Nat} {ev:Int} (h:Mt m ev): -324<=(short m ev).2/\(short m ev).2<=293:=by
 have hez: -1074<=ev+zOf ev/\ev+zOf ev<=971:=by
  have:=h.e0;have:=h.e1
  unfold zOf;split<;>omega
 have hp: -292<=shP m ev/\shP m ev<=324:=by
  unfold shP
  by_cases hA:shA m ev=true
  ·rw[if_pos hA]
   simp only[shA,Bool.and_eq_true,decide_eq_true_eq]at hA
   have:=h.e1
   unfold skw;omega
  ·rw[if_neg hA];unfold l10;omega
 unfold short
 split
 ·omega
 ·split
  ·omega
  omega
theorem uc (s:ByteArray):s.size=s.data.toList.length:=rfl
theorem FA {x:Nat} (hx64:x<18446744073709551616) (hn:isNaN x=false) (h1:isInf x=false) (h2:isInf (gz x)=false):
  (∃st rest,Txt (cp x) st rest/\st.tr=false/\(iD st.m (jd st rest) (dG (cp x).data.toList).1).1=x)/\jJ (cp x).data.toList=true/\(cp x).size<=60/\∃a r,nK x=a::r/\isD a=true:=by
 have hx:=zi hn h1 h2
 have hl:=Bx hn h1 h2
 by_cases h0:cG x=0
 ·--zero
  have hr:nK x=[48,46,48]:=by unfold nK;rw[if_pos h0];decide
  have hhd:∃a r,nK x=a::r/\isD a=true:=⟨48,[46,48],hr,QA⟩
  obtain⟨d1,d2⟩:=ub (ng:=kC x) hhd
  rw[<-hl]at d1 d2
  have hsz:(cp x).size<=60:=by grind [uc]
  have hF:Form (nK x) [48] [48] [] true:=by
   rw[hr]
   exact⟨rfl,QB,fun c hc=>QD,fun _=>by simp,fun h=>(by cases h),fun c hc=>QD,.inl rfl,fun c sg d hX=>hX.le⟩
  have hT:=hF.txt d1 Qz
  obtain⟨v1,v2,_⟩:=hF.val QA
  refine⟨?_,hF.num d1,hsz,hhd⟩
  have e:(iD (gx ([48]++[48]) 0) (jd (fD [48] (if true=true then gi (fD [48] RS0)else fD [48] RS0)) []) (kC x)).1=x:=by
   unfold iD
   have:gx ([48]++[48]) 0=0:=rfl
   rw[if_pos this]
   have hb:=Ek hx64
   rw[h0]at hb
   have e0:gQ 0 (kD x-1075) (kC x)=jY (kC x):=by unfold gQ;grind
   grind [bits_or_u64_nat]
  grind
 ·obtain⟨hmt,hs63,hs11⟩:=E1 hx h0
  obtain⟨hin,hd57,hd0⟩:=Ef hmt
  have hz:=zsh h0
  have hM:pR x/2^zOf (kj x)=cG x:=by grind [pR,Nat.mul_div_cancel]
  have hE:kj x+zOf (kj x)=kD x-1075:=by rw[hz];unfold kj;omega
  rw[hM,hE]at hin
  obtain⟨q1,q2⟩:=OP hmt
  have hin:In (4*(dOf x*ten (pOf x))*W 0) (aJ (pOf x)) (cG x) (kD x-1075):=hin
  have hd57:dOf x<144115188075855872:=hd57
  have hd0:0<dOf x:=hd0
  have q1: -324<=pOf x:=q1
  have q2:pOf x<=293:=q2
  obtain⟨t,l1,l2,l3,l4,l5⟩:=HM hd0 hd57
  have hdp:nR x=ndg (dOf x)+pOf x:=rfl
  obtain⟨j,hR,j1,j2,hlen⟩:=Bw (L:=LOf x) (dp:=nR x) l3 l2 Qz Qz
  have hrest:nK x=pE (LOf x) (nR x):=by unfold nK;rw[if_neg h0]
  rw[<-hrest]at hR hlen
  obtain⟨d1,d2⟩:=ub (ng:=kC x) hR.hd
  rw[<-hl]at d1 d2
  have hsz:(cp x).size<=60:=by
   grind [uc]
  obtain⟨st,X,hT,htr,hm,he⟩:=hR.sc (cp x) d1 Qz
  refine⟨?_,hR.nm _ d1,hsz,hR.hd⟩
  generalize hc:gx (bb (LOf x)) 0=c at*
  have hc0:c≠0:=by grind
  have hp10:0<10^j:=Nat.pow_pos QA
  have hp10t:0<10^t:=Nat.pow_pos QA
  have hm0:st.m≠0:=by grind [Nat.mul_ne_zero]
  have he:=he hm0
  have hcd:c<=dOf x:=by rw[<-l4];exact Nat.le_mul_of_pos_right _ hp10t
  have hm57:st.m<144115188075855872:=by
   rw[hm]
   by_cases hj:j=0
   ·grind
   ·have hck:c<10^(LOf x).length:=by
     refine Nat.lt_of_mul_lt_mul_right (a:=10^t) ?_
     grind [zp]
    calc c*10^j<10^(LOf x).length*10^j:=Nat.mul_lt_mul_of_pos_right hck hp10
     _=10^((LOf x).length+j):=(Nat.pow_add _ _ _).symm
     _<=10^7:=Nat.pow_le_pow_right QA (j2 Qz)
     _<_:=by decide
  have hin2:In (4*(st.m*ten (nR x-(LOf x).length-j))*W 0) (aJ (nR x-(LOf x).length-j)) (cG x) (kD x-1075):=by
   refine hin.scale (fR _) ?_ (fR _)
   rw[hm,<-l4]
   have ep:10^t*ten (pOf x)*aJ (nR x-(LOf x).length-j)=10^j*ten (nR x-(LOf x).length-j)*aJ (pOf x):=by
    unfold ten aJ
    rw[<-Nat.pow_add,<-Nat.pow_add,<-Nat.pow_add,<-Nat.pow_add];congr 1;omega
   grind
  have hxp:kD x<=2046:=by
   grind [je,kD]
  have ha:=HC (ng:=kC x) Qz Qz hm0 Qz (.inl hm57) hin2 Qz Qz
  grind [Ek]
theorem Ja {x:Nat} (hx64:x<18446744073709551616) (hn:isNaN x=false) (h1:isInf x=true):x=9218868437227405312:=by
 unfold isInf at h1
 rw[xg hn QA]at h1
 have hk:=of_decide_eq_true h1
 rcases iJ hn with⟨s,e⟩ | ⟨s,m,i,e⟩
 ·have hs:s=false:=by
   cases s
   ·rfl
   ·exfalso
    have:key x= -(2^kA):=by unfold key;rw[e];rfl
    have h0:0<key Lg:=by decide+kernel
    grind
  subst hs
  unfold Ieee.Format.read at e
  simp only[mD,gT,nM]at e
  grind
 ·exfalso
  obtain⟨i1,i2⟩:=gy e
  have hm:=jI e
  have hkx:key x=Ieee.signed s m (i+1074).toNat:=by unfold key;rw[e];rfl
  have hmax:key Lg=((9007199254740991*W 971:Nat):Int):=by decide+kernel
  rw[hkx,cF,hmax]at hk
  have hW:W i<=W 971:=by unfold W;exact Nat.pow_le_pow_right QA Qz
  have hle:m*W i<=9007199254740991*W 971:=Nat.mul_le_mul Qz hW
  rw[<-pD]at hk
  generalize m*W i=a at*
  generalize 9007199254740991*W 971=b at*
  split at hk<;>omega
theorem KR {x:Nat} (h:x<18446744073709551616):gz x<18446744073709551616:=by
 show x ^^^ 2^63<2^64
 exact Nat.xor_lt_two_pow Qz QA
theorem HO (x:Nat):gz (gz x)=x:=by
 show x ^^^ 2^63 ^^^ 2^63=x
 grind
end Go.Proofs.YtemphinmoihdaaaGreatDoor.N
