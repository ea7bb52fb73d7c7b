/- parse64 rounds to the nearest. Conditions: none. -/
import Derived.Test.YtmmmmjcfojhiaaaGreatDoorWMono
set_option linter.unusedVariables false
set_option linter.unusedSimpArgs false
set_option maxRecDepth 100000
set_option maxHeartbeats 1000000
open Go.IntKind (i64 u64 u8 i32)
namespace Go.Proofs.YtmmmmjcfojhiaaaGreatDoor.N
open Go.X Go.Proofs.YtmmmmjcfojhiaaaGreatDoor
def ten (p:Int):Nat:=10^p.toNat
def aM (p:Int):Nat:=10^(-p).toNat
theorem yQ (p:Int):0<ten p:=Ql PB
theorem fa (p:Int):0<aM p:=Ql PB
theorem yR (p:Int):ta p=ten p*2^(127-l2 p).toNat:=by
 unfold ta ten
 grind
theorem vf (p:Int):tb p=aM p*2^(l2 p-127).toNat:=by
 unfold tb aM
 split
 ·grind
 ·rw[show(l2 p-127).toNat=0 by unfold l2;omega,RA,Qy]
theorem pg (p:Int):0<tb p:=by rw[vf];exact QI (fa p) (QD _)
structure Pow (p:Int):Prop where
 l:loP p<=hiP p*18446744073709551616
 t1:ta p<=(hiP p*18446744073709551616-loP p)*tb p
 t2:(hiP p*18446744073709551616-loP p)*tb p<ta p+tb p
 hi:ta p<340282365653287863235145205935065006080*tb p
 lo:170141183460469231731687303715884105728*tb p<=ta p
theorem ph {p:Int} (h1: -348<=p) (h2:p<=347):Pow p:=by
 have:=pE Ht h1 h2
 simp only[ckT,P6,decide_eq_true_eq]at this
 obtain⟨⟨⟨⟨a,b⟩,c⟩,d⟩,e⟩:=this
 exact⟨a,b,c,d,e⟩
def Dn (s:Nat) (p:Int):Nat:=18446744073709551616*2^s*(18446744073709551616*tb p)
theorem xi (s:Nat) (p:Int):0<Dn s p:=QI (QI PB (QD _)) (QI PB (pg p))
theorem Nq :(18446744073709551616:Nat)=2^64:=by decide
theorem C5 {y w s mo tol X:Nat} {p:Int} (h1: -348<=p) (h2:p<=347) (hok:ckN X mo tol p=true) (x0:0<y) (x1:y<=X) (hx:y*2^w<18446744073709551616) (m1:mo+w<=128+s) (m2:65<=w+tol):
  usc (y*2^w) (hiP p) (loP p) s=uex (y*2^w*ta p) (Dn s p):=by
 have P:=ph h1 h2
 refine sj hx (tY h1 h2) (pP h1 h2) (pg p) P.l P.t1 P.t2 fun q c1 c2=>?_
 obtain⟨k,hk⟩:∃k,128+s=mo+w+k:=⟨128+s-mo-w,PA⟩
 have eD:q*(18446744073709551616*2^s*(18446744073709551616*tb p))=2^w*(q*2^k*(2^mo*tb p)):=by
  have:(2:Nat)^64*2^s*2^64=2^w*2^k*2^mo:=by rw[<-Qc,<-Qc,<-Qc,<-Qc];congr 1;omega
  grind
 have eX:y*2^w*ta p=2^w*(y*ta p):=by ac_rfl
 have eT:2*(18446744073709551616*tb p)<=2^w*(2^tol*tb p):=by
  rw[<-Qm,<-Qm,<-Qc]
  exact P1 _ (Qg PB (P7 (n:=2) PB m2))
 rw[eD,eX]at c1 c2 ⊢
 have k1:2^w*(q*2^k*(2^mo*tb p))<2^w*(y*ta p+2^tol*tb p):=by grind
 have k2:2^w*(y*ta p)<2^w*(q*2^k*(2^mo*tb p)+2^tol*tb p):=by grind
 rw[N0 (q:=far X 100 0 1 1 0 (ta p) (2^mo*tb p)) hok x0 x1 (RP k1) (RP k2)]
theorem GP {x s q0:Nat} {p:Int} (h1: -348<=p) (h2:p<=347) (hx:x<18446744073709551616) (hq:x*ta p=q0*Dn s p):
  usc x (hiP p) (loP p) s=uex (x*ta p) (Dn s p):=by
 have P:=ph h1 h2
 refine sj hx (tY h1 h2) (pP h1 h2) (pg p) P.l P.t1 P.t2 fun q c1 c2=>?_
 have hb:=pg p
 have hD:18446744073709551616*(18446744073709551616*tb p)<=18446744073709551616*2^s*(18446744073709551616*tb p):=P1 _ (Qw _ (QD s))
 unfold Dn at hq
 rw[hq]at c1 c2 ⊢
 generalize 18446744073709551616*2^s*(18446744073709551616*tb p)=D at*
 rcases Nat.lt_trichotomy q q0 with h | h | h
 ·have:(q+1)*D<=q0*D:=P1 _ h
  grind
 ·rw[h]
 ·have:(q0+1)*D<=q*D:=P1 _ h
  grind
def Ex (d:Nat) (p:Int):Prop:=d<144115188075855872\/∃q,d*ten p=q*aM p/\q<4503599627370496
section
variable {d:Nat} {p:Int}
theorem xj :pfE d p<=1074:=by unfold pfE;omega
theorem rJ {s:Nat} (hb:Lib.bitLen d<=64) (hs:(s:Int)=pfS d p):d*2^(64-Lib.bitLen d)*ta p*(W (-pfE d p)*aM p)=4*(d*ten p)*W 0*Dn s p:=by
 have hE:=xj (d:=d) (p:=p)
 unfold pfS at hs
 have:(2:Nat)^(64-Lib.bitLen d)*2^(127-l2 p).toNat*2^(-pfE d p+1074).toNat=2^2*2^((0:Int)+1074).toNat*2^64*2^s*2^64*2^(l2 p-127).toNat:=by
  simp only[<-Qc];congr 1;omega
 rw[yR,Dn,vf,Nq]
 unfold W
 rw[show(4:Nat)=2^2 from rfl]
 generalize 64-Lib.bitLen d=k1 at*
 generalize (127-l2 p).toNat=k2 at*
 generalize (-pfE d p+1074).toNat=k3 at*
 generalize ((0:Int)+1074).toNat=k4 at*
 generalize (l2 p-127).toNat=k5 at*
 calc d*2^k1*(ten p*2^k2)*(2^k3*aM p)=d*ten p*aM p*(2^k1*2^k2*2^k3):=by ac_rfl
  _=d*ten p*aM p*(2^2*2^k4*2^64*2^s*2^64*2^k5):=by rw[this]
  _=_:=by ac_rfl
theorem GQ {s:Nat} (h1: -348<=p) (h2:p<=347) (h0:d≠0) (hd:d<18446744073709551616) (hs:(s:Int)=pfS d p) (hs2:s<64) (hx:Ex d p):pfU d p=uex (4*(d*ten p)*W 0) (W (-pfE d p)*aM p):=by
 obtain⟨b1,b2,b3⟩:=jd h0 hd
 have b64:Lib.bitLen d<=64:=Lib.bitLen_le _ 64 PB hd
 have hxx:d*2^(64-Lib.bitLen d)<18446744073709551616:=by
  have:2^Lib.bitLen d*2^(64-Lib.bitLen d)=2^64:=by rw[<-Qc];congr 1;omega
  have h2:=P5 b3 (QD (64-Lib.bitLen d))
  omega
 have hs8:8<=s:=by unfold pfS pfE at hs;omega
 have hcr:=rJ b64 hs
 have hD:=xi s p
 have hA:0<W (-pfE d p)*aM p:=QI (fj _) (fa p)
 have key:usc (d*2^(64-Lib.bitLen d)) (hiP p) (loP p) s=uex (d*2^(64-Lib.bitLen d)*ta p) (Dn s p):=by
  rcases hx with hx | ⟨q,hq,hq52⟩
  ·have b57:Lib.bitLen d<=57:=Lib.bitLen_le _ 57 PB hx
   have e:d*2^(64-Lib.bitLen d)=d*2^(57-Lib.bitLen d)*2^7:=by rw[Qm,<-Qc];congr 2;omega
   have hy:d*2^(57-Lib.bitLen d)<=144115188075855871:=by omega
   rw[e]at hxx ⊢
   exact C5 h1 h2 (pE Hs h1 h2) (QI PA (QD _)) hy hxx PA PA
  ·--whole
   have hE:0<=pfE d p:=by
    have P:=ph h1 h2
    have q1:=P.lo
    rw[yR,vf]at q1
    have t0:=fa p
    have a1:2^(Lib.bitLen d-1)*(170141183460469231731687303715884105728*(aM p*2^(l2 p-127).toNat))<=d*(ten p*2^(127-l2 p).toNat):=RN b2 q1
    have a2:d*(ten p*2^(127-l2 p).toNat)=q*2^(127-l2 p).toNat*aM p:=by grind
    have a3:q*2^(127-l2 p).toNat*aM p<2^52*2^(127-l2 p).toNat*aM p:=P5 (P5 hq52 (QD _)) t0
    have a4:2^(Lib.bitLen d-1)*(170141183460469231731687303715884105728*(aM p*2^(l2 p-127).toNat))=2^(Lib.bitLen d-1)*2^127*2^(l2 p-127).toNat*aM p:=by
     grind
    have a5:2^(Lib.bitLen d-1)*2^127*2^(l2 p-127).toNat<2^52*2^(127-l2 p).toNat:=QH (a:=aM p) PA
    rw[<-Qc,<-Qc,<-Qc]at a5
    grind [Nat.pow_lt_pow_iff_right,pfE]
   refine GP h1 h2 hxx (q0:=4*q*2^(pfE d p).toNat) ?_
   have hW:W 0=2^(pfE d p).toNat*W (-pfE d p):=by
    have:=xj (d:=d) (p:=p)
    unfold W;rw[<-Qc];congr 1;omega
   rw[hq,hW]at hcr
   refine QX hA (hcr.trans ?_)
   ac_rfl
 grind [pfU,DR]
def fP (M:Nat) (e:Int) (ng:Bool):Nat:=cd ng+(if M<4503599627370496 then M else(e+1075).toNat*4503599627370496+(M-4503599627370496))
theorem Af (x:Nat):x&&& 2^52=(x/2^52 % 2)*2^52:=by
 apply Nat.eq_of_testBit_eq
 intro i
 rw[Nat.testBit_and,Nat.testBit_two_pow,Qo,Nat.testBit_two_pow_mul]
 by_cases h:52=i
 ·grind
 ·simp only[h,decide_false,Bool.and_false]
  by_cases h2:52<=i
  ·have:1<=i-52:=by omega
   simp only[h2,decide_true,Rn]
   grind [Nat.testBit_lt_two_pow]
  ·simp[h2]
theorem C6 {x:Nat} (hx:x<18446744073709551616):bits .andNot .u64 (x:Int) 4503599627370496=((x/9007199254740992*9007199254740992+x % 4503599627370496:Nat):Int):=by
 unfold bits
 have hk:IntKind.u64.bits=64:=rfl
 have e1:(BitVec.ofInt IntKind.u64.bits (x:Int)&&& ~~~(BitVec.ofInt IntKind.u64.bits (4503599627370496:Int))).toNat=x/2^53*2^53+x % 2^52:=by
  rw[BitVec.toNat_and]
  have h1:(BitVec.ofInt IntKind.u64.bits (x:Int)).toNat=x:=by
   grind
  have h2:(~~~(BitVec.ofInt IntKind.u64.bits (4503599627370496:Int))).toNat=18442240474082181119:=by decide
  rw[h1,h2]
  have m1:=Nat.and_mod_two_pow (a:=x) (b:=18442240474082181119) (n:=53)
  have m2:=Nat.and_div_two_pow (a:=x) (b:=18442240474082181119) (n:=53)
  rw[show(18442240474082181119:Nat) % 2^53=2^52-1 by decide,Qv]at m1
  rw[show(18442240474082181119:Nat)/2^53=2^11-1 by decide,Qv]at m2
  omega
 grind [IntKind.wrap_u64]
theorem JY {S f ex:Nat} (hS:S=0\/S=9223372036854775808) (hf:f<4503599627370496) (hex:ex<2048):(S+f)||| (ex*4503599627370496)=S+ex*4503599627370496+f:=by
 have m1:=Nat.or_mod_two_pow (a:=S+f) (b:=ex*4503599627370496) (n:=52)
 have m2:=Nat.or_div_two_pow (a:=S+f) (b:=ex*4503599627370496) (n:=52)
 have e1:(ex*4503599627370496) % 2^52=0:=by omega
 have e2:(ex*4503599627370496)/2^52=ex:=by omega
 rw[e1,Nat.or_zero]at m1
 rw[e2]at m2
 have e3:(S+f)/2^52||| ex=(S+f)/2^52+ex:=by
  rcases hS with rfl | rfl
  ·rw[show(0+f)/2^52=0 by omega];simp
  ·rw[show(9223372036854775808+f)/2^52=2^11 by omega]
   have:=R5 (i:=11) (b:=ex) PA 1
   grind
 omega
theorem Ns {M:Nat} {e:Int} {ng:Bool} (hM:M<9007199254740992) (he0: -1074<=e) (he:e<=971) (_hm:e= -1074\/4503599627370496<=M):pk (bits .or .u64 (cd ng:Int) (M:Int)) e=(fP M e ng,none):=by
 have hor:bits .or .u64 (cd ng:Int) (M:Int)=((cd ng+M:Nat):Int):=by
  rw[bits_or_u64_nat _ _ (by cases ng<;>decide) PA]
  congr 1
  cases ng
  ·show 0||| M=0+M;simp
  ·show 9223372036854775808||| M=9223372036854775808+M
   have:=R5 (i:=63) (b:=M) PA 1
   grind
 have hs:cd ng=0\/cd ng=9223372036854775808:=by cases ng<;>simp[cd]
 rw[hor]
 generalize hS:cd ng=S at*
 have hlt:S+M<18446744073709551616:=by omega
 have hand:bits .and .u64 ((S+M:Nat):Int) 4503599627370496=(((S+M)/4503599627370496 % 2*4503599627370496:Nat):Int):=by
  have:=bits_and_u64_nat (S+M) 4503599627370496 hlt PB
  rw[show((4503599627370496:Int))=((4503599627370496:Nat):Int)from rfl,this]
  congr 1
  exact Af (S+M)
 unfold pk fP
 rw[hand]
 by_cases h52:M<4503599627370496
 ·grind
 ·have h1:(S+M)/4503599627370496 % 2=1:=by omega
  rw[h1,if_neg PB,if_neg PA,if_neg h52,hS]
  rw[C6 hlt]
  have e1:(S+M)/9007199254740992*9007199254740992+(S+M) % 4503599627370496=S+(M-4503599627370496):=by omega
  have e2:u64.wrap ((u64.wrap (i64.wrap (1075+e)))*2^52)=(((e+1075).toNat*4503599627370496:Nat):Int):=by
   rw[wr (x:=1075+e) PA PA,show(1075+e:Int)=(((e+1075).toNat:Nat):Int) by omega,dz PA,vG,<-R3,dz PA]
  rw[e1,e2,bits_or_u64_nat _ _ PA PA,JY PA PA PA,P8]
  grind
theorem mL {u:Nat} (h:u<18446744073709551610):rnd u=(u+1+u/4 % 2)/4:=by grind [rnd]
theorem C7 {M:Nat} {e:Int} {ng:Bool} (h1: -348<=p) (h2:p<=347) (h0:d≠0) (hd:d<18446744073709551616) (hx:Ex d p) (hin:In (4*(d*ten p)*W 0) (aM p) M e) (hM:0<M) (he:e<=971):
  bc d p (cd ng)=(fP M e ng,none):=by
 obtain⟨b1,b2,b3⟩:=jd h0 hd
 have b64:Lib.bitLen d<=64:=Lib.bitLen_le _ 64 PB hd
 have hEle:=xj (d:=d) (p:=p)
 have hs8:8<=pfS d p:=by unfold pfS pfE;omega
 have hor:pfS d p=8\/pfE d p=1074:=by unfold pfS pfE;omega
 obtain⟨s,hs⟩:∃s:Nat,(s:Int)=pfS d p:=⟨(pfS d p).toNat,PA⟩
 have hcr:=rJ b64 hs
 have P:=ph h1 h2
 have hD:=xi s p
 have ht:=fa p
 have hA:0<W (-pfE d p)*aM p:=QI (fj _) ht
 have hx2:2^63<=d*2^(64-Lib.bitLen d)/\d*2^(64-Lib.bitLen d)<2^64:=by
  have e1:2^Lib.bitLen d*2^(64-Lib.bitLen d)=2^64:=by rw[<-Qc];congr 1;omega
  have e2:2^(Lib.bitLen d-1)*2^(64-Lib.bitLen d)=2^63:=by rw[<-Qc];congr 1;omega
  have l1:=P5 b3 (QD (64-Lib.bitLen d))
  have l2:=P1 (2^(64-Lib.bitLen d)) b2
  omega
 obtain⟨hxl,hxh⟩:=hx2
 generalize d*2^(64-Lib.bitLen d)=x at*
 have htb:=pg p
 have nlo:2^63*(170141183460469231731687303715884105728*tb p)<=x*ta p:=RN hxl P.lo
 have nhi:x*ta p<18446744073709551616*(340282365653287863235145205935065006080*tb p):=by
  have a1:x*ta p<=18446744073709551616*ta p:=P1 _ PA
  have a2:=Nat.mul_lt_mul_of_pos_left P.hi (show 0<18446744073709551616 by decide)
  omega
 have dn8:Dn s p=2^(s-8)*(87112285931760246646623899502532662132736*tb p):=by
  unfold Dn
  have:(2:Nat)^s=2^(s-8)*256:=by rw[show(256:Nat)=2^8 by decide,<-Qc];congr 1;omega
  grind
 have tr:∀k:Nat,k*Dn s p<=x*ta p->k*(W (-pfE d p)*aM p)<=4*(d*ten p)*W 0:=by
  intro k hk
  refine R7 (c:=Dn s p) ?_ hD
  rw[<-hcr]
  calc k*(W (-pfE d p)*aM p)*Dn s p=k*Dn s p*(W (-pfE d p)*aM p):=by ac_rfl
   _<=_:=P1 _ hk
 have tl:∀k:Nat,x*ta p<k*Dn s p->4*(d*ten p)*W 0<k*(W (-pfE d p)*aM p):=by
  intro k hk
  refine QH (a:=Dn s p) ?_
  rw[<-hcr]
  calc _<k*Dn s p*(W (-pfE d p)*aM p):=P5 hk hA
   _=_:=by ac_rfl
 have hmax:x*ta p<72057593769492480*Dn s p:=by
  rw[dn8]
  have a1:1*(87112285931760246646623899502532662132736*tb p)<=2^(s-8)*(87112285931760246646623899502532662132736*tb p):=P1 _ (QD _)
  omega
 have Ymax:=tl _ hmax
 have hs64:s<64:=by
  apply RY
  intro hge
  have hE:pfE d p=1074:=by omega
  have hW:W (-pfE d p)=1:=by rw[hE];rfl
  have small:x*ta p<1*Dn s p:=by
   rw[dn8,Rz]
   have a1:2^56*(87112285931760246646623899502532662132736*tb p)<=2^(s-8)*(87112285931760246646623899502532662132736*tb p):=P1 _ (P7 PB PA)
   omega
  have Y1:=tl _ small
  rw[hW,Rz,Rz]at Y1
  have hWe:1*aM p<=W e*aM p:=P1 _ (fj e)
  have dn:=hin.dn;have dns:=hin.dns
  generalize W e*aM p=B at*
  by_cases hM1:M=1
  ·subst hM1;omega
  ·have:8*B<=4*M*B:=P1 _ PA
   omega
 have hu:=GQ h1 h2 h0 hd hs hs64 hx
 have hc:=fE (N:=4*(d*ten p)*W 0) (D:=W (-pfE d p)*aM p) hA
 rw[<-hu]at hc
 have uhi:pfU d p<72057593769492480:=by
  apply RY
  intro h
  rcases hc with h3 | ⟨h4,h3,_⟩
  ·have:=P1 (W (-pfE d p)*aM p) h
   omega
  ·have:=P1 (W (-pfE d p)*aM p) (show 72057593769492480<=pfU d p-1 by omega)
   omega
 have ulo:s=8->18014398509481984<=pfU d p/\18014398509481984*(W (-pfE d p)*aM p)<=4*(d*ten p)*W 0:=by
  intro h8
  have k:=tr 18014398509481984 PE
  refine⟨?_,k⟩
  apply Ri
  intro h
  rcases hc with h3 | ⟨_,_,h3⟩
  ·have:=P5 h hA
   omega
  ·have:=P1 (W (-pfE d p)*aM p) (show pfU d p+1<=18014398509481984 by omega)
   omega
 have uS:s≠8->pfU d p<36028797018963966:=by
  intro h8
  have small:x*ta p<36028796884746240*Dn s p:=by
   rw[dn8]
   have a1:2^1*(87112285931760246646623899502532662132736*tb p)<=2^(s-8)*(87112285931760246646623899502532662132736*tb p):=P1 _ (P7 PB PA)
   omega
  have Y1:=tl _ small
  apply RY
  intro h
  rcases hc with h3 | ⟨h4,h3,_⟩
  ·have:=P1 (W (-pfE d p)*aM p) h
   omega
  ·have:=P1 (W (-pfE d p)*aM p) (show 36028797018963965<=pfU d p-1 by omega)
   omega
 have hres:∃R:Nat,∃e':Int,pfR d p=R/\ -(pfE d p-pfC d p)=e'/\In (4*(d*ten p)*W 0) (aM p) R e':=by
  refine⟨_,_,rfl,rfl,?_⟩
  by_cases hcc:36028797018963966<=pfU d p
  ·have h8:s=8:=by
    omega
   have ec:pfC d p=1:=by unfold pfC;rw[if_pos hcc]
   have eR:pfR d p=rnd (uex (4*(d*ten p)*W 0) (2*(W (-pfE d p)*aM p))):=by
    unfold pfR;rw[ec,vz hA,hu]
   have eW:W (-(pfE d p-(1:Nat)))*aM p=2*(W (-pfE d p)*aM p):=by
    rw[<-Qm];congr 1
    unfold W
    rw[Qo,<-QR];congr 1;omega
   have hu2:uex (4*(d*ten p)*W 0) (2*(W (-pfE d p)*aM p))=(pfU d p/2)||| (pfU d p % 2):=by rw[vz hA,hu]
   have hor2:18014398509481983<=(pfU d p/2)||| (pfU d p % 2)/\(pfU d p/2)||| (pfU d p % 2)<36028796884746242:=by
    grind [Nat.mod_two_eq_zero_or_one,tN]
   have hrn:=pF (N:=4*(d*ten p)*W 0) (D:=2*(W (-pfE d p)*aM p)) PA rfl (by rw[hu2];omega)
   rw[eR,ec]
   have hRv:rnd (uex (4*(d*ten p)*W 0) (2*(W (-pfE d p)*aM p)))<9007199254740992/\4503599627370496<=rnd (uex (4*(d*ten p)*W 0) (2*(W (-pfE d p)*aM p))):=by
    rw[hu2,mL PA];omega
   refine⟨PA,hRv.1,.inr hRv.2,?_,?_,?_,?_,fun hR _=>?_⟩
   ·simp_all
   ·simp_all
   ·simp_all
   ·simp_all
   ·rw[eW,hR]
    have hk:36028797018963966*(W (-pfE d p)*aM p)<=4*(d*ten p)*W 0:=by
     rcases hc with h3 | ⟨h4,h3,_⟩
     ·have:=P1 (W (-pfE d p)*aM p) hcc
      omega
     ·have:=P1 (W (-pfE d p)*aM p) (show 36028797018963966<=pfU d p-1 by omega)
      omega
    omega
  ·have ec:pfC d p=0:=by unfold pfC;rw[if_neg hcc]
   have eR:pfR d p=rnd (pfU d p):=by
    unfold pfR;rw[ec,RA,Nat.div_one]
    congr 1
    grind [Nat.mod_two_eq_zero_or_one,tN]
   have eW:W (-(pfE d p-(0:Nat)))=W (-pfE d p):=by congr 1;omega
   have hrn:=pF (N:=4*(d*ten p)*W 0) (D:=W (-pfE d p)*aM p) hA hu PA
   rw[eR,ec]
   have hRv:rnd (pfU d p)<9007199254740992:=by rw[mL PA];omega
   refine⟨PA,hRv,?_,PE,by simp_all,PE,by simp_all,fun hR hne=>?_⟩
   ·by_cases h8:s=8
    ·grind [mL]
    ·left;omega
   ·rw[eW,hR]
    omega
 obtain⟨R,e',hR,he',hI⟩:=hres
 obtain⟨rfl,rfl⟩:=hI.uniq ht hin
 unfold bc
 rw[if_neg PA,hR,he']
 exact Ns hin.mx hin.e0 he hin.mn
end
end Go.Proofs.YtmmmmjcfojhiaaaGreatDoor.N
/- What floats reckon is the nearest: sums of places, quotients with a sticky bit. Conditions: none. -/
namespace Go.Proofs.YtmmmmjcfojhiaaaGreatDoor.N
open Go.X Go.Proofs.YtmmmmjcfojhiaaaGreatDoor
theorem GR (s:Bool) (m d:Nat):(2*(Ieee.Toward.even.cut s m d*2^d)=2*m+2^d->Ieee.Toward.even.cut s m d % 2=0)/\(2*m=2*(Ieee.Toward.even.cut s m d*2^d)+2^d->Ieee.Toward.even.cut s m d % 2=0):=by
 unfold Ieee.Toward.cut
 dsimp only
 by_cases hd:d<=m.log2+2
 ·rw[QY hd,QW,Rz]
  have hg:0<2^d:=Ql PB
  have hdm:=QC m (2^d)
  have hlt:=QG m hg
  generalize 2^d=g at*
  generalize m/g=q at*
  generalize m % g=r at*
  have:(q+1)*g=g*q+g:=by grind
  have h0:q*g=g*q:=Qo _ _
  cases hb:(decide (g<2*r)||g==2*r&&q % 2==1)
  ·simp only[Bool.toNat_false,RU]
   simp at hb
   omega
  grind
 ·have hd2:min d (m.log2+2)=m.log2+2:=by omega
  rw[hd2,QW,Rz]
  have h1:2*m<2^(m.log2+2):=by
   grind [Nat.lt_log2_self,Nat.pow_succ]
  generalize 2^(m.log2+2)=g at*
  rw[QJ PA,Ra PA]
  grind
theorem p52 :(2:Nat)^52=4503599627370496:=by decide
theorem p53 :(2:Nat)^53=9007199254740992:=by decide
theorem rb1 {a:Nat} (h:a<=2044):min (a*2^52+2^53) (2047*2^52)=(a+2)*4503599627370496+(2^52-4503599627370496):=by
 omega
theorem rb2 {a K:Nat} (h:a<=2045) (hK:K<9007199254740992) (h2:4503599627370496<=K):min (a*2^52+K) (2047*2^52)=(a+1)*4503599627370496+(K-4503599627370496):=by
 rw[p52];omega
theorem rb3 {K:Nat} (hK:K<4503599627370496):min (0*2^52+K) (2047*2^52)=K:=by
 rw[p52];omega
theorem sg0 :cd false=0:=rfl
def C8 (Y B u:Nat):Prop:=u*B=Y\/(u % 2=1/\18014398509481984<=u/\(u-1)*B<Y/\Y<(u+1)*B)
theorem gM {Y d u M:Nat} {p e:Int} {s:Bool} (hd:0<d) (hu:u≠0) (hp: -1074<=p) (hS:C8 Y (4*(W p*d)) u) (hin:In Y d M e) (he:e<=971):F64.nearest s u p=F64.word s (fP M e false):=by
 have hl2:=(RE hu).1 rfl
 obtain⟨la,hla⟩:∃la:Int,la=max (p+(u.log2:Int)-F64.fractionBits) F64.leastPlace:=⟨_,rfl⟩
 have hla2:la=max (p+(u.log2:Int)-52) (-1074):=by rw[hla,gq,show F64.fractionBits=52 from rfl];omega
 obtain⟨K,hK⟩:∃K,K=Ieee.Toward.even.cut false (u <<< (p-la).toNat) (la-p).toNat:=⟨_,rfl⟩
 have er:fZ u p=min ((la+1074).toNat*2^52+K) (2047*2^52):=by
  unfold fZ
  rw[if_neg hu,<-hla,<-hK,ky,fR,gq,show(la- -1074).toNat=(la+1074).toNat by omega]
 have hB:0<W p*d:=QI (fj p) hd
 have hBl:0<W la*d:=QI (fj la) hd
 have keep:Y<=(4*K+2)*(W la*d)/\(K % 2=1->Y<(4*K+2)*(W la*d))/\4*K*(W la*d)<=Y+2*(W la*d)/\(K % 2=1->4*K*(W la*d)<Y+2*(W la*d)):=by
  by_cases hc:la<=p
  ·have e1:(la-p).toNat=0:=by omega
   rw[e1]at hK
   have ek:K=u*2^(p-la).toNat:=by
    have:=se .even false (u <<< (p-la).toNat) 0
    rw[RA,Qy]at this
    omega
   have hY:Y=u*(4*(W p*d)):=by
    rcases hS with h | ⟨_,h,_,_⟩
    ·exact h.symm
    ·exfalso
     have:2^54<2^(u.log2+1):=Qf h hl2.2
     have:=(Qs (a:=2) PB).1 this
     omega
   have hW:W p=2^(p-la).toNat*W la:=by unfold W;rw[<-Qc];congr 1;omega
   have:Y=4*K*(W la*d):=by grind
   grind
  ·have e1:(p-la).toNat=0:=by omega
   rw[e1,Nat.shiftLeft_zero]at hK
   have ch:=vB false u (la-p).toNat
   have ct:=GR false u (la-p).toNat
   rw[<-hK]at ch ct
   obtain⟨δ,hδ⟩:∃δ,(la-p).toNat=δ+1:=⟨(la-p).toNat-1,PA⟩
   have hW:W la=2^(la-p).toNat*W p:=by unfold W;rw[<-Qc];congr 1;omega
   have hWl:W la*d=2^(la-p).toNat*(W p*d):=by grind
   rw[hWl]
   generalize W p*d=B at*
   obtain⟨g,hg,hg2⟩:∃g,2^δ=g/\2^(la-p).toNat=g*2:=⟨2^δ,rfl,PE⟩
   rw[hg2]at ch ct ⊢
   have e4:4*K*(g*2*B)=K*(g*2)*(4*B):=by ac_rfl
   have e5:(4*K+2)*(g*2*B)=(K*(g*2)+g)*(4*B):=by
    grind
   have e6:2*(g*2*B)=g*(4*B):=by
    grind
   rw[e4,e5,e6]
   have hB4:0<4*B:=by omega
   generalize 4*B=C at*
   have hup:u<=K*(g*2)+g:=by omega
   have hdn:K*(g*2)<=u+g:=by omega
   have ups:K % 2=1->u<K*(g*2)+g:=fun h=>by
    omega
   have dns:K % 2=1->K*(g*2)<u+g:=fun h=>by
    omega
   have m1:∀a b:Nat,a<=b->a*C<=b*C:=fun a b h=>P1 _ h
   have m2:∀a b:Nat,a<b->a*C<b*C:=fun a b h=>P5 h hB4
   have e7:(u+g)*C=u*C+g*C:=Qn _ _ _
   rcases hS with h | ⟨ho,h54,hl,hr⟩
   ·rw[<-h]
    refine⟨m1 _ _ hup,fun h=>m2 _ _ (ups h),?_,fun h=>?_⟩
    ·grind
    grind
   ·have h2g:∃g',g=2*g':=by
     have:2^54<2^(u.log2+1):=Qf h54 hl2.2
     have:=(Qs (a:=2) PB).1 this
     obtain⟨δ',rfl⟩:∃δ',δ=δ'+1:=⟨δ-1,PA⟩
     grind
    obtain⟨g',rfl⟩:=h2g
    have kk:K*(2*g'*2)=2*(K*(2*g')):=by ac_rfl
    have b1:u+1<=K*(2*g'*2)+2*g':=by omega
    have b2:K*(2*g'*2)<=u-1+2*g':=by omega
    have f1:=m1 _ _ b1
    have f2:=m1 _ _ b2
    rw[Qn (u-1)]at f2
    omega
 have hup:Y<(4*2^53)*(W la*d)/\(-1074<la->4*2^52*(W la*d)<=Y):=by
  have hW1:2^(u.log2+1)*W p<=2^53*W la:=by
   unfold W;rw[<-Qc,<-Qc];exact P7 PB PA
  have a1:(u+1)*(4*(W p*d))<=4*2^53*(W la*d):=by
   have:(u+1)*W p<=2^53*W la:=Qg (P1 _ hl2.2) hW1
   calc (u+1)*(4*(W p*d))=4*((u+1)*W p)*d:=by ac_rfl
    _<=4*(2^53*W la)*d:=P1 _ (QP _ this)
    _=_:=by ac_rfl
  have a0:u*(4*(W p*d))<(u+1)*(4*(W p*d)):=P5 PA PA
  refine⟨?_,fun hgt=>?_⟩
  ·rcases hS with h | ⟨_,_,_,h⟩
   ·omega
   ·omega
  ·have hW2:2^52*W la<=2^u.log2*W p:=by
    unfold W;rw[<-Qc,<-Qc];grind
   have b1:∀v:Nat,2^u.log2<=v->4*2^52*(W la*d)<=v*(4*(W p*d)):=fun v hv=>by
    have:2^52*W la<=v*W p:=Qg hW2 (P1 _ hv)
    calc 4*2^52*(W la*d)=4*(2^52*W la)*d:=by ac_rfl
     _<=4*(v*W p)*d:=P1 _ (QP _ this)
     _=_:=by ac_rfl
   rcases hS with h | ⟨ho,h54,h,_⟩
   ·grind
   ·have:2^u.log2<=u-1:=by
     have h3:2^54<2^(u.log2+1):=Qf h54 hl2.2
     have h3:=(Qs (a:=2) PB).1 h3
     grind
    grind
 have hKle:K<=2^53:=by
  apply Ri
  intro h
  have h1:=P1 (W la*d) (show 4*2^53+4<=4*K by omega)
  omega
 have hKge: -1074<la->2^52<=K:=by
  intro h
  apply Ri
  intro h3
  have h1:=P1 (W la*d) (show 4*K+2+2<=4*2^52 by omega)
  grind
 rw[db,er]
 congr 1
 by_cases h53:K=2^53
 ·have eW:W (la+1)*d=2*(W la*d):=by
   rw[<-Qm];congr 1
   unfold W;rw[Qo,<-QR];congr 1;omega
  have hI:In Y d (2^52) (la+1):=by
   refine⟨PA,PB,.inr PB,?_,fun h=>absurd h PB,?_,fun h=>absurd h PB,fun _ _=>?_⟩
   ·rw[eW];have:=hup.1;omega
   ·rw[eW];have:=keep.2.2.1;rw[h53]at this;omega
   ·rw[eW];have:=keep.2.2.1;rw[h53]at this;omega
  obtain⟨rfl,rfl⟩:=hI.uniq hd hin
  unfold fP
  rw[if_neg (by rw[p52];exact Nat.lt_irrefl _),h53,sg0,Qu,show(la+1+1075).toNat=(la+1074).toNat+2 by omega]
  exact rb1 PA
 ·have hmn:la= -1074\/4503599627370496<=K:=by
   by_cases h:la= -1074
   ·exact .inl h
   ·exact .inr (hKge PA)
  have hI:In Y d K la:=by
   refine⟨PA,PA,hmn,keep.1,keep.2.1,keep.2.2.1,keep.2.2.2,fun h1 h2=>?_⟩
   have:=hup.2 PA
   rw[h1];omega
  obtain⟨rfl,rfl⟩:=hI.uniq hd hin
  unfold fP
  rw[sg0,Qu]
  by_cases h:K<4503599627370496
  ·have h3:la= -1074:=by
    rcases hmn with h | h
    ·exact h
    ·omega
   rw[if_pos h,show(la+1074).toNat=0 by omega]
   exact rb3 h
  ·rw[if_neg h,show(la+1075).toNat=(la+1074).toNat+1 by omega]
   exact rb2 PA (by rw[p53]at hKle h53;omega) PA
end Go.Proofs.YtmmmmjcfojhiaaaGreatDoor.N
/- The road by floats alone is to the nearest too. Conditions: none. -/
namespace Go.Proofs.YtmmmmjcfojhiaaaGreatDoor.N
open Go.X Go.Proofs.YtmmmmjcfojhiaaaGreatDoor
def Val (x:Nat) (s:Bool) (N:Nat):Prop:=∃m i,F64.read x= .number s m i/\m*W i=N*W 0
theorem xk {x N:Nat} {s:Bool} (hn:isNaN x=false) (hN:N≠0) (hl:N<2^53) (hk:key x=if s then-((N*W 0:Nat):Int)else((N*W 0:Nat):Int)):Val x s N:=by
 have hb:N*W 0<2^jl:=vt hl PB
 have h0:0<N*W 0:=QI PA (fj 0)
 have hbI:((N*W 0:Nat):Int)<(2:Int)^jl:=by
  grind
 generalize hV:N*W 0=V at*
 rcases dZ hn with⟨t,e⟩ | ⟨t,m,i,e⟩
 ·exfalso
  have hp:=tJ
  unfold key at hk;rw[e]at hk
  have:mQ (Ieee.Datum.infinity t)=if t then-(2^jl)else 2^jl:=rfl
  omega
 ·have hk2:key x=Ieee.signed t m (i+1074).toNat:=by unfold key;rw[e];rfl
  rw[hk2,bS]at hk
  have hW:m*2^(i+1074).toNat=m*W i:=rfl
  rw[hW]at hk
  generalize hz:m*W i=z at*
  have:s=t/\z=V:=by cases s<;>cases t<;>simp at hk<;>first | (constructor<;>first | rfl | omega) | (exfalso;omega)
  obtain⟨rfl,rfl⟩:=this
  exact⟨m,i,e,hz.trans hV.symm⟩
theorem ol {x N:Nat} {s:Bool} {m:Nat} {i:Int} (hr:F64.read x= .number s m i) (hv:m*W i=N*W 0) (hN:N≠0): -53<i/\m≠0:=by
 have hm:=iH hr
 obtain⟨p1,p2⟩:=fC hr
 have h1:1*W 0<=N*W 0:=P1 _ PA
 have h0:=fj 0
 refine⟨?_,fun h=>by rw[h,RL]at hv;omega⟩
 have h2:m*W i<2^53*W i:=P5 hm (fj i)
 have h3:W 0<2^53*W i:=by omega
 unfold W at h3
 rw[<-Qc]at h3
 have:=(Qs (a:=2) PB).1 h3
 omega
theorem C9 {Y d M:Nat} {e:Int} (hd:0<d) (h0: -1074<=e) (hM:M<9007199254740992) (hm:e= -1074\/4503599627370496<=M) (hY:Y=4*M*(W e*d)):In Y d M e:=by
 have hB:0<W e*d:=QI (fj e) hd
 subst hY
 have e1:(4*M+2)*(W e*d)=4*M*(W e*d)+2*(W e*d):=Qn _ _ _
 exact⟨h0,hM,hm,PA,fun _=>by omega,PA,fun _=>by omega,fun _ _=>by omega⟩
theorem GS {N:Nat} (h0:N≠0) (hN:N<2^53):∃(M:Nat) (e:Int),e<=0/\ -52<=e/\In (4*N*W 0) 1 M e/\M*W e=N*W 0:=by
 have hl:=(RE h0).1 rfl
 have hl53:N.log2<=52:=by
  have:=(Qs (a:=2) PB).1 (Qf hl.1 hN);omega
 have eW:N*2^(52-N.log2)*W (-((52-N.log2:Nat):Int))=N*W 0:=by
  rw[Qm];congr 1
  unfold W;rw[<-Qc];congr 1;omega
 refine⟨N*2^(52-N.log2),-((52-N.log2:Nat):Int),PA,PA,C9 PB PA ?_ (.inr ?_) ?_,eW⟩
 ·have:=P5 hl.2 (QD (52-N.log2))
  rw[<-Qc,show N.log2+1+(52-N.log2)=53 by omega,p53]at this
  exact this
 ·have:=P1 (2^(52-N.log2)) hl.1
  rw[<-Qc,show N.log2+(52-N.log2)=52 by omega,p52]at this
  exact this
 ·rw[Qy,Qm,Qm 4,eW]
theorem kd {u N d Y:Nat} {p:Int} (h:u*W p*d=N) (hY:Y=4*N):C8 Y (4*(W p*d)) u:=by
 left
 grind
theorem ny {u N:Nat} {p:Int} {s:Bool} (h0:N≠0) (hN:N<2^53) (hp: -1074<=p) (hu:u*W p=N*W 0):Val (F64.nearest s u p) s N:=by
 obtain⟨M,e,e0,e1,hI,_⟩:=GS h0 hN
 have hu0:u≠0:=by
  rintro rfl
  grind [W]
 have hY:4*N*W 0=4*(N*W 0):=Qm _ _ _
 have k1:=gM (s:=s) PB hu0 hp (kd PA hY) hI PA
 have k2:=gM (s:=s) (u:=N) (p:=0) PB h0 PB (kd PA hY) hI PA
 rw[k1,<-k2]
 have hk:=sf (s:=s) (m:=N) (k:=0) (i:=0) hN PB PB
 rw[RA,Qy,show((0:Int)-((0:Nat):Int))=0 by decide]at hk
 refine xk hk.2 h0 hN ?_
 rw[hk.1,bS];rfl
theorem yS {x y a b:Nat} {s t:Bool} (hx:Val x s a) (hy:Val y t b) (ha:a≠0) (hb:b≠0):∃u p,eQ x y=F64.nearest (s^^t) u p/\ -1074<=p/\u*W p=a*b*W 0/\u≠0:=by
 obtain⟨m,i,r1,v1⟩:=hx
 obtain⟨n,j,r2,v2⟩:=hy
 obtain⟨l1,n1⟩:=ol r1 v1 ha
 obtain⟨l2,n2⟩:=ol r2 v2 hb
 refine⟨m*n,i+j,?_,PA,?_,Nat.mul_ne_zero n1 n2⟩
 ·unfold eQ Ieee.Format.mul
  rw[r1,r2];rfl
 ·have eW:W (i+j)*W 0=W i*W j:=by unfold W;rw[<-Qc,<-Qc];congr 1;omega
  grind [W]
def ckF (k:Nat):Bool:=match F64.read (tF.getD k 0)with
 | .number false n j=>decide (-1074<=j)&&decide (n*W j=10^k*W 0)
 | _=>false
theorem GT :((List.range 23).all ckF)=true:=by kernel_rfl
theorem tq {k:Nat} (h:k<=22):Val (tF.getD k 0) false (10^k):=by
 have:=Qx.1 GT k (RB.2 PA)
 unfold ckF at this
 split at this
 ·rename_i n j e
  simp only[P6,decide_eq_true_eq]at this
  exact⟨n,j,e,this.2⟩
 ·cases this
theorem mM {M:Nat} {e:Int} {s:Bool}:F64.word s (fP M e false)=fP M e s:=by
 cases s
 ·exact kI _
 ·unfold Ieee.Format.word
  grind [jE,fP,cd]
theorem JZ {x y a b M:Nat} {e:Int} {s:Bool} (hx:Val x s a) (hy:Val y false b) (ha:a≠0) (hb:b≠0) (hb2:b<2^80) (hin:In (4*a*W 0) b M e) (he:e<=971):mP x y=F64.word s (fP M e false):=by
 obtain⟨m,i,r1,v1⟩:=hx
 obtain⟨n,j,r2,v2⟩:=hy
 obtain⟨l1,n1⟩:=ol r1 v1 ha
 obtain⟨l2,n2⟩:=ol r2 v2 hb
 have hm:=iH r1
 have hn:=iH r2
 obtain⟨g,hg⟩:∃g,g=54+n.log2-m.log2:=⟨_,rfl⟩
 have ml:=(RE n1).1 rfl
 have nl:=(RE n2).1 rfl
 have ml52:m.log2<=52:=by
  have:=(Qs (a:=2) PB).1 (Qf ml.1 hm);omega
 have nl52:n.log2<=52:=by
  have:=(Qs (a:=2) PB).1 (Qf nl.1 hn);omega
 have j2:j<=80:=by
  have h1:1*W j<=n*W j:=P1 _ PA
  have h2:b*W 0<2^80*W 0:=P5 hb2 (fj 0)
  have h3:W j<2^80*W 0:=by omega
  unfold W at h3
  rw[<-Qc]at h3
  grind [Nat.pow_lt_pow_iff_right]
 have hq:mP x y=F64.nearest s (2*(m <<< g/n)+(m <<< g % n != 0).toNat) (i-j-g-1):=by
  unfold mP Ieee.Format.div
  rw[r1,r2]
  unfold Ieee.Datum.quotient
  simp only[]
  rw[if_neg n2,show F64.fractionBits+2=54 from rfl,<-hg]
  cases s<;>rfl
 rw[hq,QW]
 have hdm:=QC (m*2^g) n
 have hmod:=QG (m*2^g) (show 0<n by omega)
 have hqlo:2^53<=m*2^g/n:=by
  rw[QV PA]
  calc 2^53*n<=2^53*2^(n.log2+1):=QP _ (RV nl.2)
   _=2^m.log2*2^g:=by rw[<-Qc,<-Qc];congr 1;omega
   _<=m*2^g:=P1 _ ml.1
 have hW0:=fj 0
 have eW:W (i-j-g-1)*W j*(2*2^g)=W i*W 0:=by
  have:(2:Nat)*2^g=2^(g+1):=by omega
  rw[this]
  unfold W;rw[<-Qc,<-Qc,<-Qc];congr 1;omega
 have eY:4*a*W 0*W 0=4*(2*(m*2^g))*(W (i-j-g-1)*W j):=by
  grind
 have eB:∀u:Nat,u*(4*(W (i-j-g-1)*b))*W 0=4*(u*n)*(W (i-j-g-1)*W j):=fun u=>by
  grind
 have hC:0<W (i-j-g-1)*W j:=QI (fj _) (fj _)
 refine gM PA ?_ PA ?_ hin he
 ·omega
 ·have hcm:n*(m*2^g/n)=m*2^g/n*n:=Qo _ _
  generalize m*2^g/n=q at*
  generalize m*2^g % n=r at*
  generalize m*2^g=D at*
  generalize W (i-j-g-1)*W j=C at*
  by_cases h0:r=0
  ·left
   subst h0
   refine QX hW0 ?_
   grind
  ·right
   have hb:(r != 0)=true:=by simp[h0]
   rw[hb]
   show(2*q+1) % 2=1/\18014398509481984<=2*q+1/\(2*q+1-1)*_<_/\_<(2*q+1+1)*_
   have e1:2*q*n=2*(q*n):=Qm _ _ _
   have e2:(2*q+1+1)*n=2*(q*n)+2*n:=by grind
   refine⟨PA,PA,?_,?_⟩
   ·refine QH (a:=W 0) ?_
    rw[eB,eY,show 2*q+1-1=2*q by omega,e1]
    exact P5 PA hC
   ·refine QH (a:=W 0) ?_
    rw[eB,eY,e2]
    exact P5 PA hC
end Go.Proofs.YtmmmmjcfojhiaaaGreatDoor.N
/- A number's text, read, is the float to which it is rounded. Conditions: none. -/
namespace Go.Proofs.YtmmmmjcfojhiaaaGreatDoor.N
open Go.X Go.Proofs.YtmmmmjcfojhiaaaGreatDoor
def fM (m:Nat) (ng:Bool):Nat:=if ng then Op.negFloat .f64 (FloatKind.f64.nearest (m:Int))else FloatKind.f64.nearest (m:Int)
theorem Ig (m:Nat) (ng:Bool):fM m ng=F64.nearest ng m 0:=by
 unfold fM
 cases ng
 ·rw[if_neg PB,pI]
 ·rw[if_pos rfl,pI,<-nC];rfl
theorem J0 {m:Nat} (ng:Bool) (h0:m≠0) (h:m<2^53):Val (fM m ng) ng m:=by
 grind [Ig,ny]
theorem Nt :F64.read 4845873199050653696= .number false 4503599627370496 1:=by decide
theorem Nu :key 4831355200913801216<key 4845873199050653696:=by decide+kernel
theorem Ih :isNaN 4831355200913801216=false:=by decide
theorem Nw :fh 4831355200913801216=14054727237768577024:=by decide
theorem nA (e:Int):W e=2^(e+1074).toNat:=rfl
theorem J3 {e:Int} (h: -1074<=e):W (e+1)=2*W e:=by
 unfold W
 rw[Qo,<-QR];congr 1;omega
theorem Da {u p' N:Nat} {p:Int} (_hp':p'=0) (hp: -1074<=p) (hu:u*W p=N*W 0) (hu0:u≠0) (hN:2^53<=N) (ng:Bool):
  F64.order (F64.nearest ng u p) 4831355200913801216=some .gt\/F64.order (F64.nearest ng u p) 14054727237768577024=some .lt:=by
 have hl:=vC (m:=4503599627370496) (i:=1) hu0 hp Nt (by
  rw[<-nA,<-nA,hu]
  have:4503599627370496*W 1=2^53*W 0:=by
   rw[show(1:Int)=0+1 by decide,J3 PB,p53];omega
  rw[this]
  exact P1 _ hN)
 have hk:=Nu
 cases ng
 ·grind [py,kJ,Ih]
 ·right
  rw[<-nC,<-Nw]
  grind [ox,kJ,Ih,DH,zc]
theorem Db {m M:Nat} {e e':Int} {ng:Bool} (h0:m≠0) (h:(cm m e ng).2=true) (hin:In (4*(m*ten e)*W 0) (aM e) M e') (he:e'<=971):(cm m e ng).1=fP M e' ng:=by
 have hf:∀x,cm m e ng=x->x.2=true->x.1=fP M e' ng:=by
  intro x hx hx2
  unfold cm at hx
  by_cases h52:m/4503599627370496≠0
  ·grind
  rw[if_neg h52]at hx
  have hm52:m<4503599627370496:=by omega
  have hm53:m<2^53:=by rw[p53];omega
  have hV:=J0 ng h0 hm53
  simp only[]at hx
  change (if e=0 then(fM m ng,true)else if 0<e/\e<=37 then(if F64.order (if e>22 then eQ (fM m ng) (tF.getD (e-22).toNat 0)else fM m ng) 4831355200913801216=some .gt then(_,false)else if F64.order (if e>22 then eQ (fM m ng) (tF.getD (e-22).toNat 0)else fM m ng) 14054727237768577024=some .lt then(_,false)else(eQ (if e>22 then eQ (fM m ng) (tF.getD (e-22).toNat 0)else fM m ng) (tF.getD (if e>22 then(22:Int)else e).toNat 0),true))else if-22<=e/\e<0 then(mP (fM m ng) (tF.getD (-e).toNat 0),true)else(fM m ng,false))=x at hx
  by_cases e0:e=0
  ·rw[if_pos e0]at hx
   subst hx
   show fM m ng=_
   rw[Ig,<-mM]
   subst e0
   refine gM (d:=aM 0) PB h0 PB (kd (N:=m*W 0) ?_ ?_) hin he
   ·show m*W 0*1=_;omega
   ·show 4*(m*1)*W 0=_;grind
  rw[if_neg e0]at hx
  by_cases e1:0<e/\e<=37
  ·rw[if_pos e1]at hx
   obtain⟨k,hk⟩:∃k:Nat,e=k:=⟨e.toNat,PA⟩
   subst hk
   by_cases c1:F64.order (if(k:Int)>22 then eQ (fM m ng) (tF.getD ((k:Int)-22).toNat 0)else fM m ng) 4831355200913801216=some .gt
   ·grind
   rw[if_neg c1]at hx
   by_cases c2:F64.order (if(k:Int)>22 then eQ (fM m ng) (tF.getD ((k:Int)-22).toNat 0)else fM m ng) 14054727237768577024=some .lt
   ·grind
   rw[if_neg c2]at hx
   subst hx
   show eQ _ _=_
   have ht:ten (k:Int)=10^k:=by unfold ten;simp_all
   have htn:aM (k:Int)=1:=by unfold aM;grind
   have hfac:∃a b f2 g,Val f2 ng a/\Val g false b/\a≠0/\b≠0/\a*b=m*10^k/\eQ (if(k:Int)>22 then eQ (fM m ng) (tF.getD ((k:Int)-22).toNat 0)else fM m ng) (tF.getD (if(k:Int)>22 then(22:Int)else k).toNat 0)=eQ f2 g:=by
    by_cases c:(k:Int)>22
    ·rw[if_pos c]at c1 c2 ⊢
     rw[if_pos c]
     obtain⟨j,hj⟩:∃j:Nat,k=j+22:=⟨k-22,PA⟩
     subst hj
     have ej:(((j+22:Nat):Int)-22).toNat=j:=by omega
     rw[ej]at c1 c2 ⊢
     have hp10:10^j≠0:=Sj (Ql PB)
     obtain⟨u,p,q1,q2,q3,q4⟩:=yS hV (tq (k:=j) PA) h0 hp10
     have eb:(ng^^false)=ng:=by simp_all
     rw[eb]at q1
     have hsm:m*10^j<2^53:=by
      apply RY
      intro hh
      rcases Da (p':=0) rfl q2 q3 q4 hh ng with h | h
      ·grind
      grind
     have hne:=Nat.mul_ne_zero h0 hp10
     refine⟨m*10^j,10^22,eQ (fM m ng) (tF.getD j 0),_,?_,tq (P3 _),hne,PB,?_,rfl⟩
     ·rw[q1];exact ny hne hsm q2 q3
     grind
    ·rw[if_neg c,if_neg c]
     exact⟨m,10^k,fM m ng,_,hV,by grind [tq],h0,Sj (Ql PB),rfl,rfl⟩
   obtain⟨a,b,f2,g,v1,v2,a0,b0,hab,hmul⟩:=hfac
   rw[hmul,<-mM]
   obtain⟨u,p,q1,q2,q3,q4⟩:=yS v1 v2 a0 b0
   have eb:(ng^^false)=ng:=by simp_all
   rw[q1,eb]
   rw[ht,htn]at hin
   exact gM PB q4 q2 (kd (N:=m*10^k*W 0) (by simp_all) (Qm _ _ _)) hin he
  rw[if_neg e1]at hx
  by_cases e2: -22<=e/\e<0
  ·rw[if_pos e2]at hx
   subst hx
   show mP _ _=_
   rw[<-mM]
   have ht:ten e=1:=by unfold ten;grind
   rw[ht,Qy]at hin
   exact JZ hV (tq (k:=(-e).toNat) PA) h0 (Sj (Ql PB)) (Qf (P7 (n:=10) PB (show(-e).toNat<=22 by omega)) PB) hin he
  grind
 grind
theorem GU {m M:Nat} {e e':Int} {ng:Bool} (h1: -345<=e) (h2:e<=310) (h0:m≠0) (hm:m<18446744073709551616) (hx:Ex m e) (hin:In (4*(m*ten e)*W 0) (aM e) M e') (hM:0<M) (he:e'<=971):
  fp m e ng=(fP M e' ng,none):=by
 unfold fp
 rw[if_neg h0,if_neg PA,if_neg PA]
 by_cases hc:(cm m e ng).2=true
 ·rw[if_pos hc,Db h0 hc hin he]
 ·rw[if_neg hc]
  grind [C7]
end Go.Proofs.YtmmmmjcfojhiaaaGreatDoor.N
