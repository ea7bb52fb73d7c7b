/- parse64 rounds to the nearest. Conditions: none. -/
import Derived.Test.YtemphinmoihdaaaGreatDoorWMono
set_option linter.unusedVariables false
set_option linter.unusedSimpArgs false
open Go.IntKind (i64 u64 u8 i32)
namespace Go.Proofs.YtemphinmoihdaaaGreatDoor.N
open Go.X Go.Proofs.YtemphinmoihdaaaGreatDoor
set_option maxRecDepth 100000
set_option maxHeartbeats 1000000
def ten (p:Int):Nat:=10^p.toNat
def aJ (p:Int):Nat:=10^(-p).toNat
theorem Aw (p:Int):0<ten p:=Nat.pow_pos QA
theorem fR (p:Int):0<aJ p:=Nat.pow_pos QA
theorem Ax (p:Int):ta p=ten p*2^(127-l2 p).toNat:=by
 unfold ta ten
 grind
theorem wV (p:Int):tb p=aJ p*2^(l2 p-127).toNat:=by
 unfold tb aJ
 split
 ·grind
 ·rw[show(l2 p-127).toNat=0 by unfold l2;omega,Nat.pow_zero,Nat.mul_one]
theorem qN (p:Int):0<tb p:=by rw[wV];exact Nat.mul_pos (fR p) (Nat.two_pow_pos _)
structure Pow (p:Int):Prop where
 l:loP p<=hiP p*18446744073709551616
 t1:ta p<=(hiP p*18446744073709551616-loP p)*tb p
 t2:(hiP p*18446744073709551616-loP p)*tb p<ta p+tb p
 hi:ta p<340282365653287863235145205935065006080*tb p
 lo:170141183460469231731687303715884105728*tb p<=ta p
theorem qO {p:Int} (h1: -348<=p) (h2:p<=347):Pow p:=by
 have:=rl Ia h1 h2
 simp only[ckT,Bool.and_eq_true,decide_eq_true_eq]at this
 obtain⟨⟨⟨⟨a,b⟩,c⟩,d⟩,e⟩:=this
 exact⟨a,b,c,d,e⟩
def Dn (s:Nat) (p:Int):Nat:=18446744073709551616*2^s*(18446744073709551616*tb p)
theorem yZ (s:Nat) (p:Int):0<Dn s p:=Nat.mul_pos (Nat.mul_pos QA (Nat.two_pow_pos _)) (Nat.mul_pos QA (qN p))
theorem OD :(18446744073709551616:Nat)=2^64:=by decide
theorem D7 {y w s mo tol X:Nat} {p:Int} (h1: -348<=p) (h2:p<=347) (hok:ckN X mo tol p=true) (x0:0<y) (x1:y<=X) (hx:y*2^w<18446744073709551616) (m1:mo+w<=128+s) (m2:65<=w+tol):
  usc (y*2^w) (hiP p) (loP p) s=uex (y*2^w*ta p) (Dn s p):=by
 have P:=qO h1 h2
 refine uj hx (vv h1 h2) (ru h1 h2) (qN p) P.l P.t1 P.t2 fun q c1 c2=>?_
 obtain⟨k,hk⟩:∃k,128+s=mo+w+k:=⟨128+s-mo-w,Qz⟩
 have eD:q*(18446744073709551616*2^s*(18446744073709551616*tb p))=2^w*(q*2^k*(2^mo*tb p)):=by
  have:(2:Nat)^64*2^s*2^64=2^w*2^k*2^mo:=by rw[<-Nat.pow_add,<-Nat.pow_add,<-Nat.pow_add,<-Nat.pow_add];congr 1;omega
  grind
 have eX:y*2^w*ta p=2^w*(y*ta p):=by ac_rfl
 have eT:2*(18446744073709551616*tb p)<=2^w*(2^tol*tb p):=by
  rw[<-Nat.mul_assoc,<-Nat.mul_assoc,<-Nat.pow_add]
  exact Nat.mul_le_mul_right _ (Nat.le_trans QA (Nat.pow_le_pow_right (n:=2) QA m2))
 rw[eD,eX]at c1 c2 ⊢
 have k1:2^w*(q*2^k*(2^mo*tb p))<2^w*(y*ta p+2^tol*tb p):=by grind
 have k2:2^w*(y*ta p)<2^w*(q*2^k*(2^mo*tb p)+2^tol*tb p):=by grind
 rw[O3 (q:=far X 100 0 1 1 0 (ta p) (2^mo*tb p)) hok x0 x1 (Nat.lt_of_mul_lt_mul_left k1) (Nat.lt_of_mul_lt_mul_left k2)]
theorem Hv {x s q0:Nat} {p:Int} (h1: -348<=p) (h2:p<=347) (hx:x<18446744073709551616) (hq:x*ta p=q0*Dn s p):
  usc x (hiP p) (loP p) s=uex (x*ta p) (Dn s p):=by
 have P:=qO h1 h2
 refine uj hx (vv h1 h2) (ru h1 h2) (qN p) P.l P.t1 P.t2 fun q c1 c2=>?_
 have hb:=qN p
 have hD:18446744073709551616*(18446744073709551616*tb p)<=18446744073709551616*2^s*(18446744073709551616*tb p):=Nat.mul_le_mul_right _ (Nat.le_mul_of_pos_right _ (Nat.two_pow_pos s))
 unfold Dn at hq
 rw[hq]at c1 c2 ⊢
 generalize 18446744073709551616*2^s*(18446744073709551616*tb p)=D at*
 rcases Nat.lt_trichotomy q q0 with h | h | h
 ·have:(q+1)*D<=q0*D:=Nat.mul_le_mul_right _ h
  grind
 ·rw[h]
 ·have:(q0+1)*D<=q*D:=Nat.mul_le_mul_right _ h
  grind
def Ex (d:Nat) (p:Int):Prop:=d<144115188075855872\/∃q,d*ten p=q*aJ p/\q<4503599627370496
section
variable {d:Nat} {p:Int}
theorem y5 :pfE d p<=1074:=by unfold pfE;omega
theorem tV {s:Nat} (hb:Lib.bitLen d<=64) (hs:(s:Int)=pfS d p):d*2^(64-Lib.bitLen d)*ta p*(W (-pfE d p)*aJ p)=4*(d*ten p)*W 0*Dn s p:=by
 have hE:=y5 (d:=d) (p:=p)
 unfold pfS at hs
 have:(2:Nat)^(64-Lib.bitLen d)*2^(127-l2 p).toNat*2^(-pfE d p+1074).toNat=2^2*2^((0:Int)+1074).toNat*2^64*2^s*2^64*2^(l2 p-127).toNat:=by
  simp only[<-Nat.pow_add];congr 1;omega
 rw[Ax,Dn,wV,OD]
 unfold W
 rw[show(4:Nat)=2^2 from rfl]
 generalize 64-Lib.bitLen d=k1 at*
 generalize (127-l2 p).toNat=k2 at*
 generalize (-pfE d p+1074).toNat=k3 at*
 generalize ((0:Int)+1074).toNat=k4 at*
 generalize (l2 p-127).toNat=k5 at*
 calc d*2^k1*(ten p*2^k2)*(2^k3*aJ p)=d*ten p*aJ p*(2^k1*2^k2*2^k3):=by ac_rfl
  _=d*ten p*aJ p*(2^2*2^k4*2^64*2^s*2^64*2^k5):=by rw[this]
  _=_:=by ac_rfl
theorem Hx {s:Nat} (h1: -348<=p) (h2:p<=347) (h0:d≠0) (hd:d<18446744073709551616) (hs:(s:Int)=pfS d p) (hs2:s<64) (hx:Ex d p):pfU d p=uex (4*(d*ten p)*W 0) (W (-pfE d p)*aJ p):=by
 obtain⟨b1,b2,b3⟩:=kp h0 hd
 have b64:Lib.bitLen d<=64:=Lib.bitLen_le _ 64 QA hd
 have hxx:d*2^(64-Lib.bitLen d)<18446744073709551616:=by
  have:2^Lib.bitLen d*2^(64-Lib.bitLen d)=2^64:=by rw[<-Nat.pow_add];congr 1;omega
  have h2:=Nat.mul_lt_mul_of_pos_right b3 (Nat.two_pow_pos (64-Lib.bitLen d))
  omega
 have hs8:8<=s:=by unfold pfS pfE at hs;omega
 have hcr:=tV b64 hs
 have hD:=yZ s p
 have hA:0<W (-pfE d p)*aJ p:=Nat.mul_pos (fT _) (fR p)
 have key:usc (d*2^(64-Lib.bitLen d)) (hiP p) (loP p) s=uex (d*2^(64-Lib.bitLen d)*ta p) (Dn s p):=by
  rcases hx with hx | ⟨q,hq,hq52⟩
  ·have b57:Lib.bitLen d<=57:=Lib.bitLen_le _ 57 QA hx
   have e:d*2^(64-Lib.bitLen d)=d*2^(57-Lib.bitLen d)*2^7:=by rw[Nat.mul_assoc,<-Nat.pow_add];congr 2;omega
   have hy:d*2^(57-Lib.bitLen d)<=144115188075855871:=by omega
   rw[e]at hxx ⊢
   exact D7 h1 h2 (rl H9 h1 h2) (Nat.mul_pos Qz (Nat.two_pow_pos _)) hy hxx Qz Qz
  ·--whole
   have hE:0<=pfE d p:=by
    have P:=qO h1 h2
    have q1:=P.lo
    rw[Ax,wV]at q1
    have t0:=fR p
    have a1:2^(Lib.bitLen d-1)*(170141183460469231731687303715884105728*(aJ p*2^(l2 p-127).toNat))<=d*(ten p*2^(127-l2 p).toNat):=Nat.mul_le_mul b2 q1
    have a2:d*(ten p*2^(127-l2 p).toNat)=q*2^(127-l2 p).toNat*aJ p:=by grind
    have a3:q*2^(127-l2 p).toNat*aJ p<2^52*2^(127-l2 p).toNat*aJ p:=Nat.mul_lt_mul_of_pos_right (Nat.mul_lt_mul_of_pos_right hq52 (Nat.two_pow_pos _)) t0
    have a4:2^(Lib.bitLen d-1)*(170141183460469231731687303715884105728*(aJ p*2^(l2 p-127).toNat))=2^(Lib.bitLen d-1)*2^127*2^(l2 p-127).toNat*aJ p:=by
     grind
    have a5:2^(Lib.bitLen d-1)*2^127*2^(l2 p-127).toNat<2^52*2^(127-l2 p).toNat:=Nat.lt_of_mul_lt_mul_right (a:=aJ p) Qz
    rw[<-Nat.pow_add,<-Nat.pow_add,<-Nat.pow_add]at a5
    grind [Nat.pow_lt_pow_iff_right,pfE]
   refine Hv h1 h2 hxx (q0:=4*q*2^(pfE d p).toNat) ?_
   have hW:W 0=2^(pfE d p).toNat*W (-pfE d p):=by
    have:=y5 (d:=d) (p:=p)
    unfold W;rw[<-Nat.pow_add];congr 1;omega
   rw[hq,hW]at hcr
   refine Nat.eq_of_mul_eq_mul_right hA (hcr.trans ?_)
   ac_rfl
 grind [pfU,EF]
def gQ (M:Nat) (e:Int) (ng:Bool):Nat:=jY ng+(if M<4503599627370496 then M else(e+1075).toNat*4503599627370496+(M-4503599627370496))
theorem Bv (x:Nat):x&&& 2^52=(x/2^52 % 2)*2^52:=by
 apply Nat.eq_of_testBit_eq
 intro i
 rw[Nat.testBit_and,Nat.testBit_two_pow,Nat.mul_comm,Nat.testBit_two_pow_mul]
 by_cases h:52=i
 ·grind
 ·simp only[h,decide_false,Bool.and_false]
  by_cases h2:52<=i
  ·have:1<=i-52:=by omega
   simp only[h2,decide_true,Bool.true_and]
   grind [Nat.testBit_lt_two_pow]
  ·simp[h2]
theorem D8 {x:Nat} (hx:x<18446744073709551616):bits .andNot .u64 (x:Int) 4503599627370496=((x/9007199254740992*9007199254740992+x % 4503599627370496:Nat):Int):=by
 unfold bits
 have hk:IntKind.u64.bits=64:=rfl
 have e1:(BitVec.ofInt IntKind.u64.bits (x:Int)&&& ~~~(BitVec.ofInt IntKind.u64.bits (4503599627370496:Int))).toNat=x/2^53*2^53+x % 2^52:=by
  rw[BitVec.toNat_and]
  have h1:(BitVec.ofInt IntKind.u64.bits (x:Int)).toNat=x:=by
   grind
  have h2:(~~~(BitVec.ofInt IntKind.u64.bits (4503599627370496:Int))).toNat=18442240474082181119:=by decide
  rw[h1,h2]
  have m1:=Nat.and_mod_two_pow (a:=x) (b:=18442240474082181119) (n:=53)
  have m2:=Nat.and_div_two_pow (a:=x) (b:=18442240474082181119) (n:=53)
  rw[show(18442240474082181119:Nat) % 2^53=2^52-1 by decide,Nat.and_two_pow_sub_one_eq_mod]at m1
  rw[show(18442240474082181119:Nat)/2^53=2^11-1 by decide,Nat.and_two_pow_sub_one_eq_mod]at m2
  omega
 grind [IntKind.wrap_u64]
theorem KG {S f ex:Nat} (hS:S=0\/S=9223372036854775808) (hf:f<4503599627370496) (hex:ex<2048):(S+f)||| (ex*4503599627370496)=S+ex*4503599627370496+f:=by
 have m1:=Nat.or_mod_two_pow (a:=S+f) (b:=ex*4503599627370496) (n:=52)
 have m2:=Nat.or_div_two_pow (a:=S+f) (b:=ex*4503599627370496) (n:=52)
 have e1:(ex*4503599627370496) % 2^52=0:=by omega
 have e2:(ex*4503599627370496)/2^52=ex:=by omega
 rw[e1,Nat.or_zero]at m1
 rw[e2]at m2
 have e3:(S+f)/2^52||| ex=(S+f)/2^52+ex:=by
  rcases hS with rfl | rfl
  ·rw[show(0+f)/2^52=0 by omega];simp
  ·rw[show(9223372036854775808+f)/2^52=2^11 by omega]
   have:=Nat.two_pow_add_eq_or_of_lt (i:=11) (b:=ex) Qz 1
   grind
 omega
theorem OE {M:Nat} {e:Int} {ng:Bool} (hM:M<9007199254740992) (he0: -1074<=e) (he:e<=971) (_hm:e= -1074\/4503599627370496<=M):pk (bits .or .u64 (jY ng:Int) (M:Int)) e=(gQ M e ng,none):=by
 have hor:bits .or .u64 (jY ng:Int) (M:Int)=((jY ng+M:Nat):Int):=by
  rw[bits_or_u64_nat _ _ (by cases ng<;>decide) Qz]
  congr 1
  cases ng
  ·show 0||| M=0+M;simp
  ·show 9223372036854775808||| M=9223372036854775808+M
   have:=Nat.two_pow_add_eq_or_of_lt (i:=63) (b:=M) Qz 1
   grind
 have hs:jY ng=0\/jY ng=9223372036854775808:=by cases ng<;>simp[jY]
 rw[hor]
 generalize hS:jY ng=S at*
 have hlt:S+M<18446744073709551616:=by omega
 have hand:bits .and .u64 ((S+M:Nat):Int) 4503599627370496=(((S+M)/4503599627370496 % 2*4503599627370496:Nat):Int):=by
  have:=bits_and_u64_nat (S+M) 4503599627370496 hlt QA
  rw[show((4503599627370496:Int))=((4503599627370496:Nat):Int)from rfl,this]
  congr 1
  exact Bv (S+M)
 unfold pk gQ
 rw[hand]
 by_cases h52:M<4503599627370496
 ·grind
 ·have h1:(S+M)/4503599627370496 % 2=1:=by omega
  rw[h1,if_neg QA,if_neg Qz,if_neg h52,hS]
  rw[D8 hlt]
  have e1:(S+M)/9007199254740992*9007199254740992+(S+M) % 4503599627370496=S+(M-4503599627370496):=by omega
  have e2:u64.wrap ((u64.wrap (i64.wrap (1075+e)))*2^52)=(((e+1075).toNat*4503599627370496:Nat):Int):=by
   rw[wr (x:=1075+e) Qz Qz,show(1075+e:Int)=(((e+1075).toNat:Nat):Int) by omega,fB Qz,xp,<-Int.natCast_mul,fB Qz]
  rw[e1,e2,bits_or_u64_nat _ _ Qz Qz,KG Qz Qz Qz,Int.toNat_natCast]
  grind
theorem oT {u:Nat} (h:u<18446744073709551610):rnd u=(u+1+u/4 % 2)/4:=by grind [rnd]
theorem D9 {M:Nat} {e:Int} {ng:Bool} (h1: -348<=p) (h2:p<=347) (h0:d≠0) (hd:d<18446744073709551616) (hx:Ex d p) (hin:In (4*(d*ten p)*W 0) (aJ p) M e) (hM:0<M) (he:e<=971):
  ke d p (jY ng)=(gQ M e ng,none):=by
 obtain⟨b1,b2,b3⟩:=kp h0 hd
 have b64:Lib.bitLen d<=64:=Lib.bitLen_le _ 64 QA hd
 have hEle:=y5 (d:=d) (p:=p)
 have hs8:8<=pfS d p:=by unfold pfS pfE;omega
 have hor:pfS d p=8\/pfE d p=1074:=by unfold pfS pfE;omega
 obtain⟨s,hs⟩:∃s:Nat,(s:Int)=pfS d p:=⟨(pfS d p).toNat,Qz⟩
 have hcr:=tV b64 hs
 have P:=qO h1 h2
 have hD:=yZ s p
 have ht:=fR p
 have hA:0<W (-pfE d p)*aJ p:=Nat.mul_pos (fT _) ht
 have hx2:2^63<=d*2^(64-Lib.bitLen d)/\d*2^(64-Lib.bitLen d)<2^64:=by
  have e1:2^Lib.bitLen d*2^(64-Lib.bitLen d)=2^64:=by rw[<-Nat.pow_add];congr 1;omega
  have e2:2^(Lib.bitLen d-1)*2^(64-Lib.bitLen d)=2^63:=by rw[<-Nat.pow_add];congr 1;omega
  have l1:=Nat.mul_lt_mul_of_pos_right b3 (Nat.two_pow_pos (64-Lib.bitLen d))
  have l2:=Nat.mul_le_mul_right (2^(64-Lib.bitLen d)) b2
  omega
 obtain⟨hxl,hxh⟩:=hx2
 generalize d*2^(64-Lib.bitLen d)=x at*
 have htb:=qN p
 have nlo:2^63*(170141183460469231731687303715884105728*tb p)<=x*ta p:=Nat.mul_le_mul hxl P.lo
 have nhi:x*ta p<18446744073709551616*(340282365653287863235145205935065006080*tb p):=by
  have a1:x*ta p<=18446744073709551616*ta p:=Nat.mul_le_mul_right _ Qz
  have a2:=Nat.mul_lt_mul_of_pos_left P.hi (show 0<18446744073709551616 by decide)
  omega
 have dn8:Dn s p=2^(s-8)*(87112285931760246646623899502532662132736*tb p):=by
  unfold Dn
  have:(2:Nat)^s=2^(s-8)*256:=by rw[show(256:Nat)=2^8 by decide,<-Nat.pow_add];congr 1;omega
  grind
 have tr:∀k:Nat,k*Dn s p<=x*ta p->k*(W (-pfE d p)*aJ p)<=4*(d*ten p)*W 0:=by
  intro k hk
  refine Nat.le_of_mul_le_mul_right (c:=Dn s p) ?_ hD
  rw[<-hcr]
  calc k*(W (-pfE d p)*aJ p)*Dn s p=k*Dn s p*(W (-pfE d p)*aJ p):=by ac_rfl
   _<=_:=Nat.mul_le_mul_right _ hk
 have tl:∀k:Nat,x*ta p<k*Dn s p->4*(d*ten p)*W 0<k*(W (-pfE d p)*aJ p):=by
  intro k hk
  refine Nat.lt_of_mul_lt_mul_right (a:=Dn s p) ?_
  rw[<-hcr]
  calc _<k*Dn s p*(W (-pfE d p)*aJ p):=Nat.mul_lt_mul_of_pos_right hk hA
   _=_:=by ac_rfl
 have hmax:x*ta p<72057593769492480*Dn s p:=by
  rw[dn8]
  have a1:1*(87112285931760246646623899502532662132736*tb p)<=2^(s-8)*(87112285931760246646623899502532662132736*tb p):=Nat.mul_le_mul_right _ (Nat.two_pow_pos _)
  omega
 have Ymax:=tl _ hmax
 have hs64:s<64:=by
  apply Nat.lt_of_not_le
  intro hge
  have hE:pfE d p=1074:=by omega
  have hW:W (-pfE d p)=1:=by rw[hE];rfl
  have small:x*ta p<1*Dn s p:=by
   rw[dn8,Nat.one_mul]
   have a1:2^56*(87112285931760246646623899502532662132736*tb p)<=2^(s-8)*(87112285931760246646623899502532662132736*tb p):=Nat.mul_le_mul_right _ (Nat.pow_le_pow_right QA Qz)
   omega
  have Y1:=tl _ small
  rw[hW,Nat.one_mul,Nat.one_mul]at Y1
  have hWe:1*aJ p<=W e*aJ p:=Nat.mul_le_mul_right _ (fT e)
  have dn:=hin.dn;have dns:=hin.dns
  generalize W e*aJ p=B at*
  by_cases hM1:M=1
  ·subst hM1;omega
  ·have:8*B<=4*M*B:=Nat.mul_le_mul_right _ Qz
   omega
 have hu:=Hx h1 h2 h0 hd hs hs64 hx
 have hc:=gD (N:=4*(d*ten p)*W 0) (D:=W (-pfE d p)*aJ p) hA
 rw[<-hu]at hc
 have uhi:pfU d p<72057593769492480:=by
  apply Nat.lt_of_not_le
  intro h
  rcases hc with h3 | ⟨h4,h3,_⟩
  ·have:=Nat.mul_le_mul_right (W (-pfE d p)*aJ p) h
   omega
  ·have:=Nat.mul_le_mul_right (W (-pfE d p)*aJ p) (show 72057593769492480<=pfU d p-1 by omega)
   omega
 have ulo:s=8->18014398509481984<=pfU d p/\18014398509481984*(W (-pfE d p)*aJ p)<=4*(d*ten p)*W 0:=by
  intro h8
  have k:=tr 18014398509481984 QD
  refine⟨?_,k⟩
  apply Nat.le_of_not_lt
  intro h
  rcases hc with h3 | ⟨_,_,h3⟩
  ·have:=Nat.mul_lt_mul_of_pos_right h hA
   omega
  ·have:=Nat.mul_le_mul_right (W (-pfE d p)*aJ p) (show pfU d p+1<=18014398509481984 by omega)
   omega
 have uS:s≠8->pfU d p<36028797018963966:=by
  intro h8
  have small:x*ta p<36028796884746240*Dn s p:=by
   rw[dn8]
   have a1:2^1*(87112285931760246646623899502532662132736*tb p)<=2^(s-8)*(87112285931760246646623899502532662132736*tb p):=Nat.mul_le_mul_right _ (Nat.pow_le_pow_right QA Qz)
   omega
  have Y1:=tl _ small
  apply Nat.lt_of_not_le
  intro h
  rcases hc with h3 | ⟨h4,h3,_⟩
  ·have:=Nat.mul_le_mul_right (W (-pfE d p)*aJ p) h
   omega
  ·have:=Nat.mul_le_mul_right (W (-pfE d p)*aJ p) (show 36028797018963965<=pfU d p-1 by omega)
   omega
 have hres:∃R:Nat,∃e':Int,pfR d p=R/\ -(pfE d p-pfC d p)=e'/\In (4*(d*ten p)*W 0) (aJ p) R e':=by
  refine⟨_,_,rfl,rfl,?_⟩
  by_cases hcc:36028797018963966<=pfU d p
  ·have h8:s=8:=by
    omega
   have ec:pfC d p=1:=by unfold pfC;rw[if_pos hcc]
   have eR:pfR d p=rnd (uex (4*(d*ten p)*W 0) (2*(W (-pfE d p)*aJ p))):=by
    unfold pfR;rw[ec,xi hA,hu]
   have eW:W (-(pfE d p-(1:Nat)))*aJ p=2*(W (-pfE d p)*aJ p):=by
    rw[<-Nat.mul_assoc];congr 1
    unfold W
    rw[Nat.mul_comm,<-Nat.pow_succ];congr 1;omega
   have hu2:uex (4*(d*ten p)*W 0) (2*(W (-pfE d p)*aJ p))=(pfU d p/2)||| (pfU d p % 2):=by rw[xi hA,hu]
   have hor2:18014398509481983<=(pfU d p/2)||| (pfU d p % 2)/\(pfU d p/2)||| (pfU d p % 2)<36028796884746242:=by
    grind [Nat.mod_two_eq_zero_or_one,vq]
   have hrn:=rm (N:=4*(d*ten p)*W 0) (D:=2*(W (-pfE d p)*aJ p)) Qz rfl (by rw[hu2];omega)
   rw[eR,ec]
   have hRv:rnd (uex (4*(d*ten p)*W 0) (2*(W (-pfE d p)*aJ p)))<9007199254740992/\4503599627370496<=rnd (uex (4*(d*ten p)*W 0) (2*(W (-pfE d p)*aJ p))):=by
    rw[hu2,oT Qz];omega
   refine⟨Qz,hRv.1,.inr hRv.2,?_,?_,?_,?_,fun hR _=>?_⟩
   ·simp_all
   ·simp_all
   ·simp_all
   ·simp_all
   ·rw[eW,hR]
    have hk:36028797018963966*(W (-pfE d p)*aJ p)<=4*(d*ten p)*W 0:=by
     rcases hc with h3 | ⟨h4,h3,_⟩
     ·have:=Nat.mul_le_mul_right (W (-pfE d p)*aJ p) hcc
      omega
     ·have:=Nat.mul_le_mul_right (W (-pfE d p)*aJ p) (show 36028797018963966<=pfU d p-1 by omega)
      omega
    omega
  ·have ec:pfC d p=0:=by unfold pfC;rw[if_neg hcc]
   have eR:pfR d p=rnd (pfU d p):=by
    unfold pfR;rw[ec,Nat.pow_zero,Nat.div_one]
    congr 1
    grind [Nat.mod_two_eq_zero_or_one,vq]
   have eW:W (-(pfE d p-(0:Nat)))=W (-pfE d p):=by congr 1;omega
   have hrn:=rm (N:=4*(d*ten p)*W 0) (D:=W (-pfE d p)*aJ p) hA hu Qz
   rw[eR,ec]
   have hRv:rnd (pfU d p)<9007199254740992:=by rw[oT Qz];omega
   refine⟨Qz,hRv,?_,QD,by simp_all,QD,by simp_all,fun hR hne=>?_⟩
   ·by_cases h8:s=8
    ·grind [oT]
    ·left;omega
   ·rw[eW,hR]
    omega
 obtain⟨R,e',hR,he',hI⟩:=hres
 obtain⟨rfl,rfl⟩:=hI.uniq ht hin
 unfold ke
 rw[if_neg Qz,hR,he']
 exact OE hin.mx hin.e0 he hin.mn
end
end Go.Proofs.YtemphinmoihdaaaGreatDoor.N
/- What floats reckon is the nearest: sums of places, quotients with a sticky bit. Conditions: none. -/
namespace Go.Proofs.YtemphinmoihdaaaGreatDoor.N
open Go.X Go.Proofs.YtemphinmoihdaaaGreatDoor
set_option maxRecDepth 100000
set_option maxHeartbeats 1000000
theorem Hy (s:Bool) (m d:Nat):(2*(Ieee.Toward.even.cut s m d*2^d)=2*m+2^d->Ieee.Toward.even.cut s m d % 2=0)/\(2*m=2*(Ieee.Toward.even.cut s m d*2^d)+2^d->Ieee.Toward.even.cut s m d % 2=0):=by
 unfold Ieee.Toward.cut
 dsimp only
 by_cases hd:d<=m.log2+2
 ·rw[Nat.min_eq_left hd,Nat.shiftLeft_eq,Nat.one_mul]
  have hg:0<2^d:=Nat.pow_pos QA
  have hdm:=Nat.div_add_mod m (2^d)
  have hlt:=Nat.mod_lt m hg
  generalize 2^d=g at*
  generalize m/g=q at*
  generalize m % g=r at*
  have:(q+1)*g=g*q+g:=by grind
  have h0:q*g=g*q:=Nat.mul_comm _ _
  cases hb:(decide (g<2*r)||g==2*r&&q % 2==1)
  ·simp only[Bool.toNat_false,Nat.add_zero]
   simp at hb
   omega
  grind
 ·have hd2:min d (m.log2+2)=m.log2+2:=by omega
  rw[hd2,Nat.shiftLeft_eq,Nat.one_mul]
  have h1:2*m<2^(m.log2+2):=by
   grind [Nat.lt_log2_self,Nat.pow_succ]
  generalize 2^(m.log2+2)=g at*
  rw[Nat.div_eq_of_lt Qz,Nat.mod_eq_of_lt Qz]
  grind
theorem p52 :(2:Nat)^52=4503599627370496:=by decide
theorem p53 :(2:Nat)^53=9007199254740992:=by decide
theorem rb1 {a:Nat} (h:a<=2044):min (a*2^52+2^53) (2047*2^52)=(a+2)*4503599627370496+(2^52-4503599627370496):=by
 omega
theorem rb2 {a K:Nat} (h:a<=2045) (hK:K<9007199254740992) (h2:4503599627370496<=K):min (a*2^52+K) (2047*2^52)=(a+1)*4503599627370496+(K-4503599627370496):=by
 rw[p52];omega
theorem rb3 {K:Nat} (hK:K<4503599627370496):min (0*2^52+K) (2047*2^52)=K:=by
 rw[p52];omega
theorem sg0 :jY false=0:=rfl
def Ea (Y B u:Nat):Prop:=u*B=Y\/(u % 2=1/\18014398509481984<=u/\(u-1)*B<Y/\Y<(u+1)*B)
theorem iE {Y d u M:Nat} {p e:Int} {s:Bool} (hd:0<d) (hu:u≠0) (hp: -1074<=p) (hS:Ea Y (4*(W p*d)) u) (hin:In Y d M e) (he:e<=971):F64.nearest s u p=F64.word s (gQ M e false):=by
 have hl2:=(Nat.log2_eq_iff hu).1 rfl
 obtain⟨la,hla⟩:∃la:Int,la=max (p+(u.log2:Int)-F64.fractionBits) F64.leastPlace:=⟨_,rfl⟩
 have hla2:la=max (p+(u.log2:Int)-52) (-1074):=by rw[hla,ik,show F64.fractionBits=52 from rfl];omega
 obtain⟨K,hK⟩:∃K,K=Ieee.Toward.even.cut false (u <<< (p-la).toNat) (la-p).toNat:=⟨_,rfl⟩
 have er:ia u p=min ((la+1074).toNat*2^52+K) (2047*2^52):=by
  unfold ia
  rw[if_neg hu,<-hla,<-hK,nM,gT,ik,show(la- -1074).toNat=(la+1074).toNat by omega]
 have hB:0<W p*d:=Nat.mul_pos (fT p) hd
 have hBl:0<W la*d:=Nat.mul_pos (fT la) hd
 have keep:Y<=(4*K+2)*(W la*d)/\(K % 2=1->Y<(4*K+2)*(W la*d))/\4*K*(W la*d)<=Y+2*(W la*d)/\(K % 2=1->4*K*(W la*d)<Y+2*(W la*d)):=by
  by_cases hc:la<=p
  ·have e1:(la-p).toNat=0:=by omega
   rw[e1]at hK
   have ek:K=u*2^(p-la).toNat:=by
    have:=ui .even false (u <<< (p-la).toNat) 0
    rw[Nat.pow_zero,Nat.mul_one]at this
    omega
   have hY:Y=u*(4*(W p*d)):=by
    rcases hS with h | ⟨_,h,_,_⟩
    ·exact h.symm
    ·exfalso
     have:2^54<2^(u.log2+1):=Nat.lt_of_le_of_lt h hl2.2
     have:=(Nat.pow_lt_pow_iff_right (a:=2) QA).1 this
     omega
   have hW:W p=2^(p-la).toNat*W la:=by unfold W;rw[<-Nat.pow_add];congr 1;omega
   have:Y=4*K*(W la*d):=by grind
   grind
  ·have e1:(p-la).toNat=0:=by omega
   rw[e1,Nat.shiftLeft_zero]at hK
   have ch:=xj false u (la-p).toNat
   have ct:=Hy false u (la-p).toNat
   rw[<-hK]at ch ct
   obtain⟨δ,hδ⟩:∃δ,(la-p).toNat=δ+1:=⟨(la-p).toNat-1,Qz⟩
   have hW:W la=2^(la-p).toNat*W p:=by unfold W;rw[<-Nat.pow_add];congr 1;omega
   have hWl:W la*d=2^(la-p).toNat*(W p*d):=by grind
   rw[hWl]
   generalize W p*d=B at*
   obtain⟨g,hg,hg2⟩:∃g,2^δ=g/\2^(la-p).toNat=g*2:=⟨2^δ,rfl,QD⟩
   rw[hg2]at ch ct ⊢
   have e4:4*K*(g*2*B)=K*(g*2)*(4*B):=by ac_rfl
   have e5:(4*K+2)*(g*2*B)=(K*(g*2)+g)*(4*B):=by
    grind
   have e6:2*(g*2*B)=g*(4*B):=by
    grind
   rw[e4,e5,e6]
   have hB4:0<4*B:=by omega
   generalize 4*B=C at*
   have hup:u<=K*(g*2)+g:=by omega
   have hdn:K*(g*2)<=u+g:=by omega
   have ups:K % 2=1->u<K*(g*2)+g:=fun h=>by
    omega
   have dns:K % 2=1->K*(g*2)<u+g:=fun h=>by
    omega
   have m1:∀a b:Nat,a<=b->a*C<=b*C:=fun a b h=>Nat.mul_le_mul_right _ h
   have m2:∀a b:Nat,a<b->a*C<b*C:=fun a b h=>Nat.mul_lt_mul_of_pos_right h hB4
   have e7:(u+g)*C=u*C+g*C:=Nat.add_mul _ _ _
   rcases hS with h | ⟨ho,h54,hl,hr⟩
   ·rw[<-h]
    refine⟨m1 _ _ hup,fun h=>m2 _ _ (ups h),?_,fun h=>?_⟩
    ·grind
    grind
   ·have h2g:∃g',g=2*g':=by
     have:2^54<2^(u.log2+1):=Nat.lt_of_le_of_lt h54 hl2.2
     have:=(Nat.pow_lt_pow_iff_right (a:=2) QA).1 this
     obtain⟨δ',rfl⟩:∃δ',δ=δ'+1:=⟨δ-1,Qz⟩
     grind
    obtain⟨g',rfl⟩:=h2g
    have kk:K*(2*g'*2)=2*(K*(2*g')):=by ac_rfl
    have b1:u+1<=K*(2*g'*2)+2*g':=by omega
    have b2:K*(2*g'*2)<=u-1+2*g':=by omega
    have f1:=m1 _ _ b1
    have f2:=m1 _ _ b2
    rw[Nat.add_mul (u-1)]at f2
    omega
 have hup:Y<(4*2^53)*(W la*d)/\(-1074<la->4*2^52*(W la*d)<=Y):=by
  have hW1:2^(u.log2+1)*W p<=2^53*W la:=by
   unfold W;rw[<-Nat.pow_add,<-Nat.pow_add];exact Nat.pow_le_pow_right QA Qz
  have a1:(u+1)*(4*(W p*d))<=4*2^53*(W la*d):=by
   have:(u+1)*W p<=2^53*W la:=Nat.le_trans (Nat.mul_le_mul_right _ hl2.2) hW1
   calc (u+1)*(4*(W p*d))=4*((u+1)*W p)*d:=by ac_rfl
    _<=4*(2^53*W la)*d:=Nat.mul_le_mul_right _ (Nat.mul_le_mul_left _ this)
    _=_:=by ac_rfl
  have a0:u*(4*(W p*d))<(u+1)*(4*(W p*d)):=Nat.mul_lt_mul_of_pos_right Qz Qz
  refine⟨?_,fun hgt=>?_⟩
  ·rcases hS with h | ⟨_,_,_,h⟩
   ·omega
   ·omega
  ·have hW2:2^52*W la<=2^u.log2*W p:=by
    unfold W;rw[<-Nat.pow_add,<-Nat.pow_add];grind
   have b1:∀v:Nat,2^u.log2<=v->4*2^52*(W la*d)<=v*(4*(W p*d)):=fun v hv=>by
    have:2^52*W la<=v*W p:=Nat.le_trans hW2 (Nat.mul_le_mul_right _ hv)
    calc 4*2^52*(W la*d)=4*(2^52*W la)*d:=by ac_rfl
     _<=4*(v*W p)*d:=Nat.mul_le_mul_right _ (Nat.mul_le_mul_left _ this)
     _=_:=by ac_rfl
   rcases hS with h | ⟨ho,h54,h,_⟩
   ·grind
   ·have:2^u.log2<=u-1:=by
     have h3:2^54<2^(u.log2+1):=Nat.lt_of_le_of_lt h54 hl2.2
     have h3:=(Nat.pow_lt_pow_iff_right (a:=2) QA).1 h3
     grind
    grind
 have hKle:K<=2^53:=by
  apply Nat.le_of_not_lt
  intro h
  have h1:=Nat.mul_le_mul_right (W la*d) (show 4*2^53+4<=4*K by omega)
  omega
 have hKge: -1074<la->2^52<=K:=by
  intro h
  apply Nat.le_of_not_lt
  intro h3
  have h1:=Nat.mul_le_mul_right (W la*d) (show 4*K+2+2<=4*2^52 by omega)
  grind
 rw[fw,er]
 congr 1
 by_cases h53:K=2^53
 ·have eW:W (la+1)*d=2*(W la*d):=by
   rw[<-Nat.mul_assoc];congr 1
   unfold W;rw[Nat.mul_comm,<-Nat.pow_succ];congr 1;omega
  have hI:In Y d (2^52) (la+1):=by
   refine⟨Qz,QA,.inr QA,?_,fun h=>absurd h QA,?_,fun h=>absurd h QA,fun _ _=>?_⟩
   ·rw[eW];have:=hup.1;omega
   ·rw[eW];have:=keep.2.2.1;rw[h53]at this;omega
   ·rw[eW];have:=keep.2.2.1;rw[h53]at this;omega
  obtain⟨rfl,rfl⟩:=hI.uniq hd hin
  unfold gQ
  rw[if_neg (by rw[p52];exact Nat.lt_irrefl _),h53,sg0,Nat.zero_add,show(la+1+1075).toNat=(la+1074).toNat+2 by omega]
  exact rb1 Qz
 ·have hmn:la= -1074\/4503599627370496<=K:=by
   by_cases h:la= -1074
   ·exact .inl h
   ·exact .inr (hKge Qz)
  have hI:In Y d K la:=by
   refine⟨Qz,Qz,hmn,keep.1,keep.2.1,keep.2.2.1,keep.2.2.2,fun h1 h2=>?_⟩
   have:=hup.2 Qz
   rw[h1];omega
  obtain⟨rfl,rfl⟩:=hI.uniq hd hin
  unfold gQ
  rw[sg0,Nat.zero_add]
  by_cases h:K<4503599627370496
  ·have h3:la= -1074:=by
    rcases hmn with h | h
    ·exact h
    ·omega
   rw[if_pos h,show(la+1074).toNat=0 by omega]
   exact rb3 h
  ·rw[if_neg h,show(la+1075).toNat=(la+1074).toNat+1 by omega]
   exact rb2 Qz (by rw[p53]at hKle h53;omega) Qz
end Go.Proofs.YtemphinmoihdaaaGreatDoor.N
/- The road by floats alone is to the nearest too. Conditions: none. -/
namespace Go.Proofs.YtemphinmoihdaaaGreatDoor.N
open Go.X Go.Proofs.YtemphinmoihdaaaGreatDoor
set_option maxRecDepth 100000
set_option maxHeartbeats 1000000
def Val (x:Nat) (s:Bool) (N:Nat):Prop:=∃m i,F64.read x= .number s m i/\m*W i=N*W 0
theorem y7 {x N:Nat} {s:Bool} (hn:isNaN x=false) (hN:N≠0) (hl:N<2^53) (hk:key x=if s then-((N*W 0:Nat):Int)else((N*W 0:Nat):Int)):Val x s N:=by
 have hb:N*W 0<2^kA:=xf hl QA
 have h0:0<N*W 0:=Nat.mul_pos Qz (fT 0)
 have hbI:((N*W 0:Nat):Int)<(2:Int)^kA:=by
  grind
 generalize hV:N*W 0=V at*
 rcases iJ hn with⟨t,e⟩ | ⟨t,m,i,e⟩
 ·exfalso
  have hp:=AE
  unfold key at hk;rw[e]at hk
  have:vl (Ieee.Datum.infinity t)=if t then-(2^kA)else 2^kA:=rfl
  omega
 ·have hk2:key x=Ieee.signed t m (i+1074).toNat:=by unfold key;rw[e];rfl
  rw[hk2,cF]at hk
  have hW:m*2^(i+1074).toNat=m*W i:=rfl
  rw[hW]at hk
  generalize hz:m*W i=z at*
  have:s=t/\z=V:=by cases s<;>cases t<;>simp at hk<;>first | (constructor<;>first | rfl | omega) | (exfalso;omega)
  obtain⟨rfl,rfl⟩:=this
  exact⟨m,i,e,hz.trans hV.symm⟩
theorem qg {x N:Nat} {s:Bool} {m:Nat} {i:Int} (hr:F64.read x= .number s m i) (hv:m*W i=N*W 0) (hN:N≠0): -53<i/\m≠0:=by
 have hm:=jI hr
 obtain⟨p1,p2⟩:=gy hr
 have h1:1*W 0<=N*W 0:=Nat.mul_le_mul_right _ Qz
 have h0:=fT 0
 refine⟨?_,fun h=>by rw[h,Nat.zero_mul]at hv;omega⟩
 have h2:m*W i<2^53*W i:=Nat.mul_lt_mul_of_pos_right hm (fT i)
 have h3:W 0<2^53*W i:=by omega
 unfold W at h3
 rw[<-Nat.pow_add]at h3
 have:=(Nat.pow_lt_pow_iff_right (a:=2) QA).1 h3
 omega
theorem Eb {Y d M:Nat} {e:Int} (hd:0<d) (h0: -1074<=e) (hM:M<9007199254740992) (hm:e= -1074\/4503599627370496<=M) (hY:Y=4*M*(W e*d)):In Y d M e:=by
 have hB:0<W e*d:=Nat.mul_pos (fT e) hd
 subst hY
 have e1:(4*M+2)*(W e*d)=4*M*(W e*d)+2*(W e*d):=Nat.add_mul _ _ _
 exact⟨h0,hM,hm,Qz,fun _=>by omega,Qz,fun _=>by omega,fun _ _=>by omega⟩
theorem Hz {N:Nat} (h0:N≠0) (hN:N<2^53):∃(M:Nat) (e:Int),e<=0/\ -52<=e/\In (4*N*W 0) 1 M e/\M*W e=N*W 0:=by
 have hl:=(Nat.log2_eq_iff h0).1 rfl
 have hl53:N.log2<=52:=by
  have:=(Nat.pow_lt_pow_iff_right (a:=2) QA).1 (Nat.lt_of_le_of_lt hl.1 hN);omega
 have eW:N*2^(52-N.log2)*W (-((52-N.log2:Nat):Int))=N*W 0:=by
  rw[Nat.mul_assoc];congr 1
  unfold W;rw[<-Nat.pow_add];congr 1;omega
 refine⟨N*2^(52-N.log2),-((52-N.log2:Nat):Int),Qz,Qz,Eb QA Qz ?_ (.inr ?_) ?_,eW⟩
 ·have:=Nat.mul_lt_mul_of_pos_right hl.2 (Nat.two_pow_pos (52-N.log2))
  rw[<-Nat.pow_add,show N.log2+1+(52-N.log2)=53 by omega,p53]at this
  exact this
 ·have:=Nat.mul_le_mul_right (2^(52-N.log2)) hl.1
  rw[<-Nat.pow_add,show N.log2+(52-N.log2)=52 by omega,p52]at this
  exact this
 ·rw[Nat.mul_one,Nat.mul_assoc,Nat.mul_assoc 4,eW]
theorem lU {u N d Y:Nat} {p:Int} (h:u*W p*d=N) (hY:Y=4*N):Ea Y (4*(W p*d)) u:=by
 left
 grind
theorem pC {u N:Nat} {p:Int} {s:Bool} (h0:N≠0) (hN:N<2^53) (hp: -1074<=p) (hu:u*W p=N*W 0):Val (F64.nearest s u p) s N:=by
 obtain⟨M,e,e0,e1,hI,_⟩:=Hz h0 hN
 have hu0:u≠0:=by
  rintro rfl
  grind [W]
 have hY:4*N*W 0=4*(N*W 0):=Nat.mul_assoc _ _ _
 have k1:=iE (s:=s) QA hu0 hp (lU Qz hY) hI Qz
 have k2:=iE (s:=s) (u:=N) (p:=0) QA h0 QA (lU Qz hY) hI Qz
 rw[k1,<-k2]
 have hk:=BD (s:=s) (m:=N) (k:=0) (i:=0) hN QA QA
 rw[Nat.pow_zero,Nat.mul_one,show((0:Int)-((0:Nat):Int))=0 by decide]at hk
 refine y7 hk.2 h0 hN ?_
 rw[hk.1,cF];rfl
theorem Ay {x y a b:Nat} {s t:Bool} (hx:Val x s a) (hy:Val y t b) (ha:a≠0) (hb:b≠0):∃u p,iI x y=F64.nearest (s^^t) u p/\ -1074<=p/\u*W p=a*b*W 0/\u≠0:=by
 obtain⟨m,i,r1,v1⟩:=hx
 obtain⟨n,j,r2,v2⟩:=hy
 obtain⟨l1,n1⟩:=qg r1 v1 ha
 obtain⟨l2,n2⟩:=qg r2 v2 hb
 refine⟨m*n,i+j,?_,Qz,?_,Nat.mul_ne_zero n1 n2⟩
 ·unfold iI Ieee.Format.mul
  rw[r1,r2];rfl
 ·have eW:W (i+j)*W 0=W i*W j:=by unfold W;rw[<-Nat.pow_add,<-Nat.pow_add];congr 1;omega
  grind [W]
def ckF (k:Nat):Bool:=match F64.read (tF.getD k 0)with
 | .number false n j=>decide (-1074<=j)&&decide (n*W j=10^k*W 0)
 | _=>false
theorem HB :((List.range 23).all ckF)=true:=by kernel_rfl
theorem ve {k:Nat} (h:k<=22):Val (tF.getD k 0) false (10^k):=by
 have:=List.all_eq_true.1 HB k (List.mem_range.2 Qz)
 unfold ckF at this
 split at this
 ·rename_i n j e
  simp only[Bool.and_eq_true,decide_eq_true_eq]at this
  exact⟨n,j,e,this.2⟩
 ·cases this
theorem oU {M:Nat} {e:Int} {s:Bool}:F64.word s (gQ M e false)=gQ M e s:=by
 cases s
 ·exact mE _
 ·unfold Ieee.Format.word
  grind [mD,gQ,jY]
theorem KH {x y a b M:Nat} {e:Int} {s:Bool} (hx:Val x s a) (hy:Val y false b) (ha:a≠0) (hb:b≠0) (hb2:b<2^80) (hin:In (4*a*W 0) b M e) (he:e<=971):qU x y=F64.word s (gQ M e false):=by
 obtain⟨m,i,r1,v1⟩:=hx
 obtain⟨n,j,r2,v2⟩:=hy
 obtain⟨l1,n1⟩:=qg r1 v1 ha
 obtain⟨l2,n2⟩:=qg r2 v2 hb
 have hm:=jI r1
 have hn:=jI r2
 obtain⟨g,hg⟩:∃g,g=54+n.log2-m.log2:=⟨_,rfl⟩
 have ml:=(Nat.log2_eq_iff n1).1 rfl
 have nl:=(Nat.log2_eq_iff n2).1 rfl
 have ml52:m.log2<=52:=by
  have:=(Nat.pow_lt_pow_iff_right (a:=2) QA).1 (Nat.lt_of_le_of_lt ml.1 hm);omega
 have nl52:n.log2<=52:=by
  have:=(Nat.pow_lt_pow_iff_right (a:=2) QA).1 (Nat.lt_of_le_of_lt nl.1 hn);omega
 have j2:j<=80:=by
  have h1:1*W j<=n*W j:=Nat.mul_le_mul_right _ Qz
  have h2:b*W 0<2^80*W 0:=Nat.mul_lt_mul_of_pos_right hb2 (fT 0)
  have h3:W j<2^80*W 0:=by omega
  unfold W at h3
  rw[<-Nat.pow_add]at h3
  grind [Nat.pow_lt_pow_iff_right]
 have hq:qU x y=F64.nearest s (2*(m <<< g/n)+(m <<< g % n != 0).toNat) (i-j-g-1):=by
  unfold qU Ieee.Format.div
  rw[r1,r2]
  unfold Ieee.Datum.quotient
  simp only[]
  rw[if_neg n2,show F64.fractionBits+2=54 from rfl,<-hg]
  cases s<;>rfl
 rw[hq,Nat.shiftLeft_eq]
 have hdm:=Nat.div_add_mod (m*2^g) n
 have hmod:=Nat.mod_lt (m*2^g) (show 0<n by omega)
 have hqlo:2^53<=m*2^g/n:=by
  rw[Nat.le_div_iff_mul_le Qz]
  calc 2^53*n<=2^53*2^(n.log2+1):=Nat.mul_le_mul_left _ (Nat.le_of_lt nl.2)
   _=2^m.log2*2^g:=by rw[<-Nat.pow_add,<-Nat.pow_add];congr 1;omega
   _<=m*2^g:=Nat.mul_le_mul_right _ ml.1
 have hW0:=fT 0
 have eW:W (i-j-g-1)*W j*(2*2^g)=W i*W 0:=by
  have:(2:Nat)*2^g=2^(g+1):=by omega
  rw[this]
  unfold W;rw[<-Nat.pow_add,<-Nat.pow_add,<-Nat.pow_add];congr 1;omega
 have eY:4*a*W 0*W 0=4*(2*(m*2^g))*(W (i-j-g-1)*W j):=by
  grind
 have eB:∀u:Nat,u*(4*(W (i-j-g-1)*b))*W 0=4*(u*n)*(W (i-j-g-1)*W j):=fun u=>by
  grind
 have hC:0<W (i-j-g-1)*W j:=Nat.mul_pos (fT _) (fT _)
 refine iE Qz ?_ Qz ?_ hin he
 ·omega
 ·have hcm:n*(m*2^g/n)=m*2^g/n*n:=Nat.mul_comm _ _
  generalize m*2^g/n=q at*
  generalize m*2^g % n=r at*
  generalize m*2^g=D at*
  generalize W (i-j-g-1)*W j=C at*
  by_cases h0:r=0
  ·left
   subst h0
   refine Nat.eq_of_mul_eq_mul_right hW0 ?_
   grind
  ·right
   have hb:(r != 0)=true:=by simp[h0]
   rw[hb]
   show(2*q+1) % 2=1/\18014398509481984<=2*q+1/\(2*q+1-1)*_<_/\_<(2*q+1+1)*_
   have e1:2*q*n=2*(q*n):=Nat.mul_assoc _ _ _
   have e2:(2*q+1+1)*n=2*(q*n)+2*n:=by grind
   refine⟨Qz,Qz,?_,?_⟩
   ·refine Nat.lt_of_mul_lt_mul_right (a:=W 0) ?_
    rw[eB,eY,show 2*q+1-1=2*q by omega,e1]
    exact Nat.mul_lt_mul_of_pos_right Qz hC
   ·refine Nat.lt_of_mul_lt_mul_right (a:=W 0) ?_
    rw[eB,eY,e2]
    exact Nat.mul_lt_mul_of_pos_right Qz hC
end Go.Proofs.YtemphinmoihdaaaGreatDoor.N
/- A number's text, read, is the float to which it is rounded. Conditions: none. -/
namespace Go.Proofs.YtemphinmoihdaaaGreatDoor.N
open Go.X Go.Proofs.YtemphinmoihdaaaGreatDoor
set_option maxRecDepth 100000
set_option maxHeartbeats 1000000
def fM (m:Nat) (ng:Bool):Nat:=if ng then Op.negFloat .f64 (FloatKind.f64.nearest (m:Int))else FloatKind.f64.nearest (m:Int)
theorem I7 (m:Nat) (ng:Bool):fM m ng=F64.nearest ng m 0:=by
 unfold fM
 cases ng
 ·rw[if_neg QA,xu]
 ·rw[if_pos rfl,xu,<-pF];rfl
theorem KI {m:Nat} (ng:Bool) (h0:m≠0) (h:m<2^53):Val (fM m ng) ng m:=by
 grind [I7,pC]
theorem OG :F64.read 4845873199050653696= .number false 4503599627370496 1:=by decide
theorem OH :key 4831355200913801216<key 4845873199050653696:=by decide+kernel
theorem I8 :isNaN 4831355200913801216=false:=by decide
theorem OI :gz 4831355200913801216=14054727237768577024:=by decide
theorem pD (e:Int):W e=2^(e+1074).toNat:=rfl
theorem KJ {e:Int} (h: -1074<=e):W (e+1)=2*W e:=by
 unfold W
 rw[Nat.mul_comm,<-Nat.pow_succ];congr 1;omega
theorem Ec {u p' N:Nat} {p:Int} (_hp':p'=0) (hp: -1074<=p) (hu:u*W p=N*W 0) (hu0:u≠0) (hN:2^53<=N) (ng:Bool):
  F64.order (F64.nearest ng u p) 4831355200913801216=some .gt\/F64.order (F64.nearest ng u p) 14054727237768577024=some .lt:=by
 have hl:=xl (m:=4503599627370496) (i:=1) hu0 hp OG (by
  rw[<-pD,<-pD,hu]
  have:4503599627370496*W 1=2^53*W 0:=by
   rw[show(1:Int)=0+1 by decide,KJ QA,p53];omega
  rw[this]
  exact Nat.mul_le_mul_right _ hN)
 have hk:=OH
 cases ng
 ·grind [xg,mG,I8]
 ·right
  rw[<-pF,<-OI]
  grind [vn,mG,I8,Ev,H4]
theorem Ed {m M:Nat} {e e':Int} {ng:Bool} (h0:m≠0) (h:(iK m e ng).2=true) (hin:In (4*(m*ten e)*W 0) (aJ e) M e') (he:e'<=971):(iK m e ng).1=gQ M e' ng:=by
 have hf:∀x,iK m e ng=x->x.2=true->x.1=gQ M e' ng:=by
  intro x hx hx2
  unfold iK at hx
  by_cases h52:m/4503599627370496≠0
  ·grind
  rw[if_neg h52]at hx
  have hm52:m<4503599627370496:=by omega
  have hm53:m<2^53:=by rw[p53];omega
  have hV:=KI ng h0 hm53
  simp only[]at hx
  change (if e=0 then(fM m ng,true)else if 0<e/\e<=37 then(if F64.order (if e>22 then iI (fM m ng) (tF.getD (e-22).toNat 0)else fM m ng) 4831355200913801216=some .gt then(_,false)else if F64.order (if e>22 then iI (fM m ng) (tF.getD (e-22).toNat 0)else fM m ng) 14054727237768577024=some .lt then(_,false)else(iI (if e>22 then iI (fM m ng) (tF.getD (e-22).toNat 0)else fM m ng) (tF.getD (if e>22 then(22:Int)else e).toNat 0),true))else if-22<=e/\e<0 then(qU (fM m ng) (tF.getD (-e).toNat 0),true)else(fM m ng,false))=x at hx
  by_cases e0:e=0
  ·rw[if_pos e0]at hx
   subst hx
   show fM m ng=_
   rw[I7,<-oU]
   subst e0
   refine iE (d:=aJ 0) QA h0 QA (lU (N:=m*W 0) ?_ ?_) hin he
   ·show m*W 0*1=_;omega
   ·show 4*(m*1)*W 0=_;grind
  rw[if_neg e0]at hx
  by_cases e1:0<e/\e<=37
  ·rw[if_pos e1]at hx
   obtain⟨k,hk⟩:∃k:Nat,e=k:=⟨e.toNat,Qz⟩
   subst hk
   by_cases c1:F64.order (if(k:Int)>22 then iI (fM m ng) (tF.getD ((k:Int)-22).toNat 0)else fM m ng) 4831355200913801216=some .gt
   ·grind
   rw[if_neg c1]at hx
   by_cases c2:F64.order (if(k:Int)>22 then iI (fM m ng) (tF.getD ((k:Int)-22).toNat 0)else fM m ng) 14054727237768577024=some .lt
   ·grind
   rw[if_neg c2]at hx
   subst hx
   show iI _ _=_
   have ht:ten (k:Int)=10^k:=by unfold ten;simp_all
   have htn:aJ (k:Int)=1:=by unfold aJ;grind
   have hfac:∃a b f2 g,Val f2 ng a/\Val g false b/\a≠0/\b≠0/\a*b=m*10^k/\iI (if(k:Int)>22 then iI (fM m ng) (tF.getD ((k:Int)-22).toNat 0)else fM m ng) (tF.getD (if(k:Int)>22 then(22:Int)else k).toNat 0)=iI f2 g:=by
    by_cases c:(k:Int)>22
    ·rw[if_pos c]at c1 c2 ⊢
     rw[if_pos c]
     obtain⟨j,hj⟩:∃j:Nat,k=j+22:=⟨k-22,Qz⟩
     subst hj
     have ej:(((j+22:Nat):Int)-22).toNat=j:=by omega
     rw[ej]at c1 c2 ⊢
     have hp10:10^j≠0:=Nat.ne_of_gt (Nat.pow_pos QA)
     obtain⟨u,p,q1,q2,q3,q4⟩:=Ay hV (ve (k:=j) Qz) h0 hp10
     have eb:(ng^^false)=ng:=by simp_all
     rw[eb]at q1
     have hsm:m*10^j<2^53:=by
      apply Nat.lt_of_not_le
      intro hh
      rcases Ec (p':=0) rfl q2 q3 q4 hh ng with h | h
      ·grind
      grind
     have hne:=Nat.mul_ne_zero h0 hp10
     refine⟨m*10^j,10^22,iI (fM m ng) (tF.getD j 0),_,?_,ve (Nat.le_refl _),hne,QA,?_,rfl⟩
     ·rw[q1];exact pC hne hsm q2 q3
     grind
    ·rw[if_neg c,if_neg c]
     exact⟨m,10^k,fM m ng,_,hV,by grind [ve],h0,Nat.ne_of_gt (Nat.pow_pos QA),rfl,rfl⟩
   obtain⟨a,b,f2,g,v1,v2,a0,b0,hab,hmul⟩:=hfac
   rw[hmul,<-oU]
   obtain⟨u,p,q1,q2,q3,q4⟩:=Ay v1 v2 a0 b0
   have eb:(ng^^false)=ng:=by simp_all
   rw[q1,eb]
   rw[ht,htn]at hin
   exact iE QA q4 q2 (lU (N:=m*10^k*W 0) (by simp_all) (Nat.mul_assoc _ _ _)) hin he
  rw[if_neg e1]at hx
  by_cases e2: -22<=e/\e<0
  ·rw[if_pos e2]at hx
   subst hx
   show qU _ _=_
   rw[<-oU]
   have ht:ten e=1:=by unfold ten;grind
   rw[ht,Nat.mul_one]at hin
   exact KH hV (ve (k:=(-e).toNat) Qz) h0 (Nat.ne_of_gt (Nat.pow_pos QA)) (Nat.lt_of_le_of_lt (Nat.pow_le_pow_right (n:=10) QA (show(-e).toNat<=22 by omega)) QA) hin he
  grind
 grind
theorem HC {m M:Nat} {e e':Int} {ng:Bool} (h1: -345<=e) (h2:e<=310) (h0:m≠0) (hm:m<18446744073709551616) (hx:Ex m e) (hin:In (4*(m*ten e)*W 0) (aJ e) M e') (hM:0<M) (he:e'<=971):
  iD m e ng=(gQ M e' ng,none):=by
 unfold iD
 rw[if_neg h0,if_neg Qz,if_neg Qz]
 by_cases hc:(iK m e ng).2=true
 ·rw[if_pos hc,Ed h0 hc hin he]
 ·rw[if_neg hc]
  grind [D9]
end Go.Proofs.YtemphinmoihdaaaGreatDoor.N
