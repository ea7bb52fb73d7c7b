/- Checks of the shortest digits, exponent by exponent. Conditions: none. -/
import Derived.Test.YtemclecmafjjfaaGreatDoorWAtofIn
import Derived.Test.YtemclecmafjjfaaGreatDoorHVal
import Derived.Test.YtemclecmafjjfaaGreatDoorWMono
set_option linter.unusedVariables false
set_option linter.unusedSimpArgs false
namespace Go.Proofs.YtemclecmafjjfaaGreatDoor.N
open Go.X Go.Proofs.YtemclecmafjjfaaGreatDoor
set_option maxRecDepth 100000
set_option maxHeartbeats 1000000
def okL (f:Int->Int) (k:Nat):Bool:=let e:=(k:Int)-1074;decide (0<=e+l2 (-f e))&&decide (e+l2 (-f e)<=3)
theorem Fm :((List.range 2046).all (okL l10))=true:=by kernel_rfl
theorem Fo :((List.range 2046).all (okL skw))=true:=by kernel_rfl
theorem Il {e:Int} (h1: -1074<=e) (h2:e<=971):0<=e+l2 (-l10 e)/\e+l2 (-l10 e)<=3:=by
 have:=List.all_eq_true.1 Fm (e+1074).toNat (List.mem_range.2 (by omega))
 simp only[okL,Bool.and_eq_true,decide_eq_true_eq]at this
 rwa[show(((e+1074).toNat:Nat):Int)-1074=e by omega]at this
theorem Im {e:Int} (h1: -1074<=e) (h2:e<=971):0<=e+l2 (-skw e)/\e+l2 (-skw e)<=3:=by
 have:=List.all_eq_true.1 Fo (e+1074).toNat (List.mem_range.2 (by omega))
 simp only[okL,Bool.and_eq_true,decide_eq_true_eq]at this
 rwa[show(((e+1074).toNat:Nat):Int)-1074=e by omega]at this
def ckS (h l:Nat) (p:Int):Bool:=(List.range 6).all fun k=>
 let e:=l2 (-p)+(k:Int)
 if skw e= -p then
  let s:=((-(e-11+l2 p+3)) % 64).toNat
  let dn:=(usc 9223372036854775296 h l s+0+3) % 18446744073709551616/4
  let dx:=(usc 9223372036854776832 h l s+18446744073709551616-0) % 18446744073709551616/4
  if dn<dx then(if dn<=dx/10*10 then true else decide (dn<=rnd (usc 9223372036854775808 h l s)))else true
 else true
theorem Ip :ckL ckS Go.Pinned.pow10Rows 0=true:=by kernel_rfl
theorem Fp :ckL (fun _ _ p=>ckN 18014398509481984 124 56 p) Go.Pinned.pow10Rows 0=true:=by kernel_rfl
def okB (k:Nat):Bool:=
 let e:=(k:Int)-1074
 decide (10^(-(-l10 e)).toNat*W 0<=W e*10^(-l10 e).toNat)&&decide (4*(10^(-(-skw e)).toNat*W 0)<=3*(W e*10^(-skw e).toNat))&&decide (l2 (skw e)<=e)&&decide (e<=l2 (skw e)+5)
theorem Fq :((List.range 2046).all okB)=true:=by kernel_rfl
theorem Iq {e:Int} (h1: -1074<=e) (h2:e<=971):aM (-l10 e)*W 0<=W e*ten (-l10 e)/\4*(aM (-skw e)*W 0)<=3*(W e*ten (-skw e))/\l2 (skw e)<=e/\e<=l2 (skw e)+5:=by
 have:=List.all_eq_true.1 Fq (e+1074).toNat (List.mem_range.2 (by omega))
 simp only[okB,Bool.and_eq_true,decide_eq_true_eq]at this
 rw[show(((e+1074).toNat:Nat):Int)-1074=e by omega]at this
 exact⟨this.1.1.1,this.1.1.2,this.1.2,this.2⟩
end Go.Proofs.YtemclecmafjjfaaGreatDoor.N
/- The shortest digits lie where they are rounded back. Conditions: none. -/
namespace Go.Proofs.YtemclecmafjjfaaGreatDoor.N
open Go.X Go.Proofs.YtemclecmafjjfaaGreatDoor
set_option maxRecDepth 100000
set_option maxHeartbeats 1000000
theorem In.scale {Y d Y' d' M:Nat} {e:Int} (hd:0<d) (h:In Y d M e) (hY:Y*d'=Y'*d) (hd':0<d'):In Y' d' M e:=by
 obtain⟨a1,a2,a3,a4,a5,a6,a7,a8⟩:=h
 have le1:∀c,Y<=c*(W e*d)->Y'<=c*(W e*d'):=fun c hc=>by
  refine Nat.le_of_mul_le_mul_right (c:=d) ?_ hd
  rw[<-hY]
  calc Y*d'<=c*(W e*d)*d':=Nat.mul_le_mul_right _ hc
   _=_:=by ac_rfl
 have lt1:∀c,Y<c*(W e*d)->Y'<c*(W e*d'):=fun c hc=>by
  refine Nat.lt_of_mul_lt_mul_right (a:=d) ?_
  rw[<-hY]
  calc Y*d'<c*(W e*d)*d':=Nat.mul_lt_mul_of_pos_right hc hd'
   _=_:=by ac_rfl
 have le2:∀c k,c*(W e*d)<=Y+k*(W e*d)->c*(W e*d')<=Y'+k*(W e*d'):=fun c k hc=>by
  refine Nat.le_of_mul_le_mul_right (c:=d) ?_ hd
  rw[Nat.add_mul,<-hY]
  calc c*(W e*d')*d=c*(W e*d)*d':=by ac_rfl
   _<=(Y+k*(W e*d))*d':=Nat.mul_le_mul_right _ hc
   _=Y*d'+k*(W e*d)*d':=Nat.add_mul _ _ _
   _=_:=by congr 1;ac_rfl
 have lt2:∀c k,c*(W e*d)<Y+k*(W e*d)->c*(W e*d')<Y'+k*(W e*d'):=fun c k hc=>by
  refine Nat.lt_of_mul_lt_mul_right (a:=d) ?_
  rw[Nat.add_mul,<-hY]
  calc c*(W e*d')*d=c*(W e*d)*d':=by ac_rfl
   _<(Y+k*(W e*d))*d':=Nat.mul_lt_mul_of_pos_right hc hd'
   _=Y*d'+k*(W e*d)*d':=Nat.add_mul _ _ _
   _=_:=by congr 1;ac_rfl
 refine⟨a1,a2,a3,le1 _ a4,fun h=>lt1 _ (a5 h),le2 _ 2 a6,fun h=>lt2 _ 2 (a7 h),fun h1 h2=>?_⟩
 have:=le2 (4*M) 1 (by omega)
 omega
theorem Ft {x hi lo s:Nat} (hx:x<18446744073709551616) (hh:hi<18446744073709551616) (hs:2<=s):usc x hi lo s<4611686018427387904:=by
 have hd:=jo hx hh
 have h4:4<=2^s:=Nat.pow_le_pow_right (n:=2) (by decide) hs
 unfold usc
 simp only[]
 have e:(4611686018427387904:Nat)=2^62:=by decide
 have hq:∀a:Nat,a<18446744073709551616->a/2^s<2^62:=fun a ha=>by
  refine Nat.div_lt_of_lt_mul ?_
  omega
 rw[e]
 split
 ·exact Nat.or_lt_two_pow (hq _ (Nat.mod_lt _ (by decide))) (by split<;>decide)
 ·exact Nat.or_lt_two_pow (hq _ hd) (by decide)
theorem nk {y w s mo tol X g:Nat} {p ev:Int} (h1: -348<=p) (h2:p<=347) (hok:ckN X mo tol p=true) (x0:0<y) (x1:y<=X) (hx:y*2^w<18446744073709551616) (m1:mo+w<=128+s) (m2:65<=w+tol)
  (hs:(s:Int)= -(ev+l2 p+3)) (hs2:s<64) (hs3:2<=s) (hg:(g:Int)=ev+w+1076):scl (y*2^w) ev p=uex (y*ten p*2^g) (aM p*W 0)/\scl (y*2^w) ev p<4611686018427387904:=by
 have es:((-(ev+l2 p+3)) % 64).toNat=s:=by omega
 unfold scl
 rw[es]
 refine⟨?_,Ft hx (oW h1 h2) hs3⟩
 rw[B0 h1 h2 hok x0 x1 hx m1 m2]
 refine Cy (wg s p) (Nat.mul_pos (dP p) (dQ 0)) ?_
 have:(2:Nat)^w*2^(127-l2 p).toNat*2^((0:Int)+1074).toNat=2^g*2^64*2^s*2^64*2^(l2 p-127).toNat:=by
  simp only[<-Nat.pow_add];congr 1;omega
 rw[xU,Dn,uf,Lw,mN]
 generalize (127-l2 p).toNat=k2 at*
 generalize ((0:Int)+1074).toNat=k4 at*
 generalize (l2 p-127).toNat=k5 at*
 calc y*2^w*(ten p*2^k2)*(aM p*2^k4)=y*ten p*aM p*(2^w*2^k2*2^k4):=by ac_rfl
  _=y*ten p*aM p*(2^g*2^64*2^s*2^64*2^k5):=by rw[this]
  _=_:=by ac_rfl
theorem LC {U N T D o:Nat} (hT:0<T) (hU:U=uex N T) (ho:o<=1) (hD:4*D+o<=U):4*D*T<=N/\(o=1->4*D*T<N):=by
 have hc:=eV (N:=N) hT
 rw[<-hU]at hc
 rcases hc with h | ⟨h1,h2,_⟩
 ·rw[<-h]
  refine⟨Nat.mul_le_mul_right _ (by omega),fun h=>Nat.mul_lt_mul_of_pos_right (by omega) hT⟩
 ·have:=Nat.mul_le_mul_right T (show 4*D<=U-1 by omega)
  omega
theorem LF {U N T D o:Nat} (hT:0<T) (hU:U=uex N T) (ho:o<=1) (hD:U+o<=4*D):N<=4*D*T/\(o=1->N<4*D*T):=by
 have hc:=eV (N:=N) hT
 rw[<-hU]at hc
 rcases hc with h | ⟨h1,_,h2⟩
 ·rw[<-h]
  refine⟨Nat.mul_le_mul_right _ (by omega),fun h=>Nat.mul_lt_mul_of_pos_right (by omega) hT⟩
 ·have:=Nat.mul_le_mul_right T (show U+1<=4*D by omega)
  omega
structure Sh (m:Nat) (ev:Int):Prop where
 B:0<W (ev+zOf ev)*ten (shP m ev)
 T:0<aM (shP m ev)*W 0
 mx:scl (cN m ev) ev (shP m ev)=uex ((2*(m/2^zOf ev)+1)*(2*(W (ev+zOf ev)*ten (shP m ev)))) (aM (shP m ev)*W 0)
 md:scl m ev (shP m ev)=uex (2*(m/2^zOf ev)*(2*(W (ev+zOf ev)*ten (shP m ev)))) (aM (shP m ev)*W 0)
 mn:∃k,(k=1\/k=2)/\(shA m ev=true->k=1)/\(shA m ev=false->k=2)/\∃N,N+k*(W (ev+zOf ev)*ten (shP m ev))=4*(m/2^zOf ev)*(W (ev+zOf ev)*ten (shP m ev))/\scl (co m ev) ev (shP m ev)=uex N (aM (shP m ev)*W 0)
 lx:scl (cN m ev) ev (shP m ev)<4611686018427387904
 ln:scl (co m ev) ev (shP m ev)<4611686018427387904
 ld:scl m ev (shP m ev)<4611686018427387904
 sm:W (ev+zOf ev)*ten (shP m ev)<16*(aM (shP m ev)*W 0)
theorem LG {m:Nat} {ev:Int} (h:Mt m ev):Sh m ev:=by
 obtain⟨z1,z2⟩:=h.z
 obtain⟨hp1,hp2⟩:=h.p
 have htop:=h.top
 obtain⟨hh1,hh2,hh3⟩:=h.half
 have hlo:=h.lo;have hhi:=h.hi;have he0:=h.e0;have he1:=h.e1
 have hal:=h.al
 have hez: -1074<=ev+zOf ev/\ev+zOf ev<=971:=by unfold zOf;split<;>omega
 have hsum:0<=ev+zOf ev+l2 (shP m ev)/\ev+zOf ev+l2 (shP m ev)<=3:=by
  unfold shP
  by_cases hA:shA m ev=true
  ·rw[if_pos hA]
   simp only[shA,Bool.and_eq_true,decide_eq_true_eq]at hA
   have hz:(zOf ev:Int)=11:=by unfold zOf;grind
   rw[hz]
   exact Im (by omega) (by omega)
  ·rw[if_neg hA]
   exact Il hez.1 hez.2
 generalize hp:shP m ev=p at*
 obtain⟨s,hs⟩:∃s:Nat,(s:Int)= -(ev+l2 p+3):=⟨(-(ev+l2 p+3)).toNat,by omega⟩
 have hs1:5<=s:=by omega
 have hs2:s<64:=by omega
 have hsw:zOf ev<=s+6:=by omega
 have hM:m=m/2^zOf ev*2^zOf ev:=by
  grind [Nat.div_add_mod]
 have hMlt:m/2^zOf ev<9007199254740992:=by
  refine Nat.div_lt_of_lt_mul ?_
  omega
 have hM0:0<m/2^zOf ev:=Nat.div_pos (by omega) (Nat.two_pow_pos _)
 generalize hMM:m/2^zOf ev=M at*
 obtain⟨w,hw⟩:∃w,zOf ev=w+1:=⟨zOf ev-1,by omega⟩
 have h2w:2^zOf ev=2*2^w:=by grind
 have hw1:2^(zOf ev-1)=2^w:=by rw[hw];rfl
 have ckS1:=oN FS hp1 hp2
 have ckW1:=oN Fp hp1 hp2
 have eg:((ev+zOf ev+1075).toNat:Int)=ev+w+1076:=by omega
 have hW2:2^(ev+zOf ev+1075).toNat=2*W (ev+zOf ev):=by
  rw[mN,Nat.mul_comm,<-Nat.pow_succ];congr 1;omega
 have eN:∀y,y*ten p*2^(ev+zOf ev+1075).toNat=y*(2*(W (ev+zOf ev)*ten p)):=fun y=>by grind
 have emax:cN m ev=(2*M+1)*2^w:=by
  unfold cN
  grind
 have emid:m=2*M*2^w:=by
  grind
 have hmaxlt:(2*M+1)*2^w<18446744073709551616:=by
  grind
 have hmidlt:2*M*2^w<18446744073709551616:=by omega
 have hmx:=nk (y:=2*M+1) (w:=w) (s:=s) (ev:=ev) hp1 hp2 ckS1 (by omega) (by omega) hmaxlt (by omega) (by omega) hs hs2 (by omega) eg
 have hmd:=nk (y:=2*M) (w:=w) (s:=s) (ev:=ev) hp1 hp2 ckS1 (by omega) (by omega) hmidlt (by omega) (by omega) hs hs2 (by omega) eg
 rw[eN,<-emax]at hmx
 rw[eN,<-emid]at hmd
 have hmn:∃k,(k=1\/k=2)/\(shA m ev=true->k=1)/\(shA m ev=false->k=2)/\∃N,N+k*(W (ev+zOf ev)*ten p)=4*M*(W (ev+zOf ev)*ten p)/\scl (co m ev) ev p=uex N (aM p*W 0)/\scl (co m ev) ev p<4611686018427387904:=by
  by_cases hA:shA m ev=true
  ·refine⟨1,.inl rfl,fun _=>rfl,fun h=>absurd (hA.symm.trans h) (by decide),?_⟩
   have hA2:=hA
   simp only[shA,Bool.and_eq_true,decide_eq_true_eq]at hA2
   have hz:zOf ev=11:=by unfold zOf;grind
   have hM52:M=4503599627370496:=by
    grind
   have emin:co m ev=18014398509481983*2^9:=by
    unfold co;grind
   have hmn:=nk (y:=18014398509481983) (w:=9) (s:=s) (ev:=ev) (g:=(ev+zOf ev+1074).toNat) hp1 hp2 ckW1 (by decide) (by decide) (by decide) (by omega) (by omega) hs hs2 (by omega) (by omega)
   grind [mN]
  ·have hA':shA m ev=false:=by simpa using hA
   refine⟨2,.inr rfl,fun h=>absurd h hA,fun _=>rfl,?_⟩
   have emin:co m ev=(2*M-1)*2^w:=by
    unfold co
    rw[if_neg hA,hw1,Nat.sub_mul,Nat.one_mul]
    omega
   have hlt:(2*M-1)*2^w<18446744073709551616:=by
    have:=Nat.mul_le_mul_right (2^w) (show 2*M-1<=2*M by omega)
    omega
   have hmn:=nk (y:=2*M-1) (w:=w) (s:=s) (ev:=ev) hp1 hp2 ckS1 (by omega) (by omega) hlt (by omega) (by omega) hs hs2 (by omega) eg
   rw[eN,<-emin]at hmn
   refine⟨_,?_,hmn.1,hmn.2⟩
   rw[Nat.mul_left_comm,<-Nat.mul_assoc,<-Nat.add_mul];congr 1;omega
 obtain⟨k,k1,k2,k3,N,k4,k5,k6⟩:=hmn
 have hsm:W (ev+zOf ev)*ten p<16*(aM p*W 0):=by
  have P:=(ox hp1 hp2).hi
  rw[xU,uf]at P
  have P2:ten p*2^(127-l2 p).toNat<2^128*(aM p*2^(l2 p-127).toNat):=Nat.lt_of_lt_of_le P (Nat.mul_le_mul_right _ (by decide))
  have e1:(2:Nat)^128*2^(l2 p-127).toNat*W (ev+zOf ev)<=16*W 0*2^(127-l2 p).toNat:=by
   rw[show(16:Nat)=2^4 by decide,mN,mN,<-Nat.pow_add,<-Nat.pow_add,<-Nat.pow_add,<-Nat.pow_add]
   exact Nat.pow_le_pow_right (by decide) (by omega)
  refine Nat.lt_of_mul_lt_mul_right (a:=2^(127-l2 p).toNat) ?_
  calc W (ev+zOf ev)*ten p*2^(127-l2 p).toNat=ten p*2^(127-l2 p).toNat*W (ev+zOf ev):=by ac_rfl
   _<2^128*(aM p*2^(l2 p-127).toNat)*W (ev+zOf ev):=Nat.mul_lt_mul_of_pos_right P2 (dQ _)
   _=aM p*(2^128*2^(l2 p-127).toNat*W (ev+zOf ev)):=by ac_rfl
   _<=aM p*(16*W 0*2^(127-l2 p).toNat):=Nat.mul_le_mul_left _ e1
   _=_:=by ac_rfl
 subst hp
 rw[<-hMM]at hmx hmd k4
 exact⟨Nat.mul_pos (dQ _) (xS _),Nat.mul_pos (dP _) (dQ 0),hmx.1,hmd.1,⟨k,k1,k2,k3,N,k4,k5⟩,hmx.2,k6,hmd.2,hsm⟩
end Go.Proofs.YtemclecmafjjfaaGreatDoor.N
/- The shortest digits are rounded back to their float. Conditions: none. -/
namespace Go.Proofs.YtemclecmafjjfaaGreatDoor.N
open Go.X Go.Proofs.YtemclecmafjjfaaGreatDoor
set_option maxRecDepth 100000
set_option maxHeartbeats 1000000
theorem Fu {U N T D o:Nat} (hT:0<T) (hU:U=uex N T) (ho:o<=1) (h:4*D*T<=N) (h1:o=1->4*D*T<N):4*D+o<=U:=by
 have hc:=eV (N:=N) hT
 rw[<-hU]at hc
 apply Nat.le_of_not_lt
 intro hlt
 rcases hc with k | ⟨k1,k2,k3⟩
 ·by_cases h0:o=1
  ·have:=Nat.mul_le_mul_right T (show U<=4*D by omega)
   omega
  ·have:=Nat.mul_le_mul_right T (show U+1<=4*D by omega)
   grind
 ·have:=Nat.mul_le_mul_right T (show U+1<=4*D by omega)
  omega
theorem Fv {U N T D o:Nat} (hT:0<T) (hU:U=uex N T) (ho:o<=1) (h:N<=4*D*T) (h1:o=1->N<4*D*T):U+o<=4*D:=by
 have hc:=eV (N:=N) hT
 rw[<-hU]at hc
 apply Nat.le_of_not_lt
 intro hlt
 rcases hc with k | ⟨k1,k2,k3⟩
 ·by_cases h0:o=1
  ·have:=Nat.mul_le_mul_right T (show 4*D<=U by omega)
   omega
  ·have:=Nat.mul_le_mul_right T (show 4*D+1<=U by omega)
   grind
 ·have:=Nat.mul_le_mul_right T (show 4*D<=U-1 by omega)
  omega
theorem qC (d T:Nat):4*(d+1)*T=4*d*T+4*T:=by grind
theorem Fw (p:Int):ten (-p)=aM p:=rfl
theorem B7 (p:Int):aM (-p)=ten p:=by unfold aM ten;grind
theorem B8 {m:Nat} {ev:Int} (h:Mt m ev):
  In (4*((short m ev).1*ten (short m ev).2)*W 0) (aM (short m ev).2) (m/2^zOf ev) (ev+zOf ev)/\(short m ev).1<144115188075855872/\0<(short m ev).1:=by
 have S:=LG h
 obtain⟨z1,z2⟩:=h.z
 obtain⟨hp1,hp2⟩:=h.p
 have hlo:=h.lo;have hhi:=h.hi;have he0:=h.e0;have he1:=h.e1;have hal:=h.al
 have hez: -1074<=ev+zOf ev/\ev+zOf ev<=971:=by unfold zOf;split<;>omega
 have hM:m=m/2^zOf ev*2^zOf ev:=by
  grind [Nat.div_add_mod]
 have hMlt:m/2^zOf ev<9007199254740992:=by
  refine Nat.div_lt_of_lt_mul ?_
  have:2^11<=2^zOf ev:=Nat.pow_le_pow_right (by decide) z1
  omega
 have hM0:0<m/2^zOf ev:=by
  grind
 have hz11:ev+zOf ev≠ -1074->zOf ev=11:=by
  intro hne;unfold zOf at hne ⊢;grind
 have hmn52:ev+zOf ev= -1074\/4503599627370496<=m/2^zOf ev:=by
  grind
 have hspec:m/2^zOf ev=4503599627370496->ev+zOf ev≠ -1074->shA m ev=true:=by
  intro h1 h2
  rw[h1]at hM
  have hz:=hz11 h2
  rw[hz]at hM h2
  unfold shA
  grind
 obtain⟨k,k1,k2,k3,N,k4,k5⟩:=S.mn
 have hT:=S.T;have hB:=S.B;have hsm:=S.sm
 have emx:=S.mx;have emd:=S.md
 have lx:=S.lx;have ln:=S.ln;have ld:=S.ld
 have hok:=Iq hez.1 hez.2
 have hBT:(k=2->aM (shP m ev)*W 0<=W (ev+zOf ev)*ten (shP m ev))/\(k=1->4*(aM (shP m ev)*W 0)<=3*(W (ev+zOf ev)*ten (shP m ev))):=by
  refine⟨fun hk=>?_,fun hk=>?_⟩
  ·have hA:shA m ev=false:=by
    grind
   have e:shP m ev= -l10 (ev+zOf ev):=by unfold shP;rw[hA];rfl
   rw[e];exact hok.1
  ·have hA:shA m ev=true:=by
    grind
   have hA2:=hA
   simp only[shA,Bool.and_eq_true,decide_eq_true_eq]at hA2
   have hz:zOf ev=11:=by omega
   have e:shP m ev= -skw (ev+zOf ev):=by unfold shP;grind
   rw[e];exact hok.2.1
 have hodd1:k=1->m/2^zOf ev % 2=0:=by
  intro hk
  have hA:shA m ev=true:=by
   grind
  have hA2:=hA
  simp only[shA,Bool.and_eq_true,decide_eq_true_eq]at hA2
  grind
 have hq1:k=1->dT m ev<bS m ev->¬dT m ev<=bS m ev/10*10->dT m ev<=rnd (scl m ev (shP m ev)):=by
  intro hk g1 g2
  have hA:shA m ev=true:=by
   grind
  have hA2:=hA
  simp only[shA,Bool.and_eq_true,decide_eq_true_eq]at hA2
  have hz:zOf ev=11:=by omega
  have e:shP m ev= -skw (ev+11):=by unfold shP;rw[hA];rfl
  have hcs:=oN Ip hp1 hp2
  unfold ckS at hcs
  have hz2:(zOf ev:Int)=11:=by rw[hz];rfl
  rw[hz2]at hok
  have hkk:=List.all_eq_true.1 hcs (ev+11-l2 (-shP m ev)).toNat (List.mem_range.2 (by rw[e,Int.neg_neg];omega))
  have ee:l2 (-shP m ev)+(((ev+11-l2 (-shP m ev)).toNat:Nat):Int)=ev+11:=by rw[e,Int.neg_neg];omega
  simp only[ee]at hkk
  rw[if_pos (by omega)]at hkk
  have o0:fv m ev=0:=by unfold fv;rw[hz];omega
  have xm:co m ev=9223372036854775296:=by unfold co;grind
  have xM:cN m ev=9223372036854776832:=by unfold cN;rw[hz];omega
  have es:ev+11-11+l2 (shP m ev)+3=ev+l2 (shP m ev)+3:=by omega
  rw[es]at hkk
  have c1:(usc 9223372036854775296 (hiP (shP m ev)) (loP (shP m ev)) (-(ev+l2 (shP m ev)+3) % 64).toNat+0+3) % 18446744073709551616/4=dT m ev:=by
   unfold dT scl;rw[o0,xm]
  have c2:(usc 9223372036854776832 (hiP (shP m ev)) (loP (shP m ev)) (-(ev+l2 (shP m ev)+3) % 64).toNat+18446744073709551616-0) % 18446744073709551616/4=bS m ev:=by
   unfold bS scl;rw[o0,xM]
  have c3:usc 9223372036854775808 (hiP (shP m ev)) (loP (shP m ev)) (-(ev+l2 (shP m ev)+3) % 64).toNat=scl m ev (shP m ev):=by
   unfold scl;rw[hA2.1]
  rw[c1,c2,c3,if_pos g1,if_neg g2]at hkk
  grind
 have ho:fv m ev=m/2^zOf ev % 2:=rfl
 generalize hMM:m/2^zOf ev=M at*
 generalize hp:shP m ev=p at*
 generalize hBB:W (ev+zOf ev)*ten p=B at*
 have hTB:0<aM p*W 0:=hT
 generalize hTT:aM p*W 0=T at*
 have hdx:bS m ev=(scl (cN m ev) ev p+18446744073709551616-M % 2) % 18446744073709551616/4:=by unfold bS;rw[ho,hp]
 have hdn:dT m ev=(scl (co m ev) ev p+M % 2+3) % 18446744073709551616/4:=by unfold dT;rw[ho,hp]
 have hux1:1<=scl (cN m ev) ev p:=by
  apply Nat.succ_le_of_lt
  apply Nat.pos_of_ne_zero
  grind [eV]
 generalize scl (cN m ev) ev p=ux at*
 generalize scl (co m ev) ev p=un at*
 have hdx2:∀D,D<=bS m ev ↔ 4*D+M % 2<=ux:=fun D=>by rw[hdx];omega
 have hdn2:∀D,dT m ev<=D ↔ un+M % 2<=4*D:=fun D=>by rw[hdn];omega
 have eMx:(2*M+1)*(2*B)=4*M*B+2*B:=by
  grind
 have eMd:2*M*(2*B)=4*M*B:=by
  grind
 rw[eMx]at emx
 rw[eMd]at emd
 have o1:M % 2<=1:=by omega
 have U1:∀D,D<=bS m ev->4*D*T<=4*M*B+2*B/\(M % 2=1->4*D*T<4*M*B+2*B):=fun D hD=>LC hT emx o1 ((hdx2 D).1 hD)
 have L1:∀D,dT m ev<=D->4*M*B<=4*D*T+k*B/\(M % 2=1->4*M*B<4*D*T+k*B):=fun D hD=>by
  have:=LF hT k5 o1 ((hdn2 D).1 hD)
  omega
 have hkB:k*B<=2*B:=Nat.mul_le_mul_right _ (by omega)
 have mk:∀D,(4*D*T<=4*M*B+2*B)->(M % 2=1->4*D*T<4*M*B+2*B)->(4*M*B<=4*D*T+2*B)->(M % 2=1->4*M*B<4*D*T+2*B)->(k=1->4*M*B<=4*D*T+B)->In (4*D*T) (ten p) M (ev+zOf ev):=by
  intro D a1 a2 a3 a4 a5
  have e1:(4*M+2)*B=4*M*B+2*B:=Nat.add_mul _ _ _
  refine⟨hez.1,hMlt,hmn52,?_,fun h=>?_,?_,fun h=>?_,fun h1 h2=>?_⟩
  ·rw[hBB,e1];exact a1
  ·rw[hBB,e1];exact a2 h
  ·rw[hBB];exact a3
  ·rw[hBB];exact a4 h
  ·rw[hBB];grind
 have CA:∀D,dT m ev<=D->D<=bS m ev->In (4*D*T) (ten p) M (ev+zOf ev):=fun D d1 d2=>by
  obtain⟨a1,a2⟩:=U1 D d2
  obtain⟨b1,b2⟩:=L1 D d1
  exact mk D a1 a2 (by omega) (fun h=>by omega) (fun hk=>by grind)
 have fit:∀D,In (4*D*T) (ten p) M (ev+zOf ev)->In (4*(D*ten (-p))*W 0) (aM (-p)) M (ev+zOf ev):=fun D hI=>by
  rw[Fw,B7]
  have:4*(D*aM p)*W 0=4*D*T:=by grind
  grind
 have small:∀D,4*D*T<=4*M*B+2*B->D<144115188075855872:=fun D hD=>by
  have h1:(4*M+2)*B<=36028797018963966*B:=Nat.mul_le_mul_right _ (by omega)
  rw[Nat.add_mul]at h1
  apply Nat.lt_of_not_le
  intro hge
  have h2:4*144115188075855872*T<=4*D*T:=Nat.mul_le_mul_right _ (by omega)
  omega
 have posD:∀D,4*M*B<=4*D*T+2*B->0<D:=fun D hD=>by
  apply Nat.pos_of_ne_zero
  rintro rfl
  have:4*1*B<=4*M*B:=Nat.mul_le_mul_right _ (by omega)
  omega
 have hne:dT m ev<=bS m ev:=by
  apply Nat.le_of_not_lt
  intro hlt
  have q1:¬dT m ev<=bS m ev:=by omega
  have q2:¬bS m ev+1<=bS m ev:=by omega
  have r1:¬(N<=4*(bS m ev)*T/\(M % 2=1->N<4*(bS m ev)*T)):=fun hh=>q1 ((hdn2 _).2 (Fv hT k5 o1 hh.1 hh.2))
  have r2:¬(4*(bS m ev+1)*T<=4*M*B+2*B/\(M % 2=1->4*(bS m ev+1)*T<4*M*B+2*B)):=fun hh=>q2 ((hdx2 _).2 (Fu hT emx o1 hh.1 hh.2))
  have e1:4*(bS m ev+1)*T=4*bS m ev*T+4*T:=qC _ _
  rw[e1]at r2
  rcases k1 with hk | hk
  ·have hodd:=hodd1 hk
   have:=hBT.2 hk
   rw[hk,Nat.one_mul]at k4
   omega
  ·have hbt:=hBT.1 hk
   rw[hk]at k4
   by_cases ho1:M % 2=1
   ·have s1:4*bS m ev*T<=N:=by
     omega
    have s2:4*M*B+2*B<=4*bS m ev*T+4*T:=by
     omega
    have hTB2:T=B:=by omega
    rw[hTB2]at s1 s2
    have s3:4*M*B=(4*bS m ev+2)*B:=by rw[Nat.add_mul];omega
    have:=Nat.eq_of_mul_eq_mul_right hB s3
    omega
   omega
 unfold short
 rw[hp]
 by_cases c1:dT m ev<=bS m ev/10*10
 ·rw[if_pos c1]
  have hle:bS m ev/10*10<=bS m ev:=Nat.div_mul_le_self _ _
  have hI:=CA _ c1 hle
  refine⟨?_,?_,?_⟩
  ·refine hI.scale (xS p) ?_ (dP _)
   show 4*(bS m ev/10*10)*T*aM (-(p-1))=4*(bS m ev/10*ten (-(p-1)))*W 0*ten p
   have e10:10*aM p*aM (-(p-1))=ten (-(p-1))*ten p:=by
    unfold ten aM
    have:(10:Nat)*10^(-p).toNat=10^((-p).toNat+1):=by omega
    rw[this,<-Nat.pow_add,<-Nat.pow_add];congr 1;omega
   grind
  ·grind
  ·have b1:=(L1 _ c1).1
   have:=posD (bS m ev/10*10) (by omega)
   omega
 ·rw[if_neg c1]
  by_cases c2:dT m ev<bS m ev
  ·rw[if_pos c2]
   show In (4*(rnd (scl m ev p)*ten (-p))*W 0) (aM (-p)) M (ev+zOf ev)/\rnd (scl m ev p)<_/\0<rnd (scl m ev p)
   have hr:=oO hT emd (by omega)
   have q1:=hq1
   generalize rnd (scl m ev p)=D at*
   have a1:=(U1 _ (Nat.le_refl _))
   have b1:=(L1 _ (Nat.le_refl _))
   have e4:4*(dT m ev+1)*T<=4*bS m ev*T:=Nat.mul_le_mul_right _ (by omega)
   have e5:4*(dT m ev+1)*T=4*dT m ev*T+4*T:=qC _ _
   have e6:(4*D+2)*T=4*D*T+2*T:=Nat.add_mul _ _ _
   rw[e6]at hr
   have up1:4*D*T<=4*M*B+2*B:=by omega
   have dn1:4*M*B<=4*D*T+2*B:=by omega
   refine⟨fit D (mk D up1 (fun h=>?_) dn1 (fun h=>?_) (fun hk=>?_)),small D up1,posD D dn1⟩
   ·omega
   ·omega
   ·have:=(L1 D (q1 hk c2 c1)).1
    grind
  ·rw[if_neg c2]
   show In (4*(dT m ev*ten (-p))*W 0) (aM (-p)) M (ev+zOf ev)/\dT m ev<_/\0<dT m ev
   have:=(L1 _ (Nat.le_refl _)).1
   exact⟨fit _ (CA _ (Nat.le_refl _) hne),small _ (U1 _ hne).1,posD _ (by omega)⟩
end Go.Proofs.YtemclecmafjjfaaGreatDoor.N
/- What the scan makes of a text of digits, a point, and an exponent. Conditions: none. -/
namespace Go.Proofs.YtemclecmafjjfaaGreatDoor.N
open Go.X Go.Proofs.YtemclecmafjjfaaGreatDoor
set_option maxRecDepth 100000
set_option maxHeartbeats 1000000
abbrev fD (A:List UInt8) (st:RS):RS:=A.foldl (fun s c=>bj s (dgt c)) st
def eQ (A:List UInt8) (a:Nat):Nat:=A.foldl (fun a c=>a*10+dgt c) a
theorem fq (A B:List UInt8) (a:Nat):eQ (A++B) a=eQ B (eQ A a):=List.foldl_append
theorem jl :∀(A:List UInt8) (st:RS),st.nm=st.nd->(st.nd=0->st.m=0)->st.nm+A.length<=19->
  (fD A st).m=eQ A st.m/\(fD A st).tr=st.tr/\(fD A st).nm=(fD A st).nd/\(fD A st).nm<=st.nm+A.length/\(fD A st).dp-(fD A st).nm=st.dp-st.nm-A.length/\((fD A st).nd=0->(fD A st).m=0)
 | [],st,h1,h2,h3=>⟨rfl,rfl,h1,Nat.le_refl _,by simp[fD],h2⟩
 | c::A,st,h1,h2,h3=>by
  simp only[List.length_cons]at h3 ⊢
  have e:fD (c::A) st=fD A (bj st (dgt c)):=rfl
  have ed:eQ (c::A) st.m=eQ A (st.m*10+dgt c):=rfl
  rw[e,ed]
  by_cases hz:dgt c=0/\st.nd=0
  ·have es:bj st (dgt c)=⟨st.m,st.tr,st.dot,true,st.nd,st.nm,st.dp-1⟩:=by unfold bj;rw[if_pos hz]
   have:=jl A (bj st (dgt c)) (by rw[es];exact h1) (by rw[es];exact h2) (by rw[es];show st.nm+_<=19;omega)
   rw[es]at this ⊢
   obtain⟨a1,a2,a3,a4,a5,a6⟩:=this
   refine⟨?_,a2,a3,?_,?_,a6⟩
   ·rw[a1,hz.1,h2 hz.2]
   ·dsimp only at a4;omega
   ·dsimp only at a5;omega
  ·have es:bj st (dgt c)=⟨st.m*10+dgt c,st.tr,st.dot,true,st.nd+1,st.nm+1,st.dp⟩:=by unfold bj;grind
   have:=jl A (bj st (dgt c)) (by rw[es];show st.nm+1=st.nd+1;omega) (by rw[es];intro h;exact absurd h (by simp)) (by rw[es];show st.nm+1+_<=19;omega)
   rw[es]at this ⊢
   obtain⟨a1,a2,a3,a4,a5,a6⟩:=this
   refine⟨a1,a2,a3,?_,?_,a6⟩
   ·dsimp only at a4;omega
   ·dsimp only at a5;omega
theorem qD (A:List UInt8) (st:RS):(fD A st).dot=st.dot:=jm A st
structure Form (l A B X:List UInt8) (pt:Bool):Prop where
 eq:l=A++((if pt then 46::B else [])++X)
 a:A≠[]
 ad:∀c∈A,isD c=true
 b:pt=true->B≠[]
 b0:pt=false->B=[]
 bd:∀c∈B,isD c=true
 x:X=[]\/∃c sg ds,Expo X c sg ds
 x4:∀c sg ds,Expo X c sg ds->ds.length<=4
theorem ug {q:List UInt8} {st:RS} (hq:q=[]\/∃c sg ds,Expo q c sg ds):scan st q=(st,q):=by
 refine qS fun c r e=>.inl ?_
 rcases hq with rfl | ⟨c',sg,ds,hE⟩
 ·cases e
 ·rw[hE.eq]at e
  have:c'=c:=(List.cons.inj e).1
  rw[<-this]
  rcases hE.e with rfl | rfl<;>decide
theorem uh {q:List UInt8} (hq:q=[]\/∃c sg ds,Expo q c sg ds):∀c r,q=c::r->isD c=false:=by
 intro c r e
 rcases hq with rfl | ⟨c',sg,ds,hE⟩
 ·cases e
 ·rw[hE.eq]at e
  have:c'=c:=(List.cons.inj e).1
  rw[<-this]
  rcases hE.e with rfl | rfl<;>decide
theorem nr :∀{A t:List UInt8},(∀c∈A,isD c=true)->(∀c r,t=c::r->isD c=false)->dgN (A++t)=A.length
 | [],t,_,ht=>by
  cases t with
  | nil=>rfl
  | cons c r=>unfold dgN;simp_all
 | c::A,t,hA,ht=>by
  have:=nr (A:=A) (fun d hd=>hA d (by simp[hd])) ht
  unfold dgN at this ⊢
  simp_all
theorem Form.scn {l A B X:List UInt8} {pt:Bool} (h:Form l A B X pt):scan RS0 l=(fD B (if pt then dY (fD A RS0)else fD A RS0),X):=by
 rw[h.eq,iq A RS0 _ h.ad]
 have hdot:(fD A RS0).dot=false:=jm A RS0
 cases pt
 ·have hB:=h.b0 rfl
  subst hB
  exact ug h.x
 ·show scan (fD A RS0) (46::B++X)=_
  rw[List.cons_append,scan,if_pos rfl,hdot]
  show scan (dY (fD A RS0)) (B++X)=_
  rw[iq B _ X h.bd]
  exact ug h.x
theorem xX {X:List UInt8} (hx:X=[]\/∃c sg ds,Expo X c sg ds) (h4:∀c sg ds,Expo X c sg ds->ds.length<=4):wo (some X)=true:=by
 rcases hx with rfl | ⟨c,sg,ds,hE⟩
 ·rfl
 ·have hl:=h4 c sg ds hE
  have hne:1<=ds.length:=by
   cases ds with
   | nil=>exact absurd rfl hE.ne
   | cons _ _=>simp
  have hd:aI (sg++ds)=ds:=by
   rcases hE.sg with rfl | rfl | rfl
   ·cases ds with
    | nil=>rfl
    | cons a r=>
     have ha:=cg.1 (hE.dg a (by simp))
     show(if a=43\/a=45 then r else a::r)=a::r
     rw[if_neg]
     rintro(e | e)<;>subst e<;>exact absurd ha (by decide)
   ·rfl
   ·rfl
  rw[hE.eq]
  show(if c=101\/c=69 then _ else _)=true
  rw[if_pos hE.e,hd]
  have hn:dgN ds=ds.length:=by
   have:=nr (A:=ds) (t:=[]) hE.dg (fun c r e=>by cases e)
   grind
  grind
theorem Form.num {l0 l A B X:List UInt8} {pt:Bool} (h:Form l A B X pt) (h0:aI l0=l):fG l0=true:=by
 unfold fG
 rw[h0,h.eq]
 have ht:∀c r,((if pt then 46::B else [])++X)=c::r->isD c=false:=by
  intro c r e
  cases pt
  ·exact uh h.x c r e
  ·have:(46:UInt8)=c:=(List.cons.inj e).1
   rw[<-this];decide
 have hA:A.length≠0:=fun e=>h.a (List.eq_nil_of_length_eq_zero e)
 rw[nr h.ad ht,if_neg hA,List.drop_left]
 cases pt
 ·show wo (kW X)=true
  have:kW X=some X:=by
   cases hX:X with
   | nil=>rfl
   | cons c r=>
    show(if c=46 then _ else some (c::r))=_
    rw[if_neg]
    intro e;subst e
    rcases h.x with e | ⟨c',sg,ds,hE⟩
    ·grind
    ·have:=hE.eq;rw[hX]at this
     have:=(List.cons.inj this).1
     rcases hE.e with e | e<;>rw[e]at this<;>cases this
  rw[this];exact xX h.x h.x4
 ·show wo (kW (46::(B++X)))=true
  have hB:B.length≠0:=fun e=>h.b rfl (List.eq_nil_of_length_eq_zero e)
  have:kW (46::(B++X))=some X:=by
   show(if(46:UInt8)=46 then(if dgN (B++X)=0 then none else some ((B++X).drop (dgN (B++X))))else some (46::(B++X)))=_
   rw[if_pos rfl,nr h.bd (uh h.x),if_neg hB,List.drop_left]
  rw[this];exact xX h.x h.x4
theorem Form.val {l A B X:List UInt8} {pt:Bool} (h:Form l A B X pt) (h19:A.length+B.length<=19):
  (fD B (if pt then dY (fD A RS0)else fD A RS0)).m=eQ (A++B) 0/\(fD B (if pt then dY (fD A RS0)else fD A RS0)).tr=false/\(eQ (A++B) 0≠0->cf (fD B (if pt then dY (fD A RS0)else fD A RS0)) X=hO X-B.length):=by
 obtain⟨a1,a2,a3,a4,a5,a6⟩:=jl A RS0 rfl (fun _=>rfl) (by show 0+_<=19;omega)
 have r0:RS0.m=0/\RS0.nm=0/\RS0.tr=false:=⟨rfl,rfl,rfl⟩
 rw[r0.1]at a1
 rw[r0.2.1]at a4
 have hdot:(fD A RS0).dot=false:=jm A RS0
 rw[fq,<-a1]
 cases pt
 ·have hB:=h.b0 rfl
  subst hB
  refine⟨rfl,a2,fun hne=>?_⟩
  show cf (fD A RS0) X=_
  unfold cf
  have hne:(fD A RS0).m≠0:=hne
  grind
 ·have hd:dY (fD A RS0)=⟨(fD A RS0).m,(fD A RS0).tr,true,(fD A RS0).dig,(fD A RS0).nd,(fD A RS0).nm,(fD A RS0).nd⟩:=rfl
  obtain⟨b1,b2,b3,b4,b5,b6⟩:=jl B (dY (fD A RS0)) a3 a6 (by grind)
  show(fD B (dY (fD A RS0))).m=_/\(fD B (dY (fD A RS0))).tr=false/\_
  refine⟨b1,b2.trans a2,fun hne=>?_⟩
  show cf (fD B (dY (fD A RS0))) X=_
  unfold cf
  rw[if_pos (by grind),qD B]
  grind
theorem Form.txt {s:ByteArray} {l A B X:List UInt8} {pt:Bool} (h:Form l A B X pt) (h0:aI s.data.toList=l) (hs:s.size<100000):Txt s (fD B (if pt then dY (fD A RS0)else fD A RS0)) X:=by
 obtain⟨st,rest,hT⟩:=oV hs (h.num h0)
 have:=hT.sc
 rw[oS,h0,h.scn]at this
 grind
end Go.Proofs.YtemclecmafjjfaaGreatDoor.N
/- A number's text is read as it. Conditions: none. -/
namespace Go.Proofs.YtemclecmafjjfaaGreatDoor.N
open Go.X Go.Proofs.YtemclecmafjjfaaGreatDoor
set_option maxRecDepth 100000
set_option maxHeartbeats 1000000
def by8 (n:Int):UInt8:=UInt8.ofNat n.toNat
def bb (L:List Int):List UInt8:=L.map by8
theorem Ir (L:List Int):(strOf L).data.toList=bb L:=kg L
theorem sq (v:Int) (L:List Int):bb (v::L)=by8 v::bb L:=rfl
theorem B9 :bb []=[]:=rfl
theorem b46 :by8 46=46:=by decide
theorem b48 :by8 48=48:=by decide
theorem LH :by8 101=101:=by decide
theorem gq (A B:List Int):bb (A++B)=bb A++bb B:=List.map_append
def dig (v:Int):Prop:=48<=v/\v<=57
theorem Ca {v:Int} (h:dig v):(by8 v).toNat=v.toNat:=by
 grind [by8,UInt8.toNat_ofNat',dig]
theorem Cb {v:Int} (h:dig v):isD (by8 v)=true:=cg.2 (by rw[Ca h];unfold dig at h;omega)
theorem oy {L:List Int} (h:∀v∈L,dig v):∀c∈bb L,isD c=true:=by
 intro c hc
 obtain⟨v,hv,rfl⟩:=List.mem_map.1 hc
 exact Cb (h v hv)
def ckE (k:Nat):Bool:=match bb (eI ((k:Int)-999))with
 | s::ds=>(s==43||s==45)&&ds.all isD&&decide (ds.length<=3)&& !ds.isEmpty&&decide (hO (101::s::ds)=(k:Int)-999)
 | []=>false
theorem Fx :((List.range 1999).all ckE)=true:=by kernel_rfl
theorem wj {y:Int} (h:y.natAbs<1000):∃s ds,bb (eI y)=s::ds/\Expo (101::bb (eI y)) 101 [s] ds/\ds.length<=3/\hO (101::bb (eI y))=y:=by
 have:=List.all_eq_true.1 Fx (y+999).toNat (List.mem_range.2 (by omega))
 unfold ckE at this
 rw[show(((y+999).toNat:Nat):Int)-999=y by omega]at this
 split at this
 ·rename_i s ds e
  simp only[Bool.and_eq_true,Bool.or_eq_true,beq_iff_eq,decide_eq_true_eq,List.all_eq_true,Bool.not_eq_true',List.isEmpty_eq_false_iff]at this
  obtain⟨⟨⟨⟨h1,h2⟩,h3⟩,h4⟩,h5⟩:=this
  refine⟨s,ds,e,⟨by rw[e];rfl,.inl rfl,.inr ?_,h4,by omega,h2⟩,h3,by grind⟩
  grind
 ·cases this
theorem xY (d n:Nat):∀k,k<=n->d<10^n->eQ (bb ((dgL d n).take k)) 0=d/10^(n-k)
 | 0,_,hd=>by
  rw[Nat.sub_zero,Nat.div_eq_of_lt hd];rfl
 | k+1,hk,hd=>by
  have ih:=xY d n k (by omega) hd
  rw[List.take_add_one,sO (by omega),gq,fq,ih]
  have hdg:dig ((48+d/10^(n-1-k) % 10:Nat):Int):=by
   grind [dig]
  show d/10^(n-k)*10+dgt (by8 _)=_
  unfold dgt
  rw[Ca hdg]
  have e1:n-k=n-1-k+1:=by omega
  have e2:n-(k+1)=n-1-k:=by omega
  rw[e1,e2,Nat.pow_succ,<-Nat.div_div_eq_div_mul]
  omega
theorem qE (L:List Int):∀n i,dX L n<=i->i<n->L[i]? =some 48
 | 0,_,_,h=>by omega
 | n+1,i,h1,h2=>by
  unfold dX at h1
  split at h1
  ·rename_i h
   by_cases e:i=n
   ·rw[e];exact h
   ·exact qE L n i h1 (by omega)
  ·omega
theorem ui {d:Nat}:∀t,(∀i,i<t->d/10^i % 10=0)->d % 10^t=0
 | 0,_=>by omega
 | t+1,h=>by
  rw[Nat.pow_succ,Nat.mod_mul,ui t (fun i hi=>h i (by omega)),h t (by omega)];rfl
theorem GR :∀(k u:Nat),0<k->u<10^k->Lib.nDigits u<=k
 | 0,_,h,_=>absurd h (by decide)
 | k+1,u,_,h=>by
  by_cases hu:u<10
  ·rw[Lib.nDigits_small hu];omega
  ·rw[Lib.nDigits_big hu]
   cases k with
   | zero=>omega
   | succ k=>
    have:=GR (k+1) (u/10) (by omega) (Nat.div_lt_of_lt_mul (by omega))
    omega
theorem Fy {x:Nat} (hd0:0<dOf x) (hd:dOf x<144115188075855872):
  ∃t,(LOf x).length+t=ndg (dOf x)/\0<(LOf x).length/\(∀v∈LOf x,dig v)/\eQ (bb (LOf x)) 0*10^t=dOf x/\ndg (dOf x)<=18:=by
 have hn1:=wz (dOf x)
 have hn18:ndg (dOf x)<=18:=by
  unfold ndg;rw[if_neg (by omega)]
  apply Nat.le_of_not_lt
  intro h
  have:=GR 18 (dOf x) (by decide) (Nat.lt_trans hd (by decide))
  omega
 generalize hn:ndg (dOf x)=n at*
 have hk:=oX (dgL (dOf x) n) n
 have hL:LOf x=(dgL (dOf x) n).take (dX (dgL (dOf x) n) n):=by unfold LOf;rw[hn]
 have hlen:(LOf x).length=dX (dgL (dOf x) n) n:=by grind [gT]
 have hz:=qE (dgL (dOf x) n) n
 generalize dX (dgL (dOf x) n) n=k at*
 have hm:dOf x % 10^(n-k)=0:=by
  refine ui _ fun i hi=>?_
  have:=hz (n-1-i) (by omega) (by omega)
  grind [sO]
 have hdm:=Nat.div_add_mod (dOf x) (10^(n-k))
 have hv:eQ (bb (LOf x)) 0=dOf x/10^(n-k):=by rw[hL];exact xY _ _ _ hk hn1
 refine⟨n-k,by omega,?_,fun v hv=>?_,?_,hn18⟩
 ·rw[hlen]
  apply Nat.pos_of_ne_zero
  intro h0
  rw[h0,Nat.sub_zero,Nat.mod_eq_of_lt hn1]at hm
  omega
 ·grind [dgL,dig]
 grind
theorem kP (a:Nat):∀j,eQ (bb (List.replicate j 48)) a=a*10^j
 | 0=>by rw[Nat.pow_zero,Nat.mul_one];rfl
 | j+1=>by
  rw[List.replicate_succ]
  show eQ (bb (List.replicate j 48)) (a*10+dgt (by8 48))=_
  rw[kP]
  have:dgt (by8 48)=0:=by decide
  grind
def qF (L:List Int) (dp:Int):List Int:=if dp-1< -4\/6<=dp-1 then jp L dp else dh L dp
def mO (L:List Int) (dp:Int):List UInt8:=if db (bb (qF L dp))then bb (qF L dp)else bb (qF L dp)++[46,48]
theorem xZ (j:Nat):∀v∈List.replicate j (48:Int),dig v:=by
 grind [dig]
theorem LI {l:List UInt8} (h:∀c∈l,isD c=true):db l=false:=by
 refine CS fun j b _ hb=>?_
 have:=cg.1 (h b (List.mem_of_getElem? hb))
 have n1:b≠46:=fun e=>by simp_all
 have n2:b≠101:=fun e=>by simp_all
 simp[n1,n2]
theorem sr {l:List UInt8} {c:UInt8} (h:c∈l) (hc:c=46\/c=101):db l=true:=by
 obtain⟨i,hi,rfl⟩:=List.mem_iff_getElem.1 h
 exact F8 (List.getElem?_eq_getElem hi) hc
theorem qG :∀(z:Nat) (st:RS),st.nd=0->∃g,fD (bb (List.replicate z 48)) st=⟨st.m,st.tr,st.dot,g,0,st.nm,st.dp-z⟩
 | 0,st,h=>⟨st.dig,by
  show st=_
  obtain⟨a,b,c,d,e,f,g⟩:=st
  grind⟩
 | z+1,st,h=>by
  rw[List.replicate_succ]
  have e0:dgt (by8 48)=0:=by decide
  have e:fD (bb (48::List.replicate z 48)) st=fD (bb (List.replicate z 48)) (bj st (dgt (by8 48))):=rfl
  have es:bj st (dgt (by8 48))=⟨st.m,st.tr,st.dot,true,st.nd,st.nm,st.dp-1⟩:=by unfold bj;grind
  obtain⟨g,hg⟩:=qG z (bj st (dgt (by8 48))) (by grind)
  grind
theorem Form.val2 {l B' X:List UInt8} {z:Nat} (_h:Form l [48] (bb (List.replicate z 48)++B') X true) (h19:B'.length<=19):
  (fD (bb (List.replicate z 48)++B') (dY (fD [48] RS0))).m=eQ ([48]++(bb (List.replicate z 48)++B')) 0/\(fD (bb (List.replicate z 48)++B') (dY (fD [48] RS0))).tr=false/\
   (eQ ([48]++(bb (List.replicate z 48)++B')) 0≠0->cf (fD (bb (List.replicate z 48)++B') (dY (fD [48] RS0))) X=hO X-(bb (List.replicate z 48)++B').length):=by
 have e0:dY (fD [48] RS0)=⟨0,false,true,true,0,0,0⟩:=rfl
 have eF:fD (bb (List.replicate z 48)++B') (dY (fD [48] RS0))=fD B' (fD (bb (List.replicate z 48)) (dY (fD [48] RS0))):=List.foldl_append
 obtain⟨g,hg⟩:=qG z (dY (fD [48] RS0)) rfl
 rw[eF,hg,e0]
 have eD:eQ ([48]++(bb (List.replicate z 48)++B')) 0=eQ B' 0:=by
  rw[fq,fq]
  have:eQ [48] 0=0:=rfl
  rw[this,kP,Nat.zero_mul]
 rw[eD]
 obtain⟨b1,b2,b3,b4,b5,b6⟩:=jl B' ⟨0,false,true,g,0,0,(0:Int)-z⟩ rfl (fun _=>rfl) (by grind)
 refine⟨b1,b2,fun hne=>?_⟩
 unfold cf
 rw[if_pos (by grind),qD B']
 simp only[if_true]
 grind [bb]
structure Read (l:List UInt8) (c:Nat) (q:Int) (j:Nat):Prop where
 sc:∀s:ByteArray,aI s.data.toList=l->s.size<100000->∃st X,Txt s st X/\st.tr=false/\st.m=c*10^j/\(st.m≠0->cf st X=q-j)
 nm:∀l0,aI l0=l->fG l0=true
 hd:∃a r,l=a::r/\isD a=true
theorem Form.read {l A B X:List UInt8} {pt:Bool} {c j:Nat} {q:Int} (h:Form l A B X pt) (h19:A.length+B.length<=19) (hv:eQ (A++B) 0=c*10^j) (he:hO X-B.length=q-j):Read l c q j:=by
 refine⟨fun s h0 hs=>?_,fun l0 h0=>h.num h0,?_⟩
 ·obtain⟨v1,v2,v3⟩:=h.val h19
  exact⟨_,X,h.txt h0 hs,v2,v1.trans hv,fun hne=>(v3 (by omega)).trans he⟩
 ·obtain⟨a,A',rfl⟩:=List.exists_cons_of_ne_nil h.a
  exact⟨a,_,h.eq,h.ad a (by simp)⟩
theorem zc {L:List Int} {dp:Int} (hL:∀v∈L,dig v) (h0:0<L.length) (h18:L.length<=18) (hdp:(dp-1).natAbs<1000):
  ∃j:Nat,Read (mO L dp) (eQ (bb L) 0) (dp-L.length) j/\j<=7/\(0<j->L.length+j<=7)/\(mO L dp).length<=40:=by
 have hbl:∀L:List Int,(bb L).length=L.length:=fun L=>List.length_map _
 unfold mO qF
 by_cases hE:dp-1< -4\/6<=dp-1
 ·rw[if_pos hE]
  obtain⟨v,L',rfl⟩:=List.exists_cons_of_ne_nil (fun e=>by grind:L≠[])
  obtain⟨s,ds,x1,x2,x3,x4⟩:=wj hdp
  have eb:bb (jp (v::L') dp)=[by8 v]++((if decide (L'≠[])then 46::bb L' else [])++101::bb (eI (dp-1))):=by
   unfold jp
   rw[if_neg (show ¬(v::L'=[]) by simp),if_neg (show ¬(v::L'=[]) by simp),gq,gq,gq]
   cases L' with
   | nil=>
    rw[if_neg (show ¬ 1< [v].length by simp),if_neg (by simp)]
    grind [sq,LH]
   | cons a r=>
    rw[if_pos (show 1<(v::a::r).length by simp),if_pos (show decide (a::r≠[])=true by simp)]
    simp only[sq,B9,b46,LH,List.cons_append,List.nil_append,List.append_assoc,List.take_succ_cons,List.take_zero,List.drop_succ_cons,List.drop_zero]
  have hde:db (bb (jp (v::L') dp))=true:=sr (c:=101) (by rw[eb];simp) (.inr rfl)
  rw[if_pos hde]
  have hF:Form (bb (jp (v::L') dp)) [by8 v] (bb L') (101::bb (eI (dp-1))) (decide (L'≠[])):=by
   refine⟨eb,by simp,fun c hc=>?_,fun h e=>?_,fun h=>?_,oy fun w hw=>hL w (by simp[hw]),.inr ⟨_,_,_,x2⟩,fun c sg d hX=>hX.le⟩
   ·grind [Cb]
   ·grind
   grind
  simp only[List.length_cons]at h18 ⊢
  refine⟨0,hF.read ?_ ?_ ?_,by omega,by omega,?_⟩
  ·grind
  ·rw[Nat.pow_zero,Nat.mul_one];rfl
  ·grind
  grind
 ·rw[if_neg hE]
  by_cases hd0:0<dp
  ·by_cases hd1:dp<(L.length:Int)
   ·--within
    have eb:bb (dh L dp)=bb (L.take dp.toNat)++((if true then 46::bb (L.drop dp.toNat)else [])++[]):=by
     unfold dh
     rw[if_pos hd0,if_pos hd1,show dp.toNat-L.length=0 by omega,show(-dp).toNat=0 by omega,gq,gq]
     simp[bb,by8]
    have hde:db (bb (dh L dp))=true:=sr (c:=46) (by rw[eb];simp) (.inl rfl)
    rw[if_pos hde]
    have ht:(L.take dp.toNat).length=dp.toNat:=by grind
    have hdl:(L.drop dp.toNat).length=L.length-dp.toNat:=List.length_drop
    have hF:Form (bb (dh L dp)) (bb (L.take dp.toNat)) (bb (L.drop dp.toNat)) [] true:=by
     refine⟨eb,fun e=>?_,oy fun w hw=>hL w (List.mem_of_mem_take hw),fun _ e=>?_,fun h=>(by cases h),oy fun w hw=>hL w (List.mem_of_mem_drop hw),.inl rfl,fun c sg d hX=>hX.le⟩
     ·grind
     grind
    refine⟨0,hF.read ?_ ?_ ?_,by omega,by omega,?_⟩
    ·grind
    ·rw[Nat.pow_zero,Nat.mul_one,<-gq,List.take_append_drop]
    ·rw[hbl,hdl];show 0-_=_;omega
    grind
   ·--whole
    have eb:bb (dh L dp)=bb (L++List.replicate (dp.toNat-L.length) 48):=by
     unfold dh
     rw[if_pos hd0,if_neg hd1,List.append_nil,List.take_of_length_le (by omega)]
    have hdg:∀c∈bb (dh L dp),isD c=true:=by
     grind [oy,xZ]
    rw[if_neg (by rw[LI hdg];decide)]
    have hlen:(bb (dh L dp)).length=dp.toNat:=by grind
    have hF:Form (bb (dh L dp)++[46,48]) (bb (dh L dp)) [48] [] true:=by
     refine⟨rfl,fun e=>?_,hdg,fun _=>by simp,fun h=>(by cases h),fun c hc=>?_,.inl rfl,fun c sg d hX=>hX.le⟩
     ·grind
     ·simp at hc;subst hc;decide
    refine⟨dp.toNat-L.length+1,hF.read ?_ ?_ ?_,by omega,by omega,?_⟩
    ·grind
    ·rw[fq,eb,gq,fq,kP]
     show eQ (bb L) 0*10^(dp.toNat-L.length)*10+0=_
     grind
    ·show(0:Int)-((1:Nat):Int)=_;omega
    grind
  ·--zeros first
   have eb:bb (dh L dp)=[48]++((if true then 46::(bb (List.replicate (-dp).toNat 48)++bb L)else [])++[]):=by
    unfold dh
    rw[if_neg hd0,if_pos (by omega),show dp.toNat=0 by omega,gq]
    simp only[List.drop_zero,if_true,List.append_nil,sq,B9,b48,b46,gq]
   have hde:db (bb (dh L dp))=true:=sr (c:=46) (by rw[eb];simp) (.inl rfl)
   rw[if_pos hde]
   have hF:Form (bb (dh L dp)) [48] (bb (List.replicate (-dp).toNat 48)++bb L) [] true:=by
    refine⟨eb,by simp,fun c hc=>?_,fun _ e=>?_,fun h=>(by cases h),fun c hc=>?_,.inl rfl,fun c sg d hX=>hX.le⟩
    ·simp at hc;subst hc;decide
    ·grind
    grind [oy,xZ]
   have hlB:(bb (List.replicate (-dp).toNat 48)++bb L).length=(-dp).toNat+L.length:=by grind
   obtain⟨v1,v2,v3⟩:=hF.val2 (by rw[hbl];omega)
   have eD:eQ ([48]++(bb (List.replicate (-dp).toNat 48)++bb L)) 0=eQ (bb L) 0:=by
    rw[fq,fq]
    have:eQ [48] 0=0:=rfl
    rw[this,kP,Nat.zero_mul]
   rw[eD]at v1 v3
   refine⟨0,⟨fun s h0 hs=>?_,fun l0 h0=>hF.num h0,?_⟩,by omega,by omega,?_⟩
   ·refine⟨_,[],hF.txt h0 hs,v2,?_,fun hne=>?_⟩
    ·grind
    ·refine(v3 (by grind)).trans ?_
     rw[hlB];show(0:Int)-_=_;omega
   ·exact⟨48,_,eb,by decide⟩
   grind
end Go.Proofs.YtemclecmafjjfaaGreatDoor.N
/- WeighBack: a number's text leads back to it. Conditions: none. -/
namespace Go.Proofs.YtemclecmafjjfaaGreatDoor.N
open Go.X Go.Proofs.YtemclecmafjjfaaGreatDoor
set_option maxRecDepth 100000
set_option maxHeartbeats 1000000
theorem Cc (l:List UInt8):db l=true ↔ ∃c∈l,c=46\/c=101:=by
 constructor
 ·intro h
  apply Classical.byContradiction
  intro hn
  have:db l=false:=CS fun j b _ hb=>by
   grind
  grind
 grind [sr]
theorem It (ng:Bool) (l:List UInt8):db ((if ng then [45]else [])++l)=db l:=by
 rw[Bool.eq_iff_iff,Cc,Cc]
 grind
theorem FA (ng:Bool):bb (ir ng)=if ng then [45]else []:=by cases ng<;>rfl
def kQ (x:Nat):List UInt8:=if bT x=0 then mO [] 0 else mO (LOf x) (kZ x)
theorem zd {x:Nat} (hn:isNaN x=false) (h1:isInf x=false) (h2:isInf (eG x)=false):(bR x).data.toList=(if iX x then [45]else [])++kQ x:=by
 unfold bR
 rw[if_neg (by rw[hn];decide),if_neg (by rw[h1];decide),if_neg (by rw[h2];decide)]
 have gen:∀L dp,(strOf (fmtG (iX x) L dp)).data.toList=(if iX x then [45]else [])++bb (qF L dp):=fun L dp=>by
  rw[Ir];unfold fmtG;rw[gq,FA];rfl
 have gen2:∀L dp,dy x=fmtG (iX x) L dp->(if db (strOf (dy x)).data.toList then strOf (dy x)else strOf (dy x)++⟨#[46,48]⟩:ByteArray).data.toList=(if iX x then [45]else [])++mO L dp:=fun L dp e=>by
  rw[e,gen,It]
  unfold mO
  by_cases hd:db (bb (qF L dp))=true
  ·grind
  simp_all
 unfold kQ
 by_cases h0:bT x=0
 ·rw[if_pos h0];exact gen2 [] 0 (by unfold dy;rw[if_pos h0])
 ·rw[if_neg h0];exact gen2 _ _ (by unfold dy;rw[if_neg h0])
theorem qH {ng:Bool} {l:List UInt8} (h:∃a r,l=a::r/\isD a=true):aI ((if ng then [45]else [])++l)=l/\(bz ((if ng then [45]else [])++l)).1=ng:=by
 obtain⟨a,r,rfl,ha⟩:=h
 have hd:=cg.1 ha
 have n1:a≠43:=fun e=>by simp_all
 have n2:a≠45:=fun e=>by simp_all
 cases ng
 ·refine⟨?_,?_⟩
  ·show(if a=43\/a=45 then r else a::r)=a::r
   grind
  ·show(if a=43 then(false,1)else if a=45 then(true,1)else(false,0)).1=false
   grind
 ·exact⟨rfl,rfl⟩
theorem zsh {x:Nat} (hm:bT x≠0):zOf (iH x)=gy x:=by
 have hl:=C1 x
 obtain⟨b1,b2,b3⟩:=iI hm (by omega)
 have he:gN x<2048:=Nat.mod_lt _ (by decide)
 have b53:Lib.bitLen (bT x)<=53:=Lib.bitLen_le _ 53 (by decide) hl
 have hs:gy x=64-Lib.bitLen (bT x):=rfl
 unfold iH iY
 by_cases h0:gN x=0
 ·have hm2:bT x<2^52:=by unfold bT;rw[if_pos h0];exact uG x
  have:Lib.bitLen (bT x)<=52:=Lib.bitLen_le _ 52 (by decide) hm2
  rw[if_pos h0]
  unfold zOf
  grind
 ·have hm2:2^52<=bT x:=by unfold bT;grind
  have:Lib.bitLen (bT x)=53:=ym (k:=52) hm2 hl (by omega)
  rw[if_neg h0]
  unfold zOf
  grind
theorem Cd {x:Nat} (h:x<18446744073709551616):fp (bT x) (iY x-1075) (iX x)=x:=by
 have hs:gM (iX x)=x/9223372036854775808*9223372036854775808:=by
  unfold iX gM
  grind
 unfold fp
 rw[hs]
 have hf:=uG x
 have hex:gN x=x/4503599627370496 % 2048:=rfl
 have hfr:C0 x=x % 4503599627370496:=rfl
 unfold bT iY
 grind
theorem LJ {m:Nat} {ev:Int} (h:Mt m ev): -324<=(short m ev).2/\(short m ev).2<=293:=by
 have hez: -1074<=ev+zOf ev/\ev+zOf ev<=971:=by
  have:=h.e0;have:=h.e1
  unfold zOf;split<;>omega
 have hp: -292<=shP m ev/\shP m ev<=324:=by
  unfold shP
  by_cases hA:shA m ev=true
  ·rw[if_pos hA]
   simp only[shA,Bool.and_eq_true,decide_eq_true_eq]at hA
   have:=h.e1
   unfold skw;omega
  ·rw[if_neg hA];unfold l10;omega
 unfold short
 split
 ·omega
 ·split
  ·omega
  omega
theorem qI (s:ByteArray):s.size=s.data.toList.length:=rfl
theorem zW {x:Nat} (hx64:x<18446744073709551616) (hn:isNaN x=false) (h1:isInf x=false) (h2:isInf (eG x)=false):
  (∃st rest,Txt (bR x) st rest/\st.tr=false/\(fI st.m (cf st rest) (bz (bR x).data.toList).1).1=x)/\fG (bR x).data.toList=true/\(bR x).size<=60/\∃a r,kQ x=a::r/\isD a=true:=by
 have hx:=wu hn h1 h2
 have hl:=zd hn h1 h2
 by_cases h0:bT x=0
 ·--zero
  have hr:kQ x=[48,46,48]:=by unfold kQ;rw[if_pos h0];decide
  have hhd:∃a r,kQ x=a::r/\isD a=true:=⟨48,[46,48],hr,by decide⟩
  obtain⟨d1,d2⟩:=qH (ng:=iX x) hhd
  rw[<-hl]at d1 d2
  have hsz:(bR x).size<=60:=by grind [qI]
  have hF:Form (kQ x) [48] [48] [] true:=by
   rw[hr]
   exact⟨rfl,by simp,fun c hc=>(by grind),fun _=>by simp,fun h=>(by cases h),fun c hc=>(by grind),.inl rfl,fun c sg d hX=>hX.le⟩
  have hT:=hF.txt d1 (by omega)
  obtain⟨v1,v2,_⟩:=hF.val (by decide)
  refine⟨?_,hF.num d1,hsz,hhd⟩
  have e:(fI (eQ ([48]++[48]) 0) (cf (fD [48] (if true=true then dY (fD [48] RS0)else fD [48] RS0)) []) (iX x)).1=x:=by
   unfold fI
   have:eQ ([48]++[48]) 0=0:=rfl
   rw[if_pos this]
   have hb:=Cd hx64
   rw[h0]at hb
   have e0:fp 0 (iY x-1075) (iX x)=gM (iX x):=by unfold fp;grind
   grind [bits_or_u64_nat]
  grind
 ·obtain⟨hmt,hs63,hs11⟩:=C4 hx h0
  obtain⟨hin,hd57,hd0⟩:=B8 hmt
  have hz:=zsh h0
  have hM:mY x/2^zOf (iH x)=bT x:=by grind [mY,Nat.mul_div_cancel]
  have hE:iH x+zOf (iH x)=iY x-1075:=by rw[hz];unfold iH;omega
  rw[hM,hE]at hin
  obtain⟨q1,q2⟩:=LJ hmt
  have hin:In (4*(dOf x*ten (pOf x))*W 0) (aM (pOf x)) (bT x) (iY x-1075):=hin
  have hd57:dOf x<144115188075855872:=hd57
  have hd0:0<dOf x:=hd0
  have q1: -324<=pOf x:=q1
  have q2:pOf x<=293:=q2
  obtain⟨t,l1,l2,l3,l4,l5⟩:=Fy hd0 hd57
  have hdp:kZ x=ndg (dOf x)+pOf x:=rfl
  obtain⟨j,hR,j1,j2,hlen⟩:=zc (L:=LOf x) (dp:=kZ x) l3 l2 (by omega) (by omega)
  have hrest:kQ x=mO (LOf x) (kZ x):=by unfold kQ;rw[if_neg h0]
  rw[<-hrest]at hR hlen
  obtain⟨d1,d2⟩:=qH (ng:=iX x) hR.hd
  rw[<-hl]at d1 d2
  have hsz:(bR x).size<=60:=by
   grind [qI]
  obtain⟨st,X,hT,htr,hm,he⟩:=hR.sc (bR x) d1 (by omega)
  refine⟨?_,hR.nm _ d1,hsz,hR.hd⟩
  generalize hc:eQ (bb (LOf x)) 0=c at*
  have hc0:c≠0:=by grind
  have hp10:0<10^j:=Nat.pow_pos (by decide)
  have hp10t:0<10^t:=Nat.pow_pos (by decide)
  have hm0:st.m≠0:=by grind [Nat.mul_ne_zero]
  have he:=he hm0
  have hcd:c<=dOf x:=by rw[<-l4];exact Nat.le_mul_of_pos_right _ hp10t
  have hm57:st.m<144115188075855872:=by
   rw[hm]
   by_cases hj:j=0
   ·grind
   ·have hck:c<10^(LOf x).length:=by
     refine Nat.lt_of_mul_lt_mul_right (a:=10^t) ?_
     grind [wz]
    calc c*10^j<10^(LOf x).length*10^j:=Nat.mul_lt_mul_of_pos_right hck hp10
     _=10^((LOf x).length+j):=(Nat.pow_add _ _ _).symm
     _<=10^7:=Nat.pow_le_pow_right (by decide) (j2 (by omega))
     _<_:=by decide
  have hin2:In (4*(st.m*ten (kZ x-(LOf x).length-j))*W 0) (aM (kZ x-(LOf x).length-j)) (bT x) (iY x-1075):=by
   refine hin.scale (dP _) ?_ (dP _)
   rw[hm,<-l4]
   have ep:10^t*ten (pOf x)*aM (kZ x-(LOf x).length-j)=10^j*ten (kZ x-(LOf x).length-j)*aM (pOf x):=by
    unfold ten aM
    rw[<-Nat.pow_add,<-Nat.pow_add,<-Nat.pow_add,<-Nat.pow_add];congr 1;omega
   grind
  have hxp:iY x<=2046:=by
   grind [gN,iY]
  have ha:=Fl (ng:=iX x) (by omega) (by omega) hm0 (by omega) (.inl hm57) hin2 (by omega) (by omega)
  grind [Cd]
theorem GS {x:Nat} (hx64:x<18446744073709551616) (hn:isNaN x=false) (h1:isInf x=true):x=9218868437227405312:=by
 unfold isInf at h1
 rw[oG hn (by decide)]at h1
 have hk:=of_decide_eq_true h1
 rcases gx hn with⟨s,e⟩ | ⟨s,m,i,e⟩
 ·have hs:s=false:=by
   cases s
   ·rfl
   ·exfalso
    have:key x= -(2^iV):=by unfold key;rw[e];rfl
    have h0:0<key FZ:=by decide+kernel
    grind
  subst hs
  unfold Ieee.Format.read at e
  simp only[jZ,fu,kT]at e
  grind
 ·exfalso
  obtain⟨i1,i2⟩:=eU e
  have hm:=im e
  have hkx:key x=Ieee.signed s m (i+1074).toNat:=by unfold key;rw[e];rfl
  have hmax:key FZ=((9007199254740991*W 971:Nat):Int):=by decide+kernel
  rw[hkx,bJ,hmax]at hk
  have hW:W i<=W 971:=by unfold W;exact Nat.pow_le_pow_right (by decide) (by omega)
  have hle:m*W i<=9007199254740991*W 971:=Nat.mul_le_mul (by omega) hW
  rw[<-mN]at hk
  generalize m*W i=a at*
  generalize 9007199254740991*W 971=b at*
  split at hk<;>omega
theorem Iu {x:Nat} (h:x<18446744073709551616):eG x<18446744073709551616:=by
 show x ^^^ 2^63<2^64
 exact Nat.xor_lt_two_pow (by omega) (by decide)
theorem FB (x:Nat):eG (eG x)=x:=by
 show x ^^^ 2^63 ^^^ 2^63=x
 grind
end Go.Proofs.YtemclecmafjjfaaGreatDoor.N
