/- Checks of the shortest digits, exponent by exponent. Conditions: none. -/
import Derived.Test.YtmmmmjcfojhiaaaGreatDoorWAtofIn
set_option linter.unusedVariables false
set_option linter.unusedSimpArgs false
set_option maxRecDepth 100000
set_option maxHeartbeats 1000000
namespace Go.Proofs.YtmmmmjcfojhiaaaGreatDoor.N
open Go.X Go.Proofs.YtmmmmjcfojhiaaaGreatDoor
def okL (f:Int->Int) (k:Nat):Bool:=let e:=(k:Int)-1074;decide (0<=e+l2 (-f e))&&decide (e+l2 (-f e)<=3)
theorem GV :((List.range 2046).all (okL l10))=true:=by kernel_rfl
theorem GW :((List.range 2046).all (okL skw))=true:=by kernel_rfl
theorem J4 {e:Int} (h1: -1074<=e) (h2:e<=971):0<=e+l2 (-l10 e)/\e+l2 (-l10 e)<=3:=by
 have:=Qx.1 GV (e+1074).toNat (RB.2 PA)
 simp only[okL,P6,decide_eq_true_eq]at this
 rwa[show(((e+1074).toNat:Nat):Int)-1074=e by omega]at this
theorem J5 {e:Int} (h1: -1074<=e) (h2:e<=971):0<=e+l2 (-skw e)/\e+l2 (-skw e)<=3:=by
 have:=Qx.1 GW (e+1074).toNat (RB.2 PA)
 simp only[okL,P6,decide_eq_true_eq]at this
 rwa[show(((e+1074).toNat:Nat):Int)-1074=e by omega]at this
def ckS (h l:Nat) (p:Int):Bool:=(List.range 6).all fun k=>
 let e:=l2 (-p)+(k:Int)
 if skw e= -p then
  let s:=((-(e-11+l2 p+3)) % 64).toNat
  let dn:=(usc 9223372036854775296 h l s+0+3) % 18446744073709551616/4
  let dx:=(usc 9223372036854776832 h l s+18446744073709551616-0) % 18446744073709551616/4
  if dn<dx then(if dn<=dx/10*10 then true else decide (dn<=rnd (usc 9223372036854775808 h l s)))else true
 else true
theorem J6 :ckL ckS Go.Pinned.pow10Rows 0=true:=by kernel_rfl
theorem GX :ckL (fun _ _ p=>ckN 18014398509481984 124 56 p) Go.Pinned.pow10Rows 0=true:=by kernel_rfl
def okB (k:Nat):Bool:=
 let e:=(k:Int)-1074
 decide (10^(-(-l10 e)).toNat*W 0<=W e*10^(-l10 e).toNat)&&decide (4*(10^(-(-skw e)).toNat*W 0)<=3*(W e*10^(-skw e).toNat))&&decide (l2 (skw e)<=e)&&decide (e<=l2 (skw e)+5)
theorem GY :((List.range 2046).all okB)=true:=by kernel_rfl
theorem J7 {e:Int} (h1: -1074<=e) (h2:e<=971):aM (-l10 e)*W 0<=W e*ten (-l10 e)/\4*(aM (-skw e)*W 0)<=3*(W e*ten (-skw e))/\l2 (skw e)<=e/\e<=l2 (skw e)+5:=by
 have:=Qx.1 GY (e+1074).toNat (RB.2 PA)
 simp only[okB,P6,decide_eq_true_eq]at this
 rw[show(((e+1074).toNat:Nat):Int)-1074=e by omega]at this
 exact⟨this.1.1.1,this.1.1.2,this.1.2,this.2⟩
end Go.Proofs.YtmmmmjcfojhiaaaGreatDoor.N
/- The shortest digits lie where they are rounded back. Conditions: none. -/
namespace Go.Proofs.YtmmmmjcfojhiaaaGreatDoor.N
open Go.X Go.Proofs.YtmmmmjcfojhiaaaGreatDoor
theorem In.scale {Y d Y' d' M:Nat} {e:Int} (hd:0<d) (h:In Y d M e) (hY:Y*d'=Y'*d) (hd':0<d'):In Y' d' M e:=by
 obtain⟨a1,a2,a3,a4,a5,a6,a7,a8⟩:=h
 have le1:∀c,Y<=c*(W e*d)->Y'<=c*(W e*d'):=fun c hc=>by
  refine R7 (c:=d) ?_ hd
  rw[<-hY]
  calc Y*d'<=c*(W e*d)*d':=P1 _ hc
   _=_:=by ac_rfl
 have lt1:∀c,Y<c*(W e*d)->Y'<c*(W e*d'):=fun c hc=>by
  refine QH (a:=d) ?_
  rw[<-hY]
  calc Y*d'<c*(W e*d)*d':=P5 hc hd'
   _=_:=by ac_rfl
 have le2:∀c k,c*(W e*d)<=Y+k*(W e*d)->c*(W e*d')<=Y'+k*(W e*d'):=fun c k hc=>by
  refine R7 (c:=d) ?_ hd
  rw[Qn,<-hY]
  calc c*(W e*d')*d=c*(W e*d)*d':=by ac_rfl
   _<=(Y+k*(W e*d))*d':=P1 _ hc
   _=Y*d'+k*(W e*d)*d':=Qn _ _ _
   _=_:=by congr 1;ac_rfl
 have lt2:∀c k,c*(W e*d)<Y+k*(W e*d)->c*(W e*d')<Y'+k*(W e*d'):=fun c k hc=>by
  refine QH (a:=d) ?_
  rw[Qn,<-hY]
  calc c*(W e*d')*d=c*(W e*d)*d':=by ac_rfl
   _<(Y+k*(W e*d))*d':=P5 hc hd'
   _=Y*d'+k*(W e*d)*d':=Qn _ _ _
   _=_:=by congr 1;ac_rfl
 refine⟨a1,a2,a3,le1 _ a4,fun h=>lt1 _ (a5 h),le2 _ 2 a6,fun h=>lt2 _ 2 (a7 h),fun h1 h2=>?_⟩
 have:=le2 (4*M) 1 PA
 omega
theorem GZ {x hi lo s:Nat} (hx:x<18446744073709551616) (hh:hi<18446744073709551616) (hs:2<=s):usc x hi lo s<4611686018427387904:=by
 have hd:=jG hx hh
 have h4:4<=2^s:=P7 (n:=2) PB hs
 unfold usc
 simp only[]
 have e:(4611686018427387904:Nat)=2^62:=by decide
 have hq:∀a:Nat,a<18446744073709551616->a/2^s<2^62:=fun a ha=>by
  refine RQ ?_
  omega
 rw[e]
 split
 ·exact R6 (hq _ (QG _ PB)) (by split<;>decide)
 ·exact R6 (hq _ hd) PB
theorem om {y w s mo tol X g:Nat} {p ev:Int} (h1: -348<=p) (h2:p<=347) (hok:ckN X mo tol p=true) (x0:0<y) (x1:y<=X) (hx:y*2^w<18446744073709551616) (m1:mo+w<=128+s) (m2:65<=w+tol)
  (hs:(s:Int)= -(ev+l2 p+3)) (hs2:s<64) (hs3:2<=s) (hg:(g:Int)=ev+w+1076):scl (y*2^w) ev p=uex (y*ten p*2^g) (aM p*W 0)/\scl (y*2^w) ev p<4611686018427387904:=by
 have es:((-(ev+l2 p+3)) % 64).toNat=s:=by omega
 unfold scl
 rw[es]
 refine⟨?_,GZ hx (pP h1 h2) hs3⟩
 rw[C5 h1 h2 hok x0 x1 hx m1 m2]
 refine DR (xi s p) (QI (fa p) (fj 0)) ?_
 have:(2:Nat)^w*2^(127-l2 p).toNat*2^((0:Int)+1074).toNat=2^g*2^64*2^s*2^64*2^(l2 p-127).toNat:=by
  simp only[<-Qc];congr 1;omega
 rw[yR,Dn,vf,Nq,nA]
 generalize (127-l2 p).toNat=k2 at*
 generalize ((0:Int)+1074).toNat=k4 at*
 generalize (l2 p-127).toNat=k5 at*
 calc y*2^w*(ten p*2^k2)*(aM p*2^k4)=y*ten p*aM p*(2^w*2^k2*2^k4):=by ac_rfl
  _=y*ten p*aM p*(2^g*2^64*2^s*2^64*2^k5):=by rw[this]
  _=_:=by ac_rfl
theorem Ny {U N T D o:Nat} (hT:0<T) (hU:U=uex N T) (ho:o<=1) (hD:4*D+o<=U):4*D*T<=N/\(o=1->4*D*T<N):=by
 have hc:=fE (N:=N) hT
 rw[<-hU]at hc
 rcases hc with h | ⟨h1,h2,_⟩
 ·rw[<-h]
  refine⟨P1 _ PA,fun h=>P5 PA hT⟩
 ·have:=P1 T (show 4*D<=U-1 by omega)
  omega
theorem Nz {U N T D o:Nat} (hT:0<T) (hU:U=uex N T) (ho:o<=1) (hD:U+o<=4*D):N<=4*D*T/\(o=1->N<4*D*T):=by
 have hc:=fE (N:=N) hT
 rw[<-hU]at hc
 rcases hc with h | ⟨h1,_,h2⟩
 ·rw[<-h]
  refine⟨P1 _ PA,fun h=>P5 PA hT⟩
 ·have:=P1 T (show U+1<=4*D by omega)
  omega
structure Sh (m:Nat) (ev:Int):Prop where
 B:0<W (ev+zOf ev)*ten (shP m ev)
 T:0<aM (shP m ev)*W 0
 mx:scl (dw m ev) ev (shP m ev)=uex ((2*(m/2^zOf ev)+1)*(2*(W (ev+zOf ev)*ten (shP m ev)))) (aM (shP m ev)*W 0)
 md:scl m ev (shP m ev)=uex (2*(m/2^zOf ev)*(2*(W (ev+zOf ev)*ten (shP m ev)))) (aM (shP m ev)*W 0)
 mn:∃k,(k=1\/k=2)/\(shA m ev=true->k=1)/\(shA m ev=false->k=2)/\∃N,N+k*(W (ev+zOf ev)*ten (shP m ev))=4*(m/2^zOf ev)*(W (ev+zOf ev)*ten (shP m ev))/\scl (cG m ev) ev (shP m ev)=uex N (aM (shP m ev)*W 0)
 lx:scl (dw m ev) ev (shP m ev)<4611686018427387904
 ln:scl (cG m ev) ev (shP m ev)<4611686018427387904
 ld:scl m ev (shP m ev)<4611686018427387904
 sm:W (ev+zOf ev)*ten (shP m ev)<16*(aM (shP m ev)*W 0)
theorem NA {m:Nat} {ev:Int} (h:Mt m ev):Sh m ev:=by
 obtain⟨z1,z2⟩:=h.z
 obtain⟨hp1,hp2⟩:=h.p
 have htop:=h.top
 obtain⟨hh1,hh2,hh3⟩:=h.half
 have hlo:=h.lo;have hhi:=h.hi;have he0:=h.e0;have he1:=h.e1
 have hal:=h.al
 have hez: -1074<=ev+zOf ev/\ev+zOf ev<=971:=by unfold zOf;split<;>omega
 have hsum:0<=ev+zOf ev+l2 (shP m ev)/\ev+zOf ev+l2 (shP m ev)<=3:=by
  unfold shP
  by_cases hA:shA m ev=true
  ·rw[if_pos hA]
   simp only[shA,P6,decide_eq_true_eq]at hA
   have hz:(zOf ev:Int)=11:=by unfold zOf;grind
   rw[hz]
   exact J5 PA PA
  ·rw[if_neg hA]
   exact J4 hez.1 hez.2
 generalize hp:shP m ev=p at*
 obtain⟨s,hs⟩:∃s:Nat,(s:Int)= -(ev+l2 p+3):=⟨(-(ev+l2 p+3)).toNat,PA⟩
 have hs1:5<=s:=by omega
 have hs2:s<64:=by omega
 have hsw:zOf ev<=s+6:=by omega
 have hM:m=m/2^zOf ev*2^zOf ev:=by
  grind [Nat.div_add_mod]
 have hMlt:m/2^zOf ev<9007199254740992:=by
  refine RQ ?_
  omega
 have hM0:0<m/2^zOf ev:=Nat.div_pos PA (QD _)
 generalize hMM:m/2^zOf ev=M at*
 obtain⟨w,hw⟩:∃w,zOf ev=w+1:=⟨zOf ev-1,PA⟩
 have h2w:2^zOf ev=2*2^w:=by grind
 have hw1:2^(zOf ev-1)=2^w:=by rw[hw];rfl
 have ckS1:=pE Hr hp1 hp2
 have ckW1:=pE GX hp1 hp2
 have eg:((ev+zOf ev+1075).toNat:Int)=ev+w+1076:=by omega
 have hW2:2^(ev+zOf ev+1075).toNat=2*W (ev+zOf ev):=by
  rw[nA,Qo,<-QR];congr 1;omega
 have eN:∀y,y*ten p*2^(ev+zOf ev+1075).toNat=y*(2*(W (ev+zOf ev)*ten p)):=fun y=>by grind
 have emax:dw m ev=(2*M+1)*2^w:=by
  unfold dw
  grind
 have emid:m=2*M*2^w:=by
  grind
 have hmaxlt:(2*M+1)*2^w<18446744073709551616:=by
  grind
 have hmidlt:2*M*2^w<18446744073709551616:=by omega
 have hmx:=om (y:=2*M+1) (w:=w) (s:=s) (ev:=ev) hp1 hp2 ckS1 PA PA hmaxlt PA PA hs hs2 PA eg
 have hmd:=om (y:=2*M) (w:=w) (s:=s) (ev:=ev) hp1 hp2 ckS1 PA PA hmidlt PA PA hs hs2 PA eg
 rw[eN,<-emax]at hmx
 rw[eN,<-emid]at hmd
 have hmn:∃k,(k=1\/k=2)/\(shA m ev=true->k=1)/\(shA m ev=false->k=2)/\∃N,N+k*(W (ev+zOf ev)*ten p)=4*M*(W (ev+zOf ev)*ten p)/\scl (cG m ev) ev p=uex N (aM p*W 0)/\scl (cG m ev) ev p<4611686018427387904:=by
  by_cases hA:shA m ev=true
  ·refine⟨1,.inl rfl,fun _=>rfl,fun h=>absurd (hA.symm.trans h) PB,?_⟩
   have hA2:=hA
   simp only[shA,P6,decide_eq_true_eq]at hA2
   have hz:zOf ev=11:=by unfold zOf;grind
   have hM52:M=4503599627370496:=by
    grind
   have emin:cG m ev=18014398509481983*2^9:=by
    unfold cG;grind
   have hmn:=om (y:=18014398509481983) (w:=9) (s:=s) (ev:=ev) (g:=(ev+zOf ev+1074).toNat) hp1 hp2 ckW1 PB PB PB PA PA hs hs2 PA PA
   grind [nA]
  ·have hA':shA m ev=false:=by simpa using hA
   refine⟨2,.inr rfl,fun h=>absurd h hA,fun _=>rfl,?_⟩
   have emin:cG m ev=(2*M-1)*2^w:=by
    unfold cG
    rw[if_neg hA,hw1,Nat.sub_mul,Rz]
    omega
   have hlt:(2*M-1)*2^w<18446744073709551616:=by
    have:=P1 (2^w) (show 2*M-1<=2*M by omega)
    omega
   have hmn:=om (y:=2*M-1) (w:=w) (s:=s) (ev:=ev) hp1 hp2 ckS1 PA PA hlt PA PA hs hs2 PA eg
   rw[eN,<-emin]at hmn
   refine⟨_,?_,hmn.1,hmn.2⟩
   rw[Nat.mul_left_comm,<-Qm,<-Qn];congr 1;omega
 obtain⟨k,k1,k2,k3,N,k4,k5,k6⟩:=hmn
 have hsm:W (ev+zOf ev)*ten p<16*(aM p*W 0):=by
  have P:=(ph hp1 hp2).hi
  rw[yR,vf]at P
  have P2:ten p*2^(127-l2 p).toNat<2^128*(aM p*2^(l2 p-127).toNat):=QT P (P1 _ PB)
  have e1:(2:Nat)^128*2^(l2 p-127).toNat*W (ev+zOf ev)<=16*W 0*2^(127-l2 p).toNat:=by
   rw[show(16:Nat)=2^4 by decide,nA,nA,<-Qc,<-Qc,<-Qc,<-Qc]
   exact P7 PB PA
  refine QH (a:=2^(127-l2 p).toNat) ?_
  calc W (ev+zOf ev)*ten p*2^(127-l2 p).toNat=ten p*2^(127-l2 p).toNat*W (ev+zOf ev):=by ac_rfl
   _<2^128*(aM p*2^(l2 p-127).toNat)*W (ev+zOf ev):=P5 P2 (fj _)
   _=aM p*(2^128*2^(l2 p-127).toNat*W (ev+zOf ev)):=by ac_rfl
   _<=aM p*(16*W 0*2^(127-l2 p).toNat):=QP _ e1
   _=_:=by ac_rfl
 subst hp
 rw[<-hMM]at hmx hmd k4
 exact⟨QI (fj _) (yQ _),QI (fa _) (fj 0),hmx.1,hmd.1,⟨k,k1,k2,k3,N,k4,k5⟩,hmx.2,k6,hmd.2,hsm⟩
end Go.Proofs.YtmmmmjcfojhiaaaGreatDoor.N
/- The shortest digits are rounded back to their float. Conditions: none. -/
namespace Go.Proofs.YtmmmmjcfojhiaaaGreatDoor.N
open Go.X Go.Proofs.YtmmmmjcfojhiaaaGreatDoor
theorem G0 {U N T D o:Nat} (hT:0<T) (hU:U=uex N T) (ho:o<=1) (h:4*D*T<=N) (h1:o=1->4*D*T<N):4*D+o<=U:=by
 have hc:=fE (N:=N) hT
 rw[<-hU]at hc
 apply Ri
 intro hlt
 rcases hc with k | ⟨k1,k2,k3⟩
 ·by_cases h0:o=1
  ·have:=P1 T (show U<=4*D by omega)
   omega
  ·have:=P1 T (show U+1<=4*D by omega)
   grind
 ·have:=P1 T (show U+1<=4*D by omega)
  omega
theorem G1 {U N T D o:Nat} (hT:0<T) (hU:U=uex N T) (ho:o<=1) (h:N<=4*D*T) (h1:o=1->N<4*D*T):U+o<=4*D:=by
 have hc:=fE (N:=N) hT
 rw[<-hU]at hc
 apply Ri
 intro hlt
 rcases hc with k | ⟨k1,k2,k3⟩
 ·by_cases h0:o=1
  ·have:=P1 T (show 4*D<=U by omega)
   omega
  ·have:=P1 T (show 4*D+1<=U by omega)
   grind
 ·have:=P1 T (show 4*D<=U-1 by omega)
  omega
theorem rK (d T:Nat):4*(d+1)*T=4*d*T+4*T:=by grind
theorem G2 (p:Int):ten (-p)=aM p:=rfl
theorem Dd (p:Int):aM (-p)=ten p:=by unfold aM ten;grind
theorem De {m:Nat} {ev:Int} (h:Mt m ev):
  In (4*((short m ev).1*ten (short m ev).2)*W 0) (aM (short m ev).2) (m/2^zOf ev) (ev+zOf ev)/\(short m ev).1<144115188075855872/\0<(short m ev).1:=by
 have S:=NA h
 obtain⟨z1,z2⟩:=h.z
 obtain⟨hp1,hp2⟩:=h.p
 have hlo:=h.lo;have hhi:=h.hi;have he0:=h.e0;have he1:=h.e1;have hal:=h.al
 have hez: -1074<=ev+zOf ev/\ev+zOf ev<=971:=by unfold zOf;split<;>omega
 have hM:m=m/2^zOf ev*2^zOf ev:=by
  grind [Nat.div_add_mod]
 have hMlt:m/2^zOf ev<9007199254740992:=by
  refine RQ ?_
  have:2^11<=2^zOf ev:=P7 PB z1
  omega
 have hM0:0<m/2^zOf ev:=by
  grind
 have hz11:ev+zOf ev≠ -1074->zOf ev=11:=by
  intro hne;unfold zOf at hne ⊢;grind
 have hmn52:ev+zOf ev= -1074\/4503599627370496<=m/2^zOf ev:=by
  grind
 have hspec:m/2^zOf ev=4503599627370496->ev+zOf ev≠ -1074->shA m ev=true:=by
  intro h1 h2
  rw[h1]at hM
  have hz:=hz11 h2
  rw[hz]at hM h2
  unfold shA
  grind
 obtain⟨k,k1,k2,k3,N,k4,k5⟩:=S.mn
 have hT:=S.T;have hB:=S.B;have hsm:=S.sm
 have emx:=S.mx;have emd:=S.md
 have lx:=S.lx;have ln:=S.ln;have ld:=S.ld
 have hok:=J7 hez.1 hez.2
 have hBT:(k=2->aM (shP m ev)*W 0<=W (ev+zOf ev)*ten (shP m ev))/\(k=1->4*(aM (shP m ev)*W 0)<=3*(W (ev+zOf ev)*ten (shP m ev))):=by
  refine⟨fun hk=>?_,fun hk=>?_⟩
  ·have hA:shA m ev=false:=by
    grind
   have e:shP m ev= -l10 (ev+zOf ev):=by unfold shP;rw[hA];rfl
   rw[e];exact hok.1
  ·have hA:shA m ev=true:=by
    grind
   have hA2:=hA
   simp only[shA,P6,decide_eq_true_eq]at hA2
   have hz:zOf ev=11:=by omega
   have e:shP m ev= -skw (ev+zOf ev):=by unfold shP;grind
   rw[e];exact hok.2.1
 have hodd1:k=1->m/2^zOf ev % 2=0:=by
  intro hk
  have hA:shA m ev=true:=by
   grind
  have hA2:=hA
  simp only[shA,P6,decide_eq_true_eq]at hA2
  grind
 have hq1:k=1->fk m ev<ca m ev->¬fk m ev<=ca m ev/10*10->fk m ev<=rnd (scl m ev (shP m ev)):=by
  intro hk g1 g2
  have hA:shA m ev=true:=by
   grind
  have hA2:=hA
  simp only[shA,P6,decide_eq_true_eq]at hA2
  have hz:zOf ev=11:=by omega
  have e:shP m ev= -skw (ev+11):=by unfold shP;rw[hA];rfl
  have hcs:=pE J6 hp1 hp2
  unfold ckS at hcs
  have hz2:(zOf ev:Int)=11:=by rw[hz];rfl
  rw[hz2]at hok
  have hkk:=Qx.1 hcs (ev+11-l2 (-shP m ev)).toNat (RB.2 (by rw[e,Int.neg_neg];omega))
  have ee:l2 (-shP m ev)+(((ev+11-l2 (-shP m ev)).toNat:Nat):Int)=ev+11:=by rw[e,Int.neg_neg];omega
  simp only[ee]at hkk
  rw[if_pos PA]at hkk
  have o0:fS m ev=0:=by unfold fS;rw[hz];omega
  have xm:cG m ev=9223372036854775296:=by unfold cG;grind
  have xM:dw m ev=9223372036854776832:=by unfold dw;rw[hz];omega
  have es:ev+11-11+l2 (shP m ev)+3=ev+l2 (shP m ev)+3:=by omega
  rw[es]at hkk
  have c1:(usc 9223372036854775296 (hiP (shP m ev)) (loP (shP m ev)) (-(ev+l2 (shP m ev)+3) % 64).toNat+0+3) % 18446744073709551616/4=fk m ev:=by
   unfold fk scl;rw[o0,xm]
  have c2:(usc 9223372036854776832 (hiP (shP m ev)) (loP (shP m ev)) (-(ev+l2 (shP m ev)+3) % 64).toNat+18446744073709551616-0) % 18446744073709551616/4=ca m ev:=by
   unfold ca scl;rw[o0,xM]
  have c3:usc 9223372036854775808 (hiP (shP m ev)) (loP (shP m ev)) (-(ev+l2 (shP m ev)+3) % 64).toNat=scl m ev (shP m ev):=by
   unfold scl;rw[hA2.1]
  rw[c1,c2,c3,if_pos g1,if_neg g2]at hkk
  grind
 have ho:fS m ev=m/2^zOf ev % 2:=rfl
 generalize hMM:m/2^zOf ev=M at*
 generalize hp:shP m ev=p at*
 generalize hBB:W (ev+zOf ev)*ten p=B at*
 have hTB:0<aM p*W 0:=hT
 generalize hTT:aM p*W 0=T at*
 have hdx:ca m ev=(scl (dw m ev) ev p+18446744073709551616-M % 2) % 18446744073709551616/4:=by unfold ca;rw[ho,hp]
 have hdn:fk m ev=(scl (cG m ev) ev p+M % 2+3) % 18446744073709551616/4:=by unfold fk;rw[ho,hp]
 have hux1:1<=scl (dw m ev) ev p:=by
  apply Nat.succ_le_of_lt
  apply R0
  grind [fE]
 generalize scl (dw m ev) ev p=ux at*
 generalize scl (cG m ev) ev p=un at*
 have hdx2:∀D,D<=ca m ev ↔ 4*D+M % 2<=ux:=fun D=>by rw[hdx];omega
 have hdn2:∀D,fk m ev<=D ↔ un+M % 2<=4*D:=fun D=>by rw[hdn];omega
 have eMx:(2*M+1)*(2*B)=4*M*B+2*B:=by
  grind
 have eMd:2*M*(2*B)=4*M*B:=by
  grind
 rw[eMx]at emx
 rw[eMd]at emd
 have o1:M % 2<=1:=by omega
 have U1:∀D,D<=ca m ev->4*D*T<=4*M*B+2*B/\(M % 2=1->4*D*T<4*M*B+2*B):=fun D hD=>Ny hT emx o1 ((hdx2 D).1 hD)
 have L1:∀D,fk m ev<=D->4*M*B<=4*D*T+k*B/\(M % 2=1->4*M*B<4*D*T+k*B):=fun D hD=>by
  have:=Nz hT k5 o1 ((hdn2 D).1 hD)
  omega
 have hkB:k*B<=2*B:=P1 _ PA
 have mk:∀D,(4*D*T<=4*M*B+2*B)->(M % 2=1->4*D*T<4*M*B+2*B)->(4*M*B<=4*D*T+2*B)->(M % 2=1->4*M*B<4*D*T+2*B)->(k=1->4*M*B<=4*D*T+B)->In (4*D*T) (ten p) M (ev+zOf ev):=by
  intro D a1 a2 a3 a4 a5
  have e1:(4*M+2)*B=4*M*B+2*B:=Qn _ _ _
  refine⟨hez.1,hMlt,hmn52,?_,fun h=>?_,?_,fun h=>?_,fun h1 h2=>?_⟩
  ·rw[hBB,e1];exact a1
  ·rw[hBB,e1];exact a2 h
  ·rw[hBB];exact a3
  ·rw[hBB];exact a4 h
  ·rw[hBB];grind
 have CA:∀D,fk m ev<=D->D<=ca m ev->In (4*D*T) (ten p) M (ev+zOf ev):=fun D d1 d2=>by
  obtain⟨a1,a2⟩:=U1 D d2
  obtain⟨b1,b2⟩:=L1 D d1
  exact mk D a1 a2 PA (fun h=>by omega) (fun hk=>by grind)
 have fit:∀D,In (4*D*T) (ten p) M (ev+zOf ev)->In (4*(D*ten (-p))*W 0) (aM (-p)) M (ev+zOf ev):=fun D hI=>by
  rw[G2,Dd]
  have:4*(D*aM p)*W 0=4*D*T:=by grind
  grind
 have small:∀D,4*D*T<=4*M*B+2*B->D<144115188075855872:=fun D hD=>by
  have h1:(4*M+2)*B<=36028797018963966*B:=P1 _ PA
  rw[Qn]at h1
  apply RY
  intro hge
  have h2:4*144115188075855872*T<=4*D*T:=P1 _ PA
  omega
 have posD:∀D,4*M*B<=4*D*T+2*B->0<D:=fun D hD=>by
  apply R0
  rintro rfl
  have:4*1*B<=4*M*B:=P1 _ PA
  omega
 have hne:fk m ev<=ca m ev:=by
  apply Ri
  intro hlt
  have q1:¬fk m ev<=ca m ev:=by omega
  have q2:¬ca m ev+1<=ca m ev:=by omega
  have r1:¬(N<=4*(ca m ev)*T/\(M % 2=1->N<4*(ca m ev)*T)):=fun hh=>q1 ((hdn2 _).2 (G1 hT k5 o1 hh.1 hh.2))
  have r2:¬(4*(ca m ev+1)*T<=4*M*B+2*B/\(M % 2=1->4*(ca m ev+1)*T<4*M*B+2*B)):=fun hh=>q2 ((hdx2 _).2 (G0 hT emx o1 hh.1 hh.2))
  have e1:4*(ca m ev+1)*T=4*ca m ev*T+4*T:=rK _ _
  rw[e1]at r2
  rcases k1 with hk | hk
  ·have hodd:=hodd1 hk
   have:=hBT.2 hk
   rw[hk,Rz]at k4
   omega
  ·have hbt:=hBT.1 hk
   rw[hk]at k4
   by_cases ho1:M % 2=1
   ·have s1:4*ca m ev*T<=N:=by
     omega
    have s2:4*M*B+2*B<=4*ca m ev*T+4*T:=by
     omega
    have hTB2:T=B:=by omega
    rw[hTB2]at s1 s2
    have s3:4*M*B=(4*ca m ev+2)*B:=by rw[Qn];omega
    have:=QX hB s3
    omega
   omega
 unfold short
 rw[hp]
 by_cases c1:fk m ev<=ca m ev/10*10
 ·rw[if_pos c1]
  have hle:ca m ev/10*10<=ca m ev:=Nat.div_mul_le_self _ _
  have hI:=CA _ c1 hle
  refine⟨?_,?_,?_⟩
  ·refine hI.scale (yQ p) ?_ (fa _)
   show 4*(ca m ev/10*10)*T*aM (-(p-1))=4*(ca m ev/10*ten (-(p-1)))*W 0*ten p
   have e10:10*aM p*aM (-(p-1))=ten (-(p-1))*ten p:=by
    unfold ten aM
    have:(10:Nat)*10^(-p).toNat=10^((-p).toNat+1):=by omega
    rw[this,<-Qc,<-Qc];congr 1;omega
   grind
  ·grind
  ·have b1:=(L1 _ c1).1
   have:=posD (ca m ev/10*10) PA
   omega
 ·rw[if_neg c1]
  by_cases c2:fk m ev<ca m ev
  ·rw[if_pos c2]
   show In (4*(rnd (scl m ev p)*ten (-p))*W 0) (aM (-p)) M (ev+zOf ev)/\rnd (scl m ev p)<_/\0<rnd (scl m ev p)
   have hr:=pF hT emd PA
   have q1:=hq1
   generalize rnd (scl m ev p)=D at*
   have a1:=(U1 _ (P3 _))
   have b1:=(L1 _ (P3 _))
   have e4:4*(fk m ev+1)*T<=4*ca m ev*T:=P1 _ PA
   have e5:4*(fk m ev+1)*T=4*fk m ev*T+4*T:=rK _ _
   have e6:(4*D+2)*T=4*D*T+2*T:=Qn _ _ _
   rw[e6]at hr
   have up1:4*D*T<=4*M*B+2*B:=by omega
   have dn1:4*M*B<=4*D*T+2*B:=by omega
   refine⟨fit D (mk D up1 (fun h=>?_) dn1 (fun h=>?_) (fun hk=>?_)),small D up1,posD D dn1⟩
   ·omega
   ·omega
   ·have:=(L1 D (q1 hk c2 c1)).1
    grind
  ·rw[if_neg c2]
   show In (4*(fk m ev*ten (-p))*W 0) (aM (-p)) M (ev+zOf ev)/\fk m ev<_/\0<fk m ev
   have:=(L1 _ (P3 _)).1
   exact⟨fit _ (CA _ (P3 _) hne),small _ (U1 _ hne).1,posD _ PA⟩
end Go.Proofs.YtmmmmjcfojhiaaaGreatDoor.N
/- What the scan makes of a text of digits, a point, and an exponent. Conditions: none. -/
namespace Go.Proofs.YtmmmmjcfojhiaaaGreatDoor.N
open Go.X Go.Proofs.YtmmmmjcfojhiaaaGreatDoor
abbrev fD (A:PZ) (st:RS):RS:=A.foldl (fun s c=>aN s (dgt c)) st
def fB (A:PZ) (a:Nat):Nat:=A.foldl (fun a c=>a*10+dgt c) a
theorem fQ (A B:PZ) (a:Nat):fB (A++B) a=fB B (fB A a):=List.foldl_append
theorem jC :∀(A:PZ) (st:RS),st.nm=st.nd->(st.nd=0->st.m=0)->st.nm+A.length<=19->
  (fD A st).m=fB A st.m/\(fD A st).tr=st.tr/\(fD A st).nm=(fD A st).nd/\(fD A st).nm<=st.nm+A.length/\(fD A st).dp-(fD A st).nm=st.dp-st.nm-A.length/\((fD A st).nd=0->(fD A st).m=0)
 | [],st,h1,h2,h3=>⟨rfl,rfl,h1,P3 _,by simp[fD],h2⟩
 | c::A,st,h1,h2,h3=>by
  simp only[Qk]at h3 ⊢
  have e:fD (c::A) st=fD A (aN st (dgt c)):=rfl
  have ed:fB (c::A) st.m=fB A (st.m*10+dgt c):=rfl
  rw[e,ed]
  by_cases hz:dgt c=0/\st.nd=0
  ·have es:aN st (dgt c)=⟨st.m,st.tr,st.dot,true,st.nd,st.nm,st.dp-1⟩:=by unfold aN;rw[if_pos hz]
   have:=jC A (aN st (dgt c)) (by rw[es];exact h1) (by rw[es];exact h2) (by rw[es];show st.nm+_<=19;omega)
   rw[es]at this ⊢
   obtain⟨a1,a2,a3,a4,a5,a6⟩:=this
   refine⟨?_,a2,a3,?_,?_,a6⟩
   ·rw[a1,hz.1,h2 hz.2]
   ·dsimp only at a4;omega
   ·dsimp only at a5;omega
  ·have es:aN st (dgt c)=⟨st.m*10+dgt c,st.tr,st.dot,true,st.nd+1,st.nm+1,st.dp⟩:=by unfold aN;grind
   have:=jC A (aN st (dgt c)) (by rw[es];show st.nm+1=st.nd+1;omega) (by rw[es];intro h;exact absurd h PC) (by rw[es];show st.nm+1+_<=19;omega)
   rw[es]at this ⊢
   obtain⟨a1,a2,a3,a4,a5,a6⟩:=this
   refine⟨a1,a2,a3,?_,?_,a6⟩
   ·dsimp only at a4;omega
   ·dsimp only at a5;omega
theorem rM (A:PZ) (st:RS):(fD A st).dot=st.dot:=jF A st
structure Form (l A B X:PZ) (pt:Bool):Prop where
 eq:l=A++((if pt then 46::B else [])++X)
 a:A≠[]
 ad:∀c∈A,isD c=true
 b:pt=true->B≠[]
 b0:pt=false->B=[]
 bd:∀c∈B,isD c=true
 x:X=[]\/∃c sg ds,Expo X c sg ds
 x4:∀c sg ds,Expo X c sg ds->ds.length<=4
theorem vg {q:PZ} {st:RS} (hq:q=[]\/∃c sg ds,Expo q c sg ds):scan st q=(st,q):=by
 refine sq fun c r e=>.inl ?_
 rcases hq with rfl | ⟨c',sg,ds,hE⟩
 ·cases e
 ·rw[hE.eq]at e
  have:c'=c:=(List.cons.inj e).1
  rw[<-this]
  rcases hE.e with rfl | rfl<;>decide
theorem vh {q:PZ} (hq:q=[]\/∃c sg ds,Expo q c sg ds):∀c r,q=c::r->isD c=false:=by
 intro c r e
 rcases hq with rfl | ⟨c',sg,ds,hE⟩
 ·cases e
 ·rw[hE.eq]at e
  have:c'=c:=(List.cons.inj e).1
  rw[<-this]
  rcases hE.e with rfl | rfl<;>decide
theorem oq :∀{A t:PZ},(∀c∈A,isD c=true)->(∀c r,t=c::r->isD c=false)->dgN (A++t)=A.length
 | [],t,_,ht=>by
  cases t with
  | nil=>rfl
  | cons c r=>unfold dgN;simp_all
 | c::A,t,hA,ht=>by
  have:=oq (A:=A) (fun d hd=>hA d (by simp[hd])) ht
  unfold dgN at this ⊢
  simp_all
theorem Form.scn {l A B X:PZ} {pt:Bool} (h:Form l A B X pt):scan RS0 l=(fD B (if pt then eO (fD A RS0)else fD A RS0),X):=by
 rw[h.eq,iI A RS0 _ h.ad]
 have hdot:(fD A RS0).dot=false:=jF A RS0
 cases pt
 ·have hB:=h.b0 rfl
  subst hB
  exact vg h.x
 ·show scan (fD A RS0) (46::B++X)=_
  rw[QB,scan,if_pos rfl,hdot]
  show scan (eO (fD A RS0)) (B++X)=_
  rw[iI B _ X h.bd]
  exact vg h.x
theorem yT {X:PZ} (hx:X=[]\/∃c sg ds,Expo X c sg ds) (h4:∀c sg ds,Expo X c sg ds->ds.length<=4):xA (some X)=true:=by
 rcases hx with rfl | ⟨c,sg,ds,hE⟩
 ·rfl
 ·have hl:=h4 c sg ds hE
  have hne:1<=ds.length:=by
   cases ds with
   | nil=>exact absurd rfl hE.ne
   | cons _ _=>simp
  have hd:aI (sg++ds)=ds:=by
   rcases hE.sg with rfl | rfl | rfl
   ·cases ds with
    | nil=>rfl
    | cons a r=>
     have ha:=cb.1 (hE.dg a PC)
     show(if a=43\/a=45 then r else a::r)=a::r
     rw[if_neg]
     rintro(e | e)<;>subst e<;>exact absurd ha PB
   ·rfl
   ·rfl
  rw[hE.eq]
  show(if c=101\/c=69 then _ else _)=true
  rw[if_pos hE.e,hd]
  have hn:dgN ds=ds.length:=by
   have:=oq (A:=ds) (t:=[]) hE.dg (fun c r e=>by cases e)
   grind
  grind
theorem Form.num {l0 l A B X:PZ} {pt:Bool} (h:Form l A B X pt) (h0:aI l0=l):fF l0=true:=by
 unfold fF
 rw[h0,h.eq]
 have ht:∀c r,((if pt then 46::B else [])++X)=c::r->isD c=false:=by
  intro c r e
  cases pt
  ·exact vh h.x c r e
  ·have:(46:UInt8)=c:=(List.cons.inj e).1
   rw[<-this];decide
 have hA:A.length≠0:=fun e=>h.a (Qb e)
 rw[oq h.ad ht,if_neg hA,List.drop_left]
 cases pt
 ·show xA (lN X)=true
  have:lN X=some X:=by
   cases hX:X with
   | nil=>rfl
   | cons c r=>
    show(if c=46 then _ else some (c::r))=_
    rw[if_neg]
    intro e;subst e
    rcases h.x with e | ⟨c',sg,ds,hE⟩
    ·grind
    ·have:=hE.eq;rw[hX]at this
     have:=(List.cons.inj this).1
     rcases hE.e with e | e<;>rw[e]at this<;>cases this
  rw[this];exact yT h.x h.x4
 ·show xA (lN (46::(B++X)))=true
  have hB:B.length≠0:=fun e=>h.b rfl (Qb e)
  have:lN (46::(B++X))=some X:=by
   show(if(46:UInt8)=46 then(if dgN (B++X)=0 then none else some ((B++X).drop (dgN (B++X))))else some (46::(B++X)))=_
   rw[if_pos rfl,oq h.bd (vh h.x),if_neg hB,List.drop_left]
  rw[this];exact yT h.x h.x4
theorem Form.val {l A B X:PZ} {pt:Bool} (h:Form l A B X pt) (h19:A.length+B.length<=19):
  (fD B (if pt then eO (fD A RS0)else fD A RS0)).m=fB (A++B) 0/\(fD B (if pt then eO (fD A RS0)else fD A RS0)).tr=false/\(fB (A++B) 0≠0->bx (fD B (if pt then eO (fD A RS0)else fD A RS0)) X=cZ X-B.length):=by
 obtain⟨a1,a2,a3,a4,a5,a6⟩:=jC A RS0 rfl (fun _=>rfl) (by show 0+_<=19;omega)
 have r0:RS0.m=0/\RS0.nm=0/\RS0.tr=false:=⟨rfl,rfl,rfl⟩
 rw[r0.1]at a1
 rw[r0.2.1]at a4
 have hdot:(fD A RS0).dot=false:=jF A RS0
 rw[fQ,<-a1]
 cases pt
 ·have hB:=h.b0 rfl
  subst hB
  refine⟨rfl,a2,fun hne=>?_⟩
  show bx (fD A RS0) X=_
  unfold bx
  have hne:(fD A RS0).m≠0:=hne
  grind
 ·have hd:eO (fD A RS0)=⟨(fD A RS0).m,(fD A RS0).tr,true,(fD A RS0).dig,(fD A RS0).nd,(fD A RS0).nm,(fD A RS0).nd⟩:=rfl
  obtain⟨b1,b2,b3,b4,b5,b6⟩:=jC B (eO (fD A RS0)) a3 a6 PE
  show(fD B (eO (fD A RS0))).m=_/\(fD B (eO (fD A RS0))).tr=false/\_
  refine⟨b1,b2.trans a2,fun hne=>?_⟩
  show bx (fD B (eO (fD A RS0))) X=_
  unfold bx
  rw[if_pos PE,rM B]
  grind
theorem Form.txt {s:P0} {l A B X:PZ} {pt:Bool} (h:Form l A B X pt) (h0:aI s.data.toList=l) (hs:s.size<100000):Txt s (fD B (if pt then eO (fD A RS0)else fD A RS0)) X:=by
 obtain⟨st,rest,hT⟩:=kK hs (h.num h0)
 have:=hT.sc
 rw[pJ,h0,h.scn]at this
 grind
end Go.Proofs.YtmmmmjcfojhiaaaGreatDoor.N
/- A number's text is read as it. Conditions: none. -/
namespace Go.Proofs.YtmmmmjcfojhiaaaGreatDoor.N
open Go.X Go.Proofs.YtmmmmjcfojhiaaaGreatDoor
def by8 (n:Int):UInt8:=UInt8.ofNat n.toNat
def bb (L:List Int):PZ:=L.map by8
theorem J9 (L:List Int):(strOf L).data.toList=bb L:=kM L
theorem tu (v:Int) (L:List Int):bb (v::L)=by8 v::bb L:=rfl
theorem Df :bb []=[]:=rfl
theorem b46 :by8 46=46:=by decide
theorem b48 :by8 48=48:=by decide
theorem NC :by8 101=101:=by decide
theorem gN (A B:List Int):bb (A++B)=bb A++bb B:=List.map_append
def dig (v:Int):Prop:=48<=v/\v<=57
theorem Dg {v:Int} (h:dig v):(by8 v).toNat=v.toNat:=by
 grind [by8,UInt8.toNat_ofNat',dig]
theorem Dh {v:Int} (h:dig v):isD (by8 v)=true:=cb.2 (by rw[Dg h];unfold dig at h;omega)
theorem pi {L:List Int} (h:∀v∈L,dig v):∀c∈bb L,isD c=true:=by
 intro c hc
 obtain⟨v,hv,rfl⟩:=Rj.1 hc
 exact Dh (h v hv)
def ckE (k:Nat):Bool:=match bb (fu ((k:Int)-999))with
 | s::ds=>(s==43||s==45)&&ds.all isD&&decide (ds.length<=3)&& !ds.isEmpty&&decide (cZ (101::s::ds)=(k:Int)-999)
 | []=>false
theorem G3 :((List.range 1999).all ckE)=true:=by kernel_rfl
theorem xl {y:Int} (h:y.natAbs<1000):∃s ds,bb (fu y)=s::ds/\Expo (101::bb (fu y)) 101 [s] ds/\ds.length<=3/\cZ (101::bb (fu y))=y:=by
 have:=Qx.1 G3 (y+999).toNat (RB.2 PA)
 unfold ckE at this
 rw[show(((y+999).toNat:Nat):Int)-999=y by omega]at this
 split at this
 ·rename_i s ds e
  simp only[P6,R2,beq_iff_eq,decide_eq_true_eq,Qx,Rc,List.isEmpty_eq_false_iff]at this
  obtain⟨⟨⟨⟨h1,h2⟩,h3⟩,h4⟩,h5⟩:=this
  refine⟨s,ds,e,⟨by rw[e];rfl,.inl rfl,.inr ?_,h4,PA,h2⟩,h3,PE⟩
  grind
 ·cases this
theorem yU (d n:Nat):∀k,k<=n->d<10^n->fB (bb ((dgL d n).take k)) 0=d/10^(n-k)
 | 0,_,hd=>by
  rw[RC,QJ hd];rfl
 | k+1,hk,hd=>by
  have ih:=yU d n k PA hd
  rw[Rf,tZ PA,gN,fQ,ih]
  have hdg:dig ((48+d/10^(n-1-k) % 10:Nat):Int):=by
   grind [dig]
  show d/10^(n-k)*10+dgt (by8 _)=_
  unfold dgt
  rw[Dg hdg]
  have e1:n-k=n-1-k+1:=by omega
  have e2:n-(k+1)=n-1-k:=by omega
  rw[e1,e2,QR,<-Qt]
  omega
theorem rN (L:List Int):∀n i,fl L n<=i->i<n->L[i]? =some 48
 | 0,_,_,h=>by omega
 | n+1,i,h1,h2=>by
  unfold fl at h1
  split at h1
  ·rename_i h
   by_cases e:i=n
   ·rw[e];exact h
   ·exact rN L n i h1 PA
  ·omega
theorem vj {d:Nat}:∀t,(∀i,i<t->d/10^i % 10=0)->d % 10^t=0
 | 0,_=>by omega
 | t+1,h=>by
  rw[QR,Nat.mod_mul,vj t (fun i hi=>h i PA),h t PA];rfl
theorem Ii :∀(k u:Nat),0<k->u<10^k->Lib.nDigits u<=k
 | 0,_,h,_=>absurd h PB
 | k+1,u,_,h=>by
  by_cases hu:u<10
  ·rw[Lib.nDigits_small hu];omega
  ·rw[Lib.nDigits_big hu]
   cases k with
   | zero=>omega
   | succ k=>
    have:=Ii (k+1) (u/10) PA (RQ PA)
    omega
theorem G4 {x:Nat} (hd0:0<dOf x) (hd:dOf x<144115188075855872):
  ∃t,(LOf x).length+t=ndg (dOf x)/\0<(LOf x).length/\(∀v∈LOf x,dig v)/\fB (bb (LOf x)) 0*10^t=dOf x/\ndg (dOf x)<=18:=by
 have hn1:=xJ (dOf x)
 have hn18:ndg (dOf x)<=18:=by
  unfold ndg;rw[if_neg PA]
  apply Ri
  intro h
  have:=Ii 18 (dOf x) PB (Nat.lt_trans hd PB)
  omega
 generalize hn:ndg (dOf x)=n at*
 have hk:=pQ (dgL (dOf x) n) n
 have hL:LOf x=(dgL (dOf x) n).take (fl (dgL (dOf x) n) n):=by unfold LOf;rw[hn]
 have hlen:(LOf x).length=fl (dgL (dOf x) n) n:=by grind [ij]
 have hz:=rN (dgL (dOf x) n) n
 generalize fl (dgL (dOf x) n) n=k at*
 have hm:dOf x % 10^(n-k)=0:=by
  refine vj _ fun i hi=>?_
  have:=hz (n-1-i) PA PA
  grind [tZ]
 have hdm:=QC (dOf x) (10^(n-k))
 have hv:fB (bb (LOf x)) 0=dOf x/10^(n-k):=by rw[hL];exact yU _ _ _ hk hn1
 refine⟨n-k,PA,?_,fun v hv=>?_,?_,hn18⟩
 ·rw[hlen]
  apply R0
  intro h0
  rw[h0,RC,Ra hn1]at hm
  omega
 ·grind [dgL,dig]
 grind
theorem lC (a:Nat):∀j,fB (bb (List.replicate j 48)) a=a*10^j
 | 0=>by rw[RA,Qy];rfl
 | j+1=>by
  rw[List.replicate_succ]
  show fB (bb (List.replicate j 48)) (a*10+dgt (by8 48))=_
  rw[lC]
  have:dgt (by8 48)=0:=by decide
  grind
def rQ (L:List Int) (dp:Int):List Int:=if dp-1< -4\/6<=dp-1 then jH L dp else dJ L dp
def nB (L:List Int) (dp:Int):PZ:=if dH (bb (rQ L dp))then bb (rQ L dp)else bb (rQ L dp)++[46,48]
theorem yV (j:Nat):∀v∈List.replicate j (48:Int),dig v:=by
 grind [dig]
theorem ND {l:PZ} (h:∀c∈l,isD c=true):dH l=false:=by
 refine Eb fun j b _ hb=>?_
 have:=cb.1 (h b (Qa hb))
 have n1:b≠46:=fun e=>by simp_all
 have n2:b≠101:=fun e=>by simp_all
 simp[n1,n2]
theorem tv {l:PZ} {c:UInt8} (h:c∈l) (hc:c=46\/c=101):dH l=true:=by
 obtain⟨i,hi,rfl⟩:=List.mem_iff_getElem.1 h
 exact HH (List.getElem?_eq_getElem hi) hc
theorem rR :∀(z:Nat) (st:RS),st.nd=0->∃g,fD (bb (List.replicate z 48)) st=⟨st.m,st.tr,st.dot,g,0,st.nm,st.dp-z⟩
 | 0,st,h=>⟨st.dig,by
  show st=_
  obtain⟨a,b,c,d,e,f,g⟩:=st
  grind⟩
 | z+1,st,h=>by
  rw[List.replicate_succ]
  have e0:dgt (by8 48)=0:=by decide
  have e:fD (bb (48::List.replicate z 48)) st=fD (bb (List.replicate z 48)) (aN st (dgt (by8 48))):=rfl
  have es:aN st (dgt (by8 48))=⟨st.m,st.tr,st.dot,true,st.nd,st.nm,st.dp-1⟩:=by unfold aN;grind
  obtain⟨g,hg⟩:=rR z (aN st (dgt (by8 48))) PE
  grind
theorem Form.val2 {l B' X:PZ} {z:Nat} (_h:Form l [48] (bb (List.replicate z 48)++B') X true) (h19:B'.length<=19):
  (fD (bb (List.replicate z 48)++B') (eO (fD [48] RS0))).m=fB ([48]++(bb (List.replicate z 48)++B')) 0/\(fD (bb (List.replicate z 48)++B') (eO (fD [48] RS0))).tr=false/\
   (fB ([48]++(bb (List.replicate z 48)++B')) 0≠0->bx (fD (bb (List.replicate z 48)++B') (eO (fD [48] RS0))) X=cZ X-(bb (List.replicate z 48)++B').length):=by
 have e0:eO (fD [48] RS0)=⟨0,false,true,true,0,0,0⟩:=rfl
 have eF:fD (bb (List.replicate z 48)++B') (eO (fD [48] RS0))=fD B' (fD (bb (List.replicate z 48)) (eO (fD [48] RS0))):=List.foldl_append
 obtain⟨g,hg⟩:=rR z (eO (fD [48] RS0)) rfl
 rw[eF,hg,e0]
 have eD:fB ([48]++(bb (List.replicate z 48)++B')) 0=fB B' 0:=by
  rw[fQ,fQ]
  have:fB [48] 0=0:=rfl
  rw[this,lC,RL]
 rw[eD]
 obtain⟨b1,b2,b3,b4,b5,b6⟩:=jC B' ⟨0,false,true,g,0,0,(0:Int)-z⟩ rfl (fun _=>rfl) PE
 refine⟨b1,b2,fun hne=>?_⟩
 unfold bx
 rw[if_pos PE,rM B']
 simp only[if_true]
 grind [bb]
structure Read (l:PZ) (c:Nat) (q:Int) (j:Nat):Prop where
 sc:∀s:P0,aI s.data.toList=l->s.size<100000->∃st X,Txt s st X/\st.tr=false/\st.m=c*10^j/\(st.m≠0->bx st X=q-j)
 nm:∀l0,aI l0=l->fF l0=true
 hd:∃a r,l=a::r/\isD a=true
theorem Form.read {l A B X:PZ} {pt:Bool} {c j:Nat} {q:Int} (h:Form l A B X pt) (h19:A.length+B.length<=19) (hv:fB (A++B) 0=c*10^j) (he:cZ X-B.length=q-j):Read l c q j:=by
 refine⟨fun s h0 hs=>?_,fun l0 h0=>h.num h0,?_⟩
 ·obtain⟨v1,v2,v3⟩:=h.val h19
  exact⟨_,X,h.txt h0 hs,v2,v1.trans hv,fun hne=>(v3 PA).trans he⟩
 ·obtain⟨a,A',rfl⟩:=RH h.a
  exact⟨a,_,h.eq,h.ad a PC⟩
theorem Ag {L:List Int} {dp:Int} (hL:∀v∈L,dig v) (h0:0<L.length) (h18:L.length<=18) (hdp:(dp-1).natAbs<1000):
  ∃j:Nat,Read (nB L dp) (fB (bb L) 0) (dp-L.length) j/\j<=7/\(0<j->L.length+j<=7)/\(nB L dp).length<=40:=by
 have hbl:∀L:List Int,(bb L).length=L.length:=fun L=>Rg _
 unfold nB rQ
 by_cases hE:dp-1< -4\/6<=dp-1
 ·rw[if_pos hE]
  obtain⟨v,L',rfl⟩:=RH (fun e=>by grind:L≠[])
  obtain⟨s,ds,x1,x2,x3,x4⟩:=xl hdp
  have eb:bb (jH (v::L') dp)=[by8 v]++((if decide (L'≠[])then 46::bb L' else [])++101::bb (fu (dp-1))):=by
   unfold jH
   rw[if_neg (show ¬(v::L'=[]) by simp),if_neg (show ¬(v::L'=[]) by simp),gN,gN,gN]
   cases L' with
   | nil=>
    rw[if_neg (show ¬ 1< [v].length by simp),if_neg PC]
    grind [tu,NC]
   | cons a r=>
    rw[if_pos (show 1<(v::a::r).length by simp),if_pos (show decide (a::r≠[])=true by simp)]
    simp only[tu,Df,b46,NC,QB,Rq,Qj,List.take_succ_cons,List.take_zero,List.drop_succ_cons,Sa]
  have hde:dH (bb (jH (v::L') dp))=true:=tv (c:=101) (by rw[eb];simp) (.inr rfl)
  rw[if_pos hde]
  have hF:Form (bb (jH (v::L') dp)) [by8 v] (bb L') (101::bb (fu (dp-1))) (decide (L'≠[])):=by
   refine⟨eb,PC,fun c hc=>?_,fun h e=>?_,fun h=>?_,pi fun w hw=>hL w (by simp[hw]),.inr ⟨_,_,_,x2⟩,fun c sg d hX=>hX.le⟩
   ·grind [Dh]
   ·grind
   grind
  simp only[Qk]at h18 ⊢
  refine⟨0,hF.read ?_ ?_ ?_,PA,PA,?_⟩
  ·grind
  ·rw[RA,Qy];rfl
  ·grind
  grind
 ·rw[if_neg hE]
  by_cases hd0:0<dp
  ·by_cases hd1:dp<(L.length:Int)
   ·--within
    have eb:bb (dJ L dp)=bb (L.take dp.toNat)++((if true then 46::bb (L.drop dp.toNat)else [])++[]):=by
     unfold dJ
     rw[if_pos hd0,if_pos hd1,show dp.toNat-L.length=0 by omega,show(-dp).toNat=0 by omega,gN,gN]
     simp[bb,by8]
    have hde:dH (bb (dJ L dp))=true:=tv (c:=46) (by rw[eb];simp) (.inl rfl)
    rw[if_pos hde]
    have ht:(L.take dp.toNat).length=dp.toNat:=by grind
    have hdl:(L.drop dp.toNat).length=L.length-dp.toNat:=Ry
    have hF:Form (bb (dJ L dp)) (bb (L.take dp.toNat)) (bb (L.drop dp.toNat)) [] true:=by
     refine⟨eb,fun e=>?_,pi fun w hw=>hL w (R8 hw),fun _ e=>?_,fun h=>(by cases h),pi fun w hw=>hL w (List.mem_of_mem_drop hw),.inl rfl,fun c sg d hX=>hX.le⟩
     ·grind
     grind
    refine⟨0,hF.read ?_ ?_ ?_,PA,PA,?_⟩
    ·grind
    ·rw[RA,Qy,<-gN,List.take_append_drop]
    ·rw[hbl,hdl];show 0-_=_;omega
    grind
   ·--whole
    have eb:bb (dJ L dp)=bb (L++List.replicate (dp.toNat-L.length) 48):=by
     unfold dJ
     rw[if_pos hd0,if_neg hd1,QZ,QF PA]
    have hdg:∀c∈bb (dJ L dp),isD c=true:=by
     grind [pi,yV]
    rw[if_neg (by rw[ND hdg];decide)]
    have hlen:(bb (dJ L dp)).length=dp.toNat:=by grind
    have hF:Form (bb (dJ L dp)++[46,48]) (bb (dJ L dp)) [48] [] true:=by
     refine⟨rfl,fun e=>?_,hdg,fun _=>by simp,fun h=>(by cases h),fun c hc=>?_,.inl rfl,fun c sg d hX=>hX.le⟩
     ·grind
     ·simp at hc;subst hc;decide
    refine⟨dp.toNat-L.length+1,hF.read ?_ ?_ ?_,PA,PA,?_⟩
    ·grind
    ·rw[fQ,eb,gN,fQ,lC]
     show fB (bb L) 0*10^(dp.toNat-L.length)*10+0=_
     grind
    ·show(0:Int)-((1:Nat):Int)=_;omega
    grind
  ·--zeros first
   have eb:bb (dJ L dp)=[48]++((if true then 46::(bb (List.replicate (-dp).toNat 48)++bb L)else [])++[]):=by
    unfold dJ
    rw[if_neg hd0,if_pos PA,show dp.toNat=0 by omega,gN]
    simp only[Sa,if_true,QZ,tu,Df,b48,b46,gN]
   have hde:dH (bb (dJ L dp))=true:=tv (c:=46) (by rw[eb];simp) (.inl rfl)
   rw[if_pos hde]
   have hF:Form (bb (dJ L dp)) [48] (bb (List.replicate (-dp).toNat 48)++bb L) [] true:=by
    refine⟨eb,PC,fun c hc=>?_,fun _ e=>?_,fun h=>(by cases h),fun c hc=>?_,.inl rfl,fun c sg d hX=>hX.le⟩
    ·simp at hc;subst hc;decide
    ·grind
    grind [pi,yV]
   have hlB:(bb (List.replicate (-dp).toNat 48)++bb L).length=(-dp).toNat+L.length:=by grind
   obtain⟨v1,v2,v3⟩:=hF.val2 (by rw[hbl];omega)
   have eD:fB ([48]++(bb (List.replicate (-dp).toNat 48)++bb L)) 0=fB (bb L) 0:=by
    rw[fQ,fQ]
    have:fB [48] 0=0:=rfl
    rw[this,lC,RL]
   rw[eD]at v1 v3
   refine⟨0,⟨fun s h0 hs=>?_,fun l0 h0=>hF.num h0,?_⟩,PA,PA,?_⟩
   ·refine⟨_,[],hF.txt h0 hs,v2,?_,fun hne=>?_⟩
    ·grind
    ·refine(v3 PE).trans ?_
     rw[hlB];show(0:Int)-_=_;omega
   ·exact⟨48,_,eb,PB⟩
   grind
end Go.Proofs.YtmmmmjcfojhiaaaGreatDoor.N
/- WeighBack: a number's text leads back to it. Conditions: none. -/
namespace Go.Proofs.YtmmmmjcfojhiaaaGreatDoor.N
open Go.X Go.Proofs.YtmmmmjcfojhiaaaGreatDoor
theorem Di (l:PZ):dH l=true ↔ ∃c∈l,c=46\/c=101:=by
 constructor
 ·intro h
  apply Classical.byContradiction
  intro hn
  have:dH l=false:=Eb fun j b _ hb=>by
   grind
  grind
 grind [tv]
theorem Ka (ng:Bool) (l:PZ):dH ((if ng then [45]else [])++l)=dH l:=by
 rw[Rr,Di,Di]
 grind
theorem G5 (ng:Bool):bb (iK ng)=if ng then [45]else []:=by cases ng<;>rfl
def lD (x:Nat):PZ:=if ci x=0 then nB [] 0 else nB (LOf x) (lT x)
theorem Ah {x:Nat} (hn:isNaN x=false) (h1:isInf x=false) (h2:isInf (fh x)=false):(bZ x).data.toList=(if jo x then [45]else [])++lD x:=by
 unfold bZ
 rw[if_neg (by rw[hn];decide),if_neg (by rw[h1];decide),if_neg (by rw[h2];decide)]
 have gen:∀L dp,(strOf (fmtG (jo x) L dp)).data.toList=(if jo x then [45]else [])++bb (rQ L dp):=fun L dp=>by
  rw[J9];unfold fmtG;rw[gN,G5];rfl
 have gen2:∀L dp,eC x=fmtG (jo x) L dp->(if dH (strOf (eC x)).data.toList then strOf (eC x)else strOf (eC x)++⟨#[46,48]⟩:P0).data.toList=(if jo x then [45]else [])++nB L dp:=fun L dp e=>by
  rw[e,gen,Ka]
  unfold nB
  by_cases hd:dH (bb (rQ L dp))=true
  ·grind
  simp_all
 unfold lD
 by_cases h0:ci x=0
 ·rw[if_pos h0];exact gen2 [] 0 (by unfold eC;rw[if_pos h0])
 ·rw[if_neg h0];exact gen2 _ _ (by unfold eC;rw[if_neg h0])
theorem rS {ng:Bool} {l:PZ} (h:∃a r,l=a::r/\isD a=true):aI ((if ng then [45]else [])++l)=l/\(av ((if ng then [45]else [])++l)).1=ng:=by
 obtain⟨a,r,rfl,ha⟩:=h
 have hd:=cb.1 ha
 have n1:a≠43:=fun e=>by simp_all
 have n2:a≠45:=fun e=>by simp_all
 cases ng
 ·refine⟨?_,?_⟩
  ·show(if a=43\/a=45 then r else a::r)=a::r
   grind
  ·show(if a=43 then(false,1)else if a=45 then(true,1)else(false,0)).1=false
   grind
 ·exact⟨rfl,rfl⟩
theorem zsh {x:Nat} (hm:ci x≠0):zOf (jc x)=gQ x:=by
 have hl:=Ek x
 obtain⟨b1,b2,b3⟩:=jd hm PA
 have he:hO x<2048:=QG _ PB
 have b53:Lib.bitLen (ci x)<=53:=Lib.bitLen_le _ 53 PB hl
 have hs:gQ x=64-Lib.bitLen (ci x):=rfl
 unfold jc jp
 by_cases h0:hO x=0
 ·have hm2:ci x<2^52:=by unfold ci;rw[if_pos h0];exact vP x
  have:Lib.bitLen (ci x)<=52:=Lib.bitLen_le _ 52 PB hm2
  rw[if_pos h0]
  unfold zOf
  grind
 ·have hm2:2^52<=ci x:=by unfold ci;grind
  have:Lib.bitLen (ci x)=53:=zk (k:=52) hm2 hl PA
  rw[if_neg h0]
  unfold zOf
  grind
theorem Dj {x:Nat} (h:x<18446744073709551616):fP (ci x) (jp x-1075) (jo x)=x:=by
 have hs:cd (jo x)=x/9223372036854775808*9223372036854775808:=by
  unfold jo cd
  grind
 unfold fP
 rw[hs]
 have hf:=vP x
 have hex:hO x=x/4503599627370496 % 2048:=rfl
 have hfr:Ej x=x % 4503599627370496:=rfl
 unfold ci jp
 grind
theorem NE {m:Nat} {ev:Int} (h:Mt m ev): -324<=(short m ev).2/\(short m ev).2<=293:=by
 have hez: -1074<=ev+zOf ev/\ev+zOf ev<=971:=by
  have:=h.e0;have:=h.e1
  unfold zOf;split<;>omega
 have hp: -292<=shP m ev/\shP m ev<=324:=by
  unfold shP
  by_cases hA:shA m ev=true
  ·rw[if_pos hA]
   simp only[shA,P6,decide_eq_true_eq]at hA
   have:=h.e1
   unfold skw;omega
  ·rw[if_neg hA];unfold l10;omega
 unfold short
 split
 ·omega
 ·split
  ·omega
  omega
theorem rT (s:P0):s.size=s.data.toList.length:=rfl
theorem Ba {x:Nat} (hx64:x<18446744073709551616) (hn:isNaN x=false) (h1:isInf x=false) (h2:isInf (fh x)=false):
  (∃st rest,Txt (bZ x) st rest/\st.tr=false/\(fp st.m (bx st rest) (av (bZ x).data.toList).1).1=x)/\fF (bZ x).data.toList=true/\(bZ x).size<=60/\∃a r,lD x=a::r/\isD a=true:=by
 have hx:=xE hn h1 h2
 have hl:=Ah hn h1 h2
 by_cases h0:ci x=0
 ·--zero
  have hr:lD x=[48,46,48]:=by unfold lD;rw[if_pos h0];decide
  have hhd:∃a r,lD x=a::r/\isD a=true:=⟨48,[46,48],hr,PB⟩
  obtain⟨d1,d2⟩:=rS (ng:=jo x) hhd
  rw[<-hl]at d1 d2
  have hsz:(bZ x).size<=60:=by grind [rT]
  have hF:Form (lD x) [48] [48] [] true:=by
   rw[hr]
   exact⟨rfl,PC,fun c hc=>PE,fun _=>by simp,fun h=>(by cases h),fun c hc=>PE,.inl rfl,fun c sg d hX=>hX.le⟩
  have hT:=hF.txt d1 PA
  obtain⟨v1,v2,_⟩:=hF.val PB
  refine⟨?_,hF.num d1,hsz,hhd⟩
  have e:(fp (fB ([48]++[48]) 0) (bx (fD [48] (if true=true then eO (fD [48] RS0)else fD [48] RS0)) []) (jo x)).1=x:=by
   unfold fp
   have:fB ([48]++[48]) 0=0:=rfl
   rw[if_pos this]
   have hb:=Dj hx64
   rw[h0]at hb
   have e0:fP 0 (jp x-1075) (jo x)=cd (jo x):=by unfold fP;grind
   grind [bits_or_u64_nat]
  grind
 ·obtain⟨hmt,hs63,hs11⟩:=El hx h0
  obtain⟨hin,hd57,hd0⟩:=De hmt
  have hz:=zsh h0
  have hM:nZ x/2^zOf (jc x)=ci x:=by grind [nZ,Nat.mul_div_cancel]
  have hE:jc x+zOf (jc x)=jp x-1075:=by rw[hz];unfold jc;omega
  rw[hM,hE]at hin
  obtain⟨q1,q2⟩:=NE hmt
  have hin:In (4*(dOf x*ten (pOf x))*W 0) (aM (pOf x)) (ci x) (jp x-1075):=hin
  have hd57:dOf x<144115188075855872:=hd57
  have hd0:0<dOf x:=hd0
  have q1: -324<=pOf x:=q1
  have q2:pOf x<=293:=q2
  obtain⟨t,l1,l2,l3,l4,l5⟩:=G4 hd0 hd57
  have hdp:lT x=ndg (dOf x)+pOf x:=rfl
  obtain⟨j,hR,j1,j2,hlen⟩:=Ag (L:=LOf x) (dp:=lT x) l3 l2 PA PA
  have hrest:lD x=nB (LOf x) (lT x):=by unfold lD;rw[if_neg h0]
  rw[<-hrest]at hR hlen
  obtain⟨d1,d2⟩:=rS (ng:=jo x) hR.hd
  rw[<-hl]at d1 d2
  have hsz:(bZ x).size<=60:=by
   grind [rT]
  obtain⟨st,X,hT,htr,hm,he⟩:=hR.sc (bZ x) d1 PA
  refine⟨?_,hR.nm _ d1,hsz,hR.hd⟩
  generalize hc:fB (bb (LOf x)) 0=c at*
  have hc0:c≠0:=by grind
  have hp10:0<10^j:=Ql PB
  have hp10t:0<10^t:=Ql PB
  have hm0:st.m≠0:=by grind [Nat.mul_ne_zero]
  have he:=he hm0
  have hcd:c<=dOf x:=by rw[<-l4];exact Qw _ hp10t
  have hm57:st.m<144115188075855872:=by
   rw[hm]
   by_cases hj:j=0
   ·grind
   ·have hck:c<10^(LOf x).length:=by
     refine QH (a:=10^t) ?_
     grind [xJ]
    calc c*10^j<10^(LOf x).length*10^j:=P5 hck hp10
     _=10^((LOf x).length+j):=(Qc _ _ _).symm
     _<=10^7:=P7 PB (j2 PA)
     _<_:=by decide
  have hin2:In (4*(st.m*ten (lT x-(LOf x).length-j))*W 0) (aM (lT x-(LOf x).length-j)) (ci x) (jp x-1075):=by
   refine hin.scale (fa _) ?_ (fa _)
   rw[hm,<-l4]
   have ep:10^t*ten (pOf x)*aM (lT x-(LOf x).length-j)=10^j*ten (lT x-(LOf x).length-j)*aM (pOf x):=by
    unfold ten aM
    rw[<-Qc,<-Qc,<-Qc,<-Qc];congr 1;omega
   grind
  have hxp:jp x<=2046:=by
   grind [hO,jp]
  have ha:=GU (ng:=jo x) PA PA hm0 PA (.inl hm57) hin2 PA PA
  grind [Dj]
theorem Ij {x:Nat} (hx64:x<18446744073709551616) (hn:isNaN x=false) (h1:isInf x=true):x=9218868437227405312:=by
 unfold isInf at h1
 rw[py hn PB]at h1
 have hk:=of_decide_eq_true h1
 rcases dZ hn with⟨s,e⟩ | ⟨s,m,i,e⟩
 ·have hs:s=false:=by
   cases s
   ·rfl
   ·exfalso
    have:key x= -(2^jl):=by unfold key;rw[e];rfl
    have h0:0<key Hy:=by decide+kernel
    grind
  subst hs
  unfold Ieee.Format.read at e
  simp only[jE,fR,ky]at e
  grind
 ·exfalso
  obtain⟨i1,i2⟩:=fC e
  have hm:=iH e
  have hkx:key x=Ieee.signed s m (i+1074).toNat:=by unfold key;rw[e];rfl
  have hmax:key Hy=((9007199254740991*W 971:Nat):Int):=by decide+kernel
  rw[hkx,bS,hmax]at hk
  have hW:W i<=W 971:=by unfold W;exact P7 PB PA
  have hle:m*W i<=9007199254740991*W 971:=RN PA hW
  rw[<-nA]at hk
  generalize m*W i=a at*
  generalize 9007199254740991*W 971=b at*
  split at hk<;>omega
theorem Dk {x:Nat} (h:x<18446744073709551616):fh x<18446744073709551616:=by
 show x ^^^ 2^63<2^64
 exact Nat.xor_lt_two_pow PA PB
theorem G6 (x:Nat):fh (fh x)=x:=by
 show x ^^^ 2^63 ^^^ 2^63=x
 grind
end Go.Proofs.YtmmmmjcfojhiaaaGreatDoor.N
