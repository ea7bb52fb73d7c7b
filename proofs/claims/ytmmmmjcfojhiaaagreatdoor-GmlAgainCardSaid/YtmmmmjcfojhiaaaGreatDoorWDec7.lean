/- Decimals of 800 places, as numbers: scaling by powers of two and five. Conditions: none. -/
import Derived.Test.YtmmmmjcfojhiaaaGreatDoorSDec
set_option linter.unusedVariables false
set_option linter.unusedSimpArgs false
set_option maxRecDepth 100000
set_option maxHeartbeats 1000000
open Go.IntKind (i64 u64 u8 i32)
namespace Go.Proofs.YtmmmmjcfojhiaaaGreatDoor.N
open Go.X Go.Proofs.YtmmmmjcfojhiaaaGreatDoor
def tn (n:Nat):Nat:=10^n
theorem bG (a b:Nat):tn (a+b)=tn a*tn b:=Qc 10 a b
theorem cx (a:Nat):tn (a+1)=tn a*10:=QR (n:=10) (m:=a)
theorem dQ :tn 0=1:=rfl
theorem aZ (a:Nat):0<tn a:=Ql PB
theorem yX {a b:Nat} (h:a<=b):tn a<=tn b:=P7 PB h
theorem pj {a b:Nat} (h:tn a<tn b):a<b:=(Qs (a:=10) PB).1 h
theorem iG {a b:Nat} (h:a<=b):tn b=tn (b-a)*tn a:=by rw[<-bG,Nat.sub_add_cancel h]
theorem Dq {a b:Nat} (h:a<=b):tn a ∣ tn b:=⟨tn (b-a),by rw[iG h,Qo]⟩
theorem iZ (k:Nat):tn k=5^k*2^k:=by rw[<-Nat.mul_pow];rfl
theorem xn (X n:Nat) (h:0<n):X/tn (n-1)=10*(X/tn n)+X/tn (n-1) % 10:=by
 have e:X/tn n=X/tn (n-1)/10:=by
  rw[Qt,<-cx,Nat.sub_add_cancel h]
 rw[e];omega
theorem xo (X n:Nat):X % tn (n+1)=X/tn n % 10*tn n+X % tn n:=by
 rw[cx,Nat.mod_mul,Qo,Nat.add_comm]
theorem G9 {X n m:Nat} (h:tn m ∣ X) (hm:n<=m):X % tn n=0:=Rl (Nat.dvd_trans (Dq hm) h)
noncomputable def exE (G : Nat) : Nat := Classical.epsilon fun e => tn (799 + e) <= G /\ G < tn (800 + e)
theorem kD {G:Nat} (h:tn 799<=G):tn (799+exE G)<=G/\G<tn (800+exE G):=by
 refine Classical.epsilon_spec (p:=fun e=>tn (799+e)<=G/\G<tn (800+e)) ?_
 have gen:∀n,G<tn (800+n)->∃e,tn (799+e)<=G/\G<tn (800+e):=by
  intro n
  induction n with
  | zero=>exact fun hn=>⟨0,h,hn⟩
  | succ n ih=>
   intro hn
   by_cases hc:G<tn (800+n)
   ·exact ih hc
   ·exact⟨n+1,by rw[show 799+(n+1)=800+n by omega];omega,hn⟩
 refine gen G ?_
 have h1:G<tn G:=Nat.lt_pow_self PB
 exact QT h1 (yX PA)
theorem xp {G e:Nat} (h1:tn (799+e)<=G) (h2:G<tn (800+e)):exE G=e:=by
 obtain⟨g1,g2⟩:=kD (Qg (yX PA) h1)
 have a:=pj (Qf h1 g2)
 have b:=pj (Qf g1 h2)
 omega
def fY (F:Nat):Prop:=tn 799<=F/\F<tn 800
noncomputable def scF (c F : Nat) : Nat := F * c / tn (exE (F * c))
noncomputable def scT (c F : Nat) : Bool := decide (F * c % tn (exE (F * c)) ≠ 0)
theorem fY.sc {F c:Nat} (h:fY F) (hc:0<c):fY (scF c F):=by
 have hG:tn 799<=F*c:=Qg h.1 (Qw _ hc)
 obtain⟨h1,h2⟩:=kD hG
 unfold scF
 generalize exE (F*c)=e at*
 generalize F*c=G at*
 refine⟨?_,?_⟩
 ·rw[QV (aZ _),<-bG];exact h1
 ·rw[Ru (aZ _),<-bG];exact h2
def dg (F i:Nat):Nat:=F/tn (799-i) % 10
theorem kx (F i:Nat):dg F i<10:=QG _ PB
theorem lead {F:Nat} (h:fY F):dg F 0=F/tn 799/\1<=dg F 0:=by
 have e:F/tn 799<10:=by
  rw[Ru (aZ _),Qo,<-cx];exact h.2
 have e1:1<=F/tn 799:=by rw[QV (aZ _),Rz];exact h.1
 have:dg F 0=F/tn 799:=Ra e
 omega
def dky (F:Nat) (dp:Int):Int:=10*dp+(dg F 0:Int)
theorem Kf {F c:Nat} {dp:Int} (h:fY F) (hc:2<=c):dky F dp<dky (scF c F) (dp+exE (F*c)):=by
 have hG:tn 799<=F*c:=Qg h.1 (Qw _ PA)
 obtain⟨h1,h2⟩:=kD hG
 have l1:=lead h
 have l2:=lead (h.sc (c:=c) PA)
 have l3:=kx F 0
 unfold dky
 by_cases he:exE (F*c)=0
 ·have e2:scF c F=F*c:=by unfold scF;rw[he,dQ,Nat.div_one]
  rw[e2]at l2 ⊢
  have:2*dg F 0<=dg (F*c) 0:=by
   rw[l1.1,l2.1]
   refine Qg ?_ (Nat.div_le_div_right (QP F hc))
   rw[QV (aZ _),show 2*(F/tn 799)*tn 799=F/tn 799*tn 799*2 by ac_rfl]
   exact P1 _ (Nat.div_mul_le_self _ _)
  omega
 ·omega
theorem Dr {F k:Nat} {dp:Int} (h:fY F) (hk:1<=k):dky (scF (5^k) F) (dp+exE (F*5^k)-k)<dky F dp/\exE (F*5^k)<=k:=by
 have hc:0<5^k:=Ql PB
 have hG:tn 799<=F*5^k:=Qg h.1 (Qw _ hc)
 obtain⟨h1,h2⟩:=kD hG
 have l1:=lead h
 have l2:=lead (h.sc hc)
 have l3:=kx (scF (5^k) F) 0
 have e0:F*5^k*2^k=F*tn k:=by rw[iZ,Qm]
 have h2k:2<=2^k:=Qg PB (P7 (n:=2) PB hk)
 have hle:exE (F*5^k)<=k:=by
  have a:F*5^k<tn (800+k):=by
   refine Qf (Qw _ (Ql (n:=k) (a:=2) PB)) ?_
   rw[e0,bG];exact P5 h.2 (aZ _)
  have:=pj (Qf h1 a)
  omega
 refine⟨?_,hle⟩
 unfold dky
 by_cases he:exE (F*5^k)=k
 ·have:dg (scF (5^k) F) 0<dg F 0:=by
   rw[l1.1,l2.1]
   unfold scF
   rw[he,Qt,<-bG]
   have a:F*5^k/tn (k+799)<=F/tn 799/2:=by
    rw[bG,iZ]
    have hQ:=aZ 799
    generalize tn 799=Q at hQ ⊢
    have b:F*5^k/(5^k*2^k*Q)=F/(2^k*Q):=by
     rw[Qo F,Qm,Nat.mul_div_mul_left _ _ hc]
    rw[b,Qt,Qo Q]
    exact Nat.div_le_div_left (P1 _ h2k) (QI PB hQ)
   have b:1<=F/tn 799:=by rw[<-l1.1];exact l1.2
   clear h1 h2 hG l1 l2 l3 e0
   generalize F/tn 799=x at*
   omega
  omega
 ·omega
end Go.Proofs.YtmmmmjcfojhiaaaGreatDoor.N
/- The slow fallback: a decimal in memory; prefixIsLessThan, trim. Conditions: none. -/
namespace Go.Proofs.YtmmmmjcfojhiaaaGreatDoor.N
open Go.X Go.Proofs.YtmmmmjcfojhiaaaGreatDoor
theorem lG {h:ab} {b i:Nat} {u v:Value} (e:ac h b i=some u):ac (aj h b i v) b i=some v:=by
 unfold ac at*
 cases hb:h[b]? with
 | none=>rw[hb]at e;cases e
 | some x=>
  cases x with
  | cells c t f=>
   rw[bO hb]
   rw[hb]at e
   have hlt:=(Array.getElem?_eq_some_iff.1 e).1
   show(c.setIfInBounds i v)[i]? =_
   rw[Array.getElem?_setIfInBounds,if_pos rfl,if_pos hlt]
  | _=>rw[hb]at e;cases e
theorem br {h:ab} {b i j:Nat} {v:Value} (hij:i≠j):ac (aj h b i v) b j=ac h b j:=by
 unfold ac
 cases hb:h[b]? with
 | none=>
  have:(aj h b i v)[b]? =none:=by
   rw[Array.getElem?_eq_none_iff]at hb ⊢;rw[sN];exact hb
  rw[this]
 | some x=>
  cases x with
  | cells c t f=>
   rw[bO hb]
   show(c.setIfInBounds i v)[j]? =c[j]?
   rw[Array.getElem?_setIfInBounds,if_neg hij]
  | _=>
   have:(aj h b i v)[b]? =h[b]? :=by simp[aj,Array.getElem?_modify,hb]
   rw[this,hb]
theorem pm {h:ab} {b i j:Nat} {v:Value}:aq (aj h b i v) b j=aq h b j:=by
 unfold aq
 cases hb:h[b]? with
 | none=>
  have:(aj h b i v)[b]? =none:=by
   rw[Array.getElem?_eq_none_iff]at hb ⊢;rw[sN];exact hb
  rw[this]
 | some x=>
  cases x with
  | cells c t f=>rw[bO hb];simp only[Array.size_setIfInBounds]
  | _=>
   have:(aj h b i v)[b]? =h[b]? :=by simp[aj,Array.getElem?_modify,hb]
   rw[this,hb]
structure Raw (h:ab) (b:Nat) (c:Nat->Int) (nd dp:Int) (ng tr:Bool):Prop where
 cell:∀i,i<800->ac h b i=some (PR (c i))
 nd:ac h b 800=some (PN nd)
 dp:ac h b 801=some (PN dp)
 ng:ac h b 802=some (PV ng)
 tr:ac h b 803=some (PV tr)
 free:∀i,i<804->aq h b i=true
variable {h:ab} {b:Nat} {c:Nat->Int} {nd dp:Int} {ng tr:Bool}
theorem Raw.setD (w:Raw h b c nd dp ng tr) {i:Nat} (hi:i<800) (v:Int):Raw (aj h b i (PR v)) b (fun j=>if j=i then v else c j) nd dp ng tr:=
 ⟨fun j hj=>by
   by_cases e:j=i
   ·subst e;rw[if_pos rfl];exact lG (w.cell j hj)
   ·rw[if_neg e,br (Ne.symm e)];exact w.cell j hj,
  (br PA).trans w.nd,(br PA).trans w.dp,(br PA).trans w.ng,(br PA).trans w.tr,fun j hj=>pm.trans (w.free j hj)⟩
theorem Raw.setN (w:Raw h b c nd dp ng tr) (v:Int):Raw (aj h b 800 (PN v)) b c v dp ng tr:=
 ⟨fun j hj=>(br PA).trans (w.cell j hj),lG w.nd,(br PB).trans w.dp,(br PB).trans w.ng,(br PB).trans w.tr,fun j hj=>pm.trans (w.free j hj)⟩
theorem Raw.setP (w:Raw h b c nd dp ng tr) (v:Int):Raw (aj h b 801 (PN v)) b c nd v ng tr:=
 ⟨fun j hj=>(br PA).trans (w.cell j hj),(br PB).trans w.nd,lG w.dp,(br PB).trans w.ng,(br PB).trans w.tr,fun j hj=>pm.trans (w.free j hj)⟩
theorem Raw.setS (w:Raw h b c nd dp ng tr) (v:Bool):Raw (aj h b 802 (PV v)) b c nd dp v tr:=
 ⟨fun j hj=>(br PA).trans (w.cell j hj),(br PB).trans w.nd,(br PB).trans w.dp,lG w.ng,(br PB).trans w.tr,fun j hj=>pm.trans (w.free j hj)⟩
theorem Raw.setT (w:Raw h b c nd dp ng tr) (v:Bool):Raw (aj h b 803 (PV v)) b c nd dp ng v:=
 ⟨fun j hj=>(br PA).trans (w.cell j hj),(br PB).trans w.nd,(br PB).trans w.dp,(br PB).trans w.ng,lG w.tr,fun j hj=>pm.trans (w.free j hj)⟩
theorem Raw.fr {h':ab} {M:List Nat} (w:Raw h b c nd dp ng tr) (f:Fr M h h') (hm:b∉M):Raw h' b c nd dp ng tr:=
 ⟨fun j hj=>f.cell (w.cell j hj) hm,f.cell w.nd hm,f.cell w.dp hm,f.cell w.ng hm,f.cell w.tr hm,fun j hj=>(nM (f.blk b (bJ w.nd) hm) j).trans (w.free j hj)⟩
theorem frb (h:ab) (b o:Nat) (v:Value):Fr [b] h (aj h b o v):=Fr.hset h b o v
structure Rep (h:ab) (b F nd:Nat) (dp:Int) (ng tr:Bool):Prop where
 raw:∃c:Nat->Int,Raw h b c nd dp ng tr/\∀i,i<nd->c i=((48+dg F i:Nat):Int)
 le:nd<=800
 dvd:tn (800-nd)∣ F
 full:fY F
theorem Rep.pos {F n:Nat} (r:Rep h b F n dp ng tr):0<n:=by
 rcases Nat.eq_zero_or_pos n with e | e
 ·have:=r.dvd
  rw[e]at this
  have:=Nat.le_of_dvd (QT (aZ _) r.full.1) this
  exact absurd r.full.2 (Nat.not_lt.2 this)
 ·exact e
def ja (F n:Nat):Prop:=dg F (n-1)≠0
theorem ja.uniq {F n m:Nat} (h1:ja F n) (h2:ja F m) (hn:n<=800) (hm:m<=800) (hn0:0<n) (hm0:0<m) (d1:tn (800-n)∣ F) (d2:tn (800-m)∣ F):n=m:=by
 have gen:∀{n m:Nat},n<m->m<=800->0<n->tn (800-n)∣ F->dg F (m-1)=0:=by
  intro n m hlt hm hn d
  obtain⟨x,hx⟩:=d
  unfold dg
  rw[hx,show 799-(m-1)=800-m by omega,show 800-n=(800-m)+((m-n-1)+1) by omega,bG,cx,Qm,Rh _ (aZ _),show tn (m-n-1)*10*x=tn (m-n-1)*x*10 by ac_rfl]
  exact Nat.mul_mod_left _ _
 rcases Nat.lt_trichotomy n m with h | h | h
 ·exact absurd (gen h hm hn0 d1) h2
 ·exact h
 ·exact absurd (gen h hn hm0 d2) h1
end Go.Proofs.YtmmmmjcfojhiaaaGreatDoor.N
/- The slow fallback: trim, prefixIsLessThan, leftShift. Conditions: none. -/
namespace Go.Proofs.YtmmmmjcfojhiaaaGreatDoor.N
open Go.X Go.Proofs.YtmmmmjcfojhiaaaGreatDoor
variable {h:ab} {b F:Nat} {dp:Int} {ng tr:Bool}
abbrev ptD (b:Nat):Value:=PW (some ⟨b,0,none⟩)
def Ds (h:ab) (b:Nat):Nat:=match ac h b 800 with
 | some (.int _ x)=>x.toNat
 | _=>0
theorem yY {c:Nat->Int} {nd:Int} (w:Raw h b c nd dp ng tr):Ds h b=nd.toNat:=by unfold Ds;rw[w.nd]
theorem at1 {x:Int} {i:Nat} (e:x=i):0+(Int.toNat x)*1=i:=by omega
theorem fr2 {b:Nat} {h h1:ab} (f:Fr [b] h h1) (o:Nat) (v:Value):Fr [b] h (aj h1 b o v):=f.trans (frb _ _ _ _)
theorem yZ {n:Nat} (r:Rep h b F n dp ng tr):PJ 168 #[ptD b] h fun v h'=>Fr [b] h h'/\v= .tuple #[]/\∃m,Rep h' b F m dp ng tr/\ja F m:=by
 apply BX
 unfold Jc
 intro K
 have hK:∀hv m,Fr [b] h hv->Rep hv b F m dp ng tr->ja F m->K hv:=by
  intro hv m f r t
  obtain⟨c,w,hc⟩:=r.raw
  unfold K
  have hp:=r.pos
  refine⟨b,0,rfl,_,w.nd,fun _ hv'=>hv'=hv,au (fun e=>absurd e PA) fun _=>rfl,?_⟩
  rintro _ rfl
  exact⟨f,rfl,m,r,t⟩
 refine⟨fun _ hv=>∃m,Fr [b] h hv/\Rep hv b F m dp ng tr,fun _ hv=>Ds hv b,⟨n,Fr.refl _ _,r⟩,?_⟩
 rintro hv ⟨m,f,r⟩
 have hp:=r.pos
 have hle:=r.le
 obtain⟨c,w,hc⟩:=r.raw
 refine⟨b,0,rfl,_,w.nd,ae (fun hm=>?_) fun hm=>absurd hp PA⟩
 have e:i64.wrap ((m:Int)-(1:Int))=((m-1:Nat):Int):=by rw[wr PA PA];omega
 refine⟨b,0,rfl,_,w.nd,b,0,rfl,?_⟩
 rw[e]
 refine⟨PA,PA,_,(by rw[at1 rfl];exact w.cell _ PA),au (fun e0=>?_) fun e0=>?_⟩
 ·refine⟨b,0,rfl,_,w.nd,b,0,rfl,⟨_,w.nd⟩,w.free 800 PB,?_⟩
  rw[e]
  intro hv2
  have w2:Raw hv2 b c ((m-1:Nat):Int) dp ng tr:=w.setN _
  rw[hc _ PA]at e0
  have hd:dg F (m-1)=0:=by omega
  refine⟨⟨m-1,f.trans (frb _ _ _ _),⟨c,w2,fun i hi=>hc i PA⟩,PA,?_,r.full⟩,?_⟩
  ·have:=xo F (800-m)
   rw[Rl r.dvd]at this
   unfold dg at hd
   rw[show 799-(m-1)=800-m by omega]at hd
   rw[hd,RL]at this
   rw[show 800-(m-1)=800-m+1 by omega]
   exact Nat.dvd_of_mod_eq_zero this
  ·show Ds hv2 b<Ds hv b
   rw[yY w2,yY w];omega
 ·refine hK _ m f r ?_
  rw[hc _ PA]at e0
  unfold ja
  omega
def Dt (k:Nat):Bool:=match tL[k]? with
 | some (x,s)=>decide (x=((k+1:Nat):Int)-(s.size:Int))&&decide (s.size<=k)&&decide (0<s.size)&&decide (5^k<10^s.size)&&decide (10^(s.size-1)<=5^k)&&
  (List.range s.size).all fun i=>match s[i]? with
   | some c=>decide (c.toNat=48+5^k/10^(s.size-1-i) % 10)
   | none=>false
 | none=>false
theorem Kg :(List.range 60).all (fun k=>Dt (k+1))=true:=by decide+kernel
structure Cheat (k:Nat) (x:Int) (s:P0):Prop where
 at_:tL[k]? =some (x,s)
 x:x=((k+1:Nat):Int)-(s.size:Int)
 le:s.size<=k
 pos:0<s.size
 lt:5^k<tn s.size
 ge:tn (s.size-1)<=5^k
 dig:∀i,i<s.size->∃c,s[i]? =some c/\c.toNat=48+5^k/tn (s.size-1-i) % 10
theorem NK {k:Nat} (h1:1<=k) (h2:k<=60):∃x s,Cheat k x s:=by
 have h:=Qx.1 Kg (k-1) (RB.2 PA)
 rw[show k-1+1=k by omega]at h
 unfold Dt at h
 split at h
 ·rename_i x s e
  simp only[P6,decide_eq_true_eq]at h
  obtain⟨⟨⟨⟨⟨a1,a2⟩,a3⟩,a4⟩,a5⟩,a6⟩:=h
  refine⟨x,s,e,a1,a2,a3,a4,a5,fun i hi=>?_⟩
  have:=Qx.1 a6 i (RB.2 hi)
  split at this
  ·rename_i c ec
   exact⟨c,ec,of_decide_eq_true this⟩
  ·cases this
 ·cases h
theorem Ha {n k:Nat} {x:Int} {s:P0} (hk:k<=60) (C:Cheat k x s) (r:Rep h b F n dp ng tr):
  PJ 181 #[PT (some ⟨b,0,none⟩) n 800,PU s] h fun v h'=>Fr [] h h'/\v= PV (decide (F/tn (800-s.size)<5^k))/\h'=h:=by
 apply BW
 unfold Jb
 have hle:=r.le
 obtain⟨c,w,hc⟩:=r.raw
 have hsk:=C.le
 have pre:∀i,i<=s.size->F/tn (800-s.size)/tn (s.size-i)=F/tn (800-i):=fun i hi=>by
  rw[Qt,<-bG];congr 2;omega
 refine⟨fun lz hv=>∃i:Nat,lz=[PN i]/\hv=h/\i<=s.size/\i<=n/\F/tn (800-i)=5^k/tn (s.size-i),fun lz _=>match lz with
  | [.int _ i]=>s.size-i.toNat
  | _=>0,⟨0,rfl,rfl,PA,PA,?_⟩,?_⟩
 ·rw[RC,RC,QJ r.full.2,QJ C.lt]
 rintro i0 hv ⟨i,e,rfl,hi,hin,hp⟩
 obtain rfl:i0=i:=by injection (List.cons.inj e).1
 have hC:=C.dig
 refine ae (fun h1=>ae (fun h2=>?_) fun h2=>?_) fun h1=>?_
 ·--no place is left
  obtain rfl:i=n:=by omega
  refine⟨Fr.refl _ _,?_,rfl⟩
  rw[decide_eq_true]
  have hpre:=pre i PA
  have hX:F/tn (800-s.size)=F/tn (800-i)*tn (s.size-i):=by
   obtain⟨y,hy⟩:=r.dvd
   have e:tn (800-i)=tn (800-s.size)*tn (s.size-i):=by rw[<-bG];congr 1;omega
   rw[hy,Rh _ (aZ _),e,Qm,Rh _ (aZ _),Qo]
  rw[hX,hp]
  have hdm:=QC (5^k) (tn (s.size-i))
  have hne:5^k % tn (s.size-i)≠0:=fun h0=>by
   have h2:2 ∣ tn (s.size-i):=by
    have e:s.size-i=(s.size-i-1)+1:=by omega
    rw[e,cx];exact⟨tn (s.size-i-1)*5,PA⟩
   have h3:5^k % 2=0:=Rl (Nat.dvd_trans h2 (Nat.dvd_of_mod_eq_zero h0))
   rw[Nat.pow_mod,show 5 % 2=1 from rfl,Nat.one_pow]at h3
   exact absurd h3 PB
  rw[Qo]
  omega
 ·obtain⟨q,e1,e2⟩:=hC i PA
  have ac:ac hv b (0+(Int.toNat (i:Int))*1)=some (PR ((48+dg F i:Nat):Int)):=by
   rw[at1 rfl,<-hc i PA];exact w.cell _ PA
  have hq:s[Int.toNat (i:Int)]? =some q:=e1
  have up1:=xn F (800-i) PA
  have up2:=xn (5^k) (s.size-i) PA
  rw[show 800-i-1=799-i by omega]at up1
  rw[show s.size-i-1=s.size-1-i by omega]at up2
  have hdg:F/tn (799-i) % 10=dg F i:=rfl
  rw[hdg]at up1
  rw[<-hp]at up2
  refine⟨b,0,rfl,PA,PA,_,ac,PA,h1,q,hq,cn (fun hne=>?_) fun heq=>?_⟩
  ·refine⟨b,0,rfl,PA,PA,_,ac,PA,h1,q,hq,Fr.refl _ _,?_,rfl⟩
   have hpre:=pre (i+1) PA
   rw[show 800-(i+1)=799-i by omega,show s.size-(i+1)=s.size-1-i by omega]at hpre
   congr 1
   rw[decide_eq_decide,e2]
   have hlt:(F/tn (799-i)<5^k/tn (s.size-1-i))->F/tn (800-s.size)<5^k:=fun hh=>by
    rw[<-hpre]at hh
    exact RY fun h'=>absurd (Nat.div_le_div_right (c:=tn (s.size-1-i)) h') PA
   have hgt:(5^k/tn (s.size-1-i)<F/tn (799-i))->¬F/tn (800-s.size)<5^k:=fun hh h'=>by
    rw[<-hpre]at hh
    exact absurd (Nat.div_le_div_right (c:=tn (s.size-1-i)) (RV h')) PA
   constructor
   ·intro hh;exact hlt PA
   ·intro hh
    apply Classical.byContradiction
    intro hh2
    exact hgt PA hh
  ·refine⟨⟨i+1,?_,rfl,PA,PA,?_⟩,?_⟩
   ·rw[wr PA PA];rfl
   ·rw[show 800-(i+1)=799-i by omega,show s.size-(i+1)=s.size-1-i by omega,up1,up2]
    omega
   ·rw[wr PA PA];(try dsimp only);omega
 ·obtain rfl:i=s.size:=by omega
  refine⟨Fr.refl _ _,?_,rfl⟩
  rw[Nat.sub_self,dQ,Nat.div_one]at hp
  rw[hp,decide_eq_false (Nat.lt_irrefl _)]
end Go.Proofs.YtmmmmjcfojhiaaaGreatDoor.N
/- The slow fallback: leftShift. Conditions: none. -/
namespace Go.Proofs.YtmmmmjcfojhiaaaGreatDoor.N
open Go.X Go.Proofs.YtmmmmjcfojhiaaaGreatDoor
variable {h:ab} {b F:Nat} {dp:Int} {ng tr:Bool}
theorem Du {k:Nat} {x:Int} {s:P0} (C:Cheat k x s) (hF:fY F) (h60:k<=60):(if F/tn (800-s.size)<5^k then x-1 else x)=(exE (F*2^k):Int):=by
 have hsk:=C.le
 have hx:=C.x
 have e2:tn (800+k-s.size)=5^k*tn (800-s.size)*2^k:=by
  rw[show 800+k-s.size=(800-s.size)+k by omega,bG,iZ k];ac_rfl
 have h5:0<5^k:=Ql PB
 split
 ·rename_i hp
  have a:tn (k-s.size)<=2^k:=by
   refine RV (RP (a:=5^k) ?_)
   rw[<-iZ]
   refine Nat.lt_of_lt_of_eq (P5 C.lt (aZ _)) ?_
   rw[<-bG];congr 1;omega
  have hlt:F<5^k*tn (800-s.size):=(Ru (aZ _)).1 hp
  have:exE (F*2^k)=k-s.size:=by
   refine xp ?_ ?_
   ·rw[bG];exact RN hF.1 a
   ·rw[show 800+(k-s.size)=800+k-s.size by omega,e2]
    exact P5 hlt (Ql PB)
  rw[this];omega
 ·rename_i hp
  have hge:5^k*tn (800-s.size)<=F:=(QV (aZ _)).1 (Ri hp)
  have a:2^k<=tn (k-s.size+1):=by
   refine Nat.le_of_mul_le_mul_left ?_ (aZ (s.size-1))
   refine Qg (P1 _ C.ge) ?_
   rw[<-iZ,<-bG]
   have:=C.pos
   exact yX PA
  have:exE (F*2^k)=k-s.size+1:=by
   refine xp ?_ ?_
   ·rw[show 799+(k-s.size+1)=800+k-s.size by omega,e2]
    exact P1 _ hge
   ·rw[bG]
    exact QT (P5 hF.2 (Ql PB)) (QP _ a)
  rw[this];omega
def jD (F k r:Nat):Nat:=F % tn (800-r)*2^k/tn (800-r)
theorem vl (F k r:Nat):jD F k r<2^k:=by
 unfold jD
 rw[Ru (aZ _),Qo (2^k)]
 exact P5 (QG _ (aZ _)) (Ql PB)
theorem xq {F k r:Nat} (h0:0<r) (hr:r<=800):(jD F k r+dg F (r-1)*2^k) % 10=F*2^k/tn (800-r) % 10/\(jD F k r+dg F (r-1)*2^k)/10=jD F k (r-1):=by
 have hd:dg F (r-1)=F/tn (800-r) % 10:=by unfold dg;rw[show 799-(r-1)=800-r by omega]
 have hm:=xo F (800-r)
 rw[<-hd]at hm
 unfold jD
 rw[show 800-(r-1)=800-r+1 by omega,hm,cx]
 have hD:=aZ (800-r)
 have hF:=QC F (tn (800-r))
 have hX:=QC (F/tn (800-r)) 10
 rw[<-hd]at hX
 generalize tn (800-r)=D at*
 generalize dg F (r-1)=d at*
 generalize F % D=t at*
 generalize F/D/10=X' at*
 generalize F/D=X at*
 generalize 2^k=p
 constructor
 ·rw[<-hF,Qn,show D*X*p=X*p*D by ac_rfl,Nat.add_comm (X*p*D),Nat.add_mul_div_right _ _ hD,<-hX,Qn,show 10*X'*p=10*(X'*p) by ac_rfl]
  omega
 ·rw[<-Qt,Qn,show d*D*p=d*p*D by ac_rfl,Nat.add_comm (d*p*D),Nat.add_mul_div_right _ _ hD]
def LS (h:ab) (b F G e n:Nat) (dp:Int) (ng tr:Bool) (r t:Nat):Prop:=
 ∃c,Raw h b c n dp ng (tr||decide (G % tn (e+800-max t 800)≠0))/\(∀i,i<r->c i=((48+dg F i:Nat):Int))/\∀i,t<=i->i<n+e->i<800->c i=((48+G/tn (e+799-i) % 10:Nat):Int)
theorem LS.put {G e n r t:Nat} (L:LS h b F G e n dp ng tr r t) (h0:0<t) (ht:t-1<800) {r':Nat} (hr':r'<=r) (hrt:r'<=t-1):LS (aj h b (t-1) (PR ((48+G/tn (e+800-t) % 10:Nat):Int))) b F G e n dp ng tr r' (t-1):=by
 obtain⟨c,w,h1,h2⟩:=L
 have w2:=w.setD ht ((48+G/tn (e+800-t) % 10:Nat):Int)
 rw[show max t 800=max (t-1) 800 by omega]at w2
 refine⟨_,w2,fun i hi=>?_,fun i hi1 hi2 hi3=>?_⟩
 ·show(if i=t-1 then _ else c i)=_
  rw[if_neg PA];exact h1 i PA
 ·show(if i=t-1 then _ else c i)=_
  split
  ·rename_i e1;rw[e1,show e+799-(t-1)=e+800-t by omega]
  ·exact h2 i PA hi2 hi3
theorem LS.drop {G e n r t:Nat} (L:LS h b F G e n dp ng tr r t) (h0:0<t) (ht:800<=t-1) (hte:t<=800+e) {r':Nat} (hr':r'<=r):
  (G/tn (e+800-t) % 10≠0->LS (aj h b 803 (PV true)) b F G e n dp ng tr r' (t-1))/\(G/tn (e+800-t) % 10=0->LS h b F G e n dp ng tr r' (t-1)):=by
 obtain⟨c,w,h1,h2⟩:=L
 have hm:=xo G (e+800-t)
 rw[show max t 800=t by omega]at w
 have hT:=aZ (e+800-t)
 constructor
 ·intro hq
  have e1:(tr||decide (G % tn (e+800-max (t-1) 800)≠0))=true:=by
   rw[show e+800-max (t-1) 800=e+800-t+1 by omega,hm,decide_eq_true,Bool.or_true]
   have:=QI (R0 hq) hT
   omega
  refine⟨c,by rw[e1];exact w.setT true,fun i hi=>h1 i PA,fun i hi1 hi2 hi3=>by omega⟩
 ·intro hq
  refine⟨c,?_,fun i hi=>h1 i PA,fun i hi1 hi2 hi3=>by omega⟩
  rw[show e+800-max (t-1) 800=e+800-t+1 by omega,hm,hq,RL,Qu];exact w
end Go.Proofs.YtmmmmjcfojhiaaaGreatDoor.N
/- The slow fallback: leftShift. Conditions: none. -/
namespace Go.Proofs.YtmmmmjcfojhiaaaGreatDoor.N
open Go.X Go.Proofs.YtmmmmjcfojhiaaaGreatDoor
variable {h:ab} {b F:Nat} {dp:Int} {ng tr:Bool}
theorem kG {a:Nat} (h:a<18446744073709551616):u64.wrap (a:Int)=(a:Int):=dz h
theorem w8d {a:Nat} (h:a<10):u8.wrap (u64.wrap ((a:Int)+(48:Int)))=((48+a:Nat):Int):=by
 rw[IntKind.wrap_u64,IntKind.wrap_u8];omega
theorem Hb (a:Nat):Int.tdiv (a:Int) 10=((a/10:Nat):Int):=by rw[Int.tdiv_eq_ediv_of_nonneg PA];omega
theorem Ik {a:Nat} (h:a<18446744073709551616):u64.wrap ((a:Int)-(u64.wrap ((10:Int)*((a/10:Nat):Int))))=((a % 10:Nat):Int):=by
 rw[IntKind.wrap_u64,IntKind.wrap_u64];omega
theorem p60 {k:Nat} (h:k<=60):2^k<=1152921504606846976:=P7 (n:=2) PB h
theorem Dv {n d k:Nat} (hn:n<2^k) (hd:d<10) (hk:k<=60):u64.wrap ((n:Int)+(u64.wrap ((u64.wrap ((u64.wrap ((48+d:Nat):Int))-(48:Int)))*2^(min (Int.toNat (k:Int)) 64))))=((n+d*2^k:Nat):Int):=by
 rw[show min (Int.toNat (k:Int)) 64=k by omega]
 have hp:=p60 hk
 have h2:d*2^k<=9*2^k:=P1 _ PA
 have e1:u64.wrap ((u64.wrap ((48+d:Nat):Int))-(48:Int))=(d:Int):=by rw[kG PA,IntKind.wrap_u64];omega
 have e2:(d:Int)*2^k=((d*2^k:Nat):Int):=by rw[R3,Int.natCast_pow];rfl
 rw[e1,e2,kG PA,<-RT,kG PA]
theorem xr {n d k:Nat} (hn:n<2^k) (hd:d<10) (hk:k<=60):n+d*2^k<18446744073709551616:=by
 have hp:=p60 hk
 have h2:d*2^k<=9*2^k:=P1 _ PA
 omega
theorem y5 {n k:Nat} {gl:GL} (hk1:1<=k) (hk:k<=60) (g:Gl gl h) (hdp: -1000000<=dp/\dp<=1000000) (r:Rep h b F n dp ng tr):PJ 169 #[ptD b,PO (k:Int)] h fun v h'=>
  Fr [b] h h'/\v= .tuple #[]/\∃m,Rep h' b (scF (2^k) F) m (dp+exE (F*2^k)) ng (tr||scT (2^k) F)/\ja (scF (2^k) F) m:=by
 obtain⟨x,s,C⟩:=NK hk1 hk
 have hle:=r.le
 have hpos:=r.pos
 have hF:=r.full
 have hsk:=C.le
 have hx:=C.x
 have hsp:=C.pos
 have hc2:0<2^k:=Ql PB
 have hG:tn 799<=F*2^k:=Qg hF.1 (Qw _ hc2)
 obtain⟨hG1,hG2⟩:=kD hG
 have hde:=Du C hF hk
 have hfull:=hF.sc hc2
 have hdvd:tn (800-n)∣ F*2^k:=Nat.dvd_trans r.dvd ⟨_,rfl⟩
 obtain⟨e,he⟩:∃e,e=exE (F*2^k):=⟨_,rfl⟩
 obtain⟨G,hGe⟩:∃G,G=F*2^k:=⟨_,rfl⟩
 have hsc:scF (2^k) F=G/tn e:=by unfold scF;rw[hGe,he]
 have hscT:scT (2^k) F=decide (G % tn e≠0):=by unfold scT;rw[hGe,he]
 rw[<-he]at hG1 hG2 hde ⊢
 rw[<-hGe]at hG1 hG2 hdvd
 rw[hsc]at hfull ⊢
 rw[hscT]
 have he61:e<=61:=by
  split at hde<;>omega
 apply BZ
 unfold Jd
 have t1:ac h gl.lb (gl.lo+(Int.toNat (k:Int))*2)=some (PN x):=(g.l k _ C.at_).1
 have t2:ac h gl.lb ((gl.lo+(Int.toNat (k:Int))*2)+1)=some (PU s):=(g.l k _ C.at_).2
 have hk61:(k:Int)<((61:Nat):Int):=by omega
 obtain⟨c0,w0,hc0⟩:=r.raw
 refine⟨_,_,_,g.l0,gl.lb,gl.lo,rfl,PA,hk61,x,t1,b,0,rfl,b,0,rfl,_,w0.nd,PA,PA,PA,PA,_,_,_,g.l0,gl.lb,gl.lo,rfl,PA,hk61,s,t2,?_⟩
 refine bB (Ha hk C r) ?_
 rintro _ hv f ⟨rfl,rfl⟩
 refine⟨_,rfl,Fr.refl _ _,fun lz hv'=>lz=[PN (e:Int)]/\hv'=hv,?_,?_⟩
 ·refine ae (fun hp=>?_) fun hp=>?_
  ·rw[if_pos hp]at hde
   refine⟨?_,rfl⟩
   rw[wr PA PA,hde]
  ·rw[if_neg hp]at hde
   exact⟨by rw[hde],rfl⟩
 rintro d0 hv2 ⟨e1,rfl⟩
 simp only[List.cons.injEq,Value.int.injEq,true_and,and_true]at e1
 subst e1
 clear hde t1 t2
 refine⟨b,0,rfl,_,w0.nd,b,0,rfl,_,w0.nd,fun lz hv=>∃r:Nat,r<=n/\lz=[PN ((r:Int)-1),PN ((r+e:Nat):Int),PO ((jD F k r:Nat):Int)]/\Fr [b] hv2 hv/\LS hv b F G e n dp ng tr r (r+e),fun lz _=>match lz with
  | [.int _ i,_,_]=>(i+1).toNat
  | _=>0,⟨n,P3 _,?_,Fr.refl _ _,c0,?_,hc0,fun i h1 h2=>by omega⟩,?_⟩
 ·have e0:jD F k n=0:=by unfold jD;rw[Rl r.dvd,RL,Nat.zero_div]
  rw[e0,wr PA PA,wr PA PA,<-RT];rfl
 ·have e0:G % tn (e+800-max (n+e) 800)=0:=by
   by_cases hne:800<=n+e
   ·rw[show e+800-max (n+e) 800=800-n by omega];exact Rl hdvd
   ·rw[show e+800-max (n+e) 800=e by omega];exact G9 hdvd PA
  rw[e0];simp only[ne_eq,not_true_eq_false,decide_false,Bool.or_false];exact w0
 rintro i0 i1 i2 hv3 ⟨r',hr',e1,f3,L⟩
 simp only[List.cons.injEq,Value.int.injEq,true_and,and_true]at e1
 obtain⟨rfl,rfl,rfl⟩:=e1
 refine ae (fun h1=>?_) fun h1=>?_
 ·have hr0:0<r':=by omega
  have hlt:=vl F k r'
  have hd:=kx F (r'-1)
  obtain⟨q1,q2⟩:=xq (F:=F) (k:=k) hr0 PA
  rw[<-hGe]at q1
  have L0:=L
  obtain⟨c,w,L1,L2⟩:=L
  have hce:ac hv3 b (0+(Int.toNat ((r':Int)-1))*1)=some (PR ((48+dg F (r'-1):Nat):Int)):=by
   rw[at1 (i:=r'-1) PA,<-L1 _ PA];exact w.cell _ PA
  refine⟨b,0,rfl,PA,PA,_,hce,PA,PB,fun _ hv'=>Fr [b] hv2 hv'/\LS hv' b F G e n dp ng tr (r'-1) (r'+e-1),?_,?_⟩
  ·rw[Dv hlt hd hk,Hb,kG (by have:=xr hlt hd hk;omega),Ik (xr hlt hd hk),q1]
   have ew:i64.wrap (((r'+e:Nat):Int)-(1:Int))=((r'+e-1:Nat):Int):=by rw[wr PA PA];omega
   rw[ew]
   have ei:800-r'=e+800-(r'+e):=by omega
   rw[ei]
   refine ae (fun h2=>?_) fun h2=>?_
   ·refine⟨b,0,rfl,PA,PA,?_⟩
    rw[at1 rfl,w8d (QG _ PB)]
    refine⟨⟨_,w.cell _ PA⟩,w.free _ PA,fr2 f3 _ _,?_⟩
    exact L0.put PA PA PA PA
   ·refine⟨fun _ hv'=>Fr [b] hv2 hv'/\LS hv' b F G e n dp ng tr (r'-1) (r'+e-1),?_,fun hv' h=>h⟩
    obtain⟨d1,d2⟩:=L0.drop (r':=r'-1) PA PA PA PA
    refine cn (fun h3=>?_) fun h3=>⟨f3,d2 PA⟩
    exact⟨b,0,rfl,⟨_,w.tr⟩,w.free 803 PB,fr2 f3 _ _,d1 PA⟩
  ·rintro hv7 ⟨f7,L7⟩
   rw[Dv hlt hd hk,Hb,kG (by have:=xr hlt hd hk;omega),q2]
   refine⟨⟨r'-1,PA,?_,f7,?_⟩,?_⟩
   ·rw[wr PA PA,wr PA PA]
    rw[show((r':Int)-1-1)=((r'-1:Nat):Int)-1 by omega,show((r'+e:Nat):Int)-1=((r'-1+e:Nat):Int) by omega]
   ·rw[show r'-1+e=r'+e-1 by omega];exact L7
   ·rw[wr PA PA];(try dsimp only);omega
 ·--the second loop
  obtain rfl:r'=0:=by omega
  have hca:jD F k 0=G/tn 800:=by
   unfold jD
   rw[RC,Ra hF.2,hGe]
  have hlt:=vl F k 0
  rw[hca]at hlt ⊢
  have hp:=p60 hk
  refine⟨fun lz hv=>∃t:Nat,t<=e/\lz=[PN (t:Int),PO ((G/tn (800+e-t):Nat):Int)]/\Fr [b] hv2 hv/\LS hv b F G e n dp ng tr 0 t,fun lz _=>match lz with
   | [.int _ i,_]=>i.toNat
   | _=>0,⟨e,P3 _,?_,f3,?_⟩,?_⟩
  ·rw[show 800+e-e=800 by omega,Qu]
  ·rw[Qu]at L;exact L
  rintro j0 j1 hv8 ⟨t,ht,e1,f8,L8⟩
  simp only[List.cons.injEq,Value.int.injEq,true_and,and_true]at e1
  obtain⟨rfl,rfl⟩:=e1
  have hv64:G/tn (800+e-t)<1152921504606846976:=by
   refine Qf (Nat.div_le_div_left (yX (by omega:800<=800+e-t)) (aZ _)) ?_
   omega
  have L0:=L8
  obtain⟨c,w,L1,L2⟩:=L8
  refine ae (fun h2=>?_) fun h2=>?_
  ·have ht0:0<t:=by
    rcases Nat.eq_zero_or_pos t with h0 | h0
    ·rw[h0,RC,QJ hG2]at h2;exact absurd h2 PB
    ·exact h0
   have ew:i64.wrap ((t:Int)-(1:Int))=((t-1:Nat):Int):=by rw[wr PA PA];omega
   refine⟨PB,fun _ hv'=>Fr [b] hv2 hv'/\LS hv' b F G e n dp ng tr 0 (t-1),?_,?_⟩
   ·rw[Hb,kG PA,Ik PA,ew]
    rw[show 800+e-t=e+800-t by omega]
    refine ae (fun h3=>?_) fun h3=>absurd (show((t-1:Nat):Int)<800 by omega) h3
    refine⟨b,0,rfl,PA,PA,?_⟩
    rw[at1 rfl,w8d (QG _ PB)]
    refine⟨⟨_,w.cell _ PA⟩,w.free _ PA,fr2 f8 _ _,?_⟩
    exact L0.put PA PA PA PA
   ·rintro hv12 ⟨f12,L12⟩
    rw[Hb,kG PA,ew]
    refine⟨⟨t-1,PA,?_,f12,L12⟩,?_⟩
    ·rw[show 800+e-(t-1)=800+e-t+1 by omega,cx,Qt]
    ·(try dsimp only);omega
  ·have hG0:G/tn (800+e-t)=0:=by clear hv64;generalize G/tn (800+e-t)=z at h2 ⊢;omega
   obtain rfl:t=0:=by
    have a:G<tn (800+e-t):=by
     rcases Nat.div_eq_zero_iff.1 hG0 with h | h
     ·exact absurd (aZ (800+e-t)) PA
     ·exact h
    have:=pj (Qf hG1 a)
    omega
   clear hG0 h2
   refine⟨b,0,rfl,_,w.nd,b,0,rfl,⟨_,w.nd⟩,w.free 800 PB,?_⟩
   rw[wr PA PA,<-RT]
   intro hv13
   have w13:Raw hv13 b c ((n+e:Nat):Int) dp ng _:=w.setN _
   have f13:Fr [b] hv2 hv13:=fr2 f8 _ _
   clear_value hv13
   refine⟨b,0,rfl,_,w13.nd,fun _ hv'=>Fr [b] hv2 hv'/\Raw hv' b c ((min (n+e) 800:Nat):Int) dp ng (tr||decide (G % tn e≠0)),?_,?_⟩
   ·rw[show e+800-max 0 800=e by omega]at w13
    refine ae (fun h4=>?_) fun h4=>⟨f13,by rw[QY PA];exact w13⟩
    refine⟨b,0,rfl,⟨_,w13.nd⟩,w13.free 800 PB,fr2 f13 _ _,?_⟩
    have:=w13.setN 800
    rw[Nat.min_eq_right PA];exact this
   rintro hv15 ⟨f15,w15⟩
   refine⟨b,0,rfl,_,w15.dp,b,0,rfl,⟨_,w15.dp⟩,w15.free 801 PB,?_⟩
   rw[wr PA PA]
   intro hv16
   have w16:Raw hv16 b c _ (dp+e) ng _:=w15.setP _
   have f16:Fr [b] hv2 hv16:=fr2 f15 _ _
   clear_value hv16
   have R:Rep hv16 b (G/tn e) (min (n+e) 800) (dp+e) ng (tr||decide (G % tn e≠0)):=by
    refine⟨⟨c,w16,fun i hi=>?_⟩,PA,?_,hfull⟩
    ·rw[L2 i PA PA PA]
     unfold dg
     rw[Qt,<-bG,show e+(799-i)=e+799-i by omega]
    ·by_cases hne:800<=n+e
     ·rw[show 800-min (n+e) 800=0 by omega,dQ];exact Nat.one_dvd _
     ·obtain⟨y,hy⟩:=hdvd
      rw[hy,show 800-n=(800-min (n+e) 800)+e by omega,bG,show tn (800-min (n+e) 800)*tn e*y=tn (800-min (n+e) 800)*y*tn e by ac_rfl,RZ _ (aZ _)]
      exact⟨y,rfl⟩
   refine cq [b] (R:=fun v h'=>v= .tuple #[]/\∃m,Rep h' b (G/tn e) m (dp+e) ng (tr||decide (G % tn e≠0))/\ja (G/tn e) m) (yZ R) PC ?_
   rintro _ hv17 f17 ⟨rfl,q⟩
   exact⟨rfl,f16.trans f17,rfl,q⟩
end Go.Proofs.YtmmmmjcfojhiaaaGreatDoor.N
/- The slow fallback: rightShift. Conditions: none. -/
namespace Go.Proofs.YtmmmmjcfojhiaaaGreatDoor.N
open Go.X Go.Proofs.YtmmmmjcfojhiaaaGreatDoor
variable {h:ab} {b F:Nat} {dp:Int} {ng tr:Bool}
def Nr (F r:Nat):Nat:=F*tn r/tn 800
theorem Il {F r:Nat} (hr:r<=800):Nr F r=F/tn (800-r):=by
 unfold Nr
 rw[iG hr,RM _ _ (aZ _)]
theorem xt {F r:Nat} (hr:r<800):Nr F (r+1)=10*Nr F r+dg F r:=by
 rw[Il PA,Il PA]
 have:=xn F (800-r) PA
 rw[show 800-r-1=800-(r+1) by omega]at this
 unfold dg
 rw[show 799-r=800-(r+1) by omega]
 exact this
theorem y7 {F n r:Nat} (hn:n<=800) (hr:n<=r) (hd:tn (800-n)∣ F):Nr F r=F/tn (800-n)*tn (r-n):=by
 obtain⟨y,hy⟩:=hd
 unfold Nr
 have e:tn (800-n)*y*tn r=y*tn (r-n)*tn 800:=by
  rw[iG hr,show tn 800=tn (800-n)*tn n from iG hn];ac_rfl
 rw[hy,e,RZ _ (aZ _),Rh _ (aZ _)]
theorem tA {F n r:Nat} (hn:n<=800) (hr:n<=r) (hd:tn (800-n)∣ F):Nr F (r+1)=10*Nr F r:=by
 rw[y7 hn hr hd,y7 hn PA hd,show r+1-n=(r-n)+1 by omega,cx];ac_rfl
theorem ot {F n j:Nat} (hn:n<=800) (hd:tn (800-n)∣ F):∃d,d<10/\Nr F (j+1)=10*Nr F j+d:=by
 by_cases h:j<n
 ·exact⟨dg F j,kx _ _,xt PA⟩
 ·exact⟨0,PB,tA hn PA hd⟩
theorem tB {F:Nat} (hF:fY F):Nr F 0=0:=by unfold Nr;rw[dQ,Qy];exact QJ hF.2
theorem pq {F j:Nat} (hF:fY F) (hj:1<=j):tn (j-1)<=Nr F j:=by
 unfold Nr
 rw[QV (aZ _),<-bG,show j-1+800=799+j by omega,bG]
 exact P1 _ hF.1
theorem Kh {F j k:Nat} (hj:j<=800+k):Nr F j/2^k=F*5^k/tn (800+k-j):=by
 unfold Nr
 have h5:0<5^k:=Ql PB
 rw[Qt,<-RM _ _ h5]
 have e1:tn 800*2^k*5^k=tn (800+k-j)*tn j:=by
  rw[Qm,Qo (2^k),<-iZ,<-bG,<-bG];congr 1;omega
 rw[e1,show F*tn j*5^k=F*5^k*tn j by ac_rfl,RM _ _ (aZ _)]
theorem NL {F r k:Nat} (hF:fY F) (hr:1<=r) (hr2:r<=800+k) (h1:2^k<=Nr F r) (h2:Nr F (r-1)<2^k):exE (F*5^k)=k+1-r/\r<=k+1:=by
 have hp:0<2^k:=Ql PB
 have a:1<=F*5^k/tn (800+k-r):=by
  rw[<-Kh hr2,QV hp,Rz];exact h1
 rw[QV (aZ _),Rz]at a
 have c:F*5^k/tn (800+k-(r-1))=0:=by rw[<-Kh PA];exact QJ h2
 have c2:F*5^k<tn (800+k-(r-1)):=by
  rcases Nat.div_eq_zero_iff.1 c with h | h
  ·exact absurd (aZ (800+k-(r-1))) PA
  ·exact h
 have hG:tn 799<=F*5^k:=Qg hF.1 (Qw _ (Ql PB))
 have:=pj (Qf hG c2)
 have hr3:r<=k+1:=by omega
 refine⟨xp ?_ ?_,hr3⟩
 ·rw[show 799+(k+1-r)=800+k-r by omega];exact a
 ·rw[show 800+(k+1-r)=800+k-(r-1) by omega];exact c2
theorem Dw {F r k:Nat} (hF:fY F) (hk:k<=60) (h:Nr F r<2^k):r<=19:=by
 by_cases h0:r=0
 ·omega
 have a:=pq hF (show 1<=r by omega)
 have p:=p60 hk
 have b:tn (r-1)<tn 19:=by
  have:tn 19=10000000000000000000:=by decide
  omega
 have:=pj b
 omega
def NN (F k j:Nat):Nat:=Nr F j-10*2^k*(Nr F (j-1)/2^k)
theorem ke {F k j d:Nat} (hd:d<10) (hs:Nr F (j+1)=10*Nr F j+d):NN F k (j+1)=10*(Nr F j % 2^k)+d/\NN F k (j+1)<10*2^k/\NN F k (j+1)/2^k=Nr F (j+1)/2^k % 10/\NN F k (j+1) % 2^k=Nr F (j+1) % 2^k:=by
 unfold NN
 rw[show j+1-1=j by omega,hs]
 have hp:0<2^k:=Ql PB
 have hm:=QC (Nr F j) (2^k)
 have hl:=QG (Nr F j) hp
 generalize 2^k=p at*
 generalize Nr F j % p=ρ at*
 generalize Nr F j/p=q at*
 have e:10*Nr F j+d=10*ρ+d+p*(10*q):=by rw[<-hm,Nat.mul_add,show 10*(p*q)=p*(10*q) by ac_rfl];omega
 have e2:10*p*q=p*(10*q):=by ac_rfl
 rw[e,e2,Nat.add_sub_cancel]
 have hlt:10*ρ+d<10*p:=by omega
 refine⟨rfl,hlt,?_,?_⟩
 ·rw[Nat.add_mul_div_left _ _ hp]
  have:(10*ρ+d)/p<10:=by rw[Ru hp];exact hlt
  generalize (10*ρ+d)/p=z at this ⊢
  clear e e2 hs hm
  omega
 ·rw[Nat.add_mul_mod_self_left]
theorem vm {k a:Nat} (hk:k<=60) (ha:a<18446744073709551616):bits .and .u64 (a:Int) (u64.wrap ((u64.wrap ((1:Int)*2^k))-(1:Int)))=((a % 2^k:Nat):Int):=by
 have hp:=p60 hk
 have h0:0<2^k:=Ql PB
 have e1:(1:Int)*2^k=((2^k:Nat):Int):=by rw[Int.one_mul,Int.natCast_pow];rfl
 have e2:u64.wrap (((2^k:Nat):Int)-(1:Int))=((2^k-1:Nat):Int):=by
  generalize 2^k=p at*
  rw[IntKind.wrap_u64];omega
 rw[e1,kG PA,e2]
 have:bits .and .u64 (a:Int) ((2^k-1:Nat):Int)=((a&&& (2^k-1):Nat):Int):=bits_and_u64_nat a (2^k-1) ha PA
 rw[this,Qv]
theorem Im {n d:Nat} (hn:n<1152921504606846976) (hd:d<10):u64.wrap ((u64.wrap ((u64.wrap ((n:Int)*(10:Int)))+(u64.wrap ((48+d:Nat):Int))))-(48:Int))=((10*n+d:Nat):Int):=by
 have e1:(n:Int)*10=((10*n:Nat):Int):=by omega
 rw[e1,kG PA,kG PA,<-RT,kG PA,IntKind.wrap_u64]
 omega
end Go.Proofs.YtmmmmjcfojhiaaaGreatDoor.N
/- The slow fallback: rightShift. Conditions: none. -/
namespace Go.Proofs.YtmmmmjcfojhiaaaGreatDoor.N
open Go.X Go.Proofs.YtmmmmjcfojhiaaaGreatDoor
variable {h:ab} {b F:Nat} {dp:Int} {ng tr:Bool}
def RS2 (h:ab) (b F G e n k r:Nat) (dp:Int) (ng tr:Bool) (j:Nat):Prop:=
 ∃c,Raw h b c n dp ng (tr||decide (G/tn (e+800-(j-r)) % tn (j-r-800)≠0))/\(∀i,i<j-r->i<800->c i=((48+G/tn (e+799-i) % 10:Nat):Int))/\∀i,j<=i->i<n->c i=((48+dg F i:Nat):Int)
theorem RS2.put {G e n k r j:Nat} (L:RS2 h b F G e n k r dp ng tr j) (hr:1<=r) (hj:r<=j) (hw:j-r<800):RS2 (aj h b (j-r) (PR ((48+G/tn (e+799-(j-r)) % 10:Nat):Int))) b F G e n k r dp ng tr (j+1):=by
 obtain⟨c,w,h1,h2⟩:=L
 have w2:=w.setD hw ((48+G/tn (e+799-(j-r)) % 10:Nat):Int)
 have e1:j-r-800=0:=by omega
 have e2:j+1-r-800=0:=by omega
 rw[e1,dQ,Nat.mod_one]at w2
 refine⟨_,by rw[e2,dQ,Nat.mod_one];exact w2,fun i hi hi2=>?_,fun i hi1 hi2=>?_⟩
 ·show(if i=j-r then _ else c i)=_
  split
  ·rename_i e3;rw[e3]
  ·exact h1 i PA hi2
 ·show(if i=j-r then _ else c i)=_
  rw[if_neg PA];exact h2 i PA hi2
theorem RS2.drop {G e n k r j:Nat} (L:RS2 h b F G e n k r dp ng tr j) (hj:r<=j) (hw:800<=j-r) (hje:j-r<=e+799):
  (0<G/tn (e+799-(j-r)) % 10->RS2 (aj h b 803 (PV true)) b F G e n k r dp ng tr (j+1))/\(G/tn (e+799-(j-r)) % 10=0->RS2 h b F G e n k r dp ng tr (j+1)):=by
 obtain⟨c,w,h1,h2⟩:=L
 have e1:j+1-r-800=j-r-800+1:=by omega
 have e2:e+800-(j+1-r)=e+799-(j-r):=by omega
 have e3:G/tn (e+800-(j-r))=G/tn (e+799-(j-r))/10:=by
  rw[Qt,<-cx];congr 2;omega
 rw[e3]at w
 have hm:G/tn (e+799-(j-r)) % tn (j-r-800+1)=G/tn (e+799-(j-r)) % 10+10*(G/tn (e+799-(j-r))/10 % tn (j-r-800)):=by
  rw[cx,Qo,Nat.mod_mul]
 constructor
 ·intro hq
  have e4:(tr||decide (G/tn (e+800-(j+1-r)) % tn (j+1-r-800)≠0))=true:=by
   rw[e1,e2,hm,decide_eq_true,Bool.or_true];omega
  exact⟨c,by rw[e4];exact w.setT true,fun i hi hi2=>h1 i PA hi2,fun i hi1 hi2=>h2 i PA hi2⟩
 ·intro hq
  have e4:decide (G/tn (e+800-(j+1-r)) % tn (j+1-r-800)≠0)=decide (G/tn (e+799-(j-r))/10 % tn (j-r-800)≠0):=by
   rw[e1,e2,hm,hq,decide_eq_decide];omega
  exact⟨c,by rw[e4];exact w,fun i hi hi2=>h1 i PA hi2,fun i hi1 hi2=>h2 i PA hi2⟩
theorem NM {k a:Nat} (hk:k<=60) (ha:a<18446744073709551616):u64.wrap ((bits .and .u64 (a:Int) (u64.wrap ((u64.wrap ((1:Int)*2^k))-(1:Int))))*(10:Int))=((10*(a % 2^k):Nat):Int):=by
 rw[vm hk ha]
 have hp:=p60 hk
 have:=QG a (show 0<2^k from Ql PB)
 rw[show((a % 2^k:Nat):Int)*10=((10*(a % 2^k):Nat):Int) by omega]
 exact kG PA
theorem vn {n k:Nat} (hk1:1<=k) (hk:k<=60) (hdp: -1000000<=dp/\dp<=1000000) (r0:Rep h b F n dp ng tr):PJ 170 #[ptD b,PO (k:Int)] h fun v h'=>
  Fr [b] h h'/\v= .tuple #[]/\∃m,Rep h' b (scF (5^k) F) m (dp+exE (F*5^k)-k) ng (tr||scT (5^k) F)/\ja (scF (5^k) F) m:=by
 have hle:=r0.le
 have hpos:=r0.pos
 have hF:=r0.full
 have hp:=p60 hk
 have hc2:0<2^k:=Ql PB
 have h64:∀{a:Nat},a<2^k->a<1152921504606846976:=fun h=>by omega
 have zero:∀a:Nat,((Int.fdiv (a:Int) (2^k))==(0:Int))=decide (a<2^k):=fun a=>by
  rw[shr,Rr,beq_iff_eq,decide_eq_true_iff]
  constructor
  ·intro e
   rcases Nat.div_eq_zero_iff.1 (show a/2^k=0 by omega)with h | h
   ·omega
   ·exact h
  ·intro h;rw[QJ h];rfl
 apply B0
 unfold Je
 rw[show min (Int.toNat (k:Int)) 64=k by omega]
 obtain⟨c0,w0,hc0⟩:=r0.raw
 refine⟨fun lz hv=>∃r:Nat,lz=[PN (r:Int),PO ((Nr F r:Nat):Int)]/\hv=h/\1<=r/\2^k<=Nr F r/\Nr F (r-1)<2^k,?_,?_⟩
 ·--the first places
  refine⟨fun lz hv=>∃r:Nat,lz=[PN (r:Int),PO ((Nr F r:Nat):Int)]/\hv=h/\(1<=r->Nr F (r-1)<2^k),fun lz _=>match lz with
   | [.int _ _,.int _ n]=>2^k-n.toNat
   | _=>0,⟨0,by rw[tB hF];rfl,rfl,fun h=>by omega⟩,?_⟩
  rintro i0 i1 hv ⟨r,e1,rfl,h1⟩
  simp only[List.cons.injEq,Value.int.injEq,true_and,and_true]at e1
  obtain⟨rfl,rfl⟩:=e1
  refine⟨PA,?_⟩
  rw[zero]
  refine ae (fun hlt=>?_) fun hge=>?_
  ·have h19:=Dw hF hk hlt
   refine⟨b,0,rfl,_,w0.nd,ae (fun hr=>?_) fun hr=>?_⟩
   ·have hpz:1<=Nr F r:=Qg (aZ _) (pq hF PA)
    refine au (fun e0=>absurd e0 PA) fun _=>?_
    refine⟨fun lz hv'=>∃r:Nat,lz=[PN (r:Int),PO ((Nr F r:Nat):Int)]/\hv'=hv/\n<=r/\(1<=r->Nr F (r-1)<2^k),fun lz _=>match lz with
     | [.int _ _,.int _ n]=>2^k-n.toNat
     | _=>0,⟨r,rfl,rfl,PA,h1⟩,?_⟩
    rintro i0 i1 hv' ⟨r,e1,rfl,hnr,h1⟩
    simp only[List.cons.injEq,Value.int.injEq,true_and,and_true]at e1
    obtain⟨rfl,rfl⟩:=e1
    refine⟨PA,?_⟩
    rw[zero]
    refine ae (fun hlt=>?_) fun hge=>?_
    ·have h19:=Dw hF hk hlt
     have hpz:1<=Nr F r:=Qg (aZ _) (pq hF PA)
     have hn:=tA hle hnr r0.dvd
     have:=h64 hlt
     have ev:u64.wrap (((Nr F r:Nat):Int)*(10:Int))=((Nr F (r+1):Nat):Int):=by
      rw[hn,show((Nr F r:Nat):Int)*10=((10*Nr F r:Nat):Int) by omega];exact kG PA
     have er:i64.wrap ((r:Int)+(1:Int))=((r+1:Nat):Int):=by rw[wr PA PA];omega
     rw[ev,er]
     refine⟨⟨r+1,rfl,rfl,PA,fun _=>hlt⟩,?_⟩
     (try dsimp only);omega
    ·have:r≠0:=by omega
     exact⟨r,rfl,rfl,PA,PA,h1 PA⟩
   ·have hn:=xt (F:=F) (r:=r) PA
    have:=h64 hlt
    have ac:ac hv b (0+(Int.toNat (r:Int))*1)=some (PR ((48+dg F r:Nat):Int)):=by
     rw[at1 rfl,<-hc0 r PA];exact w0.cell _ PA
    refine⟨b,0,rfl,PA,PA,_,ac,?_⟩
    have er:i64.wrap ((r:Int)+(1:Int))=((r+1:Nat):Int):=by rw[wr PA PA];omega
    rw[Im this (kx _ _),er,<-hn]
    refine⟨⟨r+1,rfl,rfl,fun _=>hlt⟩,?_⟩
    (try dsimp only)
    by_cases h0:r=0
    ·subst h0
     have hpz:1<=Nr F 1:=Qg (aZ _) (pq hF (P3 _))
     show 2^k-Nr F (0+1)<2^k-Nr F 0
     rw[tB hF]
     have:1<=Nr F (0+1):=hpz
     omega
    ·have hpz:1<=Nr F r:=Qg (aZ _) (pq hF PA)
     omega
  ·have h0:r≠0:=by
    rintro rfl
    rw[tB hF]at hge;omega
   exact⟨r,rfl,rfl,PA,PA,h1 PA⟩
 rintro i0 i1 hv4 ⟨r,e1,rfl,hr1,hge,hlt⟩
 simp only[List.cons.injEq,Value.int.injEq,true_and,and_true]at e1
 obtain⟨rfl,rfl⟩:=e1
 have h19:=Dw hF hk hlt
 obtain⟨hex,hrk⟩:=NL hF hr1 PA hge hlt
 have hG:tn 799<=F*5^k:=Qg hF.1 (Qw _ (Ql PB))
 obtain⟨hG1,hG2⟩:=kD hG
 have hfull:=hF.sc (c:=5^k) (Ql PB)
 have hdvd:tn (800-n)∣ F:=r0.dvd
 have hNG:∀j,j<=800+k->Nr F j/2^k=F*5^k/tn (800+k-j):=fun j hj=>Kh hj
 have hGF:F*5^k*2^k=F*tn k:=by rw[iZ,Qm]
 obtain⟨e,he⟩:∃e,e=exE (F*5^k):=⟨_,rfl⟩
 obtain⟨G,hGe⟩:∃G,G=F*5^k:=⟨_,rfl⟩
 have hsc:scF (5^k) F=G/tn e:=by unfold scF;rw[hGe,he]
 have hscT:scT (5^k) F=decide (G % tn e≠0):=by unfold scT;rw[hGe,he]
 rw[<-he]at hG1 hG2 hex ⊢
 rw[<-hGe]at hG1 hG2 hGF
 simp only[<-hGe]at hNG
 rw[hsc]at hfull ⊢
 rw[hscT]
 have hre:r+e=k+1:=by omega
 have hdig:∀j,r<=j->j<=n+k->NN F k j/2^k=G/tn (e+799-(j-r)) % 10/\NN F k j<10*2^k:=fun j hj1 hj2=>by
  obtain⟨d,hd,hs⟩:=ot (j:=j-1) hle hdvd
  obtain⟨_,q2,q3,_⟩:=ke (k:=k) hd hs
  rw[show j-1+1=j by omega]at q2 q3
  refine⟨?_,q2⟩
  rw[q3,hNG j PA,show e+799-(j-r)=800+k-j by omega]
 have hNr:NN F k r=Nr F r:=by unfold NN;rw[QJ hlt,Nat.mul_zero,RC]
 refine⟨b,0,rfl,_,w0.dp,b,0,rfl,⟨_,w0.dp⟩,w0.free 801 PB,?_⟩
 rw[wr (x:=(r:Int)-1) PA PA,wr PA PA]
 rw[show dp-((r:Int)-1)=dp+e-k by omega]
 intro hv5
 have w5:Raw hv5 b c0 n (dp+e-k) ng tr:=w0.setP _
 have f5:Fr [b] hv4 hv5:=frb _ _ _ _
 clear_value hv5
 obtain⟨dq,hdq⟩:∃dq:Int,dq=dp+e-k:=⟨_,rfl⟩
 rw[<-hdq]at w5 ⊢
 have ini:RS2 hv5 b F G e n k r dq ng tr r:=by
  refine⟨c0,?_,fun i hi=>by omega,fun i h1 h2=>hc0 i h2⟩
  rw[show r-r-800=0 by omega,dQ,Nat.mod_one];simpa using w5
 refine⟨PA,fun lz hv=>∃j:Nat,r<=j/\(j<=n\/j=r)/\lz=[PN (j:Int),PN ((j-r:Nat):Int),PO ((NN F k j:Nat):Int)]/\Fr [b] hv4 hv/\RS2 hv b F G e n k r dq ng tr j,fun lz _=>match lz with
  | [.int _ i,_,_]=>n-i.toNat
  | _=>0,⟨r,P3 _,.inr rfl,by rw[Nat.sub_self,hNr];rfl,f5,ini⟩,?_⟩
 rintro i0 i1 i2 hv6 ⟨j,hj,hjn,e1,f6,L⟩
 simp only[List.cons.injEq,Value.int.injEq,true_and,and_true]at e1
 obtain⟨rfl,rfl,rfl⟩:=e1
 have L0:=L
 obtain⟨c,w,L1,L2⟩:=L
 refine⟨b,0,rfl,_,w.nd,ae (fun hjl=>?_) fun hjl=>?_⟩
 ·have ac:ac hv6 b (0+(Int.toNat (j:Int))*1)=some (PR ((48+dg F j:Nat):Int)):=by
   rw[at1 rfl,<-L2 j (P3 _) PA];exact w.cell _ PA
  obtain⟨d1,d2⟩:=hdig j hj PA
  have hs:=xt (F:=F) (r:=j) PA
  obtain⟨q1,_,_,_⟩:=ke (k:=k) (kx F j) hs
  have hmod:NN F k j % 2^k=Nr F j % 2^k:=by
   obtain⟨d,hd,hs⟩:=ot (j:=j-1) hle hdvd
   obtain⟨_,_,_,q4⟩:=ke (k:=k) hd hs
   rw[show j-1+1=j by omega]at q4
   exact q4
  refine⟨b,0,rfl,PA,PA,_,ac,PA,b,0,rfl,PA,PA,?_⟩
  rw[at1 rfl,shr,d1,w8d (QG _ PB)]
  refine⟨⟨_,w.cell _ PA⟩,w.free _ PA,?_⟩
  have hml:=QG (Nr F j) hc2
  have ev:u64.wrap ((u64.wrap ((u64.wrap ((bits .and .u64 ((NN F k j:Nat):Int) (u64.wrap ((u64.wrap ((1:Int)*2^k))-(1:Int))))*(10:Int)))+(u64.wrap ((48+dg F j:Nat):Int))))-(48:Int))=((NN F k (j+1):Nat):Int):=by
   rw[vm hk PA,hmod,Im (h64 hml) (kx _ _),q1]
  have er:i64.wrap ((j:Int)+(1:Int))=((j+1:Nat):Int):=by rw[wr PA PA];omega
  have ew:i64.wrap (((j-r:Nat):Int)+(1:Int))=((j+1-r:Nat):Int):=by rw[wr PA PA];omega
  rw[ev,er,ew]
  refine⟨⟨j+1,PA,.inl PA,rfl,fr2 f6 _ _,L0.put hr1 hj PA⟩,?_⟩
  (try dsimp only);omega
 ·--the rest
  have hnj:n<=j:=by omega
  obtain⟨JJ,hJJ⟩:∃JJ:Nat->List Value->ab->Prop,JJ=fun m lz hv=>∃j:Nat,r<=j/\n<=j/\j<=n+k+1/\m=n+k+1-j/\lz=[PN ((min (j-r) 800:Nat):Int),PO ((NN F k j:Nat):Int)]/\Fr [b] hv4 hv/\RS2 hv b F G e n k r dq ng tr j:=⟨_,rfl⟩
  refine⟨fun lz hv=>∃m,JJ m lz hv,Lm JJ,?_,?_⟩
  ·subst hJJ
   refine⟨_,j,hj,hnj,PA,rfl,?_,f6,L0⟩
   rw[QY PA]
  rintro i0 i1 hv8 hI
  obtain⟨m0,hI,hm0⟩:=fm hI
  rw[hJJ]at hI
  obtain⟨j,hj,hnj,hju,rfl,e1,f8,L8⟩:=hI
  simp only[List.cons.injEq,Value.int.injEq,true_and,and_true]at e1
  obtain⟨rfl,rfl⟩:=e1
  have hmod:NN F k j % 2^k=Nr F j % 2^k:=by
   obtain⟨d,hd,hs⟩:=ot (j:=j-1) hle hdvd
   obtain⟨_,_,_,q4⟩:=ke (k:=k) hd hs
   rw[show j-1+1=j by omega]at q4
   exact q4
  have hml:=QG (Nr F j) hc2
  refine ae (fun hn0=>?_) fun hn0=>?_
  ·have hjb:j<=n+k:=by
    apply Classical.byContradiction
    intro hc
    have hjj:j=n+k+1:=by omega
    have e0:NN F k j=0:=by
     have hs:=tA hle (show n<=n+k by omega) hdvd
     obtain⟨q1,_,_,_⟩:=ke (k:=k) (show 0<10 by decide) (d:=0) hs
     rw[hjj,q1,y7 hle PA hdvd,show n+k-n=k by omega,iZ k,show F/tn (800-n)*(5^k*2^k)=F/tn (800-n)*5^k*2^k by ac_rfl,Nat.mul_mod_left]
    rw[e0]at hn0
    exact absurd hn0 PB
   obtain⟨d1,d2⟩:=hdig j hj hjb
   have hs:=tA hle hnj hdvd
   obtain⟨q1,_,_,_⟩:=ke (k:=k) (show 0<10 by decide) (d:=0) hs
   refine⟨PA,fun lz hv'=>lz=[PN ((min (j+1-r) 800:Nat):Int)]/\Fr [b] hv4 hv'/\RS2 hv' b F G e n k r dq ng tr (j+1),?_,?_⟩
   ·rw[shr,d1]
    have L0:=L8
    obtain⟨c,w,L1,L2⟩:=L8
    refine ae (fun h1=>?_) fun h1=>?_
    ·refine⟨b,0,rfl,PA,PA,?_⟩
     rw[at1 (i:=j-r) PA,w8d (QG _ PB)]
     refine⟨⟨_,w.cell _ PA⟩,w.free _ PA,?_,fr2 f8 _ _,L0.put hr1 hj PA⟩
     rw[wr PA PA,show((min (j-r) 800:Nat):Int)+1=((min (j+1-r) 800:Nat):Int) by omega]
    ·obtain⟨u1,u2⟩:=L0.drop hj PA PA
     refine⟨fun _ hv'=>Fr [b] hv4 hv'/\RS2 hv' b F G e n k r dq ng tr (j+1),?_,?_⟩
     ·refine ae (fun h2=>?_) fun h2=>?_
      ·exact⟨b,0,rfl,⟨_,w.tr⟩,w.free 803 PB,fr2 f8 _ _,u1 PA⟩
      ·refine⟨f8,u2 ?_⟩
       generalize G/tn (e+799-(j-r)) % 10=z at h2 ⊢
       omega
     ·rintro hv11 ⟨f11,L11⟩
      exact⟨by rw[show min (j-r) 800=min (j+1-r) 800 by omega],f11,L11⟩
   ·rintro w3 hv12 ⟨e1,f12,L12⟩
    simp only[List.cons.injEq,Value.int.injEq,true_and,and_true]at e1
    subst e1
    rw[NM hk PA,hmod]
    have q2:NN F k (j+1)=10*(Nr F j % 2^k):=q1
    rw[<-q2]
    refine ck hm0 (k':=n+k+1-(j+1)) ?_ PA
    rw[hJJ]
    exact⟨j+1,PA,PA,PA,rfl,rfl,f12,L12⟩
  ·have hz:NN F k j=0:=by
    clear hmod
    generalize NN F k j=z at hn0 ⊢
    omega
   clear hn0 hm0
   obtain⟨c,w,L1,L2⟩:=L8
   refine⟨b,0,rfl,⟨_,w.nd⟩,w.free 800 PB,?_⟩
   intro hv13
   have w13:Raw hv13 b c ((min (j-r) 800:Nat):Int) dq ng _:=w.setN _
   have f13:Fr [b] hv4 hv13:=fr2 f8 _ _
   clear_value hv13
   have hjle:j<=801+k:=by omega
   have hdiv:tn (801+k-j)∣ G:=by
    have e1:Nr F j=10*2^k*(Nr F (j-1)/2^k):=by
     have h0:10*2^k*(Nr F (j-1)/2^k)<=Nr F j:=by
      obtain⟨d,hd,hs⟩:=ot (j:=j-1) hle hdvd
      rw[show j-1+1=j by omega]at hs
      rw[hs,Qm]
      exact Qg (QP 10 (Nat.mul_div_le _ _)) (Nat.le_add_right _ _)
     unfold NN at hz
     omega
    have e2:F*tn j=Nr F j*tn 800:=by
     obtain⟨y,hy⟩:=hdvd
     rw[y7 hle hnj ⟨y,hy⟩,hy,Rh _ (aZ _),iG hnj,show tn 800=tn (800-n)*tn n from iG hle]
     ac_rfl
    generalize Nr F (j-1)/2^k=q at e1
    have e3:G*tn j=q*tn (801+k-j)*tn j:=by
     rw[Qm q,<-bG,show 801+k-j+j=800+1+k by omega,bG,cx,hGe,show F*5^k*tn j=F*tn j*5^k by ac_rfl,e2,e1,iZ k]
     ac_rfl
    exact⟨q,by rw[Qo];exact QX (aZ j) e3⟩
   have hT:(tr||decide (G/tn (e+800-(j-r)) % tn (j-r-800)≠0))=(tr||decide (G % tn e≠0)):=by
    congr 1
    rw[decide_eq_decide]
    obtain⟨y,hy⟩:=hdiv
    rw[show 801+k-j=e+800-(j-r) by omega]at hy
    by_cases hw:j-r<=800
    ·rw[show j-r-800=0 by omega,dQ,Nat.mod_one]
     have:G % tn e=0:=Rl (Nat.dvd_trans (Dq PA) ⟨y,hy⟩)
     rw[this]
    ·rw[hy,Rh _ (aZ _)]
     have e4:tn e=tn (e+800-(j-r))*tn (j-r-800):=by rw[<-bG];congr 1;omega
     rw[e4,Nat.mul_mod_mul_left]
     constructor
     ·intro h;exact Nat.mul_ne_zero (Sj (aZ _)) h
     ·intro h h2;rw[h2,Nat.mul_zero]at h;exact h rfl
   rw[hT]at w13
   have R:Rep hv13 b (G/tn e) (min (j-r) 800) dq ng (tr||decide (G % tn e≠0)):=by
    refine⟨⟨c,w13,fun i hi=>?_⟩,PA,?_,hfull⟩
    ·rw[L1 i PA PA]
     unfold dg
     rw[Qt,<-bG,show e+(799-i)=e+799-i by omega]
    ·by_cases hne:800<=j-r
     ·rw[show 800-min (j-r) 800=0 by omega,dQ];exact Nat.one_dvd _
     ·obtain⟨y,hy⟩:=hdiv
      rw[hy,show 801+k-j=(800-min (j-r) 800)+e by omega,bG,show tn (800-min (j-r) 800)*tn e*y=tn (800-min (j-r) 800)*y*tn e by ac_rfl,RZ _ (aZ _)]
      exact⟨y,rfl⟩
   refine cq [b] (R:=fun v h'=>v= .tuple #[]/\∃m,Rep h' b (G/tn e) m dq ng (tr||decide (G % tn e≠0))/\ja (G/tn e) m) (yZ R) PC ?_
   rintro _ hv14 f14 ⟨rfl,q⟩
   exact⟨rfl,f13.trans f14,rfl,q⟩
end Go.Proofs.YtmmmmjcfojhiaaaGreatDoor.N
