/- The slow fallback: Shift, shouldRoundUp, RoundedInteger. Conditions: none. -/
import Derived.Test.YtmmmmjcfojhiaaaGreatDoorWDec7
import Derived.Test.YtmmmmjcfojhiaaaGreatDoorSAtof
set_option linter.unusedVariables false
set_option linter.unusedSimpArgs false
set_option maxRecDepth 100000
set_option maxHeartbeats 4000000
open Go.IntKind (i64 u64 u8 i32)
namespace Go.Proofs.YtmmmmjcfojhiaaaGreatDoor.N
open Go.X Go.Proofs.YtmmmmjcfojhiaaaGreatDoor
variable {h:ab} {b:Nat} {ng:Bool}
structure DF where
 F:Nat
 dp:Int
 tr:Bool
noncomputable def upD (k : Nat) (s : DF) : DF := ⟨scF (2 ^ k) s.F, s.dp + exE (s.F * 2 ^ k), s.tr || scT (2 ^ k) s.F⟩
noncomputable def fq (k : Nat) (s : DF) : DF := ⟨scF (5 ^ k) s.F, s.dp + exE (s.F * 5 ^ k) - k, s.tr || scT (5 ^ k) s.F⟩
noncomputable def upF : Nat -> Nat -> DF -> DF
 | 0,k,s=>upD k s
 | f+1,k,s=>if k<=60 then upD k s else upF f (k-60) (upD 60 s)
noncomputable def nF : Nat -> Nat -> DF -> DF
 | 0,k,s=>fq k s
 | f+1,k,s=>if k<=60 then fq k s else nF f (k-60) (fq 60 s)
noncomputable def shD (k : Int) (s : DF) : DF := if k > 0 then upF k.toNat k.toNat s else if k < 0 then nF (-k).toNat (-k).toNat s else s
def DF.key (s:DF):Int:=dky s.F s.dp
theorem tS {k:Nat} {s:DF} (hk:1<=k) (hF:fY s.F):fY (upD k s).F/\s.key<(upD k s).key/\s.dp<=(upD k s).dp/\(upD k s).dp<=s.dp+k:=by
 have h2:2<=2^k:=Qg PB (P7 (n:=2) PB hk)
 have hG:tn 799<=s.F*2^k:=Qg hF.1 (Qw _ PA)
 obtain⟨h1,_⟩:=kD hG
 have:exE (s.F*2^k)<=k:=by
  have a:s.F*2^k<tn (800+k):=by
   rw[bG]
   refine QT (P5 hF.2 PA) (QP _ ?_)
   exact Nat.pow_le_pow_left PB k
  have:=pj (Qf h1 a)
  omega
 refine⟨hF.sc PA,Kf hF h2,?_,?_⟩
 ·show s.dp<=s.dp+exE (s.F*2^k);omega
 ·show s.dp+exE (s.F*2^k)<=s.dp+k;omega
theorem lO {k:Nat} {s:DF} (hk:1<=k) (hF:fY s.F):fY (fq k s).F/\(fq k s).key<s.key/\s.dp-k<=(fq k s).dp/\(fq k s).dp<=s.dp:=by
 obtain⟨a,c⟩:=Dr (dp:=s.dp) hF hk
 refine⟨hF.sc (Ql PB),a,?_,?_⟩
 ·show s.dp-k<=s.dp+exE (s.F*5^k)-k;omega
 ·show s.dp+exE (s.F*5^k)-k<=s.dp;omega
theorem D8 :∀(f k:Nat) (s:DF),1<=k->fY s.F->fY (upF f k s).F/\s.key<(upF f k s).key/\s.dp<=(upF f k s).dp/\(upF f k s).dp<=s.dp+k
 | 0,k,s,hk,hF=>tS hk hF
 | f+1,k,s,hk,hF=>by
  unfold upF
  split
  ·exact tS hk hF
  ·obtain⟨a1,a2,a3,a4⟩:=tS (k:=60) PB hF
   obtain⟨b1,b2,b3,b4⟩:=D8 f (k-60) (upD 60 s) PA a1
   exact⟨b1,Int.lt_trans a2 b2,PA,PA⟩
theorem vM :∀(f k:Nat) (s:DF),1<=k->fY s.F->fY (nF f k s).F/\(nF f k s).key<s.key/\s.dp-k<=(nF f k s).dp/\(nF f k s).dp<=s.dp
 | 0,k,s,hk,hF=>lO hk hF
 | f+1,k,s,hk,hF=>by
  unfold nF
  split
  ·exact lO hk hF
  ·obtain⟨a1,a2,a3,a4⟩:=lO (k:=60) PB hF
   obtain⟨b1,b2,b3,b4⟩:=vM f (k-60) (fq 60 s) PA a1
   exact⟨b1,Int.lt_trans b2 a2,PA,PA⟩
def kL (h:ab) (b:Nat) (ng:Bool) (s:DF):Prop:=∃m,Rep h b s.F m s.dp ng s.tr
def qT (h:ab) (b:Nat) (ng:Bool) (s:DF):Prop:=∃m,Rep h b s.F m s.dp ng s.tr/\ja s.F m
theorem qT.d {s:DF} (r:qT h b ng s):kL h b ng s:=let ⟨m,r,_⟩:=r;⟨m,r⟩
theorem kL.full {s:DF} (r:kL h b ng s):fY s.F:=let ⟨m,r⟩:=r;r.full
theorem lQ {K:Int} {s:DF} {gl:GL} (g:Gl gl h) (hgb:b∉glB gl) (hK:K≠0) (hK1: -400000<=K) (hK2:K<=400000) (hd1: -400000<=s.dp) (hd2:s.dp<=400000) (r:kL h b ng s):
  PJ 134 #[ptD b,PN K] h fun v h'=>Fr [b] h h'/\v= .tuple #[]/\qT h' b ng (shD K s):=by
 obtain⟨n0,r⟩:=r
 have hg:∀{h':ab},Fr [b] h h'->Gl gl h':=fun{h'} f=>g.congr fun x hx=>f.blk x (g.lt x hx) (by rintro hm;rw[Qi]at hm;exact hgb (hm▸hx))
 apply B3
 unfold Jh
 have hp:=r.pos
 have hF:=r.full
 obtain⟨c,w,hc⟩:=r.raw
 refine⟨b,0,rfl,_,w.nd,fun _ hv=>Fr [b] h hv/\qT hv b ng (shD K s),au (fun e=>absurd e PA) fun _=>?_,fun hv ⟨a1,a2⟩=>⟨a1,rfl,a2⟩⟩
 refine⟨fun _ hv=>Fr [b] h hv/\qT hv b ng (shD K s),?_,fun hv h=>h⟩
 refine ae (fun hpos=>?_) fun hneg=>?_
 ·refine⟨fun lz hv=>∃(k f:Nat) (s':DF),lz=[PN (k:Int)]/\1<=k/\(k:Int)+s'.dp<=K+s.dp/\k<=400000/\k<=60*(f+1)/\Fr [b] h hv/\s.dp<=s'.dp/\kL hv b ng s'/\upF f k s'=shD K s,fun lz _=>match lz with
   | [.int _ k]=>k.toNat
   | _=>0,⟨K.toNat,K.toNat,s,by rw[Rb PA],PA,PA,PA,PA,Fr.refl _ _,Int.le_refl _,⟨n0,r⟩,by unfold shD;rw[if_pos hpos]⟩,?_⟩
  rintro k2 hv ⟨k,f,s',e1,k1,k2,k3,k4,f1,d0,⟨n1,r1⟩,hu⟩
  simp only[List.cons.injEq,Value.int.injEq,true_and,and_true]at e1
  subst e1
  have hF1:=r1.full
  refine ae (fun h60=>?_) fun h60=>?_
  ·refine cq [b] (R:=fun v h'=>v= .tuple #[]/\∃m,Rep h' b (upD 60 s').F m (upD 60 s').dp ng (upD 60 s').tr/\ja (upD 60 s').F m) (y5 (k:=60) PB PB (hg f1) ⟨PA,PA⟩ r1) PC ?_
   rintro _ hv2 f2 ⟨rfl,m,r2,_⟩
   obtain⟨a1,a2,a3,a4⟩:=tS (k:=60) PB hF1
   have e:i64.wrap ((k:Int)-(60:Int))=((k-60:Nat):Int):=by rw[wr PA PA];omega
   rw[e]
   cases f with
   | zero=>omega
   | succ f=>
    refine⟨rfl,⟨k-60,f,upD 60 s',rfl,PA,PA,PA,PA,f1.trans f2,PA,⟨m,r2⟩,?_⟩,?_⟩
    ·rw[<-hu]
     show _=if k<=60 then _ else _
     rw[if_neg PA]
    ·(try dsimp only);omega
  ·have e:u64.wrap (k:Int)=(k:Int):=kG PA
   rw[e]
   refine cq [b] (R:=fun v h'=>v= .tuple #[]/\∃m,Rep h' b (upD k s').F m (upD k s').dp ng (upD k s').tr/\ja (upD k s').F m) (y5 PA PA (hg f1) ⟨PA,PA⟩ r1) PC ?_
   rintro _ hv2 f2 ⟨rfl,q⟩
   have hu2:upD k s'=shD K s:=by
    rw[<-hu]
    cases f with
    | zero=>rfl
    | succ f=>show _=if k<=60 then _ else _;rw[if_pos PA]
   rw[<-hu2]
   exact⟨rfl,f1.trans f2,q⟩
 ·refine⟨fun _ hv=>Fr [b] h hv/\qT hv b ng (shD K s),ae (fun hneg2=>?_) fun h0=>absurd hK PA,fun hv h=>h⟩
  refine⟨fun lz hv=>∃(k f:Nat) (s':DF),lz=[PN (-(k:Int))]/\1<=k/\K+s.dp<=s'.dp-(k:Int)/\k<=400000/\k<=60*(f+1)/\Fr [b] h hv/\s'.dp<=s.dp/\kL hv b ng s'/\nF f k s'=shD K s,fun lz _=>match lz with
   | [.int _ k]=>(-k).toNat
   | _=>0,⟨(-K).toNat,(-K).toNat,s,by rw[Rb PA,Int.neg_neg],PA,PA,PA,PA,Fr.refl _ _,Int.le_refl _,⟨n0,r⟩,by unfold shD;rw[if_neg hneg,if_pos hneg2]⟩,?_⟩
  rintro k2 hv ⟨k,f,s',e1,k1,k2,k3,k4,f1,d0,⟨n1,r1⟩,hu⟩
  simp only[List.cons.injEq,Value.int.injEq,true_and,and_true]at e1
  subst e1
  have hF1:=r1.full
  refine ae (fun h60=>?_) fun h60=>?_
  ·refine cq [b] (R:=fun v h'=>v= .tuple #[]/\∃m,Rep h' b (fq 60 s').F m (fq 60 s').dp ng (fq 60 s').tr/\ja (fq 60 s').F m) (vn (k:=60) PB PB ⟨PA,PA⟩ r1) PC ?_
   rintro _ hv2 f2 ⟨rfl,m,r2,_⟩
   obtain⟨a1,a2,a3,a4⟩:=lO (k:=60) PB hF1
   have e:i64.wrap (-(k:Int)+(60:Int))= -((k-60:Nat):Int):=by rw[wr PA PA];omega
   rw[e]
   cases f with
   | zero=>omega
   | succ f=>
    refine⟨rfl,⟨k-60,f,fq 60 s',rfl,PA,PA,PA,PA,f1.trans f2,PA,⟨m,r2⟩,?_⟩,?_⟩
    ·rw[<-hu]
     show _=if k<=60 then _ else _
     rw[if_neg PA]
    ·(try dsimp only);omega
  ·have e:u64.wrap (i64.wrap (0-(-(k:Int))))=(k:Int):=by
    rw[wr PA PA,show(0-(-(k:Int)))=(k:Int) by omega];exact kG PA
   rw[e]
   refine cq [b] (R:=fun v h'=>v= .tuple #[]/\∃m,Rep h' b (fq k s').F m (fq k s').dp ng (fq k s').tr/\ja (fq k s').F m) (vn PA PA ⟨PA,PA⟩ r1) PC ?_
   rintro _ hv2 f2 ⟨rfl,q⟩
   have hu2:fq k s'=shD K s:=by
    rw[<-hu]
    cases f with
    | zero=>rfl
    | succ f=>show _=if k<=60 then _ else _;rw[if_pos PA]
   rw[<-hu2]
   exact⟨rfl,f1.trans f2,q⟩
theorem KD {K:Int} {s:DF} (hK:0<K) (hF:fY s.F):fY (shD K s).F/\s.key<(shD K s).key/\s.dp<=(shD K s).dp/\(shD K s).dp<=s.dp+K:=by
 unfold shD
 rw[if_pos hK]
 obtain⟨a1,a2,a3,a4⟩:=D8 K.toNat K.toNat s PA hF
 exact⟨a1,a2,a3,PA⟩
theorem vN {K:Int} {s:DF} (hK:K<0) (hF:fY s.F):fY (shD K s).F/\(shD K s).key<s.key/\s.dp+K<=(shD K s).dp/\(shD K s).dp<=s.dp:=by
 unfold shD
 rw[if_neg PA,if_pos hK]
 obtain⟨a1,a2,a3,a4⟩:=vM (-K).toNat (-K).toNat s PA hF
 exact⟨a1,a2,PA,a4⟩
def sru (F n:Nat) (tr:Bool) (x:Int):Bool:=
 if x<0 then false else if x>=n then false
 else if dg F x.toNat=5/\x+1=n then(if tr then true else if x>0 then decide (dg F (x.toNat-1) % 2≠0)else false)
 else decide (5<=dg F x.toNat)
theorem D9 {F n:Nat} {dp x:Int} {tr:Bool} (r:Rep h b F n dp ng tr) (hx:x<=1000000):PJ 171 #[ptD b,PN x] h fun v h'=>Fr [] h h'/\v= PV (sru F n tr x)/\h'=h:=by
 apply B1
 unfold Jf
 have hle:=r.le
 obtain⟨c,w,hc⟩:=r.raw
 have ret:∀(a:Bool),a=sru F n tr x->(fun v h'=>Fr [] h h'/\v=PV (sru F n tr x)/\h'=h) (PV a) h:=fun a e=>⟨Fr.refl _ _,by rw[e],rfl⟩
 refine ae (fun h1=>ret _ (by unfold sru;rw[if_pos h1])) fun h1=>⟨b,0,rfl,_,w.nd,ae (fun h2=>ret _ (by unfold sru;rw[if_neg h1,if_pos h2])) fun h2=>?_⟩
 have hce:ac h b (0+(Int.toNat x)*1)=some (PR ((48+dg F x.toNat:Nat):Int)):=by
  rw[at1 (i:=x.toNat) PA,<-hc _ PA];exact w.cell _ PA
 intro K
 have hK:¬(dg F x.toNat=5/\x+1=n)->K h:=fun hn=>by
  unfold K
  refine⟨b,0,rfl,PA,PA,_,hce,ret _ ?_⟩
  unfold sru
  rw[if_neg h1,if_neg h2,if_neg hn,decide_eq_decide]
  omega
 refine⟨b,0,rfl,PA,PA,_,hce,au (fun h5=>?_) fun h5=>hK PA⟩
 have e1:i64.wrap (x+(1:Int))=x+1:=wr PA PA
 rw[e1]
 refine⟨b,0,rfl,_,w.nd,au (fun h6=>?_) fun h6=>hK PA⟩
 have hs:sru F n tr x=(if tr then true else if x>0 then decide (dg F (x.toNat-1) % 2≠0)else false):=by
  unfold sru
  rw[if_neg h1,if_neg h2,if_pos ⟨PA,h6⟩]
 refine⟨b,0,rfl,_,w.tr,aU (fun h7=>ret _ (by rw[hs,if_pos h7])) fun h7=>?_⟩
 rw[if_neg (by rw[h7];decide)]at hs
 refine ae (fun h8=>?_) fun h8=>ret _ (by rw[hs,if_neg h8])
 have e2:i64.wrap (x-(1:Int))=((x.toNat-1:Nat):Int):=by rw[wr PA PA];omega
 refine⟨b,0,rfl,?_⟩
 rw[e2]
 have hce2:ac h b (0+(Int.toNat ((x.toNat-1:Nat):Int))*1)=some (PR ((48+dg F (x.toNat-1):Nat):Int)):=by
  rw[at1 rfl,<-hc _ PA];exact w.cell _ PA
 refine⟨PA,PA,_,hce2,PB,ret _ ?_⟩
 rw[hs,if_pos h8]
 have hd:=kx F (x.toNat-1)
 have e3:u8.wrap (((48+dg F (x.toNat-1):Nat):Int)-(48:Int))=((dg F (x.toNat-1):Nat):Int):=by rw[IntKind.wrap_u8];omega
 rw[e3,Int.tmod_eq_emod_of_nonneg PA,Rr,decide_eq_true_iff,bne_iff_ne]
 omega
def rA (F:Nat):Nat->Int
 | 0=>0
 | i+1=>u64.wrap ((u64.wrap (rA F i*(10:Int)))+((dg F i:Nat):Int))
def rB (x:Int):Nat->Int
 | 0=>x
 | i+1=>u64.wrap (rB x i*(10:Int))
def ri (F n:Nat) (dp:Int) (tr:Bool):Int:=
 if dp>20 then 18446744073709551615
 else
  let i:=min dp.toNat n
  let x:=rB (rA F i) (dp.toNat-i)
  if sru F n tr dp then u64.wrap (x+1)else x
theorem N6 {F n:Nat} {dp:Int} {tr:Bool} (r:Rep h b F n dp ng tr):PJ 202 #[ptD b] h fun v h'=>Fr [] h h'/\v= PO (ri F n dp tr)/\h'=h:=by
 apply B2
 unfold Jg
 have hle:=r.le
 obtain⟨c,w,hc⟩:=r.raw
 refine⟨b,0,rfl,_,w.dp,ae (fun h1=>⟨Fr.refl _ _,by unfold ri;rw[if_pos h1],rfl⟩) fun h1=>?_⟩
 intro K
 have hK:∀i:Nat,i=min dp.toNat n->K (i:Int) (rA F i) h:=fun i hi=>by
  unfold K
  refine⟨fun lz hv=>∃j:Nat,j<=dp.toNat-i/\lz=[PN ((i+j:Nat):Int),PO (rB (rA F i) j)]/\hv=h,fun lz _=>match lz with
   | [.int _ i,_]=>dp.toNat-i.toNat
   | _=>0,⟨0,PA,rfl,rfl⟩,?_⟩
  rintro i3 n3 hv3 ⟨j,hj,e1,rfl⟩
  simp only[List.cons.injEq,Value.int.injEq,true_and,and_true]at e1
  obtain⟨rfl,rfl⟩:=e1
  refine⟨b,0,rfl,_,w.dp,ae (fun h2=>?_) fun h2=>?_⟩
  ·have e:i64.wrap (((i+j:Nat):Int)+(1:Int))=((i+(j+1):Nat):Int):=by rw[wr PA PA];omega
   rw[e]
   refine⟨⟨j+1,PA,rfl,rfl⟩,?_⟩
   (try dsimp only);omega
  ·obtain rfl:j=dp.toNat-i:=by omega
   refine⟨b,0,rfl,_,w.dp,bB (D9 r PA) ?_⟩
   rintro _ hv4 f4 ⟨rfl,rfl⟩
   refine⟨_,rfl,fun lz hv=>lz=[PO (ri F n dp tr)]/\hv=hv4,?_,?_⟩
   ·have e:ri F n dp tr=if sru F n tr dp then u64.wrap (rB (rA F i) (dp.toNat-i)+1)else rB (rA F i) (dp.toNat-i):=by
     unfold ri
     rw[if_neg h1,hi]
    refine aU (fun hs=>⟨?_,rfl⟩) fun hs=>⟨?_,rfl⟩
    ·rw[e,if_pos hs]
    ·rw[e,if_neg (by rw[hs];decide)]
   ·rintro n4 hv5 ⟨e1,rfl⟩
    simp only[List.cons.injEq,Value.int.injEq,true_and,and_true]at e1
    subst e1
    exact⟨Fr.refl _ _,rfl,rfl⟩
 refine⟨fun lz hv=>∃i:Nat,i<=min dp.toNat n/\lz=[PN (i:Int),PO (rA F i)]/\hv=h,fun lz _=>match lz with
  | [.int _ i,_]=>dp.toNat-i.toNat
  | _=>0,⟨0,PA,rfl,rfl⟩,?_⟩
 rintro i0 n0 hv ⟨i,hi,e1,rfl⟩
 simp only[List.cons.injEq,Value.int.injEq,true_and,and_true]at e1
 obtain⟨rfl,rfl⟩:=e1
 refine⟨b,0,rfl,_,w.dp,ae (fun h2=>?_) fun h2=>hK i PA⟩
 refine⟨b,0,rfl,_,w.nd,ae (fun h3=>?_) fun h3=>hK i PA⟩
 have hce:ac hv b (0+(Int.toNat (i:Int))*1)=some (PR ((48+dg F i:Nat):Int)):=by
  rw[at1 rfl,<-hc _ PA];exact w.cell _ PA
 have e:i64.wrap ((i:Int)+(1:Int))=((i+1:Nat):Int):=by rw[wr PA PA];omega
 have hd:=kx F i
 have e3:u64.wrap (u8.wrap (((48+dg F i:Nat):Int)-(48:Int)))=((dg F i:Nat):Int):=by rw[IntKind.wrap_u8,IntKind.wrap_u64];omega
 refine⟨b,0,rfl,PA,PA,_,hce,?_⟩
 rw[e,e3]
 refine⟨⟨i+1,PA,rfl,rfl⟩,?_⟩
 (try dsimp only);omega
end Go.Proofs.YtmmmmjcfojhiaaaGreatDoor.N
/- The slow fallback: floatBits. Conditions: none. -/
namespace Go.Proofs.YtmmmmjcfojhiaaaGreatDoor.N
open Go.X Go.Proofs.YtmmmmjcfojhiaaaGreatDoor
variable {h:ab} {b:Nat} {ng:Bool}
def pw (x:Int):Int:=if x>=9 then 27 else tP.getD x.toNat 0
theorem Ix :∀i:Fin 9,tP[i.val]? =some (pw (i.val:Int))/\1<=pw (i.val:Int)/\pw (i.val:Int)<=27:=by decide
theorem N7 {x:Int} (h:0<=x):1<=pw x/\pw x<=27:=by
 by_cases h9:x>=9
 ·unfold pw;rw[if_pos h9];decide
 ·have:=Ix ⟨x.toNat,PA⟩
  rw[Rb h]at this
  exact this.2
theorem N8 {x:Int} (h:0<=x) (h9:¬x>=9):tP[x.toNat]? =some (pw x):=by
 have:=Ix ⟨x.toNat,PA⟩
 rw[Rb h]at this
 exact this.1
noncomputable def lpA : Nat -> DF -> Int -> DF × Int
 | 0,s,e=>(s,e)
 | f+1,s,e=>if s.dp>0 then lpA f (shD (-(pw s.dp)) s) (e+pw s.dp)else(s,e)
def low (s:DF):Prop:=s.dp<0\/(s.dp=0/\dg s.F 0<5)
instance (s:DF):Decidable (low s):=by unfold low;infer_instance
noncomputable def lpB : Nat -> DF -> Int -> DF × Int
 | 0,s,e=>(s,e)
 | f+1,s,e=>if low s then lpB f (shD (pw (-s.dp)) s) (e-pw (-s.dp))else(s,e)
def ovE :Int:=(i64.wrap ((i64.wrap ((i64.wrap ((1:Int)*2^(min (Int.toNat 11) 64)))-(1:Int)))+(-1023)))
def fbB (mant ex:Int) (ng:Bool):Int:=
 if ng then bits .or .u64 (bits .or .u64 (bits .and .u64 mant (u64.wrap ((u64.wrap ((1:Int)*2^(min (Int.toNat 52) 64)))-(1:Int)))) (u64.wrap ((u64.wrap (bits .and .i64 (i64.wrap (ex-(-1023))) (i64.wrap ((i64.wrap ((1:Int)*2^(min (Int.toNat 11) 64)))-(1:Int)))))*2^(min (Int.toNat 52) 64)))) (u64.wrap ((u64.wrap ((1:Int)*2^(min (Int.toNat 52) 64)))*2^(min (Int.toNat 11) 64)))
 else bits .or .u64 (bits .and .u64 mant (u64.wrap ((u64.wrap ((1:Int)*2^(min (Int.toNat 52) 64)))-(1:Int)))) (u64.wrap ((u64.wrap (bits .and .i64 (i64.wrap (ex-(-1023))) (i64.wrap ((i64.wrap ((1:Int)*2^(min (Int.toNat 11) 64)))-(1:Int)))))*2^(min (Int.toNat 52) 64)))
noncomputable def tl (F : Nat) : Nat := Classical.epsilon fun m => m <= 800 /\ 0 < m /\ tn (800 - m) ∣ F /\ ja F m
theorem N9 {F m:Nat} (h1:m<=800) (h2:0<m) (h3:tn (800-m)∣ F) (h4:ja F m):tl F=m:=by
 obtain⟨a1,a2,a3,a4⟩:=Classical.epsilon_spec (p:=fun m=>m<=800/\0<m/\tn (800-m)∣ F/\ja F m) ⟨m,h1,h2,h3,h4⟩
 exact ja.uniq a4 h4 a1 h1 a2 h2 a3 h3
noncomputable def fbZ (ng : Bool) (ex mant : Int) : Int × Bool := (fbB mant (if (bits .and .u64 mant (u64.wrap ((1 : Int) * 2 ^ (min (Int.toNat 52) 64)))) == (0 : Int) then -1023 else ex) ng, false)
noncomputable def fbM (ng : Bool) (ex r : Int) : Int × Bool :=
 if r==(u64.wrap ((2:Int)*2^(min (Int.toNat 52) 64)))then
  (if(i64.wrap ((i64.wrap (ex+(1:Int)))-(-1023)))>=(i64.wrap ((i64.wrap ((1:Int)*2^(min (Int.toNat 11) 64)))-(1:Int)))then(fbB 0 ovE ng,true)
  else fbZ ng (i64.wrap (ex+(1:Int))) (Int.fdiv r (2^(min (Int.toNat (1:Int)) 64))))
 else fbZ ng ex r
noncomputable def fbE (ng : Bool) (s : DF) (ex : Int) : Int × Bool :=
 if(i64.wrap (ex-(-1023)))>=(i64.wrap ((i64.wrap ((1:Int)*2^(min (Int.toNat 11) 64)))-(1:Int)))then(fbB 0 ovE ng,true)
 else fbM ng ex (ri (shD 53 s).F (tl (shD 53 s).F) (shD 53 s).dp (shD 53 s).tr)
noncomputable def fbL (ng : Bool) (s : DF) (ex : Int) : Int × Bool :=
 if ex-1< -1022 then fbE ng (shD (-(-1022-(ex-1))) s) (-1022)else fbE ng s (ex-1)
noncomputable def fbF (ng : Bool) (s : DF) : Int × Bool :=
 if s.dp>310 then(fbB 0 ovE ng,true)
 else if s.dp< -330 then(fbB 0 (-1023) ng,false)
 else
  let p:=lpA s.key.toNat s 0
  let q:=lpB (5-p.1.key).toNat p.1 p.2
  fbL ng q.1 q.2
theorem nV (s:DF):10*s.dp<=s.key/\s.key<=10*s.dp+9:=by
 have:=kx s.F 0
 unfold DF.key dky
 omega
theorem HD {s:DF} (h:low s):s.key<5:=by
 have:=nV s
 rcases h with h | ⟨h1,h2⟩
 ·omega
 ·unfold DF.key dky;omega
theorem HE {s:DF} {gl:GL} (g:Gl gl h) (hgb:b∉glB gl) (r:kL h b ng s) (hdp: -400000<=s.dp/\s.dp<=400000):PJ 194 #[ptD b,PW (some ⟨13,0,none⟩)] h fun v h'=>
  Fr [b] h h'/\v= .tuple #[PO (fbF ng s).1,PV (fbF ng s).2]:=by
 have hg:∀{h':ab},Fr [b] h h'->Gl gl h':=fun{h'} f=>g.congr fun x hx=>f.blk x (g.lt x hx) (by rintro hm;rw[Qi]at hm;exact hgb (hm▸hx))
 apply B5
 unfold Jj
 have hd0:=r.full
 obtain⟨n0,r0⟩:=r
 have hp:=r0.pos
 obtain⟨c,w,hc⟩:=r0.raw
 have ret:∀(hv:ab) (V:Int × Bool),Fr [b] h hv->V=fbF ng s->(fun v h'=>Fr [b] h h'/\v=Value.tuple #[PO (fbF ng s).1,PV (fbF ng s).2]) (.tuple #[PO V.1,PV V.2]) hv:=fun hv V f e=>⟨f,by rw[e]⟩
 refine⟨b,0,rfl,_,w.nd,au (fun e=>absurd e PA) fun _=>⟨b,0,rfl,_,w.dp,ae (fun h310=>?_) fun h310=>⟨b,0,rfl,_,w.dp,ae (fun h330=>?_) fun h330=>?_⟩⟩⟩
 ·have hV:((fbB 0 ovE ng,true):Int × Bool)=fbF ng s:=by unfold fbF;rw[if_pos h310]
  refine⟨_,0,rfl,_,g.i1,PB,_,0,rfl,_,g.i2,_,0,rfl,_,g.i0,PB,_,0,rfl,_,g.i2,_,0,rfl,_,g.i1,PB,_,0,rfl,_,g.i0,PB,b,0,rfl,_,w.ng,fun lz hv=>lz=[PO (fbB 0 ovE ng)]/\hv=h,?_,?_⟩
  ·refine aU (fun hn=>⟨_,0,rfl,_,g.i0,PB,_,0,rfl,_,g.i1,PB,?_,rfl⟩) fun hn=>⟨?_,rfl⟩
   ·subst hn;rfl
   ·subst hn;rfl
  ·rintro x hv ⟨e1,rfl⟩
   simp only[List.cons.injEq,Value.int.injEq,true_and,and_true]at e1
   subst e1
   exact ret _ _ (Fr.refl _ _) hV
 ·have hV:((fbB 0 (-1023) ng,false):Int × Bool)=fbF ng s:=by unfold fbF;rw[if_neg h310,if_pos h330]
  refine⟨_,0,rfl,_,g.i2,_,0,rfl,_,g.i0,PB,_,0,rfl,_,g.i2,_,0,rfl,_,g.i1,PB,_,0,rfl,_,g.i0,PB,b,0,rfl,_,w.ng,fun lz hv=>lz=[PO (fbB 0 (-1023) ng)]/\hv=h,?_,?_⟩
  ·refine aU (fun hn=>⟨_,0,rfl,_,g.i0,PB,_,0,rfl,_,g.i1,PB,?_,rfl⟩) fun hn=>⟨?_,rfl⟩
   ·subst hn;rfl
   ·subst hn;rfl
  ·rintro x hv ⟨e1,rfl⟩
   simp only[List.cons.injEq,Value.int.injEq,true_and,and_true]at e1
   subst e1
   exact ret _ _ (Fr.refl _ _) hV
 have hV:fbF ng s=fbL ng (lpB (5-(lpA s.key.toNat s 0).1.key).toNat (lpA s.key.toNat s 0).1 (lpA s.key.toNat s 0).2).1 (lpB (5-(lpA s.key.toNat s 0).1.key).toNat (lpA s.key.toNat s 0).1 (lpA s.key.toNat s 0).2).2:=by
  unfold fbF;rw[if_neg h310,if_neg h330]
 have hk0:=nV s
 obtain⟨JJ,hJJ⟩:∃JJ:Nat->List Value->ab->Prop,JJ=fun f lz hv=>∃(s':DF) (e:Int),lz=[PN e]/\lpA f s' e=lpA s.key.toNat s 0/\s'.key<=f/\ -330<=s'.dp/\s'.dp<=310/\0<=e/\e+27*s'.key<=27*3200/\Fr [b] h hv/\kL hv b ng s':=⟨_,rfl⟩
 refine⟨fun lz hv=>∃m,JJ m lz hv,Lm JJ,?_,?_⟩
 ·subst hJJ
  exact⟨s.key.toNat,s,0,rfl,rfl,PA,PA,PA,PA,PA,Fr.refl _ _,n0,r0⟩
 rintro e0 hv4 hI
 obtain⟨f,hI,hm0⟩:=fm hI
 rw[hJJ]at hI
 obtain⟨s',e,e1,hl,hkf,d1,d2,p0,p1,f4,r4⟩:=hI
 simp only[List.cons.injEq,Value.int.injEq,true_and,and_true]at e1
 replace e1:=e1.symm
 subst e1
 have hF4:=r4.full
 have r4':=r4
 have hk4:=nV s'
 obtain⟨n4,r4⟩:=r4
 obtain⟨c4,w4,hc4⟩:=r4.raw
 have g4:=hg f4
 refine⟨b,0,rfl,_,w4.dp,ae (fun hpos=>?_) fun hpos=>?_⟩
 ·obtain⟨q1,q2⟩:=N7 (x:=s'.dp) PA
  refine⟨b,0,rfl,_,w4.dp,_,_,_,g4.p0,fun lz hv=>lz=[PN (pw s'.dp)]/\hv=hv4,?_,?_⟩
  ·refine ae (fun h9=>⟨by unfold pw;rw[if_pos PA],rfl⟩) fun h9=>?_
   have ht:=g4.p s'.dp.toNat _ (N8 PA PA)
   have ht2:ac hv4 gl.pb (gl.po+(Int.toNat s'.dp)*1)=some (PN (pw s'.dp)):=by rw[Qy];exact ht
   exact⟨_,_,_,g4.p0,b,0,rfl,_,w4.dp,gl.pb,gl.po,rfl,PA,PA,_,ht2,rfl,rfl⟩
  rintro x hv5 ⟨e1,rfl⟩
  simp only[List.cons.injEq,Value.int.injEq,true_and,and_true]at e1
  subst e1
  have e2:i64.wrap (0-pw s'.dp)= -(pw s'.dp):=by rw[wr PA PA];omega
  have e3:i64.wrap (e+pw s'.dp)=e+pw s'.dp:=wr PA PA
  rw[e2,e3]
  refine cq [b] (R:=fun v h'=>v= .tuple #[]/\qT h' b ng (shD (-(pw s'.dp)) s')) (lQ g4 hgb PA PA PA PA PA r4') PC ?_
  rintro _ hv6 f6 ⟨rfl,r6⟩
  obtain⟨a1,a2,a3,a4⟩:=vN (K:= -(pw s'.dp)) PA hF4
  cases f with
  | zero=>omega
  | succ f=>
   refine⟨rfl,ck hm0 (k':=f) ?_ PA⟩
   rw[hJJ]
   refine⟨shD (-(pw s'.dp)) s',e+pw s'.dp,rfl,?_,PA,PA,PA,PA,PA,f4.trans f6,r6.d⟩
   rw[<-hl]
   show _=if s'.dp>0 then _ else _
   rw[if_pos hpos]
 have hl1:lpA s.key.toNat s 0=(s',e):=by
  rw[<-hl]
  cases f with
  | zero=>rfl
  | succ f=>show(if s'.dp>0 then _ else _)=_;rw[if_neg hpos]
 rw[hl1]at hV
 clear hl hkf hm0 hJJ hl1
 refine⟨fun lz hv=>∃(s2:DF) (e2:Int),lz=[PN e2]/\fbF ng s=fbL ng s2 e2/\ -330<=s2.dp/\s2.dp<=30/\e2<=200000/\ -200000<=e2/\Fr [b] h hv/\kL hv b ng s2,?_,?_⟩
 ·obtain⟨J2,hJ2⟩:∃J2:Nat->List Value->ab->Prop,J2=fun f lz hv=>∃(s2:DF) (e2:Int),lz=[PN e2]/\lpB f s2 e2=lpB (5-s'.key).toNat s' e/\5-s2.key<=f/\ -330<=s2.dp/\s2.dp<=30/\e2<=200000/\ -27*3400<=e2+27*s2.key/\Fr [b] h hv/\kL hv b ng s2:=⟨_,rfl⟩
  refine⟨fun lz hv=>∃m,J2 m lz hv,Lm J2,?_,?_⟩
  ·subst hJ2
   exact⟨(5-s'.key).toNat,s',e,rfl,rfl,PA,PA,PA,PA,PA,f4,r4'⟩
  rintro e0 hv7 hI
  obtain⟨f,hI,hm0⟩:=fm hI
  rw[hJ2]at hI
  obtain⟨s2,e2,e1,hl,hkf,d1,d2,p0,p1,f7,r7⟩:=hI
  simp only[List.cons.injEq,Value.int.injEq,true_and,and_true]at e1
  replace e1:=e1.symm
  subst e1
  have hF7:=r7.full
  have r7':=r7
  have hk7:=nV s2
  obtain⟨n7,r7⟩:=r7
  obtain⟨c7,w7,hc7⟩:=r7.raw
  have g7:=hg f7
  have hp7:=r7.pos
  intro K
  have hK:low s2->K hv7:=fun hlow=>by
   unfold K
   have hdl:s2.dp<=0:=by rcases hlow with h | ⟨h,_⟩<;>omega
   obtain⟨q1,q2⟩:=N7 (x:= -s2.dp) PA
   have e0:i64.wrap (0-s2.dp)= -s2.dp:=by rw[wr PA PA];omega
   refine⟨b,0,rfl,_,w7.dp,_,_,_,g7.p0,fun lz hv=>lz=[PN (pw (-s2.dp))]/\hv=hv7,?_,?_⟩
   ·rw[e0]
    refine ae (fun h9=>⟨by unfold pw;rw[if_pos PA],rfl⟩) fun h9=>?_
    have ht:=g7.p (-s2.dp).toNat _ (N8 PA PA)
    have ht2:ac hv7 gl.pb (gl.po+(Int.toNat (i64.wrap (0-s2.dp)))*1)=some (PN (pw (-s2.dp))):=by rw[Qy,e0];exact ht
    exact⟨_,_,_,g7.p0,b,0,rfl,_,w7.dp,gl.pb,gl.po,rfl,PA,PA,_,ht2,rfl,rfl⟩
   rintro x hv9 ⟨e1,rfl⟩
   simp only[List.cons.injEq,Value.int.injEq,true_and,and_true]at e1
   subst e1
   have e3:i64.wrap (e2-pw (-s2.dp))=e2-pw (-s2.dp):=wr PA PA
   rw[e3]
   refine cq [b] (R:=fun v h'=>v= .tuple #[]/\qT h' b ng (shD (pw (-s2.dp)) s2)) (lQ g7 hgb PA PA PA PA PA r7') PC ?_
   rintro _ hv10 f10 ⟨rfl,r10⟩
   obtain⟨a1,a2,a3,a4⟩:=KD (K:=pw (-s2.dp)) PA hF7
   have hlk:=HD hlow
   cases f with
   | zero=>omega
   | succ f=>
    refine⟨rfl,ck hm0 (k':=f) ?_ PA⟩
    rw[hJ2]
    refine⟨shD (pw (-s2.dp)) s2,e2-pw (-s2.dp),rfl,?_,PA,PA,PA,PA,PA,f7.trans f10,r10.d⟩
    rw[<-hl]
    show _=if low s2 then _ else _
    rw[if_pos hlow]
  have hout:¬low s2->∃(s3:DF) (e3:Int),[Value.int IntKind.i64 e2]=[PN e3]/\fbF ng s=fbL ng s3 e3/\ -330<=s3.dp/\s3.dp<=30/\e3<=200000/\ -200000<=e3/\Fr [b] h hv7/\kL hv7 b ng s3:=fun hn=>by
   refine⟨s2,e2,rfl,?_,d1,d2,p0,PA,f7,r7'⟩
   have:lpB (5-s'.key).toNat s' e=(s2,e2):=by
    rw[<-hl]
    cases f with
    | zero=>rfl
    | succ f=>show(if low s2 then _ else _)=_;rw[if_neg hn]
   rw[this]at hV
   exact hV
  have hce:ac hv7 b (0+0)=some (PR ((48+dg s2.F 0:Nat):Int)):=by
   rw[<-hc7 0 hp7];exact w7.cell 0 PB
  refine⟨b,0,rfl,_,w7.dp,ae (fun h1=>hK (.inl h1)) fun h1=>⟨b,0,rfl,_,w7.dp,au (fun h2=>⟨b,0,rfl,_,hce,ae (fun h3=>hK (.inr ⟨h2,PA⟩)) fun h3=>hout ?_⟩) fun h2=>hout ?_⟩⟩
  ·rintro(h | ⟨_,h⟩)<;>omega
  ·rintro(h | ⟨h,_⟩)<;>omega
 clear hV p0 p1 d1 d2 f4 r4 r4' hF4 hk4 w4 hc4 g4 hpos
 rintro e0 hv11 ⟨s2,e2,e1,hV,d1,d2,p0,p1,f11,r11⟩
 simp only[List.cons.injEq,Value.int.injEq,true_and,and_true]at e1
 subst e1
 have hF11:=r11.full
 have g11:=hg f11
 have ew:i64.wrap (e0-(1:Int))=e0-1:=wr PA PA
 have ew2:i64.wrap ((-1023)+(1:Int))= -1022:=by decide
 refine⟨_,0,rfl,_,g11.i2,fun lz hv=>∃(s3:DF) (e3:Int),lz=[PN e3]/\fbF ng s=fbE ng s3 e3/\ -300000<=s3.dp/\s3.dp<=30/\e3<=200000/\ -200000<=e3/\Fr [b] h hv/\kL hv b ng s3,?_,?_⟩
 ·rw[ew,ew2]
  refine ae (fun hlt=>?_) fun hlt=>?_
  ·refine⟨_,0,rfl,_,g11.i2,?_⟩
   rw[ew2]
   have e4:i64.wrap (-1022-(e0-1))= -1022-(e0-1):=wr PA PA
   have e5:i64.wrap (0-(-1022-(e0-1)))= -(-1022-(e0-1)):=by rw[wr PA PA];omega
   have e6:i64.wrap (e0-1+(-1022-(e0-1)))= -1022:=by rw[wr PA PA];omega
   rw[e4,e5,e6]
   refine cq [b] (R:=fun v h'=>v= .tuple #[]/\qT h' b ng (shD (-(-1022-(e0-1))) s2)) (lQ g11 hgb PA PA PA PA PA r11) PC ?_
   rintro _ hv12 f12 ⟨rfl,r12⟩
   obtain⟨a1,a2,a3,a4⟩:=vN (K:= -(-1022-(e0-1))) PA hF11
   refine⟨rfl,_,_,rfl,?_,PA,PA,PA,PA,f11.trans f12,r12.d⟩
   rw[hV];unfold fbL;rw[if_pos hlt]
  ·exact⟨s2,e0-1,rfl,by rw[hV];unfold fbL;rw[if_neg hlt],PA,d2,PA,PA,f11,r11⟩
 clear hV d1 d2 p0 p1 f11 r11 hF11 g11 ew
 rintro x hv13 ⟨s3,e3,e1,hV,d1,d2,p0,p1,f13,r13⟩
 simp only[List.cons.injEq,Value.int.injEq,true_and,and_true]at e1
 subst e1
 have g13:=hg f13
 have r13':=r13
 obtain⟨n13,r13⟩:=r13
 obtain⟨c13,w13,hc13⟩:=r13.raw
 refine⟨_,0,rfl,_,g13.i2,_,0,rfl,_,g13.i1,PB,ae (fun hov=>?_) fun hov=>?_⟩
 ·have hV2:((fbB 0 ovE ng,true):Int × Bool)=fbF ng s:=by rw[hV];unfold fbE;rw[if_pos hov]
  refine⟨_,0,rfl,_,g13.i1,PB,_,0,rfl,_,g13.i2,_,0,rfl,_,g13.i0,PB,_,0,rfl,_,g13.i2,_,0,rfl,_,g13.i1,PB,_,0,rfl,_,g13.i0,PB,b,0,rfl,_,w13.ng,fun lz hv=>lz=[PO (fbB 0 ovE ng)]/\hv=hv13,?_,?_⟩
  ·refine aU (fun hn=>⟨_,0,rfl,_,g13.i0,PB,_,0,rfl,_,g13.i1,PB,?_,rfl⟩) fun hn=>⟨?_,rfl⟩
   ·subst hn;rfl
   ·subst hn;rfl
  ·rintro x hv ⟨e1,rfl⟩
   simp only[List.cons.injEq,Value.int.injEq,true_and,and_true]at e1
   subst e1
   exact ret _ _ f13 hV2
 have hV2:fbF ng s=fbM ng x (ri (shD 53 s3).F (tl (shD 53 s3).F) (shD 53 s3).dp (shD 53 s3).tr):=by rw[hV];unfold fbE;rw[if_neg hov]
 clear hV hov
 have e53:i64.wrap (u64.wrap ((1:Int)+52))=53:=by decide
 refine⟨_,0,rfl,_,g13.i0,?_⟩
 rw[e53]
 refine cq [b] (R:=fun v h'=>v= .tuple #[]/\qT h' b ng (shD 53 s3)) (lQ g13 hgb PB PB PB PA PA r13') PC ?_
 rintro _ hv15 f15 ⟨rfl,m15,r15,t15⟩
 have htl:=N9 r15.le r15.pos r15.dvd t15
 rw[htl]at hV2
 refine⟨rfl,bB (N6 r15) ?_⟩
 rintro _ hv16 f16 ⟨rfl,rfl⟩
 refine⟨_,rfl,?_⟩
 generalize ri (shD 53 s3).F m15 (shD 53 s3).dp (shD 53 s3).tr=y at hV2
 have f17:=f13.trans f15
 have g17:=hg f17
 obtain⟨c17,w17,_⟩:=r15.raw
 intro K2
 have hK2:∀ex mant,fbF ng s=fbZ ng ex mant->K2 ex mant hv16:=fun ex mant hZ=>by
  unfold K2
  refine⟨_,0,rfl,_,g17.i0,PB,fun lz hv=>lz=[PN (if(bits .and .u64 mant (u64.wrap ((1:Int)*2^(min (Int.toNat 52) 64))))==(0:Int)then-1023 else ex)]/\hv=hv16,?_,?_⟩
  ·refine aU (fun hb=>⟨_,0,rfl,_,g17.i2,by rw[if_pos hb],rfl⟩) fun hb=>⟨by rw[if_neg (by rw[hb];decide)],rfl⟩
  rintro ex6 hv19 ⟨e1,rfl⟩
  simp only[List.cons.injEq,Value.int.injEq,true_and,and_true]at e1
  unfold fbZ at hZ
  rw[<-e1]at hZ
  clear e1
  refine⟨_,0,rfl,_,g17.i0,PB,_,0,rfl,_,g17.i2,_,0,rfl,_,g17.i1,PB,_,0,rfl,_,g17.i0,PB,b,0,rfl,_,w17.ng,fun lz hv=>lz=[PO (fbB mant ex6 ng)]/\hv=hv19,?_,?_⟩
  ·refine aU (fun hn=>⟨_,0,rfl,_,g17.i0,PB,_,0,rfl,_,g17.i1,PB,?_,rfl⟩) fun hn=>⟨?_,rfl⟩
   ·subst hn;rfl
   ·subst hn;rfl
  ·rintro x hv ⟨e1,rfl⟩
   simp only[List.cons.injEq,Value.int.injEq,true_and,and_true]at e1
   subst e1
   exact ret _ (_,false) f17 hZ.symm
 refine⟨_,0,rfl,_,g17.i0,PB,aU (fun hb=>?_) fun hb=>hK2 _ _ ?_⟩
 ·refine⟨PB,_,0,rfl,_,g17.i2,_,0,rfl,_,g17.i1,PB,ae (fun hov=>?_) fun hov=>hK2 _ _ ?_⟩
  ·have hV3:((fbB 0 ovE ng,true):Int × Bool)=fbF ng s:=by rw[hV2];unfold fbM;rw[if_pos hb,if_pos hov]
   refine⟨_,0,rfl,_,g17.i1,PB,_,0,rfl,_,g17.i2,_,0,rfl,_,g17.i0,PB,_,0,rfl,_,g17.i2,_,0,rfl,_,g17.i1,PB,_,0,rfl,_,g17.i0,PB,b,0,rfl,_,w17.ng,fun lz hv=>lz=[PO (fbB 0 ovE ng)]/\hv=hv16,?_,?_⟩
   ·refine aU (fun hn=>⟨_,0,rfl,_,g17.i0,PB,_,0,rfl,_,g17.i1,PB,?_,rfl⟩) fun hn=>⟨?_,rfl⟩
    ·subst hn;rfl
    ·subst hn;rfl
   ·rintro x hv ⟨e1,rfl⟩
    simp only[List.cons.injEq,Value.int.injEq,true_and,and_true]at e1
    subst e1
    exact ret _ _ f17 hV3
  ·rw[hV2];unfold fbM;rw[if_pos hb,if_neg hov]
 ·rw[hV2];unfold fbM;rw[if_neg (by rw[hb];decide)]
end Go.Proofs.YtmmmmjcfojhiaaaGreatDoor.N
/- The slow fallback: set. Conditions: none. -/
namespace Go.Proofs.YtmmmmjcfojhiaaaGreatDoor.N
open Go.X Go.Proofs.YtmmmmjcfojhiaaaGreatDoor
variable {h:ab} {b:Nat}
def scA :Nat->Bool->PZ->Nat
 | A,_,[]=>A
 | A,dot,c::r=>if c=46 then(if dot then A else scA A true r)else if isD c then scA (A*10+(c.toNat-48)) dot r else A
structure JA (l:PZ) (stF:RS) (rest:PZ) (AF:Nat) (st:RS) (k A:Nat):Prop where
 inv:Inv l stF rest st k
 sc:scA A st.dot (l.drop k)=AF
 lt:A<tn st.nd
 ge:0<st.nd->tn (st.nd-1)<=A
theorem tV {l:PZ} {k:Nat} {c:UInt8} (hc:l[k]? =some c):l.drop k=c::l.drop (k+1):=by
 have hk:k<l.length:=(List.getElem?_eq_some_iff.1 hc).1
 rw[Qz hk];congr 1;exact(List.getElem?_eq_some_iff.1 hc).2
theorem JA.step {l:PZ} {stF st:RS} {rest:PZ} {AF k A:Nat} (J:JA l stF rest AF st k A) {c:UInt8} (hc:l[k]? =some c) (hd:isD c=true) (h46:c≠46):JA l stF rest AF (aN st (c.toNat-48)) (k+1) (A*10+(c.toNat-48)):=by
 have hs:=J.sc
 rw[tV hc]at hs
 simp only[scA,if_neg h46,hd,if_true]at hs
 have hdd:=cb.1 hd
 have hlt:=J.lt
 have hge:=J.ge
 have hdot:(aN st (c.toNat-48)).dot=st.dot:=by unfold aN;split<;>(try split)<;>rfl
 refine⟨J.inv.step hc hd h46,by rw[hdot];exact hs,?_,?_⟩
 ·unfold aN
  split
  ·rename_i h0
   show _<tn st.nd
   rw[h0.2,dQ]at hlt ⊢
   omega
  ·split
   ·show _<tn (st.nd+1);rw[cx];omega
   ·show _<tn (st.nd+1);rw[cx];omega
 ·unfold aN
  have main:¬(c.toNat-48=0/\st.nd=0)->tn (st.nd+1-1)<=A*10+(c.toNat-48):=fun hn=>by
   rw[show st.nd+1-1=st.nd by omega]
   by_cases h0:st.nd=0
   ·rw[h0,dQ];omega
   ·have:=hge PA
    have e:tn st.nd=tn (st.nd-1)*10:=by rw[<-cx];congr 1;omega
    omega
  split
  ·rename_i h0
   show 0<st.nd->_
   omega
  ·rename_i h0
   split
   ·exact fun _=>main h0
   ·exact fun _=>main h0
theorem JA.dots {l:PZ} {stF st:RS} {rest:PZ} {AF k A:Nat} (J:JA l stF rest AF st k A) (hc:l[k]? =some 46) (hd:st.dot=false):JA l stF rest AF (eO st) (k+1) A:=by
 have hs:=J.sc
 rw[tV hc]at hs
 simp only[scA,if_true,hd,Qq,if_false]at hs
 exact⟨J.inv.dots hc hd,hs,J.lt,J.ge⟩
theorem JA.stop {l:PZ} {stF st:RS} {rest:PZ} {AF k A:Nat} (J:JA l stF rest AF st k A) {c:UInt8} (hc:l[k]? =some c) (hd:c≠46/\isD c=false):A=AF:=by
 have hs:=J.sc
 rw[tV hc]at hs
 simp only[scA,if_neg hd.1,hd.2,Qq,if_false]at hs
 exact hs
theorem JA.fin {l:PZ} {stF st:RS} {rest:PZ} {AF k A:Nat} (J:JA l stF rest AF st k A) (hk:¬k<l.length):A=AF:=by
 have hs:=J.sc
 rw[RF PA]at hs
 exact hs
def DA (h:ab) (b:Nat) (st:RS) (A:Nat) (dp:Int) (ng:Bool):Prop:=∃c,Raw h b c st.nd dp ng false/\∀i,i<st.nd->c i=((48+A/tn (st.nd-1-i) % 10:Nat):Int)
theorem DA.rep {st:RS} {A:Nat} {dp:Int} {ng:Bool} (d:DA h b st A dp ng) (hn:0<st.nd) (h8:st.nd<=800) (hlt:A<tn st.nd) (hge:tn (st.nd-1)<=A):kL h b ng ⟨A*tn (800-st.nd),dp,false⟩:=by
 obtain⟨c,w,hc⟩:=d
 refine⟨st.nd,⟨c,w,fun i hi=>?_⟩,h8,⟨A,Qo _ _⟩,?_,?_⟩
 ·rw[hc i hi]
  unfold dg
  have e:tn (799-i)=tn (st.nd-1-i)*tn (800-st.nd):=by rw[<-bG];congr 1;omega
  show _=((48+A*tn (800-st.nd)/tn (799-i) % 10:Nat):Int)
  rw[e,RM _ _ (aZ _)]
 ·rw[show tn 799=tn (st.nd-1)*tn (800-st.nd) by rw[<-bG];congr 1;omega]
  exact P1 _ hge
 ·rw[show tn 800=tn st.nd*tn (800-st.nd) by rw[<-bG];congr 1;omega]
  exact P5 hlt (aZ _)
theorem DA.push {st:RS} {A:Nat} {dp:Int} {ng:Bool} {d:Nat} (D:DA h b st A dp ng) (h8:st.nd<800) (hd:d<=9) {st':RS} (hst:st'.nd=st.nd+1) {v:Int} (hv:v=((48+d:Nat):Int)):
  DA (aj (aj h b st.nd (PR v)) b 800 (PN ((st.nd+1:Nat):Int))) b st' (A*10+d) dp ng:=by
 subst hv
 obtain⟨c,w,hc⟩:=D
 have w2:=(w.setD h8 ((48+d:Nat):Int)).setN ((st.nd+1:Nat):Int)
 refine⟨_,by rw[hst];exact w2,fun i hi=>?_⟩
 rw[hst]at hi ⊢
 show(if i=st.nd then _ else c i)=_
 by_cases e:i=st.nd
 ·rw[if_pos e,e,show st.nd+1-1-st.nd=0 by omega,dQ,Nat.div_one]
  congr 1;omega
 ·rw[if_neg e,hc i PA,show st.nd+1-1-i=(st.nd-1-i)+1 by omega,cx,Qo (tn (st.nd-1-i)) 10,<-Qt,show(A*10+d)/10=A by omega]
theorem KE {s:P0} {stF:RS} {rest:PZ} {c0:Nat->Int} {ng0 tr0:Bool} (T:Txt s stF rest) (hsz7:s.size<=700) (hm:stF.m≠0) (r0:Raw h b c0 0 0 ng0 tr0):
  PJ 193 #[ptD b,PU s] h fun v h'=>Fr [b] h h'/\v= PV true/\
   kL h' b (av s.data.toList).1 ⟨scA 0 false (s.data.toList.drop (av s.data.toList).2)*tn (800-stF.nd),(if stF.dot then stF.dp else(stF.nd:Int))+cZ rest,false⟩/\ -20000<=(if stF.dot then stF.dp else(stF.nd:Int))+cZ rest/\(if stF.dot then stF.dp else(stF.nd:Int))+cZ rest<=20000:=by
 have hsz:s.size=s.data.toList.length:=rfl
 obtain⟨_,hhd,hch,hsc,hdig,hrest⟩:=T
 generalize hl:s.data.toList=l at*
 have at':∀k:Nat,s[k]? =l[k]? :=fun k=>by rw[qR,hl]
 obtain⟨a0,r0',hl0,_⟩:=hhd
 have hl1:0<l.length:=by rw[hl0];simp
 have hj1:(av l).2<=1:=by
  rw[hl0];unfold av;dsimp only;split
  ·exact P3 _
  ·split<;>simp
 obtain⟨AF,hAF⟩:∃AF,AF=scA 0 false (l.drop (av l).2):=⟨_,rfl⟩
 have hJ0:JA l stF rest AF RS0 (av l).2 0:=⟨⟨hsc,PB,PB,PB,QU _,by show-((av l).2:Int)<=0;omega,by show(0:Int)<=(av l).2;omega,PA⟩,hAF.symm,PB,fun h=>absurd h PB⟩
 rw[<-hAF]
 apply B4
 unfold Ji
 refine⟨b,0,rfl,⟨_,r0.ng⟩,r0.free 802 PB,?_⟩
 intro hv
 have w1:Raw hv b c0 0 0 false tr0:=r0.setS false
 have f1:Fr [b] h hv:=frb _ _ _ _
 clear_value hv
 refine⟨b,0,rfl,⟨_,w1.tr⟩,w1.free 803 PB,?_⟩
 intro hv2
 have w2:Raw hv2 b c0 0 0 false false:=w1.setT false
 have f2:Fr [b] h hv2:=fr2 f1 _ _
 clear_value hv2
 have ea0:s[Int.toNat (0:Int)]? =some a0:=by rw[show Int.toNat (0:Int)=0 from rfl,at',hl0];rfl
 rw[hsz]
 refine ae (fun h0=>absurd h0 PA) fun _=>⟨PB,PA,a0,ea0,fun lz hv=>lz=[PN ((av l).2:Int)]/\Fr [b] h hv/\Raw hv b c0 0 0 (av l).1 false,?_,?_⟩
 ·have hsg:av l=if a0=43 then(false,1)else if a0=45 then(true,1)else(false,0):=by rw[hl0];rfl
  refine au (fun h43=>?_) fun h43=>⟨fun lz hv=>lz=[PN ((av l).2:Int)]/\Fr [b] h hv/\Raw hv b c0 0 0 (av l).1 false,au (fun h45=>?_) fun h45=>?_,?_⟩
  ·rw[hsg,if_pos (eqB.1 h43)];exact⟨rfl,f2,w2⟩
  ·rw[hsg,if_neg (fun e=>h43 (eqB.2 e)),if_pos (eqB.1 h45)]
   exact⟨b,0,rfl,⟨_,w2.ng⟩,w2.free 802 PB,rfl,fr2 f2 _ _,w2.setS true⟩
  ·rw[hsg,if_neg (fun e=>h43 (eqB.2 e)),if_neg (fun e=>h45 (eqB.2 e))];exact⟨rfl,f2,w2⟩
  ·rintro i hv4 ⟨e1,q⟩
   simp only[List.cons.injEq,Value.int.injEq,true_and,and_true]at e1
   subst e1
   exact⟨rfl,q⟩
 clear f1 w1 f2 w2
 rintro i2 hv5 ⟨e1,f5,w5⟩
 simp only[List.cons.injEq,Value.int.injEq,true_and,and_true]at e1
 subst e1
 generalize (av l).1=ng at*
 generalize (av l).2=j at*
 refine⟨fun lz hv=>∃k:Nat,lz=[PN (k:Int),PV stF.dot,PV stF.dig]/\Inv l stF rest stF k/\rest=l.drop k/\AF<tn stF.nd/\(0<stF.nd->tn (stF.nd-1)<=AF)/\Fr [b] h hv/\DA hv b stF AF stF.dp ng,?_,?_⟩
 ·--the digits
  refine⟨fun lz hv=>∃(st:RS) (k A:Nat),lz=[PN (k:Int),PV st.dot,PV st.dig]/\JA l stF rest AF st k A/\Fr [b] h hv/\DA hv b st A st.dp ng,fun lz _=>match lz with
   | [.int _ i,_,_]=>l.length-i.toNat
   | _=>0,⟨RS0,j,0,rfl,hJ0,f5,c0,w5,fun i hi=>absurd hi (Nat.not_lt_zero _)⟩,?_⟩
  rintro i3 sd sg hv6 ⟨st,k,A,e1,J,f6,D⟩
  simp only[List.cons.injEq,Value.int.injEq,Value.bool.injEq,true_and,and_true]at e1
  obtain⟨rfl,rfl,rfl⟩:=e1
  have hI:=J.inv
  have b2:=hI.nd;have b3:=hI.d0;have b4:=hI.d1;have b5:=hI.k
  refine ae (fun hlt=>?_) fun hge=>?_
  ·have hk:k<l.length:=by omega
   obtain⟨c,hc⟩:∃c,l[k]? =some c:=⟨_,List.getElem?_eq_getElem hk⟩
   have hcm:c∈l:=Qa hc
   have hcs:s[Int.toNat (k:Int)]? =some c:=by rw[P8,at',hc]
   refine⟨fun lz hv'=>∃(st':RS) (A':Nat),lz=[PV st'.dot,PV st'.dig]/\JA l stF rest AF st' (k+1) A'/\Fr [b] h hv'/\DA hv' b st' A' st'.dp ng,?_,?_⟩
   ·intro K2
    have hK2:c≠46/\isD c=false->K2 hv6:=fun hd=>by
     unfold K2
     obtain⟨e1,e2⟩:=hI.stop hc (.inr hd)
     have e3:=J.stop hc hd
     have hlt:=J.lt
     have hge:=J.ge
     rw[e1]at D hI hlt hge ⊢
     rw[e3]at D hlt hge
     exact⟨k,rfl,hI,e2,hlt,hge,f6,D⟩
    refine⟨PA,hlt,c,hcs,au (fun h=>absurd (show c.toNat=95 by omega) (fun e=>(hch c hcm).2.2 (QE.1 e))) fun _=>⟨PA,hlt,c,hcs,au (fun h46=>?_) fun h46=>?_⟩⟩
    ·have hc46:c=46:=eqB.1 h46
     subst hc46
     refine aU (fun hd=>?_) fun hd=>?_
     ·--a second point:no number's text
      exfalso
      obtain⟨_,e2⟩:=hI.stop hc (.inl ⟨rfl,hd⟩)
      rw[tV hc]at e2
      rcases hrest with h0 | ⟨x,sg,ds,hE⟩
      ·rw[h0]at e2;cases e2
      ·have heq:=hE.eq
       rw[e2]at heq
       have:=(List.cons.inj heq).1
       rcases hE.e with e | e
       ·rw[e]at this;exact absurd this PB
       ·rw[e]at this;exact absurd this PB
     ·have D0:=D
      obtain⟨cc,w,hcc⟩:=D
      refine⟨b,0,rfl,_,w.nd,b,0,rfl,⟨_,w.dp⟩,w.free 801 PB,?_⟩
      exact⟨eO st,A,rfl,J.dots hc hd,fr2 f6 _ _,cc,w.setP _,hcc⟩
    have h46':c≠46:=fun e=>h46 (eqB.2 e)
    refine⟨PA,hlt,c,hcs,ae (fun h48=>⟨PA,hlt,c,hcs,ae (fun h57=>?_) fun h57=>hK2 ⟨h46',?_⟩⟩) fun h48=>hK2 ⟨h46',?_⟩⟩
    ·have hd:isD c=true:=cb.2 ⟨PA,PA⟩
     have J2:=J.step hc hd h46'
     intro K
     have hK:¬(c.toNat-48=0/\st.nd=0)->K hv6:=fun hq=>by
      unfold K
      have D0:=D
      obtain⟨cc,w,hcc⟩:=D
      refine⟨b,0,rfl,_,w.nd,fun _ hv'=>Fr [b] h hv'/\DA hv' b (aN st (c.toNat-48)) (A*10+(c.toNat-48)) st.dp ng,ae (fun _=>?_) fun h8=>absurd (show((st.nd:Nat):Int)<800 by omega) h8,?_⟩
      ·refine⟨b,0,rfl,_,w.nd,PA,hlt,c,hcs,b,0,rfl,PA,PA,?_⟩
       rw[at1 rfl]
       refine⟨⟨_,w.cell _ PA⟩,w.free _ PA,?_⟩
       intro hv10
       have w10:Raw hv10 b _ _ _ _ _:=w.setD (i:=st.nd) PA ((c.toNat:Nat):Int)
       refine⟨b,0,rfl,_,w10.nd,b,0,rfl,⟨_,w10.nd⟩,w10.free 800 PB,fr2 (fr2 f6 _ _) _ _,?_⟩
       rw[show i64.wrap ((st.nd:Int)+(1:Int))=((st.nd+1:Nat):Int)from wr1 PA]
       refine D0.push (d:=c.toNat-48) PA PA ?_ PA
       unfold aN;rw[if_neg hq];split<;>rfl
      ·rintro hv14 ⟨f14,D14⟩
       refine⟨aN st (c.toNat-48),_,?_,J2,f14,?_⟩
       ·have e5:(aN st (c.toNat-48)).dot=st.dot/\(aN st (c.toNat-48)).dig=true:=by unfold aN;split<;>(try split)<;>exact⟨rfl,rfl⟩
        rw[e5.1,e5.2]
       ·have e6:(aN st (c.toNat-48)).dp=st.dp:=by unfold aN;rw[if_neg hq];split<;>rfl
        rw[e6];exact D14
     refine⟨PA,hlt,c,hcs,au (fun h0=>?_) fun h0=>hK fun q=>h0 PA⟩
     have D0:=D
     obtain⟨cc,w,hcc⟩:=D0
     refine⟨b,0,rfl,_,w.nd,au (fun hn=>?_) fun hn=>hK fun q=>hn PA⟩
     refine⟨b,0,rfl,_,w.dp,b,0,rfl,⟨_,w.dp⟩,w.free 801 PB,?_⟩
     have hz:c.toNat-48=0/\st.nd=0:=⟨PA,PA⟩
     have hst:aN st (c.toNat-48)=⟨st.m,st.tr,st.dot,true,st.nd,st.nm,st.dp-1⟩:=by unfold aN;rw[if_pos hz]
     rw[wr PA PA]
     rw[hst]at J2
     exact⟨_,_,rfl,J2,fr2 f6 _ _,cc,w.setP _,fun i hi=>absurd (show i<st.nd from hi) PA⟩
    ·have:¬c.toNat<=57:=by omega
     simp[isD,this]
    ·have:¬ 48<=c.toNat:=by omega
     simp[isD,this]
   ·rintro d1 d2 hv16 ⟨st',A',e1,J',f16,D16⟩
    simp only[List.cons.injEq,Value.bool.injEq,true_and,and_true]at e1
    obtain⟨rfl,rfl⟩:=e1
    rw[wr1 PA]
    refine⟨⟨st',k+1,A',rfl,J',f16,D16⟩,?_⟩
    (try dsimp only);omega
  ·obtain⟨e1,e2⟩:=hI.fin PA
   have e3:=J.fin PA
   have hlt:=J.lt
   have hge:=J.ge
   rw[e1]at D hI hlt hge ⊢
   rw[e3]at D hlt hge
   exact⟨k,rfl,hI,e2,hlt,hge,f6,D⟩
 clear f5 w5 hJ0 hsc
 rintro i4 sd sg hv17 ⟨k,e1,hI,hrk,hAlt,hAge,f17,D17⟩
 simp only[List.cons.injEq,Value.int.injEq,Value.bool.injEq,true_and,and_true]at e1
 obtain⟨rfl,rfl,rfl⟩:=e1
 have b1:=hI.nm;have b2:=hI.nd;have b3:=hI.d0;have b4:=hI.d1;have b5:=hI.k
 have hnd:0<stF.nd:=by
  have h1:=hI.m;have h2:=hI.nn
  rcases Nat.eq_zero_or_pos stF.nm with h0 | h0
  ·rw[h0,RA]at h1;omega
  ·omega
 rw[hdig]
 obtain⟨dp,hdp⟩:∃dp:Int,dp=if stF.dot then stF.dp else(stF.nd:Int):=⟨_,rfl⟩
 have hdpb: -(k:Int)<=dp/\dp<=k:=by rw[hdp];split<;>omega
 rw[<-hdp]
 refine az rfl ⟨fun _ hv=>Fr [b] h hv/\DA hv b stF AF dp ng,?_,?_⟩
 ·refine bj (fun hd=>?_) fun hd=>⟨f17,by rw[hdp,if_pos hd];exact D17⟩
  obtain⟨cc,w,hcc⟩:=D17
  refine⟨b,0,rfl,_,w.nd,b,0,rfl,⟨_,w.dp⟩,w.free 801 PB,fr2 f17 _ _,cc,?_,hcc⟩
  rw[hdp,if_neg (by rw[hd];decide)]
  exact w.setP _
 rintro hv19 ⟨f19,D19⟩
 intro K7
 have hK7:∀hv,Fr [b] h hv->DA hv b stF AF (dp+cZ rest) ng-> -20000<=dp+cZ rest->dp+cZ rest<=20000->K7 (l.length:Int) hv:=fun hv f D e1 e2=>by
  unfold K7
  refine cn (fun h=>absurd rfl h) fun _=>⟨f,rfl,?_,e1,e2⟩
  exact D.rep hnd PA hAlt (hAge hnd)
 refine ae (fun hlt=>?_) fun hge=>?_
 ·have hk:k<l.length:=by omega
  have hdr:l.drop k=l[k]::l.drop (k+1):=Qz hk
  rcases hrest with h0 | ⟨c,sg,ds,hE⟩
  ·rw[hrk,hdr]at h0;cases h0
  have heq:=hE.eq
  rw[hrk,hdr]at heq
  obtain⟨hc,htl⟩:=List.cons.inj heq
  have hckk:l[k]? =some c:=by rw[List.getElem?_eq_getElem hk,hc]
  have hlen:(l.drop (k+1)).length=l.length-(k+1):=Ry
  rw[htl,P9]at hlen
  have hdsn:0<ds.length:=List.length_pos_iff.2 hE.ne
  have hsgn:sg.length<=1:=by rcases hE.sg with e | e | e<;>subst e<;>simp
  have gat:∀q,(sg++ds)[q]? =l[k+1+q]? :=fun q=>by rw[<-htl,List.getElem?_drop]
  have hdg0:∀d∈ds,48<=d.toNat/\d.toNat<=57:=fun d hd=>cb.1 (hE.dg d hd)
  have hV:cy ds<=9999:=by
   have h1:=lI hdg0 ds.length (P3 _)
   rw[RK]at h1
   have h2:=P7 (n:=10) PB hE.le
   have h3:(10:Nat)^4=10000:=rfl
   omega
  have hev:cZ rest=(cy ds:Int)*(if sg=[45]then-1 else 1):=by rw[hE.eq];exact y9 hE.sg hdg0
  have hevb: -9999<=cZ rest/\cZ rest<=9999:=by rw[hev];split<;>omega
  refine⟨PA,hlt,c,by rw[P8,at',hckk],?_⟩
  refine bB (R:=fun v _=>v= PR (bits .or .u8 ((c.toNat:Nat):Int) 32)) ((Dx (R:=fun q=>q=bits .or .u8 ((c.toNat:Nat):Int) 32) rfl hv19 (Hp.nil _)).mono fun v h' ⟨a,P,e1,e2⟩=>⟨P.fr,by rw[e1,e2]⟩) ?_
  rintro _ hv20 f20 rfl
  have f20':Fr [b] h hv20:=f19.trans f20.nil
  have D20:DA hv20 b stF AF dp ng:=let ⟨cc,w,hcc⟩:=D19;⟨cc,w.fr f20 PC,hcc⟩
  refine⟨_,rfl,fun lz hv=>lz=[PN (l.length:Int)]/\Fr [b] h hv/\DA hv b stF AF (dp+cZ rest) ng,au (fun _=>?_) fun h=>absurd ((Dz c).2 hE.e) h,?_⟩
  ·rw[wr1 (k:=k) PA]
   refine ae (fun h=>absurd h PA) fun _=>?_
   obtain⟨c1,hc1⟩:∃c1,(sg++ds)[0]? =some c1:=⟨_,List.getElem?_eq_getElem (by rw[P9];omega)⟩
   refine⟨PA,PA,c1,by rw[P8,at',<-hc1,gat],?_⟩
   have c1d:sg=[]->48<=c1.toNat:=fun e=>by
    subst e
    exact(hdg0 c1 (Qa (by simpa using hc1))).1
   have c1s:∀x:UInt8,sg=[x]->c1=x:=fun x e=>by
    subst e;simp at hc1;exact hc1.symm
   refine⟨fun lz hv=>lz=[PN ((k+1+sg.length:Nat):Int),PN (if sg=[45]then-1 else 1)]/\hv=hv20,au (fun h=>?_) fun h=>⟨fun lz hv=>lz=[PN ((k+1+sg.length:Nat):Int),PN (if sg=[45]then-1 else 1)]/\hv=hv20,au (fun h2=>?_) fun h2=>?_,fun _ _ _ h=>h⟩,?_⟩
   ·have hc43:c1=43:=eqB.1 h
    rcases hE.sg with e | e | e
    ·have:=c1d e;rw[hc43]at this;exact absurd this PB
    ·rw[wr1 PA,e];exact⟨rfl,rfl⟩
    ·have:=c1s _ e;rw[hc43]at this;exact absurd this PB
   ·have hc45:c1=45:=eqB.1 h2
    rcases hE.sg with e | e | e
    ·have:=c1d e;rw[hc45]at this;exact absurd this PB
    ·have:=c1s _ e;rw[hc45]at this;exact absurd this PB
    ·rw[wr1 PA,e];exact⟨rfl,rfl⟩
   ·rcases hE.sg with e | e | e
    ·rw[e];exact⟨rfl,rfl⟩
    ·exact absurd (eqB.2 (c1s _ e)) h
    ·exact absurd (eqB.2 (c1s _ e)) h2
   rintro i6 es hv22 ⟨e1,rfl⟩
   simp only[List.cons.injEq,Value.int.injEq,true_and,and_true]at e1
   obtain⟨rfl,rfl⟩:=e1
   have dat:∀q,q<ds.length->∃d,ds[q]? =some d/\l[k+1+sg.length+q]? =some d/\48<=d.toNat/\d.toNat<=57:=by
    intro q hq
    refine⟨ds[q],List.getElem?_eq_getElem hq,?_,hdg0 _ (RJ hq)⟩
    rw[show k+1+sg.length+q=k+1+(sg.length+q) by omega,<-gat,List.getElem?_append_right PA,show sg.length+q-sg.length=q by omega,List.getElem?_eq_getElem hq]
   intro K3
   refine ae (fun h=>absurd h PA) fun _=>?_
   obtain⟨d0,_,hd0,r1,r2⟩:=dat 0 hdsn
   rw[RU]at hd0
   refine⟨PA,PA,d0,by rw[P8,at',hd0],ae (fun h=>absurd h PA) fun _=>⟨PA,PA,d0,by rw[P8,at',hd0],ae (fun h=>absurd h PA) fun _=>?_⟩⟩
   intro K6
   have hK6:K6 (l.length:Int) (cy ds:Int) hv22:=by
    unfold K6
    obtain⟨cc,w,hcc⟩:=D20
    refine⟨b,0,rfl,_,w.dp,b,0,rfl,⟨_,w.dp⟩,w.free 801 PB,?_⟩
    have e2:i64.wrap (dp+(i64.wrap ((cy ds:Int)*(if sg=[45]then-1 else 1))))=dp+cZ rest:=by
     rw[<-hev,wr (x:=cZ rest) PA PA,wr PA PA]
    rw[e2]
    exact⟨rfl,fr2 f20' _ _,cc,w.setP _,hcc⟩
   refine⟨fun lz hv=>∃q:Nat,q<=ds.length/\lz=[PN ((k+1+sg.length+q:Nat):Int),PN (cy (ds.take q):Int)]/\hv=hv22,fun lz _=>match lz with
    | [.int _ i,_]=>l.length-i.toNat
    | _=>0,⟨0,QU _,rfl,rfl⟩,?_⟩
   rintro i7 e7 hv24 ⟨q,hq,e1,rfl⟩
   simp only[List.cons.injEq,Value.int.injEq,true_and,and_true]at e1
   obtain⟨rfl,rfl⟩:=e1
   intro K5 K4
   by_cases hqd:q<ds.length
   ·obtain⟨d,hd1,hd2,r3,r4⟩:=dat q hqd
    have hlt2:((k+1+sg.length+q:Nat):Int)<(l.length:Int):=by omega
    have hat:s[Int.toNat ((k+1+sg.length+q:Nat):Int)]? =some d:=by rw[P8,at',hd2]
    have hvq:=lI hdg0 q PA
    have hvb:cy (ds.take q)<1000:=by
     have h2:=P7 (n:=10) PB (show q<=3 by have:=hE.le;omega)
     have h3:(10:Nat)^3=1000:=rfl
     omega
    have hK5:K5 hv24:=by
     unfold K5
     refine⟨fun lz hv=>lz=[PN (cy (ds.take (q+1)):Int)]/\hv=hv24,⟨PA,hlt2,d,hat,au (fun h=>absurd h PA) fun _=>⟨fun lz hv=>lz=[PN (cy (ds.take (q+1)):Int)]/\hv=hv24,ae (fun _=>⟨PA,hlt2,d,hat,?_,rfl⟩) fun h=>absurd (show((cy (ds.take q):Nat):Int)<10000 by omega) h,?_⟩⟩,?_⟩
     ·rw[mN hd1,wr (x:=((cy (ds.take q):Nat):Int)*10) PA PA,wr (x:=((d.toNat:Nat):Int)) PA PA,wr (x:=((cy (ds.take q):Nat):Int)*10+((d.toNat:Nat):Int)) PA PA,wr PA PA]
      congr 2;omega
     ·rintro e2 hv27 ⟨e1,rfl⟩
      simp only[List.cons.injEq,Value.int.injEq,true_and,and_true]at e1
      subst e1
      exact⟨rfl,rfl⟩
     ·rintro e2 hv28 ⟨e1,rfl⟩
      simp only[List.cons.injEq,Value.int.injEq,true_and,and_true]at e1
      subst e1
      rw[wr1 PA]
      refine⟨⟨q+1,PA,rfl,rfl⟩,?_⟩
      (try dsimp only);omega
    exact ae (fun _=>⟨PA,hlt2,d,hat,ae (fun _=>⟨PA,hlt2,d,hat,ae (fun _=>hK5) fun h=>absurd (show((d.toNat:Nat):Int)<=57 by omega) h⟩) fun h=>absurd (show(48:Int)<=((d.toNat:Nat):Int) by omega) h⟩) fun h=>absurd hlt2 h
   ·have hqe:q=ds.length:=by omega
    refine ae (fun h=>absurd h PA) fun _=>?_
    rw[hqe,RK,show k+1+sg.length+ds.length=l.length by omega]
    exact hK6
  ·rintro i9 hv31 ⟨e1,f31,D31⟩
   simp only[List.cons.injEq,Value.int.injEq,true_and,and_true]at e1
   subst e1
   exact hK7 hv31 f31 D31 PA PA
 ·have e0:cZ rest=0:=by
   rw[hrk,RF PA];rfl
  rw[show((k:Nat):Int)=(l.length:Int) by omega]
  exact hK7 hv19 f19 (by rw[e0,Int.add_zero];exact D19) PA PA
end Go.Proofs.YtmmmmjcfojhiaaaGreatDoor.N
/- ParseFloat of a number's text of more than 19 digits that count, as a function. Conditions: none. -/
namespace Go.Proofs.YtmmmmjcfojhiaaaGreatDoor.N
open Go.X Go.Proofs.YtmmmmjcfojhiaaaGreatDoor
variable {h:ab}
theorem HF (h:ab):Raw (h.push (.cells jB 180)) h.size (fun _=>0) 0 0 false false:=by
 have e:∀o,ac (h.push (.cells jB 180)) h.size o=jB[o]? :=fun o=>by simp[ac]
 have e8:jB=(List.replicate 800 (PR 0)++([PN 0,PN 0,PV false,PV false]:List Value)).toArray:=rfl
 have el:∀o:Nat,jB[o]? =(List.replicate 800 (PR 0)++([PN 0,PN 0,PV false,PV false]:List Value))[o]? :=fun o=>by rw[e8];exact List.getElem?_toArray
 refine⟨fun i hi=>?_,?_,?_,?_,?_,fun i hi=>?_⟩
 ·rw[e,el,List.getElem?_append_left (by rw[QA];exact hi),List.getElem?_replicate,if_pos hi]
 ·rw[e,el,List.getElem?_append_right (by rw[QA];omega),QA];rfl
 ·rw[e,el,List.getElem?_append_right (by rw[QA];omega),QA];rfl
 ·rw[e,el,List.getElem?_append_right (by rw[QA];omega),QA];rfl
 ·rw[e,el,List.getElem?_append_right (by rw[QA];omega),QA];rfl
 ·exact iQ (gy (h:=h) (x:=.cells jB 180)) i
theorem oe (s:P0):s.extract 0 s.size=s:=by
 have e:(s.extract 0 s.size).data=s.data:=by
  apply Array.toList_inj.1
  rw[Kj,Sa,QF (by show s.data.toList.length<=s.size;exact P3 _)]
 cases s with
 | mk d=>
  cases h:(ByteArray.mk d).extract 0 (ByteArray.mk d).size with
  | mk d'=>rw[h]at e;exact congrArg _ e
noncomputable def pO (s : ByteArray) (st : RS) (rest : PZ) : DF := ⟨scA 0 false (s.data.toList.drop (av s.data.toList).2) * tn (800 - st.nd), (if st.dot then st.dp else (st.nd : Int)) + cZ rest, false⟩
theorem oy {s:P0} {st:RS} {rest:PZ} {gl:GL} {Q:Value->ab->Prop} {n:Int} (g:Gl gl h) (T:Txt s st rest) (hsz7:s.size<=700) (hm:st.m≠0) (hn:n=s.size)
  (r:∀hv,Fr [] h hv->Q (.tuple #[PS (fbF (av s.data.toList).1 (pO s st rest)).1.toNat,PN n,qN 153 (if(fbF (av s.data.toList).1 (pO s st rest)).2 then some 1 else none)]) hv):
  0<=n/\n<=(s.size:Nat)/\PI 193 #[PW (some (⟨h.size,0,none⟩:Addr)),PU (s.extract 0 (Int.toNat n))] (h.push (.cells jB 180)) [] fun v11 hv9=>
   ∃r5:Bool,v11= PV r5/\
   cnd (!r5)
    (Q (.tuple #[PS 0,PN n,.iface 153 (PN 2)]) hv9)
    (PI 194 #[PW (some (⟨h.size,0,none⟩:Addr)),PW (some (⟨13,0,none⟩:Addr))] hv9 [] fun v12 hv10=>
    ∃ra7:Int,∃rb4:Bool,v12= .tuple #[PO ra7,PV rb4]/\
    PL 195 #[PO ra7] fun v13=>
    ∃r6:Nat,v13= PS r6/\
    cnd rb4
     (Q (.tuple #[PS r6,PN n,.iface 153 (PN 1)]) hv10)
     (Q (.tuple #[PS r6,PN n,.nilIface]) hv10)):=by
 subst hn
 rw[P8,oe]
 have g2:Gl gl (h.push (.cells jB 180)):=kz g (Fr.push _ _)
 have hb:h.size∉glB gl:=fun hm=>absurd (g.lt _ hm) (Nat.lt_irrefl _)
 refine⟨PA,PA,cq [h.size] (R:=fun v h'=>v= PV true/\kL h' h.size (av s.data.toList).1 (pO s st rest)/\ -20000<=(pO s st rest).dp/\(pO s st rest).dp<=20000) (KE T hsz7 hm (HF h)) PC ?_⟩
 rintro _ hv9 f9 ⟨rfl,R9,d1,d2⟩
 refine⟨true,rfl,az rfl ?_⟩
 have g9:Gl gl hv9:=g2.congr fun x hx=>f9.blk x (g2.lt x hx) (by rintro hm;rw[Qi]at hm;exact hb (hm▸hx))
 refine cq [h.size] (R:=fun v _=>v= .tuple #[PO (fbF (av s.data.toList).1 (pO s st rest)).1,PV (fbF (av s.data.toList).1 (pO s st rest)).2]) (HE g9 hb R9 ⟨PA,PA⟩) PC ?_
 rintro _ hv10 f10 rfl
 have fr:Fr [] h hv10:=((Fr.push h _).nil.trans (f9.trans f10)).late (fun x hx=>by rw[Qi]at hx;right;omega)
 refine⟨_,_,rfl,bh (dT _) ⟨_,rfl,?_⟩⟩
 have q:=r hv10 fr
 refine aU (fun hh=>?_) fun hh=>?_
 ·rw[if_pos hh]at q;exact q
 ·rw[if_neg (by rw[hh];decide)]at q;exact q
noncomputable def iJ (s : ByteArray) (st : RS) (rest : PZ) : Nat × Option Int :=
 if st.m=0 then((bits .or .u64 (cd (av s.data.toList).1:Int) 0).toNat,none)
 else if bx st rest>310 then((bits .or .u64 (cd (av s.data.toList).1:Int) 9218868437227405312).toNat,some 1)
 else if bx st rest< -345 then((bits .or .u64 (cd (av s.data.toList).1:Int) 0).toNat,none)
 else if((FloatKind.f64).format.order (bc st.m (bx st rest) (cd (av s.data.toList).1)).1 (bc (st.m+1) (bx st rest) (cd (av s.data.toList).1)).1==some .eq)=true then bc st.m (bx st rest) (cd (av s.data.toList).1)
 else((fbF (av s.data.toList).1 (pO s st rest)).1.toNat,if(fbF (av s.data.toList).1 (pO s st rest)).2 then some 1 else none)
theorem Pv {s:P0} {st:RS} {rest:PZ} {gl:GL} {R:Value->ab->Prop} (g:Gl gl h) (T:Txt s st rest) (ht:st.tr=true) (hsz7:s.size<=700)
  (r:∀hv,Fr [] h hv->R (.tuple #[PS (iJ s st rest).1,PN (s.size:Int),qN 153 (iJ s st rest).2]) hv):BU s h R:=by
 unfold BU
 have h0:0<s.size:=by
  obtain⟨c,l,hl,_⟩:=T.hd
  show 0<s.data.toList.length
  rw[hl];simp
 have k0:∀{h':ab},Hp h' []:=fun{h'}=>Hp.nil h'
 have hm:=tI (a:=RS0) PB PB T.sc
 have esz:((s.data.toList.length:Nat):Int)=(s.size:Int):=rfl
 refine bB (R:=fun v _=>v= .tuple #[PS 0,PN 0,PV false]) ((xv (R:=fun a b c=>a=0/\b=0/\c=false) T.sz T.hd ⟨rfl,rfl,rfl⟩ h k0).mono fun v h' ⟨a,b,c,P,e1,e2,e3,e4⟩=>⟨P.fr,by rw[e1,e2,e3,e4]⟩) ?_
 rintro _ hv fv rfl
 refine⟨_,_,_,rfl,az rfl ?_⟩
 refine bB (R:=fun v _=>v= .tuple #[PO (st.m:Int),PN (bx st rest),PV (av s.data.toList).1,PV true,PV false,PN (s.size:Int),PV true]) ((xu (R:=fun a b c d e f g=>a=st.m/\b=bx st rest/\c=(av s.data.toList).1/\d=true/\e=false/\f=s.size/\g=true) h0 T.sz T.ch T.sc T.dig T.rest ⟨rfl,rfl,rfl,ht,rfl,rfl,rfl⟩ hv k0).mono fun v h' ⟨a,b,c,d,e,f,g,P,e1,e2,e3,e4,e5,e6,e7,e8⟩=>⟨P.fr,by rw[e1,e2,e3,e4,e5,e6,e7,e8]⟩) ?_
 rintro _ hv2 fv2 rfl
 have f2:=fv.trans fv2
 have g2:=kz g f2
 refine⟨_,_,_,_,_,_,_,rfl,az rfl (az rfl ⟨true,g2.opt,aJ rfl ?_⟩)⟩
 refine bB (R:=fun v _=>v= PO (((if(av s.data.toList).1 then 1 else 0:Nat)):Int)) ((pH (R:=fun a=>a=(((if(av s.data.toList).1 then 1 else 0:Nat)):Int)) rfl hv2 k0).mono fun v h' ⟨a,P,e1,e2⟩=>⟨P.fr,by rw[e1,e2]⟩) ?_
 rintro _ hv4 fv4 rfl
 have f4:=f2.trans fv4
 have g4:=kz g f4
 have esg:u64.wrap (((if(av s.data.toList).1=true then 1 else 0:Nat):Int)*2^min (Int.toNat 63) 64)=(cd (av s.data.toList).1:Int):=by
  cases (av s.data.toList).1<;>decide
 refine⟨_,rfl,PB,?_⟩
 rw[esg]
 unfold iJ at r
 refine au (fun hz=>?_) fun hz=>?_
 ·rw[if_pos PA]at r
  exact bh (dT _) ⟨_,rfl,r hv4 f4⟩
 rw[if_neg PA]at r
 refine ae (fun hb=>?_) fun hb=>?_
 ·rw[if_pos hb]at r
  exact bh (dT _) ⟨_,rfl,r hv4 f4⟩
 rw[if_neg hb]at r
 refine ae (fun hc=>?_) fun hc=>?_
 ·rw[if_pos hc]at r
  exact bh (dT _) ⟨_,rfl,r hv4 f4⟩
 rw[if_neg hc]at r
 refine az rfl ?_
 have hm0:st.m≠0:=by omega
 have c90:∀{hx:ab} {d:Nat},Gl gl hx->d≠0->d<18446744073709551616->PJ 197 #[PO (d:Int),PN (bx st rest),PO (cd (av s.data.toList).1:Int)] hx fun v h'=>Fr [] hx h'/\v= .tuple #[PS (bc d (bx st rest) (cd (av s.data.toList).1)).1,qN 153 (bc d (bx st rest) (cd (av s.data.toList).1)).2]:=
  fun{hx d} gx hd0 hd=>(DV (R:=fun a b=>a=(bc d (bx st rest) (cd (av s.data.toList).1)).1/\b=(bc d (bx st rest) (cd (av s.data.toList).1)).2) hd0 hd PA PA ⟨rfl,rfl⟩ hx gl (Iw gx)).mono fun v h' ⟨a,b,P,e1,e2,e3⟩=>⟨P.fr,by rw[e1,e2,e3]⟩
 refine bB (c90 g4 hm0 PA) ?_
 rintro _ hv6 fv6 rfl
 have f6:=f4.trans fv6
 have g6:=kz g f6
 refine⟨(bc st.m (bx st rest) (cd (av s.data.toList).1)).1,?_⟩
 have ew:u64.wrap ((st.m:Int)+(1:Int))=((st.m+1:Nat):Int):=by rw[IntKind.wrap_u64];omega
 rw[ew]
 have rr:∀{hx hv:ab},Fr [] h hx->((FloatKind.f64).format.order (bc st.m (bx st rest) (cd (av s.data.toList).1)).1 (bc (st.m+1) (bx st rest) (cd (av s.data.toList).1)).1==some .eq)=false->Fr [] hx hv->
   R (.tuple #[PS (fbF (av s.data.toList).1 (pO s st rest)).1.toNat,PN (s.size:Int),qN 153 (if(fbF (av s.data.toList).1 (pO s st rest)).2 then some 1 else none)]) hv:=fun{hx hv} fx hne f=>by
  have q:=r hv (fx.trans f)
  rw[if_neg (by rw[hne];decide)]at q
  exact q
 have eqc:∀{hx:ab},Fr [] h hx->((FloatKind.f64).format.order (bc st.m (bx st rest) (cd (av s.data.toList).1)).1 (bc (st.m+1) (bx st rest) (cd (av s.data.toList).1)).1==some .eq)=true->R (.tuple #[PS (bc st.m (bx st rest) (cd (av s.data.toList).1)).1,PN (s.size:Int),qN 153 (bc st.m (bx st rest) (cd (av s.data.toList).1)).2]) hx:=fun{hx} fx he=>by
  have q:=r hx fx
  rw[if_pos he]at q
  exact q
 cases hE:(bc st.m (bx st rest) (cd (av s.data.toList).1)).2 with
 | none=>
  rw[hE]at eqc
  refine .inl ⟨rfl,az rfl (bB (c90 g6 PA PA) ?_)⟩
  rintro _ hv7 fv7 rfl
  refine⟨(bc (st.m+1) (bx st rest) (cd (av s.data.toList).1)).1,?_⟩
  cases hE2:(bc (st.m+1) (bx st rest) (cd (av s.data.toList).1)).2 with
  | none=>exact .inl ⟨rfl,aU (fun he=>eqc (f6.trans fv7) he) fun he=>oy (kz g (f6.trans fv7)) T hsz7 hm0 rfl (fun hv f=>rr (f6.trans fv7) he f)⟩
  | some c=>exact .inr ⟨_,_,rfl,aU (fun he=>eqc (f6.trans fv7) he) fun he=>oy (kz g (f6.trans fv7)) T hsz7 hm0 rfl (fun hv f=>rr (f6.trans fv7) he f)⟩
 | some c=>
  rw[hE]at eqc
  refine .inr ⟨_,_,rfl,az rfl (bB (c90 g6 PA PA) ?_)⟩
  rintro _ hv7 fv7 rfl
  refine⟨(bc (st.m+1) (bx st rest) (cd (av s.data.toList).1)).1,?_⟩
  cases hE2:(bc (st.m+1) (bx st rest) (cd (av s.data.toList).1)).2 with
  | none=>exact .inl ⟨rfl,aU (fun he=>eqc (f6.trans fv7) he) fun he=>oy (kz g (f6.trans fv7)) T hsz7 hm0 rfl (fun hv f=>rr (f6.trans fv7) he f)⟩
  | some c=>exact .inr ⟨_,_,rfl,aU (fun he=>eqc (f6.trans fv7) he) fun he=>oy (kz g (f6.trans fv7)) T hsz7 hm0 rfl (fun hv f=>rr (f6.trans fv7) he f)⟩
theorem Oa {s:P0} {st:RS} {rest:PZ} {R:Nat->Int->Option Int->Prop} (T:Txt s st rest) (ht:st.tr=true) (hsz7:s.size<=700) (r:R (iJ s st rest).1 s.size (iJ s st rest).2):vb s R:=by
 intro h gl H
 exact Ac _ (Pv (N3 H) T ht hsz7 fun hv f=>⟨_,_,_,sy0 f,rfl,r⟩)
theorem vO (d:Nat) (p:Int) (sg:Nat):(bc d p sg).2=none\/(bc d p sg).2=some 1:=by
 unfold bc
 split
 ·exact .inl rfl
 unfold pk
 split
 ·exact .inl rfl
 split
 ·exact .inr rfl
 ·exact .inl rfl
theorem Ar (s:P0) (st:RS) (rest:PZ):(iJ s st rest).2=none\/(iJ s st rest).2=some 1:=by
 unfold iJ
 split
 ·exact .inl rfl
 split
 ·exact .inr rfl
 split
 ·exact .inl rfl
 split
 ·exact vO _ _ _
 ·dsimp only
  split
  ·exact .inr rfl
  ·exact .inl rfl
theorem Ob {s:P0} {st:RS} {rest:PZ} {R:Nat->Option Int->Prop} (h:Txt s st rest) (ht:st.tr=true) (hsz7:s.size<=700) (r:R (iJ s st rest).1 (iJ s st rest).2):vc s 64 R:=by
 apply CV
 unfold CU
 apply CS
 unfold CR
 refine az PB (Oa h ht hsz7 ?_)
 generalize iJ s st rest=v at*
 obtain⟨x,e⟩:=v
 have r:R x e:=r
 show(e=none->_)/\∀c:Int,e=some c->_
 refine⟨fun he=>?_,fun c he=>?_⟩
 ·subst he
  exact⟨fun _=>az PC r,fun c hc=>by cases hc⟩
 ·subst he
  exact⟨fun hc=>(by cases hc),fun c2 hc=>az PC (by rw[<-hc];exact r)⟩
end Go.Proofs.YtmmmmjcfojhiaaaGreatDoor.N
