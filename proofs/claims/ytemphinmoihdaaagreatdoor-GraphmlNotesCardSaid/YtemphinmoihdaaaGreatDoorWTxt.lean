/- Numbers of 64 bits as natural numbers: shifts, masks, wraps. Conditions: none. -/
import Derived.Test.YtemphinmoihdaaaGreatDoorWPre
import Derived.Test.YtemphinmoihdaaaGreatDoorTFmt
set_option linter.unusedVariables false
set_option linter.unusedSimpArgs false
open Go.IntKind (i64 u64 u8 i32)
namespace Go.Proofs.YtemphinmoihdaaaGreatDoor.N
open Go.X Go.Proofs.YtemphinmoihdaaaGreatDoor
set_option maxRecDepth 100000
theorem Pb {x y:Int} {R:Int->Int->Prop} (hx0:0<=x) (hx:x<18446744073709551616) (hy0:0<=y) (hy:y<18446744073709551616) (r:R (x*y/18446744073709551616) (x*y % 18446744073709551616)):Hj x y R:=by
 intro h _
 obtain⟨a,rfl⟩:=Int.eq_ofNat_of_zero_le hx0
 obtain⟨b,rfl⟩:=Int.eq_ofNat_of_zero_le hy0
 refine gJ (v:=.tuple #[QO ((a*b/18446744073709551616:Nat):Int),QO ((a*b % 18446744073709551616:Nat):Int)]) (fun w=>Go.Proofs.Tryz.bits_Mul64 a b Qz Qz w) ?_
 refine⟨_,_,sy0 (Fr.refl _ _),rfl,?_⟩
 have e:((a:Int)*(b:Int))=((a*b:Nat):Int):=(Int.natCast_mul a b).symm
 rw[e]at r
 exact r
def bl (x:Int):Int:=Lib.bitLen x.toNat
theorem zj {x:Int} {R:Int->Prop} (hx0:0<=x) (hx:x<18446744073709551616) (r:R (bl x)):Al x R:=by
 intro h _
 exact gJ (fun w=>Go.Proofs.Tryz.bits_Len64 x w hx0 Qz) ⟨_,sy0 (Fr.refl _ _),rfl,r⟩
theorem Pc {s chars:ByteArray} {R:Bool->Prop} (hs:s.size<4294967281) (hcs:chars.size<4294967281) (has:∀(j:Nat) b,s.data.toList[j]? =some b->b.toNat<128) (hac:∀(j:Nat) b,chars.data.toList[j]? =some b->b.toNat<128)
  (r:R (Lib.containsAny s.data.toList chars.data.toList)):Ns s chars R:=by
 intro h _
 exact jR (fun w _=>Go.Proofs.Tryz.strings_ContainsAny_laid s chars w hs hcs has hac) fun h' f=>⟨_,sy0 f,rfl,r⟩
theorem Jh (a b:Nat) (hb:b<=18446744073709551616):u64.wrap ((a:Int)-(b:Int))=(((a+18446744073709551616-b) % 18446744073709551616:Nat):Int):=by rw[IntKind.wrap_u64];omega
theorem zk {a b:Nat} (h:b<=a) (ha:a<18446744073709551616):u64.wrap ((a:Int)-(b:Int))=((a-b:Nat):Int):=by rw[IntKind.wrap_u64];omega
theorem vt (x:Int) (m:Nat) (hm:m<9223372036854775808):bits .and .i64 x (m:Int)=(((x % 18446744073709551616).toNat&&& m:Nat):Int):=by
 show i64.wrap ((BitVec.ofInt 64 x&&& BitVec.ofInt 64 (m:Int)).toNat:Int)=_
 rw[BitVec.toNat_and,BitVec.toNat_ofInt,BitVec.ofInt_natCast,BitVec.toNat_ofNat,Nat.mod_eq_of_lt (show m<2^64 by omega)]
 have h1:(x % 18446744073709551616).toNat&&& m<=m:=Nat.and_le_right
 have e:(x % ((2^64:Nat):Int))=x % 18446744073709551616:=rfl
 rw[e,IntKind.wrap_i64];omega
theorem Pd (x:Int):bits .and .i64 x 63=(((x % 64).toNat:Nat):Int):=by
 have:=vt x 63 QA
 have e:(x % 18446744073709551616).toNat&&& 63=(x % 18446744073709551616).toNat % 64:=Nat.and_two_pow_sub_one_eq_mod _ 6
 rw[e]at this
 rw[show((63:Int))=((63:Nat):Int)from rfl,this];omega
theorem Qu (x:Int):bits .and .i64 x 1=(((x % 2).toNat:Nat):Int):=by
 have:=vt x 1 QA
 have e:(x % 18446744073709551616).toNat&&& 1=(x % 18446744073709551616).toNat % 2:=Nat.and_two_pow_sub_one_eq_mod _ 1
 rw[e]at this
 rw[show((1:Int))=((1:Nat):Int)from rfl,this];omega
theorem Ii (x:Int):bits .and .i64 x 2047=(((x % 2048).toNat:Nat):Int):=by
 have:=vt x 2047 QA
 have e:(x % 18446744073709551616).toNat&&& 2047=(x % 18446744073709551616).toNat % 2048:=Nat.and_two_pow_sub_one_eq_mod _ 11
 rw[e]at this
 rw[show((2047:Int))=((2047:Nat):Int)from rfl,this];omega
theorem Ji (a:Nat) (ha:a<18446744073709551616):bits .and .u64 (a:Int) 1=((a % 2:Nat):Int):=by
 have:=bits_and_u64_nat a 1 ha QA
 rw[show((1:Int))=((1:Nat):Int)from rfl,this,show a&&& 1=a % 2 from Nat.and_two_pow_sub_one_eq_mod _ 1]
theorem Pe (a:Nat) (ha:a<18446744073709551616):bits .and .u64 (a:Int) 4503599627370495=((a % 4503599627370496:Nat):Int):=by
 have:=bits_and_u64_nat a 4503599627370495 ha QA
 rw[show((4503599627370495:Int))=((4503599627370495:Nat):Int)from rfl,this,show a&&& 4503599627370495=a % 4503599627370496 from Nat.and_two_pow_sub_one_eq_mod _ 52]
theorem Qv (a:Nat) (ha:a<4503599627370496):bits .or .u64 (a:Int) 4503599627370496=((a+4503599627370496:Nat):Int):=by
 have:=bits_or_u64_nat a 4503599627370496 Qz QA
 rw[show((4503599627370496:Int))=((4503599627370496:Nat):Int)from rfl,this]
 have h:a||| 2^52=a+2^52:=by
  have:=Nat.two_pow_add_eq_or_of_lt (i:=52) (b:=a) Qz 1
  rw[Nat.mul_one]at this
  rw[Nat.or_comm,<-this];omega
 exact congrArg _ h
def usc (x hi lo s:Nat):Nat:=
 let H:=x*hi/18446744073709551616
 let M:=x*hi % 18446744073709551616
 if H/2^s*2^s=H then
  let m2:=x*lo/18446744073709551616
  ((H+18446744073709551616-(if M<m2 then 1 else 0)) % 18446744073709551616/2^s)||| (if(M+18446744073709551616-m2) % 18446744073709551616>1 then 1 else 0)
 else(H/2^s)||| 1
theorem Jj {x y:Nat} {R:Int->Int->Prop} (hx:x<18446744073709551616) (hy:y<18446744073709551616) (r:R ((x*y/18446744073709551616:Nat):Int) ((x*y % 18446744073709551616:Nat):Int)):Hj x y R:=
 Pb Qz Qz Qz Qz r
theorem ES {b:Bool} {R:Int->Prop} (r:R (((if b then 1 else 0:Nat)):Int)):An b R:=by
 apply NJ;unfold Kf
 cases b
 ·exact aV rfl r
 ·exact br rfl r
theorem lq {x y:Nat} (hx:x<18446744073709551616) (hy:y<18446744073709551616):x*y/18446744073709551616<18446744073709551616:=
 Nat.div_lt_of_lt_mul (Nat.mul_lt_mul'' hx hy)
theorem ET {x hi lo s:Nat} (hx:x<18446744073709551616) (hh:hi<18446744073709551616):usc x hi lo s<18446744073709551616:=by
 have h64:((18446744073709551616:Nat))=2^64:=by decide
 have hd:=lq hx hh
 unfold usc
 simp only[]
 rw[h64]at*
 have hs:∀a:Nat,a<2^64->a/2^s<2^64:=fun a ha=>Nat.lt_of_le_of_lt (Nat.div_le_self _ _) ha
 split
 ·exact Nat.or_lt_two_pow (hs _ (Nat.mod_lt _ QA)) (by split<;>decide)
 ·exact Nat.or_lt_two_pow (hs _ hd) QA
theorem vu {x hi lo:Nat} {s:Int} {R:Int->Prop} (hx:x<18446744073709551616) (hh:hi<18446744073709551616) (hl:lo<18446744073709551616) (r:R ((usc x hi lo (s % 64).toNat:Nat):Int)):tS x hi lo s R:=by
 apply N1
 unfold Km
 refine Jj hx hh ?_
 have hk:(s % 64).toNat<64:=by omega
 have hd:=lq hx hh
 have hd2:=lq hx hl
 have hmin:min (((s % 64).toNat:Nat):Int).toNat 64=(s % 64).toNat:=by omega
 have h64:((18446744073709551616:Nat))=2^64:=by decide
 rw[Pd,hmin]
 generalize (s % 64).toNat=k at*
 have hM:x*hi % 18446744073709551616<18446744073709551616:=Nat.mod_lt _ QA
 unfold usc at r
 simp only[]at r
 generalize x*hi/18446744073709551616=H at*
 generalize x*hi % 18446744073709551616=M at*
 have hq:H/2^k<18446744073709551616:=Nat.lt_of_le_of_lt (Nat.div_le_self _ _) hd
 refine⟨Int.natCast_nonneg _,Int.natCast_nonneg _,?_⟩
 rw[shr,xp,<-Int.natCast_mul,fB (Nat.lt_of_le_of_lt (Nat.div_mul_le_self _ _) hd)]
 refine fZ (fun e=>?_) fun e=>?_
 ·rw[if_neg (fun h=>e (by rw[h]))]at r
  refine⟨Int.natCast_nonneg _,?_⟩
  have:=bits_or_u64_nat (H/2^k) 1 hq QA
  rw[show((1:Int))=((1:Nat):Int)from rfl,this]
  exact r
 ·rw[if_pos (Int.ofNat_inj.1 e)]at r
  refine Jj hx hl ?_
  generalize x*lo/18446744073709551616=m2 at*
  refine zb ⟨Int.natCast_nonneg _,zb ?_⟩
  have c1:∀c:Nat,c<=1->(u64.wrap ((H:Int)-(c:Int)))=(((H+18446744073709551616-c) % 18446744073709551616:Nat):Int):=fun c hc=>Jh H c Qz
  rw[c1 _ (by split<;>omega),Jh M m2 Qz,<-xp,shr]
  have hle:∀c:Nat,(H+18446744073709551616-c) % 18446744073709551616/2^k<18446744073709551616:=fun c=>Nat.lt_of_le_of_lt (Nat.div_le_self _ _) (Nat.mod_lt _ QA)
  rw[bits_or_u64_nat _ _ (hle _) (by split<;>omega)]
  have e1:(decide ((M:Int)<(m2:Int)))=decide (M<m2):=by simp
  have e2:(decide ((((M+18446744073709551616-m2) % 18446744073709551616:Nat):Int)>1))=decide ((M+18446744073709551616-m2) % 18446744073709551616>1):=by
   rw[decide_eq_decide];omega
  rw[e1,e2]
  simpa using r
end Go.Proofs.YtemphinmoihdaaaGreatDoor.N
/- The shortest digits of a number, as natural numbers reckon them: the program's shortFloat. Conditions: none. -/
namespace Go.Proofs.YtemphinmoihdaaaGreatDoor.N
open Go.X Go.Proofs.YtemphinmoihdaaaGreatDoor
set_option maxRecDepth 100000
set_option maxHeartbeats 1000000
theorem Lt :tT.length=1392:=by kernel_rfl
theorem Lu :(tT.all fun v=>decide (0<=v)&&decide (v<18446744073709551616))=true:=by kernel_rfl
def hiP (p:Int):Nat:=(tT.getD ((p+348).toNat*2) 0).toNat
def loP (p:Int):Nat:=(tT.getD ((p+348).toNat*2+1) 0).toNat
theorem AJ {i:Nat} (h:i<1392):tT[i]? =some (((tT.getD i 0).toNat:Nat):Int)/\(tT.getD i 0).toNat<18446744073709551616:=by
 have hl:i<tT.length:=by rw[Lt];exact h
 have hm:=List.all_eq_true.1 Lu _ (List.getElem_mem hl)
 grind
theorem ru {p:Int} (h1: -348<=p) (h2:p<=347):hiP p<18446744073709551616:=(AJ (i:=(p+348).toNat*2) Qz).2
theorem vv {p:Int} (h1: -348<=p) (h2:p<=347):loP p<18446744073709551616:=(AJ (i:=(p+348).toNat*2+1) Qz).2
theorem EU {a b c ev p lp:Int} {R:Int->Int->Int->Prop} (h1: -348<=p) (h2:p<=347) (h3: -4000<=ev) (h4:ev<=4000) (h5: -4000<=lp) (h6:lp<=4000)
  (r:R (hiP p:Int) (loP p:Int) (-(ev+lp+3))):Ar a b c ev p lp R:=by
 apply NZ
 unfold Kl
 have e1:i64.wrap (p-(-348))=p+348:=by rw[wr Qz Qz];omega
 have e2:i64.wrap (0-i64.wrap (i64.wrap (ev+lp)+3))= -(ev+lp+3):=by
  grind [wr]
 rw[e1,e2]
 exact⟨Qz,Qz,_,(AJ Qz).1,Qz,Qz,_,(AJ Qz).1,r⟩
def l10 (x:Int):Int:=x*78913/262144
def l2 (x:Int):Int:=x*108853/32768
def skw (x:Int):Int:=(x*631305-261663)/2097152
theorem zm {x:Int} {R:Int->Prop} (h1: -4000<=x) (h2:x<=4000) (r:R (l10 x)):nH x R:=by
 apply ND;unfold Kb
 rw[wr Qz Qz,show min (Int.toNat 18) 64=18 from rfl,Le]
 exact⟨QA,r⟩
theorem EV {x:Int} {R:Int->Prop} (h1: -4000<=x) (h2:x<=4000) (r:R (l2 x)):Am x R:=by
 apply NF;unfold Kc
 rw[wr Qz Qz,show min (Int.toNat 15) 64=15 from rfl,Le]
 exact⟨QA,r⟩
theorem Lv {x:Int} {R:Int->Prop} (h1: -4000<=x) (h2:x<=4000) (r:R (skw x)):Du x R:=by
 apply NH;unfold Ke
 rw[wr (x:=x*631305) Qz Qz,wr Qz Qz,show min (Int.toNat 21) 64=21 from rfl,Le]
 exact⟨QA,r⟩
theorem EW {u:Nat} {x:Int} {R:Int->Prop} (r:R (u64.wrap ((u:Int)+u64.wrap x))):Ao u x R:=by
 apply NR;exact r
theorem Lw {u:Nat} {R:Int->Prop} (r:R (((u+3) % 18446744073709551616/4:Nat):Int)):DB u R:=by
 apply NT;unfold Ki
 rw[show min (Int.toNat 2) 64=2 from rfl,show((u:Int)+3)=((u+3:Nat):Int) by omega,xq,shr]
 grind
theorem Ly {u:Nat} {R:Int->Prop} (r:R ((u % 18446744073709551616/4:Nat):Int)):DE u R:=by
 grind [NV,Kj,xq]
def rnd (u:Nat):Nat:=(u+1+u/4 % 2) % 18446744073709551616/4
theorem EX {u:Nat} (hu:u<18446744073709551616) {R:Int->Prop} (r:R ((rnd u:Nat):Int)):Aq u R:=by
 apply NX;unfold Kk
 have hq:u/2^2<18446744073709551616:=Nat.lt_of_le_of_lt (Nat.div_le_self _ _) hu
 rw[show min (Int.toNat 2) 64=2 from rfl,shr,Ji _ hq,show((u:Int)+1)=((u+1:Nat):Int) by omega,xq]
 have e:(((u+1) % 18446744073709551616:Nat):Int)+((u/2^2 % 2:Nat):Int)=(((u+1) % 18446744073709551616+u/2^2 % 2:Nat):Int):=by omega
 rw[e,xq,shr]
 grind [rnd]
def zOf (ev:Int):Nat:=if-1085<=ev then 11 else(-1074-ev).toNat
def shA (m:Nat) (ev:Int):Bool:=decide (m=9223372036854775808)&&decide (-1085<ev)
def shP (m:Nat) (ev:Int):Int:=if shA m ev then-skw (ev+11)else-l10 (ev+zOf ev)
def scl (x:Nat) (ev p:Int):Nat:=usc x (hiP p) (loP p) ((-(ev+l2 p+3)) % 64).toNat
def dH (m:Nat) (ev:Int):Nat:=if shA m ev then m-512 else m-2^(zOf ev-1)
def dZ (m:Nat) (ev:Int):Nat:=m+2^(zOf ev-1)
def gU (m:Nat) (ev:Int):Nat:=m/2^zOf ev % 2
def fV (m:Nat) (ev:Int):Nat:=(scl (dH m ev) ev (shP m ev)+gU m ev+3) % 18446744073709551616/4
def cq (m:Nat) (ev:Int):Nat:=(scl (dZ m ev) ev (shP m ev)+18446744073709551616-gU m ev) % 18446744073709551616/4
def short (m:Nat) (ev:Int):Nat × Int:=
 if fV m ev<=cq m ev/10*10 then(cq m ev/10,-(shP m ev-1))
 else if fV m ev<cq m ev then(rnd (scl m ev (shP m ev)),-shP m ev)
 else(fV m ev,-shP m ev)
structure Mt (m:Nat) (ev:Int):Prop where
 lo:9223372036854775808<=m
 hi:m<18446744073709551616
 e0: -1137<=ev
 e1:ev<=960
 al:m % 2^zOf ev=0
theorem Mt.z {m:Nat} {ev:Int} (h:Mt m ev):11<=zOf ev/\zOf ev<=63:=by
 have:=h.e0;unfold zOf;split<;>omega
theorem Mt.top {m:Nat} {ev:Int} (h:Mt m ev):m+2^zOf ev<=18446744073709551616:=by
 obtain⟨z1,z2⟩:=h.z
 have h1:=h.al;have h2:=h.hi
 obtain⟨k,hk⟩:∃k,64=zOf ev+k:=⟨64-zOf ev,Qz⟩
 have e:(18446744073709551616:Nat)=2^zOf ev*2^k:=by rw[<-Nat.pow_add,<-hk]
 obtain⟨q,rfl⟩:=Nat.dvd_of_mod_eq_zero h1
 rw[e]at h2 ⊢
 have:=Nat.lt_of_mul_lt_mul_left h2
 calc 2^zOf ev*q+2^zOf ev=2^zOf ev*(q+1):=by grind
  _<=_:=Nat.mul_le_mul_left _ this
theorem Mt.half {m:Nat} {ev:Int} (h:Mt m ev):2^(zOf ev-1)*2=2^zOf ev/\2^zOf ev<=9223372036854775808/\1024<=2^(zOf ev-1):=by
 obtain⟨z1,z2⟩:=h.z
 refine⟨by rw[<-Nat.pow_succ];congr 1;omega,?_,?_⟩
 ·exact(Nat.pow_le_pow_right QA z2:2^zOf ev<=2^63)
 ·exact(Nat.pow_le_pow_right QA Qz:2^10<=2^(zOf ev-1))
theorem Mt.p {m:Nat} {ev:Int} (h:Mt m ev): -348<=shP m ev/\shP m ev<=347:=by
 obtain⟨z1,z2⟩:=h.z
 have:=h.e0;have:=h.e1
 have hz: -1074<=ev+zOf ev/\ev+zOf ev<=971:=by
  unfold zOf;split<;>omega
 unfold shP skw l10
 omega
theorem Pf {q:Nat} (hq:q<18446744073709551616):(((i64.wrap (q:Int)) % 2).toNat:Int)=((q % 2:Nat):Int):=by
 rw[IntKind.wrap_i64];omega
theorem Lz {m:Nat} {ev:Int} (h:Mt m ev) {R:Int->Int->Prop} (r:R ((short m ev).1:Int) (short m ev).2):Dl m ev R:=by
 apply Ny
 unfold J0
 obtain⟨z1,z2⟩:=h.z
 have hlo:=h.lo;have hhi:=h.hi;have he0:=h.e0;have he1:=h.e1
 have htop:=h.top
 obtain⟨hh1,hh2,hh3⟩:=h.half
 obtain⟨p1,p2⟩:=h.p
 refine⟨fun a b=>a=52/\b= -1085,aV QA ⟨fun a b=>a=52/\b= -1085,br QA ⟨rfl,rfl⟩,fun a b h=>h⟩,?_⟩
 rintro _ _ ⟨rfl,rfl⟩
 have e11:i64.wrap ((63:Int)-52)=11:=by decide
 have e10:i64.wrap ((11:Int)-1)=10:=by decide
 have e9:i64.wrap ((11:Int)-2)=9:=by decide
 have p9:u64.wrap ((1:Int)*2^min (Int.toNat 9) 64)=((512:Nat):Int):=by decide
 have p10:u64.wrap ((1:Int)*2^min (Int.toNat 10) 64)=((1024:Nat):Int):=by decide
 simp only[e11,e10,e9,p9,p10]
 have odd:∀z:Nat,z<=63->bits .and .i64 (i64.wrap (Int.fdiv (m:Int) (2^min z 64))) 1=((m/2^z % 2:Nat):Int):=by
  intro z hz
  rw[Nat.min_eq_left Qz,shr,Qu]
  have hq:m/2^z<18446744073709551616:=Nat.lt_of_le_of_lt (Nat.div_le_self _ _) hhi
  exact Pf hq
 have o11:=odd 11 QA
 refine⟨fun a b c d=>a=shP m ev/\b=(dH m ev:Int)/\c=(dZ m ev:Int)/\d=(gU m ev:Int),?_,?_⟩
 ·--the three ways
  have J1:¬(m=9223372036854775808/\ -1085<ev)-> -1085<=ev->nH (i64.wrap (ev+11)) fun r=>(0:Int)<=10/\(0:Int)<=10/\(0:Int)<=11/\(i64.wrap (0-r)=shP m ev/\u64.wrap ((m:Int)-(1024:Nat))=(dH m ev:Int)/\u64.wrap ((m:Int)+(1024:Nat))=(dZ m ev:Int)/\bits .and .i64 (i64.wrap (Int.fdiv (m:Int) (2^min (Int.toNat 11) 64))) 1=(gU m ev:Int)):=by
   intro hA hE
   have hz:zOf ev=11:=by unfold zOf;rw[if_pos hE]
   have h10:2^(zOf ev-1)=1024:=by rw[hz]
   have hs:shA m ev=false:=by
    grind [shA]
   rw[wr Qz Qz]
   refine zm Qz Qz ⟨QA,QA,QA,?_,?_,?_,?_⟩
   ·unfold shP;rw[hs,hz];simp only[Bool.false_eq_true,if_false]
    grind [wr,l10]
   ·rw[zk Qz hhi];unfold dH;grind
   ·grind [fB,dZ]
   grind [gU]
  have J2:ev< -1085->nH (i64.wrap (ev+i64.wrap (11+i64.wrap (-1085-ev)))) fun r=>(0:Int)<=i64.wrap (i64.wrap (11+i64.wrap (-1085-ev))-1)/\(0:Int)<=i64.wrap (i64.wrap (11+i64.wrap (-1085-ev))-1)/\(0:Int)<=i64.wrap (11+i64.wrap (-1085-ev))/\
    (i64.wrap (0-r)=shP m ev/\u64.wrap ((m:Int)-u64.wrap (1*2^min (Int.toNat (i64.wrap (i64.wrap (11+i64.wrap (-1085-ev))-1))) 64))=(dH m ev:Int)/\
     u64.wrap ((m:Int)+u64.wrap (1*2^min (Int.toNat (i64.wrap (i64.wrap (11+i64.wrap (-1085-ev))-1))) 64))=(dZ m ev:Int)/\
     bits .and .i64 (i64.wrap (Int.fdiv (m:Int) (2^min (Int.toNat (i64.wrap (11+i64.wrap (-1085-ev)))) 64))) 1=(gU m ev:Int)):=by
   intro hE
   have hz:(zOf ev:Int)= -1074-ev:=by unfold zOf;grind
   have hs:shA m ev=false:=by
    grind [shA]
   have ez:i64.wrap (11+i64.wrap (-1085-ev))=(zOf ev:Int):=by
    grind [wr]
   rw[ez]
   have ez1:i64.wrap ((zOf ev:Int)-1)=((zOf ev-1:Nat):Int):=by rw[wr Qz Qz];omega
   rw[ez1,Int.toNat_natCast,Int.toNat_natCast]
   have ep:u64.wrap (1*2^min (zOf ev-1) 64)=((2^(zOf ev-1):Nat):Int):=by
    rw[Nat.min_eq_left Qz,Int.one_mul,xp,fB Qz]
   rw[ep]
   rw[wr Qz Qz]
   refine zm Qz Qz ⟨Qz,Qz,Qz,?_,?_,?_,?_⟩
   ·unfold shP;rw[hs];simp only[Bool.false_eq_true,if_false]
    rw[wr (by unfold l10;omega) (by unfold l10;omega)]
    omega
   ·rw[zk Qz hhi];unfold dH;grind
   ·grind [fB,dZ]
   ·rw[odd _ z2];rfl
  refine aH (fun hm=>?_) fun hm=>?_
  ·have hm':m=9223372036854775808:=by omega
   refine⟨fun a b c d=>a=shP m ev/\b=(dH m ev:Int)/\c=(dZ m ev:Int)/\d=(gU m ev:Int),af (fun hE=>?_) fun hE=>⟨fun a b c d=>a=shP m ev/\b=(dH m ev:Int)/\c=(dZ m ev:Int)/\d=(gU m ev:Int),af (fun hE2=>J1 Qz Qz) fun hE2=>J2 Qz,fun _ _ _ _ h=>h⟩,fun _ _ _ _ h=>h⟩
   have hz:zOf ev=11:=by unfold zOf;grind
   have h10:2^(zOf ev-1)=1024:=by rw[hz]
   have hs:shA m ev=true:=by unfold shA;grind
   rw[wr Qz Qz]
   refine Lv Qz Qz ⟨QA,QA,QA,?_,?_,?_,?_⟩
   ·unfold shP;rw[hs];simp only[if_true]
    rw[wr (by unfold skw;omega) (by unfold skw;omega)]
    omega
   ·rw[zk Qz hhi];unfold dH;grind
   ·rw[<-Int.natCast_add,fB Qz];unfold dZ;rw[h10]
   grind [gU]
  ·have hm':m≠9223372036854775808:=by omega
   exact⟨fun a b c d=>a=shP m ev/\b=(dH m ev:Int)/\c=(dZ m ev:Int)/\d=(gU m ev:Int),af (fun hE2=>J1 Qz Qz) fun hE2=>J2 Qz,fun _ _ _ _ h=>h⟩
 ·rintro _ _ _ _ ⟨rfl,rfl,rfl,rfl⟩
  have hodd:gU m ev<=1:=by unfold gU;omega
  have hmin:dH m ev<18446744073709551616:=by unfold dH;split<;>omega
  have hmax:dZ m ev<18446744073709551616:=by unfold dZ;omega
  have hl2: -4000<=l2 (shP m ev)/\l2 (shP m ev)<=4000:=by unfold l2;omega
  have hhi':=ru p1 p2;have hlo':=vv p1 p2
  refine EV Qz Qz (EU p1 p2 Qz Qz hl2.1 hl2.2 (vu hmin hhi' hlo' ?_))
  have u1:∀x,x<18446744073709551616->usc x (hiP (shP m ev)) (loP (shP m ev)) ((-(ev+l2 (shP m ev)+3)) % 64).toNat<18446744073709551616:=fun x hx=>ET hx hhi'
  refine EW ?_
  have w1:∀u o:Nat,o<=1->u64.wrap ((u:Int)+u64.wrap (o:Int))=(((u+o) % 18446744073709551616:Nat):Int):=by
   intro u o ho
   rw[fB (a:=o) Qz,<-Int.natCast_add,xq]
  have w2:∀u o:Nat,o<=1->u64.wrap ((u:Int)+u64.wrap (i64.wrap (0-(o:Int))))=(((u+18446744073709551616-o) % 18446744073709551616:Nat):Int):=by
   intro u o ho
   rw[wr Qz Qz,IntKind.wrap_u64,IntKind.wrap_u64];omega
  rw[w1 _ _ hodd]
  refine Lw (vu hmax hhi' hlo' (EW ?_))
  rw[w2 _ _ hodd]
  refine Ly ?_
  have ea:((usc (dH m ev) (hiP (shP m ev)) (loP (shP m ev)) ((-(ev+l2 (shP m ev)+3)) % 64).toNat+gU m ev) % 18446744073709551616+3) % 18446744073709551616/4=fV m ev:=by unfold fV scl;omega
  have eb:(usc (dZ m ev) (hiP (shP m ev)) (loP (shP m ev)) ((-(ev+l2 (shP m ev)+3)) % 64).toNat+18446744073709551616-gU m ev) % 18446744073709551616 % 18446744073709551616/4=cq m ev:=by unfold cq scl;omega
  rw[ea,eb]
  have hb:cq m ev<18446744073709551616:=by omega
  have ed:u64.wrap (Int.tdiv (cq m ev:Int) 10)=((cq m ev/10:Nat):Int):=by
   rw[show Int.tdiv (cq m ev:Int) 10=((cq m ev/10:Nat):Int)from rfl,fB Qz]
  have em:u64.wrap (((cq m ev/10:Nat):Int)*10)=((cq m ev/10*10:Nat):Int):=by
   rw[show(((cq m ev/10:Nat):Int)*10)=((cq m ev/10*10:Nat):Int) by omega,fB Qz]
  rw[ed,em]
  unfold short at r
  have ip:∀x:Int,-1000<=x->x<=1000->i64.wrap (0-x)= -x:=fun x h1 h2=>by rw[wr Qz Qz];omega
  refine⟨QA,af (fun hc=>?_) fun hc=>?_⟩
  ·rw[if_pos Qz]at r
   grind [wr]
  ·rw[if_neg Qz]at r
   rw[ip _ Qz Qz]
   refine⟨fun d=>d=((if fV m ev<cq m ev then rnd (scl m ev (shP m ev))else fV m ev:Nat):Int),af (fun hd=>?_) fun hd=>?_,?_⟩
   ·refine vu hhi hhi' hlo' (EX (u1 _ hhi) ?_)
    rw[if_pos Qz];rfl
   ·rw[if_neg Qz]
   ·rintro _ rfl
    split<;>rename_i hq<;>simp only[hq,if_true,if_false]at r<;>exact r
end Go.Proofs.YtemphinmoihdaaaGreatDoor.N
/- A number's digits written into a buffer: numDigits, formatBase10, setDigits. Conditions: none. -/
namespace Go.Proofs.YtemphinmoihdaaaGreatDoor.N
open Go.X Go.Proofs.YtemphinmoihdaaaGreatDoor
set_option maxRecDepth 100000
set_option maxHeartbeats 1000000
def ndg (d:Nat):Nat:=if d=0 then 0 else Lib.nDigits d
theorem Pg :∀k:Fin 20,tU[k.val]? =some ((10^k.val:Nat):Int):=by decide+kernel
theorem LA {d:Nat} (hd:d<18446744073709551616) {R:Int->Prop} (r:R (ndg d:Int)):Dj d R:=by
 apply Nu
 unfold JZ
 refine zj Qz Qz ?_
 have e:bl (d:Int)=((Lib.bitLen d:Nat):Int):=rfl
 have key:Lib.l10 (Lib.bitLen d)<=19/\Lib.bitLen d<=64/\Lib.l10 (Lib.bitLen d)+(if 10^Lib.l10 (Lib.bitLen d)<=d then 1 else 0)=ndg d:=by
  have h64:Lib.bitLen d<=64:=Lib.bitLen_le d 64 (Nat.le_refl _) hd
  by_cases h0:d=0
  ·subst h0;decide
  ·have:=Lib.numDigits_eq d Qz hd
   unfold ndg
   grind
 obtain⟨k1,k2,k3⟩:=key
 rw[e]
 refine zm Qz Qz ?_
 have e2:l10 ((Lib.bitLen d:Nat):Int)=((Lib.l10 (Lib.bitLen d):Nat):Int):=by unfold l10 Lib.l10;omega
 rw[e2]
 refine⟨Qz,Qz,((10^Lib.l10 (Lib.bitLen d):Nat):Int),?_,?_⟩
 ·rw[show((Lib.l10 (Lib.bitLen d):Nat):Int).toNat*1=Lib.l10 (Lib.bitLen d) by omega]
  exact Pg ⟨Lib.l10 (Lib.bitLen d),Qz⟩
 ·refine ES ?_
  have e3:(decide ((d:Int)>=((10^Lib.l10 (Lib.bitLen d):Nat):Int)))=decide (10^Lib.l10 (Lib.bitLen d)<=d):=by grind
  grind [wr]
def dgL (d n:Nat):List Int:=(List.range n).map fun t=>((48+d/10^(n-1-t) % 10:Nat):Int)
theorem jm (d n:Nat):(dgL d n).length=n:=by simp[dgL]
theorem vz {d n k:Nat} (h:k<n):(dgL d n)[k]? =some ((48+d/10^(n-1-k) % 10:Nat):Int):=by simp[dgL,h]
theorem call103 {h:ab} {g T sC d nd:Nat} {cur:Array Value} (H:Blk h g T cur) (hn:nd<=cur.size) (h0:∀j,j<nd->cur[j]? =some (QP 0)) (hd:d<10^nd) (hd64:d<18446744073709551616) (hnd:nd<4611686018427387904):
  QH 103 #[.slice (some ⟨g,0,none⟩) nd sC,QO d] h fun v h'=>Fr [g] h h'/\v= .tuple #[]/\∃cur':Array Value,Blk h' g T cur'/\cur'.size=cur.size/\(∀k,k<nd->cur'[k]? =some (QP ((48+d/10^(nd-1-k) % 10:Nat):Int)))/\∀k,nd<=k->cur'[k]? =cur[k]? :=by
 intro w hw
 obtain⟨f,hb,hf⟩:=id H
 have hbw:w.heap[g]? =some (.cells cur T f):=by grind
 have hs:(Array.replicate nd (0:UInt8)).size=nd:=by simp
 have:=Go.Proofs.Tryz.internal_strconv_formatBase10 g 0 sC d (Array.replicate nd (0:UInt8)) w (fun j hj=>by
  rw[hs]at hj
  have hc:=h0 j hj
  have hj2:j<cur.size:=by omega
  refine⟨?_,?_⟩
  ·rw[getElem!_pos _ j Qz]
   simp[World.cell?,hbw,hc]
  ·exact su (u:=QP 0) (by rw[hw,H.cell,Nat.zero_add,hc]) (by rw[hw];exact H.free _)) QD hd64 Qz
 rw[hs]at this
 refine this.mono ?_
 rintro e w' ⟨rfl,n,v',dk,rfl,F⟩
 have hsz:dk.size=nd:=F.size
 have hh:((Go.Sort.putRow (fun(b:UInt8)=>QP (b.toNat:Int)) w g 0 dk).drewN n).heap=w.heap.modify g (Go.Sort.onCells (Go.Sort.putCells (fun(b:UInt8)=>QP (b.toNat:Int)) 0 dk)):=rfl
 have hg:=Fy hbw
 have hat:(w.heap.modify g (Go.Sort.onCells (Go.Sort.putCells (fun(b:UInt8)=>QP (b.toNat:Int)) 0 dk)))[g]? =some (.cells (Go.Sort.putCells (fun(b:UInt8)=>QP (b.toNat:Int)) 0 dk cur) T f):=by
  rw[Array.getElem?_modify,if_pos rfl,hbw];rfl
 have hfr:Fr [g] w.heap (w.heap.modify g (Go.Sort.onCells (Go.Sort.putCells (fun(b:UInt8)=>QP (b.toNat:Int)) 0 dk))):=
  ⟨QB,fun b hb hm=>by grind⟩
 refine⟨_,rfl,⟨rfl,rfl,rfl,by rw[hh];simp⟩,?_,rfl,?_⟩
 ·grind
 ·refine⟨_,⟨_,by rw[hh];exact hat,by simpa[Go.Sort.putCells]using hf⟩,by simp[Go.Sort.putCells],fun k hk=>?_,fun k hk=>?_⟩
  ·have hk2:k<cur.size:=by omega
   simp only[Go.Sort.putCells,Array.getElem?_mapIdx,Array.getElem?_eq_getElem hk2,Option.map_some,Nat.sub_zero]
   rw[if_pos ⟨Nat.zero_le _,Qz⟩,F.done k (Nat.zero_le _) hk]
   have:(48+d/10^(nd-1-k) % 10)<256:=by omega
   simp[Lib.dg,Nat.mod_eq_of_lt this]
  ·simp only[Go.Sort.putCells,Array.getElem?_mapIdx]
   grind
def fW (L:List Int):Nat->Nat
 | 0=>0
 | n+1=>if L[n]? =some 48 then fW L n else n+1
theorem rv (L:List Int):∀n,fW L n<=n
 | 0=>Nat.le_refl _
 | n+1=>by
  unfold fW
  split
  ·exact Nat.le_succ_of_le (rv L n)
  omega
theorem LB {d nd:Nat} {p:Int} (hd:d<10^nd) (hd64:d<18446744073709551616) (hn:nd<=32) (hp: -4000<=p/\p<=4000) {R:List Int->Int->Int->Prop}
  (r:R (dgL d nd++List.replicate (32-nd) 0) (nd+p) (fW (dgL d nd) nd:Int)):I0 (List.replicate 32 0) d p nd R:=by
 intro h sA sL sC sT H
 have Y:=Sy.start H
 obtain rfl:sL=32:=by have:=Y.lenS 0 rfl;grind
 obtain⟨⟨hxl,ho⟩,_⟩:=Y.ok (k:=0) rfl
 obtain⟨rfl,h0,_⟩ | ⟨g,cur,rfl,hb,hle,hmx,hsz,htk⟩:=ho
 ·omega
 have hM:(aF [Ck.sl (eK .u8) sT (some ⟨g,0,none⟩) 32 sC (List.replicate 32 0)])=[g]:=rfl
 have e1:(eK .u8).sz=1:=rfl
 rw[e1,Nat.mul_one]at hsz htk
 have hcz:∀j,j<32->cur[j]? =some (QP 0):=by
  intro j hj
  have:(cur.toList.take 32)[j]? =some (QP 0):=by rw[htk,yq,List.getElem?_map,List.getElem?_replicate,if_pos hj];rfl
  grind
 have hcs:32<=cur.size:=Nat.le_trans hle hsz
 apply Dm
 unfold Nz
 refine⟨fun vs hv=>∃cur':Array Value,vs=[QM (fW (dgL d nd) nd:Int),QM (nd+p)]/\Fr [g] h hv/\Blk hv g sT cur'/\cur'.size=cur.size/\(∀k,k<nd->cur'[k]? =(dgL d nd)[k]?.map (Value.int .u8))/\∀k,nd<=k->cur'[k]? =cur[k]?,?_,?_⟩
 ·refine af (fun _=>?_) fun hc=>absurd (show(nd:Int)<=((32:Nat):Int) by omega) hc
  refine⟨Qz,Qz,?_⟩
  have hc0:sC≠0:=by omega
  have ea:(if sC=0 then some (⟨g,0,none⟩:Addr)else Option.map (fun addr=>Addr.add addr (0*1)) (some ⟨g,0,none⟩))=some ⟨g,0,none⟩:=by rw[if_neg hc0];rfl
  rw[ea,show(Int.toNat (nd:Int))-0=nd by omega]
  refine Fx [g] (call103 (sC:=sC-0) hb Qz (fun j hj=>hcz j Qz) hd hd64 Qz) QB ?_
  rintro v h1 f1 ⟨rfl,cur',hb',hs',hlo,hhi⟩
  have hlo':∀k,k<nd->cur'[k]? =(dgL d nd)[k]?.map (Value.int .u8):=fun k hk=>by rw[hlo k hk,vz hk];rfl
  refine⟨rfl,fun vs hv=>hv=h1/\∃m:Nat,vs=[QM m]/\m<=nd/\fW (dgL d nd) m=fW (dgL d nd) nd,fun vs _=>match vs with | .int _ x::_=>x.toNat | _=>0,⟨rfl,nd,rfl,Nat.le_refl _,rfl⟩,?_⟩
  rintro nd2 hv2 ⟨ehv,m,hv,hm,ht⟩
  subst ehv
  simp only[List.cons.injEq,Value.int.injEq,true_and,and_true]at hv
  subst hv
  have fin:fW (dgL d nd) nd=m->∃cur'':Array Value,[QM (m:Int),QM (i64.wrap ((nd:Int)+p))]=[QM (fW (dgL d nd) nd:Int),QM (nd+p)]/\Fr [g] h hv2/\Blk hv2 g sT cur''/\cur''.size=cur.size/\(∀k,k<nd->cur''[k]? =(dgL d nd)[k]?.map (Value.int .u8))/\∀k,nd<=k->cur''[k]? =cur[k]? :=by
   intro e
   exact⟨cur',by rw[e,wr Qz Qz],f1,hb',hs',hlo',hhi⟩
  refine af (fun hm0=>?_) fun hm0=>?_
  ·obtain⟨q,rfl⟩:∃q,m=q+1:=⟨m-1,Qz⟩
   have ew:i64.wrap (((q+1:Nat):Int)-1)=(q:Int):=by rw[wr Qz Qz];omega
   rw[ew,Int.toNat_natCast]
   obtain⟨x,hx⟩:∃x,(dgL d nd)[q]? =some x:=⟨_,vz Qz⟩
   refine⟨g,0,rfl,Qz,Qz,x,?_,aH (fun hx48=>?_) fun hx48=>?_⟩
   ·rw[hb'.cell,Nat.zero_add,Nat.mul_one,hlo' q Qz,hx];rfl
   ·refine⟨⟨rfl,q,rfl,Qz,?_⟩,?_⟩
    ·rw[<-ht,fW,if_pos (by rw[hx,hx48])]
    grind
   ·apply fin
    rw[<-ht,fW,if_neg QD]
  ·apply fin
   have:m=0:=by omega
   subst this
   rw[<-ht];rfl
 ·rintro nd3 dp h3 ⟨cur',hv,f3,hb',hs',hlo',hhi⟩
  simp only[List.cons.injEq,Value.int.injEq,true_and,and_true]at hv
  obtain⟨rfl,rfl⟩:=hv
  refine⟨_,_,_,?_,rfl,r⟩
  have hown:ar h3 sT (eK .u8).sz (some ⟨g,0,none⟩) 32 sC ((eK .u8).l (dgL d nd++List.replicate (32-nd) 0)):=by
   refine⟨by grind [En.l_len,jm],.inr ⟨g,cur',rfl,hb',hle,hmx,QD,?_⟩⟩
   rw[yq,e1,Nat.mul_one]
   apply List.ext_getElem?
   intro k
   rw[List.getElem?_take]
   split
   ·rename_i hk
    rw[List.getElem?_map]
    by_cases hkn:k<nd
    ·grind
    ·rw[List.getElem?_append_right (by rw[jm];omega),jm,List.getElem?_replicate,if_pos Qz]
     grind
   grind [jm]
  refine⟨QD,Hp.one ⟨hown,by simp[jm];omega⟩,fun k c hk b hbo=>?_⟩
  cases k with
  | zero=>simp at hk;subst hk;exact .inl hbo
  | succ k=>simp at hk
end Go.Proofs.YtemphinmoihdaaaGreatDoor.N
/- The text of digits with a point, or with an exponent: fmtEFG for the shortest form 'g', over memory. Conditions: none. -/
namespace Go.Proofs.YtemphinmoihdaaaGreatDoor.N
open Go.X Go.Proofs.YtemphinmoihdaaaGreatDoor
set_option maxRecDepth 100000
set_option maxHeartbeats 2000000
def jK (neg:Bool):List Int:=if neg then [45]else []
def gp (x:Int):List Int:=
 let a:=x.natAbs
 (if x<0 then 45 else 43)::(if a<10 then [48,((48+a:Nat):Int)]else if a<100 then [((48+a/10:Nat):Int),((48+a % 10:Nat):Int)]else [((48+a/100:Nat):Int),((48+a/10 % 10:Nat):Int),((48+a % 10:Nat):Int)])
def lr (L:List Int) (dp:Int):List Int:=
 (if L=[]then [48]else L.take 1)++(if 1<L.length then 46::L.drop 1 else [])++[101]++gp (if L=[]then 0 else dp-1)
def eQ (L:List Int) (dp:Int):List Int:=
 (if 0<dp then L.take dp.toNat++List.replicate (dp.toNat-L.length) 48 else [48])++(if dp<(L.length:Int)then 46::(List.replicate (-dp).toNat 48++L.drop dp.toNat)else [])
def fmtG (neg:Bool) (L:List Int) (dp:Int):List Int:=
 jK neg++(if dp-1< -4\/6<=dp-1 then lr L dp else eQ L dp)
def S8q (h:ab) (M:List Nat) (sA:QR) (sC:Nat) (sV:List Int) (h':ab) (A:QR) (n c:Nat) (d:List Int):Prop:=n=d.length/\Sy h M h' [Ck.sl (eK .u8) 5 A n c d,Ck.vw (eK .u8) sA sV.length sC sV]
def J8 (h:ab) (M:List Nat) (sA:QR) (sC:Nat) (sV:List Int) (P:List Int->Prop):List Value->ab->Prop:=fun lz h'=>∃A n c d,lz=[.slice A n c]/\S8q h M sA sC sV h' A n c d/\P d
section
variable {h h':ab} {M:List Nat} {sA:QR} {sC:Nat} {sV:List Int} {A:QR} {n c:Nat} {d:List Int} {H:List Nat}
theorem Qw (ys:List Int) {m:Nat} {xs:List Value} (Y:S8q h M sA sC sV h' A n c d) (hH:∀b∈H,b∉ai A) (hl:n+m<=100000) (hm:ys.length=m) (hx:(eK .u8).l ys=xs) {K:QR->Nat->ab->Prop}
  (k:∀A' c' h'',S8q h M sA sC sV h'' A' (n+m) c' (d++ys)->K A' c' h''):
  ∃old,ar h' 5 1 A n c old/\(∀b∈H,b∉ai A)/\(n+m)*1<=140737488355328/\(n+m)<=maxLen/\∀sA sC h'',ar h'' 5 1 sA (n+m) sC (old++xs)->Fr (ai A) h' h''->((sA=A/\sC=c)\/∃g,sA=some ⟨g,0,none⟩/\h'.size<=g)->(c<(n+m)->Fr [] h' h'')->K sA sC h'':=by
 obtain⟨rfl,Y⟩:=Y
 refine⟨_,Y.ownS 0 rfl,hH,Qz,by unfold maxLen;omega,fun A' c' h'' ow f g _=>?_⟩
 subst hx
 exact k A' c' h'' ⟨by simp[hm],Y.appS 0 rfl ys ow f g rfl hm⟩
theorem ap8 {o:Obj} (ys:List Int) {m:Nat} {xs:List Value} (Y:S8q h M sA sC sV h' A n c d) (hH:∀b∈H,b∉ai A) (hl:n+m<=100000) (hm:ys.length=m) (hx:(eK .u8).l ys=xs) {K:QR->Nat->ab->Prop}
  (k:∀A' c' h'',S8q h M sA sC sV h'' A' (n+m) c' (d++ys)->h'.size∉ai A'->h'.size<h''.size->(∀b,b<h'.size->b∉ai A->b∉ai A')->K A' c' h''):
  ∃old,ar (h'.push o) 5 1 A n c old/\(∀b∈h'.size::H,b∉ai A)/\(n+m)*1<=140737488355328/\(n+m)<=maxLen/\∀sA sC h'',ar h'' 5 1 sA (n+m) sC (old++xs)->Fr (ai A) (h'.push o) h''->((sA=A/\sC=c)\/∃g,sA=some ⟨g,0,none⟩/\(h'.push o).size<=g)->(c<(n+m)->Fr [] (h'.push o) h'')->K sA sC h'':=by
 obtain⟨rfl,Y⟩:=Y
 have Y1:Sy h M (h'.push o) [_,_,_]:=Y.junk o
 refine⟨_,Y1.ownS 0 rfl,bQ (Y1.nJ 0 2 rfl rfl rfl) hH,Qz,by unfold maxLen;omega,fun A' c' h'' ow f g _=>?_⟩
 subst hx
 have Y2:Sy h M h'' [_,_,_]:=Y1.appS 0 rfl ys ow f g rfl hm
 refine k A' c' h'' ⟨by simp[hm],Y2.pick [0,1] rfl⟩ (Y2.nJ 0 2 rfl rfl rfl) (by have:=f.size;grind) fun b hb hn=>?_
 grind [ai]
theorem Ij {Z:Int} (z:Nat) (hZ:Z=z) (Y:S8q h M sA sC sV h' A n c d) (hl:n+z<=90000) {K:QR->Nat->Nat->ab->Prop} (k:∀A n c h'',S8q h M sA sC sV h'' A n c (d++List.replicate z 48)->K A n c h''):
  ∃(Iv:List Value->ab->Prop) (m:List Value->ab->Nat),Iv [.slice A n c,QM 0] h'/\∀(A:QR) (n c:Nat),∀x:Int,∀hv,Iv [.slice A n c,QM x] hv->cnd (decide (x<Z))
   (∃old,ar (hv.push (.cells #[QP 48] 5)) 5 1 A n c old/\(∀b∈[hv.size],b∉ai A)/\(n+1)*1<=140737488355328/\(n+1)<=maxLen/\∀sA sC h3,ar h3 5 1 sA (n+1) sC (old++[QP 48])->Fr (ai A) (hv.push (.cells #[QP 48] 5)) h3->((sA=A/\sC=c)\/∃g,sA=some ⟨g,0,none⟩/\(hv.push (.cells #[QP 48] 5)).size<=g)->(c<(n+1)->Fr [] (hv.push (.cells #[QP 48] 5)) h3)->
    Iv [.slice sA (n+1) sC,QM (i64.wrap (x+(1:Int)))] h3/\m [.slice sA (n+1) sC,QM (i64.wrap (x+(1:Int)))] h3<m [.slice A n c,QM x] hv) (K A n c hv):=by
 subst hZ
 refine⟨fun lz h'=>∃(A:QR) (n c j:Nat),lz=[.slice A n c,QM (j:Int)]/\j<=z/\S8q h M sA sC sV h' A n c (d++List.replicate j 48),fun lz _=>match lz with | [_,.int _ i]=>z-i.toNat | _=>0,⟨_,_,_,0,rfl,Nat.zero_le _,by simpa using Y⟩,?_⟩
 rintro A' n' c' _ hv ⟨_,_,_,j,e,hj,Y'⟩
 cases e
 have hn:n'=d.length+j:=by have:=Y'.1;grind
 have hd:=Y.1
 refine af (fun hlt=>?_) fun hlt=>k _ _ _ _ QD
 refine ap8 (m:=1) (H:=[]) [48] Y' QB Qz rfl rfl fun A2 c2 h2 Y2 _ _ _=>?_
 rw[wr1 Qz]
 exact⟨⟨_,_,_,j+1,rfl,Qz,by grind [List.replicate_succ']⟩,QD⟩
end
theorem LC {dst sV L:List Int} {neg:Bool} {dp:Int} {n:Nat} {R:List Int->Prop} (hd:dst.length<1000) (hL:sV.take n=L) (hn:n<=sV.length) (hn32:n<=32) (h0: -1000<dp) (h1:dp<1000) (hE:dp-1< -4\/6<=dp-1)
  (r:R (dst++jK neg++lr L dp)):tR dst neg sV dp n n 103 true R:=by
 have hLl:L.length=n:=by grind
 have hnil:L=[] ↔ n=0:=by grind
 intro h dstA dstL dstC sA sL sC H
 have Y0:Sy h (aF [Ck.sl (eK .u8) 5 dstA dstL dstC dst]) h _:=Sy.startM H rfl
 obtain rfl:=Y0.lenS 0 rfl
 obtain rfl:=Y0.lenV 1 rfl
 have hcap:=(Y0.capV 1 rfl).1
 apply wR
 unfold J3
 obtain⟨M,hM⟩:∃M,M=aF [Ck.sl (eK .u8) 5 dstA dst.length dstC dst]:=⟨_,rfl⟩
 rw[<-hM]at Y0
 intro K3
 have hK3:∀h',h=h'->K3 ((n:Int)-1) 101 h':=by
  rintro _ rfl
  have Y1:S8q h M sA sC sV h dstA dst.length dstC dst:=⟨rfl,Y0⟩
  unfold K3
  intro K4
  have hK4:K4 true h:=by
   unfold K4
   refine br rfl ?_
   refine⟨J8 h M sA sC sV fun d=>d=dst++jK neg,cd (fun hb=>?_) (fun hb=>⟨_,_,_,_,rfl,Y1,by subst hb;simp[jK]⟩),?_⟩
   ·exact ap8 (m:=1) (H:=[]) [45] Y1 QB Qz rfl rfl fun A c h2 Y2 _ _ _=>⟨_,_,_,_,rfl,Y2,by subst hb;rfl⟩
   rintro A n2 c h2 ⟨_,_,_,d1,e,Y2,hd1⟩
   cases e
   have hl1:d1.length<=1001:=by grind [jK]
   have e2:=Y2.1
   refine⟨fun lz h'=>∃c:Int,lz=[QP c]/\h2=h'/\ [c]=if L=[]then [48]else L.take 1,fZ (fun hz=>?_) fun hz=>⟨_,rfl,rfl,QD⟩,?_⟩
   ·obtain⟨b,o,ea,_,x,hx⟩:=Y2.2.atV 1 rfl (i:=0) Qz Qz
    refine⟨b,o,ea,Qz,Qz,x,Y2.2.cellV 1 rfl ea (i:=0) (t:=0) hx rfl,x,rfl,rfl,?_⟩
    rw[if_neg (fun e=>by grind),<-hL]
    cases sV<;>grind
   rintro ch _ ⟨_,e,rfl,hc⟩
   cases e
   have ep:i64.wrap ((n:Int)-1+1)=(n:Int):=by rw[wr Qz Qz];omega
   have em:(if(n:Int)<(n:Int)then(n:Int)else(n:Int))=n:=by split<;>rfl
   refine ap8 (m:=1) (H:=[]) [ch] Y2 QB Qz rfl rfl fun A3 c3 h3 Y3 b3 s3 _=>?_
   refine⟨J8 h M sA sC sV fun d=>d=d1++(if L=[]then [48]else L.take 1)++(if 1<L.length then 46::L.drop 1 else []),af (fun hp=>?_) fun hp=>⟨_,_,_,_,rfl,Y3,QD⟩,?_⟩
   ·refine ap8 (m:=1) (H:=[h2.size]) [46] Y3 (by simpa using b3) Qz rfl rfl fun A4 c4 h4 Y4 b4 s4 o4=>?_
    rw[ep,em]
    refine⟨fun lz h'=>∃A n' c d,lz=[.slice A n' c,QM (n:Int)]/\S8q h M sA sC sV h' A n' c d/\d=d1++[ch]++(46::L.drop 1),af (fun _=>?_) fun h=>absurd (show(1:Int)<n by omega) h,?_⟩
    ·refine⟨Qz,Qz,Qz,Qz,_,((Y4.2.readsV 1 rfl).takeR (Int.toNat (n:Int)) Qz).dropR (Int.toNat (1:Int)) Qz Qz (Y4.2.capV 1 rfl).2 rfl,LR (Y4.2.capV 1 rfl).2,En.l_one _,?_⟩
     refine Qw (H:=[h3.size,h2.size]) ((sV.take (Int.toNat (n:Int))).drop (Int.toNat (1:Int))) Y4 (bQ b4 (bQ (o4 _ s3 b3) aI)) Qz (Ps _ Qz) rfl fun A5 c5 h5 Y5=>⟨_,_,_,_,rfl,Y5,?_⟩
     grind
    rintro A5 n5 c5 i h5 ⟨_,_,_,d5,e,Y5,hd5⟩
    cases e
    have l5:n5<=2000:=by rw[Y5.1,hd5];simp;omega
    refine Ij 0 (by rw[wr Qz Qz];omega) Y5 Qz fun A6 n6 c6 h6 Y6=>⟨_,_,_,_,rfl,Y6,?_⟩
    grind
   rintro A7 n7 c7 h7 ⟨_,_,_,d2,e,Y7,hd2⟩
   cases e
   have hl2:d2.length<=1100:=by
    grind
   have e7:=Y7.1
   have hx:(if L=[]then(0:Int)else dp-1)=if n=0 then 0 else dp-1:=by grind
   generalize hxx:(if L=[]then(0:Int)else dp-1)=x at hx
   have hxb: -1001<x/\x<1000:=by omega
   refine ap8 (m:=1) (H:=[]) [101] Y7 QB Qz rfl rfl fun A8 c8 h8 Y8 b8 s8 _=>?_
   refine⟨fun lz h'=>lz=[QM x]/\h8=h',aH (fun hz=>⟨QD,rfl⟩) fun hz=>⟨by rw[hx,if_neg Qz,wr Qz Qz],rfl⟩,?_⟩
   rintro _ _ ⟨e,rfl⟩
   cases e
   refine⟨fun lz h'=>lz=[QP (if x<0 then 45 else 43),QM (x.natAbs:Int)]/\h8=h',af (fun h=>⟨by rw[if_pos h,wr Qz Qz];congr 4;omega,rfl⟩) fun h=>⟨QD,rfl⟩,?_⟩
   rintro _ _ _ ⟨e,rfl⟩
   cases e
   refine ap8 (m:=1) (H:=[]) [if x<0 then 45 else 43] Y8 QB Qz rfl rfl fun A9 c9 h9 Y9 b9 s9 _=>?_
   have ha:x.natAbs<1001:=by omega
   have key:R (d2++[101]++gp x):=by
    grind [lr]
   generalize hA:x.natAbs=a at*
   have t10:Int.tdiv (a:Int) 10=((a/10:Nat):Int):=rfl
   have t100:Int.tdiv (a:Int) 100=((a/100:Nat):Int):=rfl
   have m10:Int.tmod (a:Int) 10=((a % 10:Nat):Int):=rfl
   have bH:∀b∈[h8.size],b∉ai A9:=by simpa using b9
   refine⟨J8 h M sA sC sV fun d=>d=d2++[101]++gp x,af (fun hq=>?_) fun hq=>⟨J8 h M sA sC sV fun d=>d=d2++[101]++gp x,af (fun h2=>⟨QA,QA,?_⟩) fun h2=>⟨QA,QA,QA,QA,?_⟩,?_⟩,?_⟩
   ·refine ap8 (m:=2) (H:=[h8.size]) [48,_] Y9 bH Qz rfl rfl fun A c h' Y' _ _ _=>⟨_,_,_,_,rfl,Y',?_⟩
    rw[u8w (x:=(a:Int)) Qz Qz,u8w Qz Qz]
    unfold gp;grind
   ·refine ap8 (m:=2) (H:=[h8.size]) [_,_] Y9 bH Qz rfl rfl fun A c h' Y' _ _ _=>⟨_,_,_,_,rfl,Y',?_⟩
    rw[t10,m10,wr Qz Qz,u8w (x:=((a/10:Nat):Int)) Qz Qz,u8w (x:=((a/10:Nat):Int)+48) Qz Qz,u8w (x:=((a % 10:Nat):Int)) Qz Qz,u8w (x:=((a % 10:Nat):Int)+48) Qz Qz]
    unfold gp;grind
   ·refine ap8 (m:=3) (H:=[h8.size]) [_,_,_] Y9 bH Qz rfl rfl fun A c h' Y' _ _ _=>⟨_,_,_,_,rfl,Y',?_⟩
    rw[t100,t10,m10,wr (x:=((a/100:Nat):Int)) Qz Qz,wr (x:=((a/10:Nat):Int)) Qz Qz,u8w (x:=((a/100:Nat):Int)) Qz Qz,u8w (x:=((a/100:Nat):Int)+48) Qz Qz,u8w (x:=((a/10:Nat):Int)) Qz Qz,
     u8w (x:=((a % 10:Nat):Int)) Qz Qz,u8w (x:=((a % 10:Nat):Int)+48) Qz Qz]
    rw[show Int.tmod ((a/10:Nat):Int) 10=((a/10 % 10:Nat):Int)from rfl,u8w (x:=((a/10 % 10:Nat):Int)+48) Qz Qz]
    unfold gp;grind
   ·grind
   ·rintro A n c h' ⟨_,_,_,d,e,Y',rfl⟩
    cases e
    exact⟨_,_,_,_,by rw[<-hM];exact Y'.2.pick [0] rfl,rfl,key⟩
  exact aH (fun _=>hK4) fun q=>absurd rfl q
 refine br rfl ?_
 intro K
 have hK:K n h:=by
  unfold K
  refine⟨fun lz h'=>lz=[QM 6]/\h=h',br rfl ⟨rfl,rfl⟩,?_⟩
  rintro _ _ ⟨e,rfl⟩
  cases e
  have ed:i64.wrap (dp-1)=dp-1:=wr Qz Qz
  have ef:u8.wrap (u8.wrap (103+101)-103)=101:=by decide
  rw[ed,ef]
  have en:i64.wrap ((n:Int)-1)=(n:Int)-1:=wr Qz Qz
  refine af (fun _=>⟨fun lz h'=>lz=[QM (n:Int)]/\h=h',af (fun _=>⟨rfl,rfl⟩) fun _=>⟨rfl,rfl⟩,?_⟩) fun hlt=>⟨fun lz h'=>lz=[QM ((n:Int)-1),QP 101]/\h=h',af (fun _=>⟨fun lz h'=>lz=[QM (n:Int)]/\h=h',af (fun _=>⟨rfl,rfl⟩) fun _=>⟨rfl,rfl⟩,?_⟩) fun h=>absurd hE Qz,?_⟩
  ·simp_all
  ·simp_all
  simp_all
 exact af (fun h=>absurd h Qz) fun _=>hK
theorem EY {dst sV L:List Int} {neg:Bool} {dp pc:Int} {n:Nat} {R:List Int->Prop} (hd:dst.length<1000) (hL:sV.take n=L) (hn:n<=sV.length) (hn32:n<=32) (h0: -1000<dp) (h1:dp<1000) (hE:¬(dp-1< -4\/6<=dp-1))
  (hpc:pc=n\/(n=0/\dp=0/\pc= -1)) (r:R (dst++jK neg++eQ L dp)):tR dst neg sV dp n pc 103 true R:=by
 have hLl:L.length=n:=by grind
 intro h dstA dstL dstC sA sL sC H
 have Y0:Sy h (aF [Ck.sl (eK .u8) 5 dstA dstL dstC dst]) h _:=Sy.startM H rfl
 obtain rfl:=Y0.lenS 0 rfl
 obtain rfl:=Y0.lenV 1 rfl
 have hcap:=(Y0.capV 1 rfl).1
 apply wR
 unfold J3
 obtain⟨M,hM⟩:∃M,M=aF [Ck.sl (eK .u8) 5 dstA dst.length dstC dst]:=⟨_,rfl⟩
 rw[<-hM]at Y0
 intro K3
 have hK3:∀h',h=h'->K3 ((n-dp).toNat:Int) 102 h':=by
  rintro _ rfl
  have Y1:S8q h M sA sC sV h dstA dst.length dstC dst:=⟨rfl,Y0⟩
  unfold K3
  intro K4
  have hK4:K4 false h:=by
   unfold K4
   refine aV rfl (br rfl ?_)
   refine⟨J8 h M sA sC sV fun d=>d=dst++jK neg,cd (fun hb=>?_) (fun hb=>⟨_,_,_,_,rfl,Y1,by subst hb;simp[jK]⟩),?_⟩
   ·exact ap8 (m:=1) (H:=[]) [45] Y1 QB Qz rfl rfl fun A c h2 Y2 _ _ _=>⟨_,_,_,_,rfl,Y2,by subst hb;rfl⟩
   rintro A n2 c h2 ⟨_,_,_,d1,e,Y2,hd1⟩
   cases e
   have hl1:d1.length<=1001:=by grind [jK]
   have e2:=Y2.1
   refine⟨J8 h M sA sC sV fun d=>d=d1++(if 0<dp then L.take dp.toNat++List.replicate (dp.toNat-L.length) 48 else [48]),af (fun hp=>?_) fun hp=>?_,?_⟩
   ·obtain⟨m,hm,hmn⟩:∃m:Nat,(if dp<(n:Int)then dp else(n:Int))=m/\m=min dp.toNat n:=⟨min dp.toNat n,by split<;>omega,rfl⟩
    rw[hm,Int.toNat_natCast,if_pos hp]
    have hmL:sV.take m=L.take m:=by grind
    have hml:(L.take m).length=m:=by grind
    refine⟨Qz,Qz,fun lz h'=>∃(A:QR) (n' c:Nat) (d:List Int) (k:Nat),lz=[.slice A n' c,QM (k:Int)]/\S8q h M sA sC sV h' A n' c d/\k<=m/\d=d1++(L.take m).take k,fun lz _=>match lz with | [_,.int _ i]=>m-i.toNat | _=>0,⟨_,_,_,_,0,rfl,Y2,Nat.zero_le _,QB⟩,?_⟩
    rintro A3 n3 c3 _ h3 ⟨_,_,_,d,k,e,Y3,hk,hd3⟩
    cases e
    have l3:n3<=1100:=by rw[Y3.1,hd3];grind
    refine af (fun hlt=>?_) fun hge=>?_
    ·obtain⟨b,o,ea,_,v,hv⟩:=Y3.2.atV 1 rfl (i:=(k:Int)) Qz Qz
     have hs0:sC≠0:=by omega
     have ea':(if sC=0 then sA else Option.map (fun addr=>Addr.add addr (0*1)) sA)=some ⟨b,o,none⟩:=by rw[if_neg hs0,ea];rfl
     refine⟨b,o,ea',Qz,hlt,v,Y3.2.cellV 1 rfl ea (i:=k) (t:=0) hv rfl,?_⟩
     refine ap8 (m:=1) (H:=[]) [v] Y3 QB Qz rfl rfl fun A4 c4 h4 Y4 _ _ _=>?_
     rw[wr1 Qz]
     refine⟨⟨_,_,_,_,k+1,rfl,Y4,Qz,?_⟩,QD⟩
     have hv2:(L.take m)[k]? =some v:=by grind
     grind [List.take_add_one]
    ·have hkm:k=m:=by omega
     subst hkm
     rw[List.take_of_length_le Qz]at hd3
     have hzz:i64.wrap (dp-(k:Int))=((dp.toNat-k:Nat):Int):=by rw[wr Qz Qz];omega
     refine Ij (dp.toNat-k) hzz Y3 Qz fun A5 n5 c5 h5 Y5=>⟨_,_,_,_,rfl,Y5,?_⟩
     grind
   ·exact ap8 (m:=1) (H:=[]) [48] Y2 QB Qz rfl rfl fun A3 c3 h3 Y3 _ _ _=>⟨_,_,_,_,rfl,Y3,by rw[if_neg hp]⟩
   rintro A7 n7 c7 h7 ⟨_,_,_,d2,e,Y7,hd2⟩
   cases e
   have hl2:d2.length<=3000:=by
    grind
   have e7:=Y7.1
   refine⟨J8 h M sA sC sV fun d=>d=d2++(if dp<(L.length:Int)then 46::(List.replicate (-dp).toNat 48++L.drop dp.toNat)else []),af (fun hq=>?_) fun hq=>⟨_,_,_,_,rfl,Y7,QD⟩,?_⟩
   ·have hlt:dp<n:=by omega
    have hfr:(if dp<(L.length:Int)then 46::(List.replicate (-dp).toNat (48:Int)++L.drop dp.toNat)else [])=46::(List.replicate (-dp).toNat (48:Int)++L.drop dp.toNat):=if_pos Qz
    rw[hfr]
    obtain⟨zn,hzn⟩:∃zn:Nat,zn=(-dp).toNat:=⟨_,rfl⟩
    obtain⟨on,hon⟩:∃on:Nat,on=dp.toNat:=⟨_,rfl⟩
    obtain⟨mn,hmn⟩:∃mn:Nat,mn=n-on:=⟨_,rfl⟩
    have hz1:(if i64.wrap (0-dp)>(0:Int)then i64.wrap (0-dp)else 0)=(zn:Int):=by grind [wr]
    have hz2:(if(zn:Int)<((n-dp).toNat:Int)then(zn:Int)else((n-dp).toNat:Int))=(zn:Int):=by split<;>omega
    have ho:i64.wrap (dp+(zn:Int))=(on:Int):=by rw[wr Qz Qz];omega
    have hm1:i64.wrap ((n:Int)-(on:Int))=(mn:Int):=by rw[wr Qz Qz];omega
    have hm2:(if(mn:Int)>0 then(mn:Int)else 0)=(mn:Int):=by split<;>omega
    have hm3:i64.wrap (((n-dp).toNat:Int)-(zn:Int))=(mn:Int):=by grind
    have hm4:(if(mn:Int)<(mn:Int)then(mn:Int)else(mn:Int))=(mn:Int):=by split<;>rfl
    have hm5:i64.wrap ((mn:Int)-(mn:Int))=0:=by rw[wr Qz Qz];omega
    have hm6:(if(0:Int)>0 then(0:Int)else 0)=0:=by decide
    simp only[hz1,hz2,ho,hm1,hm2,hm3,hm4,hm5,hm6]
    rw[<-hzn,<-hon]
    refine ap8 (m:=1) (H:=[]) [46] Y7 QB Qz rfl rfl fun A8 c8 h8 Y8 _ _ _=>?_
    refine Ij zn rfl Y8 Qz fun A9 n9 c9 h9 Y9=>?_
    have hdl:(L.drop on).length=mn:=by grind
    have l9:n9<=9000:=by rw[Y9.1];simp;omega
    refine⟨fun lz h'=>∃(A:QR) (n' c:Nat) (d:List Int) (k:Nat),lz=[.slice A n' c,QM (k:Int)]/\S8q h M sA sC sV h' A n' c d/\k<=mn/\d=d2++[46]++List.replicate zn 48++(L.drop on).take k,fun lz _=>match lz with | [_,.int _ i]=>mn-i.toNat | _=>0,⟨_,_,_,_,0,rfl,Y9,Nat.zero_le _,QB⟩,?_⟩
    rintro A3 n3 c3 _ h3 ⟨_,_,_,d,k,e,Y3,hk,hd3⟩
    cases e
    have l3:n3<=9000:=by rw[Y3.1,hd3];simp only[List.length_append,List.length_take,List.length_replicate,List.length_cons,List.length_nil];omega
    have ek:i64.wrap ((on:Int)+(k:Int))=((on+k:Nat):Int):=by rw[wr Qz Qz];omega
    rw[ek]
    refine af (fun hlt=>?_) fun hge=>?_
    ·obtain⟨b,o,ea,_,v,hv⟩:=Y3.2.atV 1 rfl (i:=((on+k:Nat):Int)) Qz Qz
     refine⟨b,o,ea,Qz,Qz,v,Y3.2.cellV 1 rfl ea (i:=on+k) (t:=0) hv rfl,?_⟩
     refine ap8 (m:=1) (H:=[]) [v] Y3 QB Qz rfl rfl fun A4 c4 h4 Y4 _ _ _=>?_
     rw[wr1 Qz]
     refine⟨⟨_,_,_,_,k+1,rfl,Y4,Qz,?_⟩,by dsimp only;omega⟩
     have hv2:(L.drop on)[k]? =some v:=by
      rw[List.getElem?_drop,<-hL,List.getElem?_take,if_pos Qz];exact hv
     grind [List.take_add_one]
    ·have hkm:k=mn:=by omega
     refine Ij 0 rfl Y3 Qz fun A5 n5 c5 h5 Y5=>⟨_,_,_,_,rfl,Y5,?_⟩
     grind
   rintro A n c h' ⟨_,_,_,d3,e,Y',hd3⟩
   cases e
   refine⟨_,_,_,_,by rw[<-hM];exact Y'.2.pick [0] rfl,rfl,?_⟩
   grind [eQ]
  exact aH (fun q=>absurd q QA) fun _=>hK4
 refine br rfl ?_
 intro K
 have hK:∀e,K e h:=by
  intro e0
  unfold K
  refine⟨fun lz h'=>lz=[QM 6]/\h=h',br rfl ⟨rfl,rfl⟩,?_⟩
  rintro _ _ ⟨e,rfl⟩
  cases e
  have ed:i64.wrap (dp-1)=dp-1:=wr Qz Qz
  rw[ed]
  refine af (fun h=>absurd h Qz) fun _=>⟨fun lz h'=>lz=[QM ((n-dp).toNat:Int),QP 102]/\h=h',af (fun h=>absurd h Qz) fun _=>⟨fun lz h'=>∃p:Int,lz=[QM p]/\h=h'/\(p=n\/p=pc/\pc<=dp),af (fun _=>⟨_,rfl,rfl,.inl rfl⟩) fun q=>⟨_,rfl,rfl,.inr ⟨rfl,Qz⟩⟩,?_⟩,?_⟩
  ·rintro p _ ⟨q,e,rfl,hp⟩
   obtain rfl:p=q:=by simpa using e
   have hp2: -1<=p/\p<=32:=by omega
   rw[wr (x:=p-dp) Qz Qz]
   refine⟨?_,rfl⟩
   congr 2
   split<;>omega
  simp_all
 refine af (fun _=>⟨fun _ h'=>h=h',af (fun _=>rfl) fun _=>rfl,?_⟩) fun _=>hK _
 omega
theorem LF {dst sV L:List Int} {neg:Bool} {dp:Int} {n:Nat} {R:List Int->Prop} (hd:dst.length<1000) (hL:sV.take n=L) (hn:n<=sV.length) (hn32:n<=32) (h0: -1000<dp) (h1:dp<1000)
  (r:R (dst++fmtG neg L dp)):tR dst neg sV dp n n 103 true R:=by
 unfold fmtG at r
 rw[<-List.append_assoc]at r
 by_cases hE:dp-1< -4\/6<=dp-1
 ·rw[if_pos hE]at r
  exact LC hd hL hn hn32 h0 h1 hE r
 ·rw[if_neg hE]at r
  grind [EY]
theorem LG {dst:List Int} {neg:Bool} {R:List Int->Prop} (hd:dst.length<1000) (r:R (dst++fmtG neg [] 0)):tR dst neg [] 0 0 (-1) 103 true R:=by
 unfold fmtG at r
 rw[<-List.append_assoc,if_neg QA]at r
 exact EY (n:=0) hd rfl QB Qz Qz Qz QA (.inr ⟨rfl,rfl,rfl⟩) r
end Go.Proofs.YtemphinmoihdaaaGreatDoor.N
/- FormatFloat(x, 'g', -1, 64) of finite numbers, as a function. Conditions: none. -/
namespace Go.Proofs.YtemphinmoihdaaaGreatDoor.N
open Go.X Go.Proofs.YtemphinmoihdaaaGreatDoor
set_option maxRecDepth 100000
set_option maxHeartbeats 1000000
def je (f:Nat):Nat:=f/4503599627370496 % 2048
def EZ (f:Nat):Nat:=f % 4503599627370496
def kC (f:Nat):Bool:=decide (f/9223372036854775808≠0)
def cG (f:Nat):Nat:=if je f=0 then EZ f else EZ f+4503599627370496
def kD (f:Nat):Int:=if je f=0 then 1 else je f
def iL (f:Nat):Nat:=64-Lib.bitLen (cG f)
def pR (f:Nat):Nat:=cG f*2^iL f
def kj (f:Nat):Int:=kD f-1075-iL f
def dOf (f:Nat):Nat:=(short (pR f) (kj f)).1
def pOf (f:Nat):Int:=(short (pR f) (kj f)).2
def LOf (f:Nat):List Int:=(dgL (dOf f) (ndg (dOf f))).take (fW (dgL (dOf f) (ndg (dOf f))) (ndg (dOf f)))
def nR (f:Nat):Int:=ndg (dOf f)+pOf f
def fC (f:Nat):List Int:=if cG f=0 then fmtG (kC f) [] 0 else fmtG (kC f) (LOf f) (nR f)
theorem zo {d:Nat} (h:d<18446744073709551616):ndg d<=20:=by
 unfold ndg;split
 ·omega
 ·rename_i h0
  have:=Lib.numDigits_eq d Qz h
  grind
theorem zp (d:Nat):d<10^ndg d:=by
 grind [ndg,Lib.lt_pow_nDigits]
theorem ry (m:Nat) (ev:Int):(short m ev).1<18446744073709551616:=by
 have h1:cq m ev<18446744073709551616:=by unfold cq;omega
 have h2:fV m ev<18446744073709551616:=by unfold fV;omega
 unfold short
 split
 ·omega
 ·split
  ·show rnd _<_;unfold rnd;omega
  ·exact h2
theorem kp {x:Nat} (h:x≠0) (hx:x<18446744073709551616):1<=Lib.bitLen x/\2^(Lib.bitLen x-1)<=x/\x<2^Lib.bitLen x:=Lib.bitLenAux_bounds 64 x hx h
theorem AK {x k:Nat} (h1:2^k<=x) (h2:x<2^(k+1)) (hx:x<18446744073709551616):Lib.bitLen x=k+1:=by
 have hp:0<2^k:=Nat.two_pow_pos k
 obtain⟨a1,a2,a3⟩:=kp (show x≠0 by omega) hx
 have b1:=(Nat.pow_lt_pow_iff_right (a:=2) QA).1 (Nat.lt_of_le_of_lt a2 h2)
 have b2:=(Nat.pow_lt_pow_iff_right (a:=2) QA).1 (Nat.lt_of_le_of_lt h1 a3)
 omega
theorem xy (f:Nat):EZ f<4503599627370496:=Nat.mod_lt _ QA
theorem E0 (f:Nat):cG f<9007199254740992:=by
 grind [xy,cG]
theorem E1 {f:Nat} (hx:je f≠2047) (hm:cG f≠0):Mt (pR f) (kj f)/\iL f<=63/\11<=iL f:=by
 have hl:=E0 f
 have he:je f<2048:=Nat.mod_lt _ QA
 obtain⟨b1,b2,b3⟩:=kp hm Qz
 have b53:Lib.bitLen (cG f)<=53:=Lib.bitLen_le _ 53 QA hl
 have hs:iL f=64-Lib.bitLen (cG f):=rfl
 have hs2:11<=iL f/\iL f<=63:=by omega
 have hb:iL f+Lib.bitLen (cG f)=64:=by omega
 have lo:9223372036854775808<=pR f:=by
  have:2^(Lib.bitLen (cG f)-1)*2^iL f=2^63:=by rw[<-Nat.pow_add];congr 1;omega
  have h2:=Nat.mul_le_mul_right (2^iL f) b2
  rw[this]at h2
  exact h2
 have hi:pR f<18446744073709551616:=by
  have:2^Lib.bitLen (cG f)*2^iL f=2^64:=by rw[<-Nat.pow_add];congr 1;omega
  have h2:=Nat.mul_lt_mul_of_pos_right b3 (Nat.two_pow_pos (iL f))
  rw[this]at h2
  exact h2
 have hz:zOf (kj f)=iL f/\ -1137<=kj f/\kj f<=960:=by
  unfold kj kD
  by_cases h0:je f=0
  ·have hm2:cG f<2^52:=by unfold cG;rw[if_pos h0];exact xy f
   have:Lib.bitLen (cG f)<=52:=Lib.bitLen_le _ 52 QA hm2
   rw[if_pos h0]
   unfold zOf
   grind
  ·have hm2:2^52<=cG f:=by unfold cG;grind
   have:Lib.bitLen (cG f)=53:=AK (k:=52) hm2 hl Qz
   rw[if_neg h0]
   unfold zOf
   grind
 exact⟨⟨lo,hi,hz.2.1,hz.2.2,by rw[hz.1];exact Nat.mul_mod_left _ _⟩,hs2.2,hs2.1⟩
theorem Ph {m:Nat} {ev:Int} (h:Mt m ev): -360<=(short m ev).2/\(short m ev).2<=360:=by
 obtain⟨p1,p2⟩:=h.p
 unfold short
 split
 ·omega
 ·split
  ·omega
  omega
theorem Pi {dst:List Int} {f:Nat} {R:List Int->Prop} (hf:f<18446744073709551616) (hx:je f≠2047) (hd:dst.length<1000) (r:R (dst++fC f)):J4 dst f 103 (-1) R:=by
 apply P5
 unfold T96
 refine⟨fun a b c d=>a=(f:Int)/\b=11/\c=52/\d= -1023,aV QA ⟨fun a b c d=>a=(f:Int)/\b=11/\c=52/\d= -1023,br QA (bM (Ie f) ⟨_,rfl,rfl,rfl,rfl,rfl⟩),fun _ _ _ _ h=>h⟩,?_⟩
 rintro _ _ _ _ ⟨rfl,rfl,rfl,rfl⟩
 have c63:i64.wrap ((11:Int)+52)=63:=by decide
 have c2047:i64.wrap (i64.wrap ((1:Int)*2^min (Int.toNat 11) 64)-1)=2047:=by decide
 have cmask:u64.wrap (u64.wrap ((1:Int)*2^min (Int.toNat 52) 64)-1)=4503599627370495:=by decide
 have c52:u64.wrap ((1:Int)*2^min (Int.toNat 52) 64)=4503599627370496:=by decide
 have m52:min (Int.toNat 52) 64=52:=by decide
 have m63:min (Int.toNat 63) 64=63:=by decide
 rw[c63,c2047,cmask,c52,m52,m63,shr,shr]
 have hq:f/2^52<4096:=by
  omega
 have eex:bits .and .i64 (i64.wrap ((f/2^52:Nat):Int)) 2047=(je f:Int):=by
  grind [wr,Ii,je]
 have efr:bits .and .u64 (f:Int) 4503599627370495=(EZ f:Int):=Pe f hf
 have ene:(((f/2^63:Nat):Int) != 0)=kC f:=by
  have:(2:Nat)^63=9223372036854775808:=by decide
  rw[this];unfold kC
  grind
 rw[eex,efr,Qv _ (xy f),ene]
 have he:je f<2048:=Nat.mod_lt _ QA
 have hml:=E0 f
 refine⟨QA,QA,QA,QA,QA,aH (fun h=>absurd h Qz) fun _=>?_⟩
 refine⟨fun a b=>a=kD f/\b=(cG f:Int),aH (fun h=>?_) fun h=>⟨QA,?_⟩,?_⟩
 ·have h':je f=0:=by omega
  unfold kD cG;rw[if_pos h',if_pos h',h',show i64.wrap (((0:Nat):Int)+1)=1 by decide]
  omega
 ·have h':je f≠0:=by omega
  unfold kD cG;grind
 rintro _ _ ⟨rfl,rfl⟩
 refine aV QA (aV QA (aV QA (aH (fun h0=>?_) fun h0=>?_)))
 ·have h0':cG f=0:=by omega
  unfold fC at r;rw[if_pos h0']at r
  exact LG hd r
 have h0':cG f≠0:=by omega
 unfold fC at r;rw[if_neg h0']at r
 obtain⟨hmt,hs63,hs11⟩:=E1 hx h0'
 refine br QA (zj Qz Qz ?_)
 have eb:bl (cG f:Int)=((Lib.bitLen (cG f):Nat):Int):=rfl
 obtain⟨b1,b2,b3⟩:=kp h0' Qz
 have b53:Lib.bitLen (cG f)<=53:=Lib.bitLen_le _ 53 QA hml
 have es:i64.wrap ((64:Int)-bl (cG f:Int))=(iL f:Int):=by grind [wr,iL]
 rw[es,Int.toNat_natCast,Nat.min_eq_left Qz,xp,<-Int.natCast_mul,show cG f*2^iL f=pR f from rfl,fB hmt.hi]
 have hxp: -1<=kD f/\kD f<=2047:=by unfold kD;split<;>omega
 have ee:i64.wrap (i64.wrap (i64.wrap (kD f+ -1023)-(iL f:Int))-52)=kj f:=by
  grind [wr,kj]
 rw[ee]
 refine⟨Qz,Lz hmt ?_⟩
 have hdl:=ry (pR f) (kj f)
 obtain⟨p1,p2⟩:=Ph hmt
 have hn:=zo hdl
 refine LA hdl (LB (zp _) hdl Qz ⟨Qz,Qz⟩ ?_)
 refine⟨fun q=>q=(fW (dgL (dOf f) (ndg (dOf f))) (ndg (dOf f)):Int),⟨fun x=>x=false,aV QA QA,?_⟩,?_⟩
 ·rintro _ rfl
  refine aV rfl ⟨fun q=>q=(fW (dgL (dOf f) (ndg (dOf f))) (ndg (dOf f)):Int),aV QA ⟨fun x=>x=true,br QA QA,?_⟩,fun _ h=>h⟩
  rintro _ rfl
  exact br rfl rfl
 rintro _ rfl
 have ht:=rv (dgL (dOf f) (ndg (dOf f))) (ndg (dOf f))
 have hn2:ndg (dOf f)<=20:=hn
 refine LF hd ?_ ?_ (Nat.le_trans ht Qz) (show-1000<nR f by unfold nR pOf;omega) (show nR f<1000 by unfold nR pOf;omega) r
 ·rw[List.take_append_of_le_length (by rw[jm];exact ht)];rfl
 grind [dgL,dOf]
theorem Pj {f:Nat} {R:ByteArray->Prop} (hf:f<18446744073709551616) (hx:je f≠2047) (r:R (strOf (fC f))):J5 f 103 (-1) 64 R:=by
 apply P6
 unfold T77
 refine aV QA (br QA ⟨QA,QA,QA,Pi hf hx QA ?_⟩)
 exact r
theorem Pk {f:Nat} {R:ByteArray->Prop} (hf:f<18446744073709551616) (hx:je f≠2047) (r:R (strOf (fC f))):J6 f 103 (-1) 64 R:=by
 grind [P7,T56,Pj]
end Go.Proofs.YtemphinmoihdaaaGreatDoor.N
