/- Numbers of 64 bits as natural numbers: shifts, masks, wraps. Conditions: none. -/
import Derived.Test.YtemclecmafjjfaaGreatDoorWPre
import Derived.Test.YtemclecmafjjfaaGreatDoorTFmt
set_option linter.unusedVariables false
set_option linter.unusedSimpArgs false
open Go.IntKind (i64 u64 u8 i32)
namespace Go.Proofs.YtemclecmafjjfaaGreatDoor.N
open Go.X Go.Proofs.YtemclecmafjjfaaGreatDoor
set_option maxRecDepth 100000
theorem Md {x y:Int} {R:Int->Int->Prop} (hx0:0<=x) (hx:x<18446744073709551616) (hy0:0<=y) (hy:y<18446744073709551616) (r:R (x*y/18446744073709551616) (x*y % 18446744073709551616)):EU x y R:=by
 intro h _
 obtain⟨a,rfl⟩:=Int.eq_ofNat_of_zero_le hx0
 obtain⟨b,rfl⟩:=Int.eq_ofNat_of_zero_le hy0
 refine gP (v:=.tuple #[.int .u64 ((a*b/18446744073709551616:Nat):Int),.int .u64 ((a*b % 18446744073709551616:Nat):Int)]) (fun w=>Go.Proofs.Tryz.bits_Mul64 a b (by omega) (by omega) w) ?_
 refine⟨_,_,sy0 (Fr.refl _ _),rfl,?_⟩
 have e:((a:Int)*(b:Int))=((a*b:Nat):Int):=(Int.natCast_mul a b).symm
 rw[e]at r
 exact r
def bl (x:Int):Int:=Lib.bitLen x.toNat
theorem wv {x:Int} {R:Int->Prop} (hx0:0<=x) (hx:x<18446744073709551616) (r:R (bl x)):xD x R:=by
 intro h _
 exact gP (fun w=>Go.Proofs.Tryz.bits_Len64 x w hx0 (by omega)) ⟨_,sy0 (Fr.refl _ _),rfl,r⟩
theorem Me {s chars:ByteArray} {R:Bool->Prop} (hs:s.size<4294967281) (hcs:chars.size<4294967281) (has:∀(j:Nat) b,s.data.toList[j]? =some b->b.toNat<128) (hac:∀(j:Nat) b,chars.data.toList[j]? =some b->b.toNat<128)
  (r:R (Lib.containsAny s.data.toList chars.data.toList)):Km s chars R:=by
 intro h _
 exact fO (fun w _=>Go.Proofs.Tryz.strings_ContainsAny_laid s chars w hs hcs has hac) fun h' f=>⟨_,sy0 f,rfl,r⟩
theorem GZ (a b:Nat) (hb:b<=18446744073709551616):u64.wrap ((a:Int)-(b:Int))=(((a+18446744073709551616-b) % 18446744073709551616:Nat):Int):=by rw[IntKind.wrap_u64];omega
theorem ww {a b:Nat} (h:b<=a) (ha:a<18446744073709551616):u64.wrap ((a:Int)-(b:Int))=((a-b:Nat):Int):=by rw[IntKind.wrap_u64];omega
theorem sK (x:Int) (m:Nat) (hm:m<9223372036854775808):bits .and .i64 x (m:Int)=(((x % 18446744073709551616).toNat&&& m:Nat):Int):=by
 show i64.wrap ((BitVec.ofInt 64 x&&& BitVec.ofInt 64 (m:Int)).toNat:Int)=_
 rw[BitVec.toNat_and,BitVec.toNat_ofInt,BitVec.ofInt_natCast,BitVec.toNat_ofNat,Nat.mod_eq_of_lt (show m<2^64 by omega)]
 have h1:(x % 18446744073709551616).toNat&&& m<=m:=Nat.and_le_right
 have e:(x % ((2^64:Nat):Int))=x % 18446744073709551616:=rfl
 rw[e,IntKind.wrap_i64];omega
theorem Mf (x:Int):bits .and .i64 x 63=(((x % 64).toNat:Nat):Int):=by
 have:=sK x 63 (by decide)
 have e:(x % 18446744073709551616).toNat&&& 63=(x % 18446744073709551616).toNat % 64:=Nat.and_two_pow_sub_one_eq_mod _ 6
 rw[e]at this
 rw[show((63:Int))=((63:Nat):Int)from rfl,this];omega
theorem NC (x:Int):bits .and .i64 x 1=(((x % 2).toNat:Nat):Int):=by
 have:=sK x 1 (by decide)
 have e:(x % 18446744073709551616).toNat&&& 1=(x % 18446744073709551616).toNat % 2:=Nat.and_two_pow_sub_one_eq_mod _ 1
 rw[e]at this
 rw[show((1:Int))=((1:Nat):Int)from rfl,this];omega
theorem F9 (x:Int):bits .and .i64 x 2047=(((x % 2048).toNat:Nat):Int):=by
 have:=sK x 2047 (by decide)
 have e:(x % 18446744073709551616).toNat&&& 2047=(x % 18446744073709551616).toNat % 2048:=Nat.and_two_pow_sub_one_eq_mod _ 11
 rw[e]at this
 rw[show((2047:Int))=((2047:Nat):Int)from rfl,this];omega
theorem G0 (a:Nat) (ha:a<18446744073709551616):bits .and .u64 (a:Int) 1=((a % 2:Nat):Int):=by
 have:=bits_and_u64_nat a 1 ha (by decide)
 rw[show((1:Int))=((1:Nat):Int)from rfl,this,show a&&& 1=a % 2 from Nat.and_two_pow_sub_one_eq_mod _ 1]
theorem Mg (a:Nat) (ha:a<18446744073709551616):bits .and .u64 (a:Int) 4503599627370495=((a % 4503599627370496:Nat):Int):=by
 have:=bits_and_u64_nat a 4503599627370495 ha (by decide)
 rw[show((4503599627370495:Int))=((4503599627370495:Nat):Int)from rfl,this,show a&&& 4503599627370495=a % 4503599627370496 from Nat.and_two_pow_sub_one_eq_mod _ 52]
theorem ND (a:Nat) (ha:a<4503599627370496):bits .or .u64 (a:Int) 4503599627370496=((a+4503599627370496:Nat):Int):=by
 have:=bits_or_u64_nat a 4503599627370496 (by omega) (by decide)
 rw[show((4503599627370496:Int))=((4503599627370496:Nat):Int)from rfl,this]
 have h:a||| 2^52=a+2^52:=by
  have:=Nat.two_pow_add_eq_or_of_lt (i:=52) (b:=a) (by omega) 1
  rw[Nat.mul_one]at this
  rw[Nat.or_comm,<-this];omega
 exact congrArg _ h
def usc (x hi lo s:Nat):Nat:=
 let H:=x*hi/18446744073709551616
 let M:=x*hi % 18446744073709551616
 if H/2^s*2^s=H then
  let m2:=x*lo/18446744073709551616
  ((H+18446744073709551616-(if M<m2 then 1 else 0)) % 18446744073709551616/2^s)||| (if(M+18446744073709551616-m2) % 18446744073709551616>1 then 1 else 0)
 else(H/2^s)||| 1
theorem G1 {x y:Nat} {R:Int->Int->Prop} (hx:x<18446744073709551616) (hy:y<18446744073709551616) (r:R ((x*y/18446744073709551616:Nat):Int) ((x*y % 18446744073709551616:Nat):Int)):EU x y R:=
 Md (by omega) (by omega) (by omega) (by omega) r
theorem CT {b:Bool} {R:Int->Prop} (r:R (((if b then 1 else 0:Nat)):Int)):xF b R:=by
 apply KA;unfold HO
 cases b
 ·exact aG rfl r
 ·exact aO rfl r
theorem jo {x y:Nat} (hx:x<18446744073709551616) (hy:y<18446744073709551616):x*y/18446744073709551616<18446744073709551616:=
 Nat.div_lt_of_lt_mul (Nat.mul_lt_mul'' hx hy)
theorem CU {x hi lo s:Nat} (hx:x<18446744073709551616) (hh:hi<18446744073709551616):usc x hi lo s<18446744073709551616:=by
 have h64:((18446744073709551616:Nat))=2^64:=by decide
 have hd:=jo hx hh
 unfold usc
 simp only[]
 rw[h64]at*
 have hs:∀a:Nat,a<2^64->a/2^s<2^64:=fun a ha=>Nat.lt_of_le_of_lt (Nat.div_le_self _ _) ha
 split
 ·exact Nat.or_lt_two_pow (hs _ (Nat.mod_lt _ (by decide))) (by split<;>decide)
 ·exact Nat.or_lt_two_pow (hs _ hd) (by decide)
theorem sM {x hi lo:Nat} {s:Int} {R:Int->Prop} (hx:x<18446744073709551616) (hh:hi<18446744073709551616) (hl:lo<18446744073709551616) (r:R ((usc x hi lo (s % 64).toNat:Nat):Int)):qA x hi lo s R:=by
 apply KR
 unfold HV
 refine G1 hx hh ?_
 have hk:(s % 64).toNat<64:=by omega
 have hd:=jo hx hh
 have hd2:=jo hx hl
 have hmin:min (((s % 64).toNat:Nat):Int).toNat 64=(s % 64).toNat:=by omega
 have h64:((18446744073709551616:Nat))=2^64:=by decide
 rw[Mf,hmin]
 generalize (s % 64).toNat=k at*
 have hM:x*hi % 18446744073709551616<18446744073709551616:=Nat.mod_lt _ (by decide)
 unfold usc at r
 simp only[]at r
 generalize x*hi/18446744073709551616=H at*
 generalize x*hi % 18446744073709551616=M at*
 have hq:H/2^k<18446744073709551616:=Nat.lt_of_le_of_lt (Nat.div_le_self _ _) hd
 refine⟨Int.natCast_nonneg _,Int.natCast_nonneg _,?_⟩
 rw[shr,uA,<-Int.natCast_mul,dw (Nat.lt_of_le_of_lt (Nat.div_mul_le_self _ _) hd)]
 refine cC (fun e=>?_) fun e=>?_
 ·rw[if_neg (fun h=>e (by rw[h]))]at r
  refine⟨Int.natCast_nonneg _,?_⟩
  have:=bits_or_u64_nat (H/2^k) 1 hq (by decide)
  rw[show((1:Int))=((1:Nat):Int)from rfl,this]
  exact r
 ·rw[if_pos (Int.ofNat_inj.1 e)]at r
  refine G1 hx hl ?_
  generalize x*lo/18446744073709551616=m2 at*
  refine sJ ⟨Int.natCast_nonneg _,sJ ?_⟩
  have c1:∀c:Nat,c<=1->(u64.wrap ((H:Int)-(c:Int)))=(((H+18446744073709551616-c) % 18446744073709551616:Nat):Int):=fun c hc=>GZ H c (by omega)
  rw[c1 _ (by split<;>omega),GZ M m2 (by omega),<-uA,shr]
  have hle:∀c:Nat,(H+18446744073709551616-c) % 18446744073709551616/2^k<18446744073709551616:=fun c=>Nat.lt_of_le_of_lt (Nat.div_le_self _ _) (Nat.mod_lt _ (by decide))
  rw[bits_or_u64_nat _ _ (hle _) (by split<;>omega)]
  have e1:(decide ((M:Int)<(m2:Int)))=decide (M<m2):=by simp
  have e2:(decide ((((M+18446744073709551616-m2) % 18446744073709551616:Nat):Int)>1))=decide ((M+18446744073709551616-m2) % 18446744073709551616>1):=by
   rw[decide_eq_decide];omega
  rw[e1,e2]
  simpa using r
end Go.Proofs.YtemclecmafjjfaaGreatDoor.N
/- The shortest digits of a number, as natural numbers reckon them: the program's shortFloat. Conditions: none. -/
namespace Go.Proofs.YtemclecmafjjfaaGreatDoor.N
open Go.X Go.Proofs.YtemclecmafjjfaaGreatDoor
set_option maxRecDepth 100000
set_option maxHeartbeats 1000000
theorem I1 :tT.length=1392:=by kernel_rfl
theorem I2 :(tT.all fun v=>decide (0<=v)&&decide (v<18446744073709551616))=true:=by kernel_rfl
def hiP (p:Int):Nat:=(tT.getD ((p+348).toNat*2) 0).toNat
def loP (p:Int):Nat:=(tT.getD ((p+348).toNat*2+1) 0).toNat
theorem yl {i:Nat} (h:i<1392):tT[i]? =some (((tT.getD i 0).toNat:Nat):Int)/\(tT.getD i 0).toNat<18446744073709551616:=by
 have hl:i<tT.length:=by rw[I1];exact h
 have hm:=List.all_eq_true.1 I2 _ (List.getElem_mem hl)
 grind
theorem oW {p:Int} (h1: -348<=p) (h2:p<=347):hiP p<18446744073709551616:=(yl (i:=(p+348).toNat*2) (by omega)).2
theorem sN {p:Int} (h1: -348<=p) (h2:p<=347):loP p<18446744073709551616:=(yl (i:=(p+348).toNat*2+1) (by omega)).2
theorem CV {a b c ev p lp:Int} {R:Int->Int->Int->Prop} (h1: -348<=p) (h2:p<=347) (h3: -4000<=ev) (h4:ev<=4000) (h5: -4000<=lp) (h6:lp<=4000)
  (r:R (hiP p:Int) (loP p:Int) (-(ev+lp+3))):xI a b c ev p lp R:=by
 apply KP
 unfold HU
 have e1:i64.wrap (p-(-348))=p+348:=by rw[wr (by omega) (by omega)];omega
 have e2:i64.wrap (0-i64.wrap (i64.wrap (ev+lp)+3))= -(ev+lp+3):=by
  grind [wr]
 rw[e1,e2]
 exact⟨by omega,by omega,_,(yl (by omega)).1,by omega,by omega,_,(yl (by omega)).1,r⟩
def l10 (x:Int):Int:=x*78913/262144
def l2 (x:Int):Int:=x*108853/32768
def skw (x:Int):Int:=(x*631305-261663)/2097152
theorem wx {x:Int} {R:Int->Prop} (h1: -4000<=x) (h2:x<=4000) (r:R (l10 x)):kO x R:=by
 apply Ku;unfold HL
 rw[wr (by omega) (by omega),show min (Int.toNat 18) 64=18 from rfl,IR]
 exact⟨by decide,r⟩
theorem CW {x:Int} {R:Int->Prop} (h1: -4000<=x) (h2:x<=4000) (r:R (l2 x)):xE x R:=by
 apply Kw;unfold HM
 rw[wr (by omega) (by omega),show min (Int.toNat 15) 64=15 from rfl,IR]
 exact⟨by decide,r⟩
theorem I3 {x:Int} {R:Int->Prop} (h1: -4000<=x) (h2:x<=4000) (r:R (skw x)):Bp x R:=by
 apply Ky;unfold HN
 rw[wr (x:=x*631305) (by omega) (by omega),wr (by omega) (by omega),show min (Int.toNat 21) 64=21 from rfl,IR]
 exact⟨by decide,r⟩
theorem CX {u:Nat} {x:Int} {R:Int->Prop} (r:R (u64.wrap ((u:Int)+u64.wrap x))):xG u x R:=by
 apply KH;exact r
theorem I4 {u:Nat} {R:Int->Prop} (r:R (((u+3) % 18446744073709551616/4:Nat):Int)):Bw u R:=by
 apply KJ;unfold HR
 rw[show min (Int.toNat 2) 64=2 from rfl,show((u:Int)+3)=((u+3:Nat):Int) by omega,uB,shr]
 grind
theorem I5 {u:Nat} {R:Int->Prop} (r:R ((u % 18446744073709551616/4:Nat):Int)):Bz u R:=by
 grind [KL,HS,uB]
def rnd (u:Nat):Nat:=(u+1+u/4 % 2) % 18446744073709551616/4
theorem CY {u:Nat} (hu:u<18446744073709551616) {R:Int->Prop} (r:R ((rnd u:Nat):Int)):xH u R:=by
 apply KN;unfold HT
 have hq:u/2^2<18446744073709551616:=Nat.lt_of_le_of_lt (Nat.div_le_self _ _) hu
 rw[show min (Int.toNat 2) 64=2 from rfl,shr,G0 _ hq,show((u:Int)+1)=((u+1:Nat):Int) by omega,uB]
 have e:(((u+1) % 18446744073709551616:Nat):Int)+((u/2^2 % 2:Nat):Int)=(((u+1) % 18446744073709551616+u/2^2 % 2:Nat):Int):=by omega
 rw[e,uB,shr]
 grind [rnd]
def zOf (ev:Int):Nat:=if-1085<=ev then 11 else(-1074-ev).toNat
def shA (m:Nat) (ev:Int):Bool:=decide (m=9223372036854775808)&&decide (-1085<ev)
def shP (m:Nat) (ev:Int):Int:=if shA m ev then-skw (ev+11)else-l10 (ev+zOf ev)
def scl (x:Nat) (ev p:Int):Nat:=usc x (hiP p) (loP p) ((-(ev+l2 p+3)) % 64).toNat
def co (m:Nat) (ev:Int):Nat:=if shA m ev then m-512 else m-2^(zOf ev-1)
def cN (m:Nat) (ev:Int):Nat:=m+2^(zOf ev-1)
def fv (m:Nat) (ev:Int):Nat:=m/2^zOf ev % 2
def dT (m:Nat) (ev:Int):Nat:=(scl (co m ev) ev (shP m ev)+fv m ev+3) % 18446744073709551616/4
def bS (m:Nat) (ev:Int):Nat:=(scl (cN m ev) ev (shP m ev)+18446744073709551616-fv m ev) % 18446744073709551616/4
def short (m:Nat) (ev:Int):Nat × Int:=
 if dT m ev<=bS m ev/10*10 then(bS m ev/10,-(shP m ev-1))
 else if dT m ev<bS m ev then(rnd (scl m ev (shP m ev)),-shP m ev)
 else(dT m ev,-shP m ev)
structure Mt (m:Nat) (ev:Int):Prop where
 lo:9223372036854775808<=m
 hi:m<18446744073709551616
 e0: -1137<=ev
 e1:ev<=960
 al:m % 2^zOf ev=0
theorem Mt.z {m:Nat} {ev:Int} (h:Mt m ev):11<=zOf ev/\zOf ev<=63:=by
 have:=h.e0;unfold zOf;split<;>omega
theorem Mt.top {m:Nat} {ev:Int} (h:Mt m ev):m+2^zOf ev<=18446744073709551616:=by
 obtain⟨z1,z2⟩:=h.z
 have h1:=h.al;have h2:=h.hi
 obtain⟨k,hk⟩:∃k,64=zOf ev+k:=⟨64-zOf ev,by omega⟩
 have e:(18446744073709551616:Nat)=2^zOf ev*2^k:=by rw[<-Nat.pow_add,<-hk]
 obtain⟨q,rfl⟩:=Nat.dvd_of_mod_eq_zero h1
 rw[e]at h2 ⊢
 have:=Nat.lt_of_mul_lt_mul_left h2
 calc 2^zOf ev*q+2^zOf ev=2^zOf ev*(q+1):=by grind
  _<=_:=Nat.mul_le_mul_left _ this
theorem Mt.half {m:Nat} {ev:Int} (h:Mt m ev):2^(zOf ev-1)*2=2^zOf ev/\2^zOf ev<=9223372036854775808/\1024<=2^(zOf ev-1):=by
 obtain⟨z1,z2⟩:=h.z
 refine⟨by rw[<-Nat.pow_succ];congr 1;omega,?_,?_⟩
 ·exact(Nat.pow_le_pow_right (by decide) z2:2^zOf ev<=2^63)
 ·exact(Nat.pow_le_pow_right (by decide) (by omega):2^10<=2^(zOf ev-1))
theorem Mt.p {m:Nat} {ev:Int} (h:Mt m ev): -348<=shP m ev/\shP m ev<=347:=by
 obtain⟨z1,z2⟩:=h.z
 have:=h.e0;have:=h.e1
 have hz: -1074<=ev+zOf ev/\ev+zOf ev<=971:=by
  unfold zOf;split<;>omega
 unfold shP skw l10
 omega
theorem Mh {q:Nat} (hq:q<18446744073709551616):(((i64.wrap (q:Int)) % 2).toNat:Int)=((q % 2:Nat):Int):=by
 rw[IntKind.wrap_i64];omega
theorem I6 {m:Nat} {ev:Int} (h:Mt m ev) {R:Int->Int->Prop} (r:R ((short m ev).1:Int) (short m ev).2):Bh m ev R:=by
 apply Ko
 unfold HE
 obtain⟨z1,z2⟩:=h.z
 have hlo:=h.lo;have hhi:=h.hi;have he0:=h.e0;have he1:=h.e1
 have htop:=h.top
 obtain⟨hh1,hh2,hh3⟩:=h.half
 obtain⟨p1,p2⟩:=h.p
 refine⟨fun a b=>a=52/\b= -1085,aG (by decide) ⟨fun a b=>a=52/\b= -1085,aO (by decide) ⟨rfl,rfl⟩,fun a b h=>h⟩,?_⟩
 rintro _ _ ⟨rfl,rfl⟩
 have e11:i64.wrap ((63:Int)-52)=11:=by decide
 have e10:i64.wrap ((11:Int)-1)=10:=by decide
 have e9:i64.wrap ((11:Int)-2)=9:=by decide
 have p9:u64.wrap ((1:Int)*2^min (Int.toNat 9) 64)=((512:Nat):Int):=by decide
 have p10:u64.wrap ((1:Int)*2^min (Int.toNat 10) 64)=((1024:Nat):Int):=by decide
 simp only[e11,e10,e9,p9,p10]
 have odd:∀z:Nat,z<=63->bits .and .i64 (i64.wrap (Int.fdiv (m:Int) (2^min z 64))) 1=((m/2^z % 2:Nat):Int):=by
  intro z hz
  rw[Nat.min_eq_left (by omega),shr,NC]
  have hq:m/2^z<18446744073709551616:=Nat.lt_of_le_of_lt (Nat.div_le_self _ _) hhi
  exact Mh hq
 have o11:=odd 11 (by decide)
 refine⟨fun a b c d=>a=shP m ev/\b=(co m ev:Int)/\c=(cN m ev:Int)/\d=(fv m ev:Int),?_,?_⟩
 ·--the three ways
  have J1:¬(m=9223372036854775808/\ -1085<ev)-> -1085<=ev->kO (i64.wrap (ev+11)) fun r=>(0:Int)<=10/\(0:Int)<=10/\(0:Int)<=11/\(i64.wrap (0-r)=shP m ev/\u64.wrap ((m:Int)-(1024:Nat))=(co m ev:Int)/\u64.wrap ((m:Int)+(1024:Nat))=(cN m ev:Int)/\bits .and .i64 (i64.wrap (Int.fdiv (m:Int) (2^min (Int.toNat 11) 64))) 1=(fv m ev:Int)):=by
   intro hA hE
   have hz:zOf ev=11:=by unfold zOf;rw[if_pos hE]
   have h10:2^(zOf ev-1)=1024:=by rw[hz]
   have hs:shA m ev=false:=by
    grind [shA]
   rw[wr (by omega) (by omega)]
   refine wx (by omega) (by omega) ⟨by decide,by decide,by decide,?_,?_,?_,?_⟩
   ·unfold shP;rw[hs,hz];simp only[Bool.false_eq_true,if_false]
    grind [wr,l10]
   ·rw[ww (by omega) hhi];unfold co;grind
   ·grind [dw,cN]
   grind [fv]
  have J2:ev< -1085->kO (i64.wrap (ev+i64.wrap (11+i64.wrap (-1085-ev)))) fun r=>(0:Int)<=i64.wrap (i64.wrap (11+i64.wrap (-1085-ev))-1)/\(0:Int)<=i64.wrap (i64.wrap (11+i64.wrap (-1085-ev))-1)/\(0:Int)<=i64.wrap (11+i64.wrap (-1085-ev))/\
    (i64.wrap (0-r)=shP m ev/\u64.wrap ((m:Int)-u64.wrap (1*2^min (Int.toNat (i64.wrap (i64.wrap (11+i64.wrap (-1085-ev))-1))) 64))=(co m ev:Int)/\
     u64.wrap ((m:Int)+u64.wrap (1*2^min (Int.toNat (i64.wrap (i64.wrap (11+i64.wrap (-1085-ev))-1))) 64))=(cN m ev:Int)/\
     bits .and .i64 (i64.wrap (Int.fdiv (m:Int) (2^min (Int.toNat (i64.wrap (11+i64.wrap (-1085-ev)))) 64))) 1=(fv m ev:Int)):=by
   intro hE
   have hz:(zOf ev:Int)= -1074-ev:=by unfold zOf;grind
   have hs:shA m ev=false:=by
    grind [shA]
   have ez:i64.wrap (11+i64.wrap (-1085-ev))=(zOf ev:Int):=by
    grind [wr]
   rw[ez]
   have ez1:i64.wrap ((zOf ev:Int)-1)=((zOf ev-1:Nat):Int):=by rw[wr (by omega) (by omega)];omega
   rw[ez1,Int.toNat_natCast,Int.toNat_natCast]
   have ep:u64.wrap (1*2^min (zOf ev-1) 64)=((2^(zOf ev-1):Nat):Int):=by
    rw[Nat.min_eq_left (by omega),Int.one_mul,uA,dw (by omega)]
   rw[ep]
   rw[wr (by omega) (by omega)]
   refine wx (by omega) (by omega) ⟨by omega,by omega,by omega,?_,?_,?_,?_⟩
   ·unfold shP;rw[hs];simp only[Bool.false_eq_true,if_false]
    rw[wr (by unfold l10;omega) (by unfold l10;omega)]
    omega
   ·rw[ww (by omega) hhi];unfold co;grind
   ·grind [dw,cN]
   ·rw[odd _ z2];rfl
  refine av (fun hm=>?_) fun hm=>?_
  ·have hm':m=9223372036854775808:=by omega
   refine⟨fun a b c d=>a=shP m ev/\b=(co m ev:Int)/\c=(cN m ev:Int)/\d=(fv m ev:Int),ag (fun hE=>?_) fun hE=>⟨fun a b c d=>a=shP m ev/\b=(co m ev:Int)/\c=(cN m ev:Int)/\d=(fv m ev:Int),ag (fun hE2=>J1 (by omega) (by omega)) fun hE2=>J2 (by omega),fun _ _ _ _ h=>h⟩,fun _ _ _ _ h=>h⟩
   have hz:zOf ev=11:=by unfold zOf;grind
   have h10:2^(zOf ev-1)=1024:=by rw[hz]
   have hs:shA m ev=true:=by unfold shA;grind
   rw[wr (by omega) (by omega)]
   refine I3 (by omega) (by omega) ⟨by decide,by decide,by decide,?_,?_,?_,?_⟩
   ·unfold shP;rw[hs];simp only[if_true]
    rw[wr (by unfold skw;omega) (by unfold skw;omega)]
    omega
   ·rw[ww (by omega) hhi];unfold co;grind
   ·rw[<-Int.natCast_add,dw (by omega)];unfold cN;rw[h10]
   grind [fv]
  ·have hm':m≠9223372036854775808:=by omega
   exact⟨fun a b c d=>a=shP m ev/\b=(co m ev:Int)/\c=(cN m ev:Int)/\d=(fv m ev:Int),ag (fun hE2=>J1 (by omega) (by omega)) fun hE2=>J2 (by omega),fun _ _ _ _ h=>h⟩
 ·rintro _ _ _ _ ⟨rfl,rfl,rfl,rfl⟩
  have hodd:fv m ev<=1:=by unfold fv;omega
  have hmin:co m ev<18446744073709551616:=by unfold co;split<;>omega
  have hmax:cN m ev<18446744073709551616:=by unfold cN;omega
  have hl2: -4000<=l2 (shP m ev)/\l2 (shP m ev)<=4000:=by unfold l2;omega
  have hhi':=oW p1 p2;have hlo':=sN p1 p2
  refine CW (by omega) (by omega) (CV p1 p2 (by omega) (by omega) hl2.1 hl2.2 (sM hmin hhi' hlo' ?_))
  have u1:∀x,x<18446744073709551616->usc x (hiP (shP m ev)) (loP (shP m ev)) ((-(ev+l2 (shP m ev)+3)) % 64).toNat<18446744073709551616:=fun x hx=>CU hx hhi'
  refine CX ?_
  have w1:∀u o:Nat,o<=1->u64.wrap ((u:Int)+u64.wrap (o:Int))=(((u+o) % 18446744073709551616:Nat):Int):=by
   intro u o ho
   rw[dw (a:=o) (by omega),<-Int.natCast_add,uB]
  have w2:∀u o:Nat,o<=1->u64.wrap ((u:Int)+u64.wrap (i64.wrap (0-(o:Int))))=(((u+18446744073709551616-o) % 18446744073709551616:Nat):Int):=by
   intro u o ho
   rw[wr (by omega) (by omega),IntKind.wrap_u64,IntKind.wrap_u64];omega
  rw[w1 _ _ hodd]
  refine I4 (sM hmax hhi' hlo' (CX ?_))
  rw[w2 _ _ hodd]
  refine I5 ?_
  have ea:((usc (co m ev) (hiP (shP m ev)) (loP (shP m ev)) ((-(ev+l2 (shP m ev)+3)) % 64).toNat+fv m ev) % 18446744073709551616+3) % 18446744073709551616/4=dT m ev:=by unfold dT scl;omega
  have eb:(usc (cN m ev) (hiP (shP m ev)) (loP (shP m ev)) ((-(ev+l2 (shP m ev)+3)) % 64).toNat+18446744073709551616-fv m ev) % 18446744073709551616 % 18446744073709551616/4=bS m ev:=by unfold bS scl;omega
  rw[ea,eb]
  have hb:bS m ev<18446744073709551616:=by omega
  have ed:u64.wrap (Int.tdiv (bS m ev:Int) 10)=((bS m ev/10:Nat):Int):=by
   rw[show Int.tdiv (bS m ev:Int) 10=((bS m ev/10:Nat):Int)from rfl,dw (by omega)]
  have em:u64.wrap (((bS m ev/10:Nat):Int)*10)=((bS m ev/10*10:Nat):Int):=by
   rw[show(((bS m ev/10:Nat):Int)*10)=((bS m ev/10*10:Nat):Int) by omega,dw (by omega)]
  rw[ed,em]
  unfold short at r
  have ip:∀x:Int,-1000<=x->x<=1000->i64.wrap (0-x)= -x:=fun x h1 h2=>by rw[wr (by omega) (by omega)];omega
  refine⟨by decide,ag (fun hc=>?_) fun hc=>?_⟩
  ·rw[if_pos (by omega)]at r
   grind [wr]
  ·rw[if_neg (by omega)]at r
   rw[ip _ (by omega) (by omega)]
   refine⟨fun d=>d=((if dT m ev<bS m ev then rnd (scl m ev (shP m ev))else dT m ev:Nat):Int),ag (fun hd=>?_) fun hd=>?_,?_⟩
   ·refine sM hhi hhi' hlo' (CY (u1 _ hhi) ?_)
    rw[if_pos (by omega)];rfl
   ·rw[if_neg (by omega)]
   ·rintro _ rfl
    split<;>rename_i hq<;>simp only[hq,if_true,if_false]at r<;>exact r
end Go.Proofs.YtemclecmafjjfaaGreatDoor.N
/- A number's digits written into a buffer: numDigits, formatBase10, setDigits. Conditions: none. -/
namespace Go.Proofs.YtemclecmafjjfaaGreatDoor.N
open Go.X Go.Proofs.YtemclecmafjjfaaGreatDoor
set_option maxRecDepth 100000
set_option maxHeartbeats 1000000
def ndg (d:Nat):Nat:=if d=0 then 0 else Lib.nDigits d
theorem Mi :∀k:Fin 20,tU[k.val]? =some ((10^k.val:Nat):Int):=by decide+kernel
theorem Mj {d:Nat} (hd:d<18446744073709551616) {R:Int->Prop} (r:R (ndg d:Int)):HD d R:=by
 apply M3
 unfold T81
 refine wv (by omega) (by omega) ?_
 have e:bl (d:Int)=((Lib.bitLen d:Nat):Int):=rfl
 have key:Lib.l10 (Lib.bitLen d)<=19/\Lib.bitLen d<=64/\Lib.l10 (Lib.bitLen d)+(if 10^Lib.l10 (Lib.bitLen d)<=d then 1 else 0)=ndg d:=by
  have h64:Lib.bitLen d<=64:=Lib.bitLen_le d 64 (Nat.le_refl _) hd
  by_cases h0:d=0
  ·subst h0;decide
  ·have:=Lib.numDigits_eq d (by omega) hd
   unfold ndg
   grind
 obtain⟨k1,k2,k3⟩:=key
 rw[e]
 refine wx (by omega) (by omega) ?_
 have e2:l10 ((Lib.bitLen d:Nat):Int)=((Lib.l10 (Lib.bitLen d):Nat):Int):=by unfold l10 Lib.l10;omega
 rw[e2]
 refine⟨by omega,by omega,((10^Lib.l10 (Lib.bitLen d):Nat):Int),?_,?_⟩
 ·rw[show((Lib.l10 (Lib.bitLen d):Nat):Int).toNat*1=Lib.l10 (Lib.bitLen d) by omega]
  exact Mi ⟨Lib.l10 (Lib.bitLen d),by omega⟩
 ·refine CT ?_
  have e3:(decide ((d:Int)>=((10^Lib.l10 (Lib.bitLen d):Nat):Int)))=decide (10^Lib.l10 (Lib.bitLen d)<=d):=by grind
  grind [wr]
def dgL (d n:Nat):List Int:=(List.range n).map fun t=>((48+d/10^(n-1-t) % 10:Nat):Int)
theorem gT (d n:Nat):(dgL d n).length=n:=by simp[dgL]
theorem sO {d n k:Nat} (h:k<n):(dgL d n)[k]? =some ((48+d/10^(n-1-k) % 10:Nat):Int):=by simp[dgL,h]
theorem call40 {h:ab} {g T sC d nd:Nat} {cur:Array Value} (H:Blk h g T cur) (hn:nd<=cur.size) (h0:∀j,j<nd->cur[j]? =some (.int .u8 0)) (hd:d<10^nd) (hd64:d<18446744073709551616) (hnd:nd<4611686018427387904):
  ae Tryz.prog 82 #[.slice (some ⟨g,0,none⟩) nd sC,.int .u64 d] h fun v h'=>Fr [g] h h'/\v= .tuple #[]/\∃cur':Array Value,Blk h' g T cur'/\cur'.size=cur.size/\(∀k,k<nd->cur'[k]? =some (.int .u8 ((48+d/10^(nd-1-k) % 10:Nat):Int)))/\∀k,nd<=k->cur'[k]? =cur[k]? :=by
 intro w hw
 obtain⟨f,hb,hf⟩:=id H
 have hbw:w.heap[g]? =some (.cells cur T f):=by grind
 have hs:(Array.replicate nd (0:UInt8)).size=nd:=by simp
 have:=Go.Proofs.Tryz.internal_strconv_formatBase10 g 0 sC d (Array.replicate nd (0:UInt8)) w (fun j hj=>by
  rw[hs]at hj
  have hc:=h0 j hj
  have hj2:j<cur.size:=by omega
  refine⟨?_,?_⟩
  ·rw[getElem!_pos _ j (by omega)]
   simp[World.cell?,hbw,hc]
  ·exact pN (u:=.int .u8 0) (by rw[hw,H.cell,Nat.zero_add,hc]) (by rw[hw];exact H.free _)) (by grind) hd64 (by omega)
 rw[hs]at this
 refine this.mono ?_
 rintro e w' ⟨rfl,n,v',dk,rfl,F⟩
 have hsz:dk.size=nd:=F.size
 have hh:((Go.Sort.putRow (fun(b:UInt8)=>Value.int .u8 (b.toNat:Int)) w g 0 dk).drewN n).heap=w.heap.modify g (Go.Sort.onCells (Go.Sort.putCells (fun(b:UInt8)=>Value.int .u8 (b.toNat:Int)) 0 dk)):=rfl
 have hg:=xf hbw
 have hat:(w.heap.modify g (Go.Sort.onCells (Go.Sort.putCells (fun(b:UInt8)=>Value.int .u8 (b.toNat:Int)) 0 dk)))[g]? =some (.cells (Go.Sort.putCells (fun(b:UInt8)=>Value.int .u8 (b.toNat:Int)) 0 dk cur) T f):=by
  rw[Array.getElem?_modify,if_pos rfl,hbw];rfl
 have hfr:Fr [g] w.heap (w.heap.modify g (Go.Sort.onCells (Go.Sort.putCells (fun(b:UInt8)=>Value.int .u8 (b.toNat:Int)) 0 dk))):=
  ⟨by simp,fun b hb hm=>by grind⟩
 refine⟨_,rfl,⟨rfl,rfl,rfl,by rw[hh];simp⟩,?_,rfl,?_⟩
 ·grind
 ·refine⟨_,⟨_,by rw[hh];exact hat,by simpa[Go.Sort.putCells]using hf⟩,by simp[Go.Sort.putCells],fun k hk=>?_,fun k hk=>?_⟩
  ·have hk2:k<cur.size:=by omega
   simp only[Go.Sort.putCells,Array.getElem?_mapIdx,Array.getElem?_eq_getElem hk2,Option.map_some,Nat.sub_zero]
   rw[if_pos ⟨Nat.zero_le _,by omega⟩,F.done k (Nat.zero_le _) hk]
   have:(48+d/10^(nd-1-k) % 10)<256:=by omega
   simp[Lib.dg,Nat.mod_eq_of_lt this]
  ·simp only[Go.Sort.putCells,Array.getElem?_mapIdx]
   grind
def dX (L:List Int):Nat->Nat
 | 0=>0
 | n+1=>if L[n]? =some 48 then dX L n else n+1
theorem oX (L:List Int):∀n,dX L n<=n
 | 0=>Nat.le_refl _
 | n+1=>by
  unfold dX
  split
  ·exact Nat.le_succ_of_le (oX L n)
  omega
theorem I7 {d nd:Nat} {p:Int} (hd:d<10^nd) (hd64:d<18446744073709551616) (hn:nd<=32) (hp: -4000<=p/\p<=4000) {R:List Int->Int->Int->Prop}
  (r:R (dgL d nd++List.replicate (32-nd) 0) (nd+p) (dX (dgL d nd) nd:Int)):GE (List.replicate 32 0) d p nd R:=by
 intro h sA sL sC sT H
 have Y:=Sy.start H
 obtain rfl:sL=32:=by have:=Y.lenS 0 rfl;grind
 obtain⟨⟨hxl,ho⟩,_⟩:=Y.ok (k:=0) rfl
 obtain⟨rfl,h0,_⟩ | ⟨g,cur,rfl,hb,hle,hmx,hsz,htk⟩:=ho
 ·omega
 have hM:(ao [Ck.sl (eK .u8) sT (some ⟨g,0,none⟩) 32 sC (List.replicate 32 0)])=[g]:=rfl
 have e1:(eK .u8).sz=1:=rfl
 rw[e1,Nat.mul_one]at hsz htk
 have hcz:∀j,j<32->cur[j]? =some (.int .u8 0):=by
  intro j hj
  have:(cur.toList.take 32)[j]? =some (.int .u8 0):=by rw[htk,vr,List.getElem?_map,List.getElem?_replicate,if_pos hj];rfl
  grind
 have hcs:32<=cur.size:=Nat.le_trans hle hsz
 apply Bi
 unfold Kp
 refine⟨fun vs hv=>∃cur':Array Value,vs=[.int .i64 (dX (dgL d nd) nd:Int),.int .i64 (nd+p)]/\Fr [g] h hv/\Blk hv g sT cur'/\cur'.size=cur.size/\(∀k,k<nd->cur'[k]? =(dgL d nd)[k]?.map (Value.int .u8))/\∀k,nd<=k->cur'[k]? =cur[k]?,?_,?_⟩
 ·refine ag (fun _=>?_) fun hc=>absurd (show(nd:Int)<=((32:Nat):Int) by omega) hc
  refine⟨by omega,by omega,?_⟩
  have hc0:sC≠0:=by omega
  have ea:(if sC=0 then some (⟨g,0,none⟩:Addr)else Option.map (fun addr=>Addr.add addr (0*1)) (some ⟨g,0,none⟩))=some ⟨g,0,none⟩:=by rw[if_neg hc0];rfl
  rw[ea,show(Int.toNat (nd:Int))-0=nd by omega]
  refine Dy [g] (call40 (sC:=sC-0) hb (by omega) (fun j hj=>hcz j (by omega)) hd hd64 (by omega)) (by simp) ?_
  rintro v h1 f1 ⟨rfl,cur',hb',hs',hlo,hhi⟩
  have hlo':∀k,k<nd->cur'[k]? =(dgL d nd)[k]?.map (Value.int .u8):=fun k hk=>by rw[hlo k hk,sO hk];rfl
  refine⟨rfl,fun vs hv=>hv=h1/\∃m:Nat,vs=[.int .i64 m]/\m<=nd/\dX (dgL d nd) m=dX (dgL d nd) nd,fun vs _=>match vs with | .int _ x::_=>x.toNat | _=>0,⟨rfl,nd,rfl,Nat.le_refl _,rfl⟩,?_⟩
  rintro nd2 hv2 ⟨ehv,m,hv,hm,ht⟩
  subst ehv
  simp only[List.cons.injEq,Value.int.injEq,true_and,and_true]at hv
  subst hv
  have fin:dX (dgL d nd) nd=m->∃cur'':Array Value,[Value.int .i64 (m:Int),Value.int .i64 (i64.wrap ((nd:Int)+p))]=[.int .i64 (dX (dgL d nd) nd:Int),.int .i64 (nd+p)]/\Fr [g] h hv2/\Blk hv2 g sT cur''/\cur''.size=cur.size/\(∀k,k<nd->cur''[k]? =(dgL d nd)[k]?.map (Value.int .u8))/\∀k,nd<=k->cur''[k]? =cur[k]? :=by
   intro e
   exact⟨cur',by rw[e,wr (by omega) (by omega)],f1,hb',hs',hlo',hhi⟩
  refine ag (fun hm0=>?_) fun hm0=>?_
  ·obtain⟨q,rfl⟩:∃q,m=q+1:=⟨m-1,by omega⟩
   have ew:i64.wrap (((q+1:Nat):Int)-1)=(q:Int):=by rw[wr (by omega) (by omega)];omega
   rw[ew,Int.toNat_natCast]
   obtain⟨x,hx⟩:∃x,(dgL d nd)[q]? =some x:=⟨_,sO (by omega)⟩
   refine⟨g,0,rfl,by omega,by omega,x,?_,av (fun hx48=>?_) fun hx48=>?_⟩
   ·rw[hb'.cell,Nat.zero_add,Nat.mul_one,hlo' q (by omega),hx];rfl
   ·refine⟨⟨rfl,q,rfl,by omega,?_⟩,?_⟩
    ·rw[<-ht,dX,if_pos (by rw[hx,hx48])]
    grind
   ·apply fin
    rw[<-ht,dX,if_neg (by grind)]
  ·apply fin
   have:m=0:=by omega
   subst this
   rw[<-ht];rfl
 ·rintro nd3 dp h3 ⟨cur',hv,f3,hb',hs',hlo',hhi⟩
  simp only[List.cons.injEq,Value.int.injEq,true_and,and_true]at hv
  obtain⟨rfl,rfl⟩:=hv
  refine⟨_,_,_,?_,rfl,r⟩
  have hown:ar h3 sT (eK .u8).sz (some ⟨g,0,none⟩) 32 sC ((eK .u8).l (dgL d nd++List.replicate (32-nd) 0)):=by
   refine⟨by grind [En.l_len,gT],.inr ⟨g,cur',rfl,hb',hle,hmx,by grind,?_⟩⟩
   rw[vr,e1,Nat.mul_one]
   apply List.ext_getElem?
   intro k
   rw[List.getElem?_take]
   split
   ·rename_i hk
    rw[List.getElem?_map]
    by_cases hkn:k<nd
    ·grind
    ·rw[List.getElem?_append_right (by rw[gT];omega),gT,List.getElem?_replicate,if_pos (by omega)]
     grind
   grind [gT]
  refine⟨by grind,Hp.one ⟨hown,by simp[gT];omega⟩,fun k c hk b hbo=>?_⟩
  cases k with
  | zero=>simp at hk;subst hk;exact .inl hbo
  | succ k=>simp at hk
end Go.Proofs.YtemclecmafjjfaaGreatDoor.N
/- The text of digits with a point, or with an exponent: fmtEFG for the shortest form 'g', over memory. Conditions: none. -/
namespace Go.Proofs.YtemclecmafjjfaaGreatDoor.N
open Go.X Go.Proofs.YtemclecmafjjfaaGreatDoor
set_option maxRecDepth 100000
set_option maxHeartbeats 2000000
def ir (neg:Bool):List Int:=if neg then [45]else []
def eI (x:Int):List Int:=
 let a:=x.natAbs
 (if x<0 then 45 else 43)::(if a<10 then [48,((48+a:Nat):Int)]else if a<100 then [((48+a/10:Nat):Int),((48+a % 10:Nat):Int)]else [((48+a/100:Nat):Int),((48+a/10 % 10:Nat):Int),((48+a % 10:Nat):Int)])
def jp (L:List Int) (dp:Int):List Int:=
 (if L=[]then [48]else L.take 1)++(if 1<L.length then 46::L.drop 1 else [])++[101]++eI (if L=[]then 0 else dp-1)
def dh (L:List Int) (dp:Int):List Int:=
 (if 0<dp then L.take dp.toNat++List.replicate (dp.toNat-L.length) 48 else [48])++(if dp<(L.length:Int)then 46::(List.replicate (-dp).toNat 48++L.drop dp.toNat)else [])
def fmtG (neg:Bool) (L:List Int) (dp:Int):List Int:=
 ir neg++(if dp-1< -4\/6<=dp-1 then jp L dp else dh L dp)
def S8 (h:ab) (M:List Nat) (sA:Option Addr) (sC:Nat) (sV:List Int) (h':ab) (A:Option Addr) (n c:Nat) (d:List Int):Prop:=n=d.length/\Sy h M h' [Ck.sl (eK .u8) 5 A n c d,Ck.vw (eK .u8) sA sV.length sC sV]
def J8 (h:ab) (M:List Nat) (sA:Option Addr) (sC:Nat) (sV:List Int) (P:List Int->Prop):List Value->ab->Prop:=fun lz h'=>∃A n c d,lz=[.slice A n c]/\S8 h M sA sC sV h' A n c d/\P d
section
variable {h h':ab} {M:List Nat} {sA:Option Addr} {sC:Nat} {sV:List Int} {A:Option Addr} {n c:Nat} {d:List Int} {H:List Nat}
theorem NE (ys:List Int) {m:Nat} {xs:List Value} (Y:S8 h M sA sC sV h' A n c d) (hH:∀b∈H,b∉ah A) (hl:n+m<=100000) (hm:ys.length=m) (hx:(eK .u8).l ys=xs) {K:Option Addr->Nat->ab->Prop}
  (k:∀A' c' h'',S8 h M sA sC sV h'' A' (n+m) c' (d++ys)->K A' c' h''):
  ∃old,ar h' 5 1 A n c old/\(∀b∈H,b∉ah A)/\(n+m)*1<=140737488355328/\(n+m)<=maxLen/\∀sA sC h'',ar h'' 5 1 sA (n+m) sC (old++xs)->Fr (ah A) h' h''->((sA=A/\sC=c)\/∃g,sA=some ⟨g,0,none⟩/\h'.size<=g)->(c<(n+m)->Fr [] h' h'')->K sA sC h'':=by
 obtain⟨rfl,Y⟩:=Y
 refine⟨_,Y.ownS 0 rfl,hH,by omega,by unfold maxLen;omega,fun A' c' h'' ow f g _=>?_⟩
 subst hx
 exact k A' c' h'' ⟨by simp[hm],Y.appS 0 rfl ys ow f g rfl hm⟩
theorem ap8 {o:Obj} (ys:List Int) {m:Nat} {xs:List Value} (Y:S8 h M sA sC sV h' A n c d) (hH:∀b∈H,b∉ah A) (hl:n+m<=100000) (hm:ys.length=m) (hx:(eK .u8).l ys=xs) {K:Option Addr->Nat->ab->Prop}
  (k:∀A' c' h'',S8 h M sA sC sV h'' A' (n+m) c' (d++ys)->h'.size∉ah A'->h'.size<h''.size->(∀b,b<h'.size->b∉ah A->b∉ah A')->K A' c' h''):
  ∃old,ar (h'.push o) 5 1 A n c old/\(∀b∈h'.size::H,b∉ah A)/\(n+m)*1<=140737488355328/\(n+m)<=maxLen/\∀sA sC h'',ar h'' 5 1 sA (n+m) sC (old++xs)->Fr (ah A) (h'.push o) h''->((sA=A/\sC=c)\/∃g,sA=some ⟨g,0,none⟩/\(h'.push o).size<=g)->(c<(n+m)->Fr [] (h'.push o) h'')->K sA sC h'':=by
 obtain⟨rfl,Y⟩:=Y
 have Y1:Sy h M (h'.push o) [_,_,_]:=Y.junk o
 refine⟨_,Y1.ownS 0 rfl,bB (Y1.nJ 0 2 rfl rfl rfl) hH,by omega,by unfold maxLen;omega,fun A' c' h'' ow f g _=>?_⟩
 subst hx
 have Y2:Sy h M h'' [_,_,_]:=Y1.appS 0 rfl ys ow f g rfl hm
 refine k A' c' h'' ⟨by simp[hm],Y2.pick [0,1] rfl⟩ (Y2.nJ 0 2 rfl rfl rfl) (by have:=f.size;grind) fun b hb hn=>?_
 grind [ah]
theorem Ga {Z:Int} (z:Nat) (hZ:Z=z) (Y:S8 h M sA sC sV h' A n c d) (hl:n+z<=90000) {K:Option Addr->Nat->Nat->ab->Prop} (k:∀A n c h'',S8 h M sA sC sV h'' A n c (d++List.replicate z 48)->K A n c h''):
  ∃(Iv:List Value->ab->Prop) (m:List Value->ab->Nat),Iv [.slice A n c,.int .i64 0] h'/\∀(A:Option Addr) (n c:Nat),∀x:Int,∀hv,Iv [.slice A n c,.int .i64 x] hv->cnd (decide (x<Z))
   (∃old,ar (hv.push (.cells #[.int .u8 48] 5)) 5 1 A n c old/\(∀b∈[hv.size],b∉ah A)/\(n+1)*1<=140737488355328/\(n+1)<=maxLen/\∀sA sC h3,ar h3 5 1 sA (n+1) sC (old++[.int .u8 48])->Fr (ah A) (hv.push (.cells #[.int .u8 48] 5)) h3->((sA=A/\sC=c)\/∃g,sA=some ⟨g,0,none⟩/\(hv.push (.cells #[.int .u8 48] 5)).size<=g)->(c<(n+1)->Fr [] (hv.push (.cells #[.int .u8 48] 5)) h3)->
    Iv [.slice sA (n+1) sC,.int .i64 (i64.wrap (x+(1:Int)))] h3/\m [.slice sA (n+1) sC,.int .i64 (i64.wrap (x+(1:Int)))] h3<m [.slice A n c,.int .i64 x] hv) (K A n c hv):=by
 subst hZ
 refine⟨fun lz h'=>∃(A:Option Addr) (n c j:Nat),lz=[.slice A n c,.int .i64 (j:Int)]/\j<=z/\S8 h M sA sC sV h' A n c (d++List.replicate j 48),fun lz _=>match lz with | [_,.int _ i]=>z-i.toNat | _=>0,⟨_,_,_,0,rfl,Nat.zero_le _,by simpa using Y⟩,?_⟩
 rintro A' n' c' _ hv ⟨_,_,_,j,e,hj,Y'⟩
 cases e
 have hn:n'=d.length+j:=by have:=Y'.1;grind
 have hd:=Y.1
 refine ag (fun hlt=>?_) fun hlt=>k _ _ _ _ (by grind)
 refine ap8 (m:=1) (H:=[]) [48] Y' (by simp) (by omega) rfl rfl fun A2 c2 h2 Y2 _ _ _=>?_
 rw[wr1 (by omega)]
 exact⟨⟨_,_,_,j+1,rfl,by omega,by grind [List.replicate_succ']⟩,by grind⟩
end
theorem I8 {dst sV L:List Int} {neg:Bool} {dp:Int} {n:Nat} {R:List Int->Prop} (hd:dst.length<1000) (hL:sV.take n=L) (hn:n<=sV.length) (hn32:n<=32) (h0: -1000<dp) (h1:dp<1000) (hE:dp-1< -4\/6<=dp-1)
  (r:R (dst++ir neg++jp L dp)):qz dst neg sV dp n n 103 true R:=by
 have hLl:L.length=n:=by grind
 have hnil:L=[] ↔ n=0:=by grind
 intro h dstA dstL dstC sA sL sC H
 have Y0:Sy h (ao [Ck.sl (eK .u8) 5 dstA dstL dstC dst]) h _:=Sy.startM H rfl
 obtain rfl:=Y0.lenS 0 rfl
 obtain rfl:=Y0.lenV 1 rfl
 have hcap:=(Y0.capV 1 rfl).1
 apply ub
 unfold HF
 obtain⟨M,hM⟩:∃M,M=ao [Ck.sl (eK .u8) 5 dstA dst.length dstC dst]:=⟨_,rfl⟩
 rw[<-hM]at Y0
 intro K3
 have hK3:∀h',h=h'->K3 ((n:Int)-1) 101 h':=by
  rintro _ rfl
  have Y1:S8 h M sA sC sV h dstA dst.length dstC dst:=⟨rfl,Y0⟩
  unfold K3
  intro K4
  have hK4:K4 true h:=by
   unfold K4
   refine aO rfl ?_
   refine⟨J8 h M sA sC sV fun d=>d=dst++ir neg,bp (fun hb=>?_) (fun hb=>⟨_,_,_,_,rfl,Y1,by subst hb;simp[ir]⟩),?_⟩
   ·exact ap8 (m:=1) (H:=[]) [45] Y1 (by simp) (by omega) rfl rfl fun A c h2 Y2 _ _ _=>⟨_,_,_,_,rfl,Y2,by subst hb;rfl⟩
   rintro A n2 c h2 ⟨_,_,_,d1,e,Y2,hd1⟩
   cases e
   have hl1:d1.length<=1001:=by grind [ir]
   have e2:=Y2.1
   refine⟨fun lz h'=>∃c:Int,lz=[.int .u8 c]/\h2=h'/\ [c]=if L=[]then [48]else L.take 1,cC (fun hz=>?_) fun hz=>⟨_,rfl,rfl,by grind⟩,?_⟩
   ·obtain⟨b,o,ea,_,x,hx⟩:=Y2.2.atV 1 rfl (i:=0) (by omega) (by omega)
    refine⟨b,o,ea,by omega,by omega,x,Y2.2.cellV 1 rfl ea (i:=0) (t:=0) hx rfl,x,rfl,rfl,?_⟩
    rw[if_neg (fun e=>by grind),<-hL]
    cases sV<;>grind
   rintro ch _ ⟨_,e,rfl,hc⟩
   cases e
   have ep:i64.wrap ((n:Int)-1+1)=(n:Int):=by rw[wr (by omega) (by omega)];omega
   have em:(if(n:Int)<(n:Int)then(n:Int)else(n:Int))=n:=by split<;>rfl
   refine ap8 (m:=1) (H:=[]) [ch] Y2 (by simp) (by omega) rfl rfl fun A3 c3 h3 Y3 b3 s3 _=>?_
   refine⟨J8 h M sA sC sV fun d=>d=d1++(if L=[]then [48]else L.take 1)++(if 1<L.length then 46::L.drop 1 else []),ag (fun hp=>?_) fun hp=>⟨_,_,_,_,rfl,Y3,by grind⟩,?_⟩
   ·refine ap8 (m:=1) (H:=[h2.size]) [46] Y3 (by simpa using b3) (by omega) rfl rfl fun A4 c4 h4 Y4 b4 s4 o4=>?_
    rw[ep,em]
    refine⟨fun lz h'=>∃A n' c d,lz=[.slice A n' c,.int .i64 (n:Int)]/\S8 h M sA sC sV h' A n' c d/\d=d1++[ch]++(46::L.drop 1),ag (fun _=>?_) fun h=>absurd (show(1:Int)<n by omega) h,?_⟩
    ·refine⟨by omega,by omega,by omega,by omega,_,((Y4.2.readsV 1 rfl).takeR (Int.toNat (n:Int)) (by omega)).dropR (Int.toNat (1:Int)) (by omega) (by omega) (Y4.2.capV 1 rfl).2 rfl,Jk (Y4.2.capV 1 rfl).2,En.l_one _,?_⟩
     refine NE (H:=[h3.size,h2.size]) ((sV.take (Int.toNat (n:Int))).drop (Int.toNat (1:Int))) Y4 (bB b4 (bB (o4 _ s3 b3) aH)) (by omega) (Ms _ (by omega)) rfl fun A5 c5 h5 Y5=>⟨_,_,_,_,rfl,Y5,?_⟩
     grind
    rintro A5 n5 c5 i h5 ⟨_,_,_,d5,e,Y5,hd5⟩
    cases e
    have l5:n5<=2000:=by rw[Y5.1,hd5];simp;omega
    refine Ga 0 (by rw[wr (by omega) (by omega)];omega) Y5 (by omega) fun A6 n6 c6 h6 Y6=>⟨_,_,_,_,rfl,Y6,?_⟩
    grind
   rintro A7 n7 c7 h7 ⟨_,_,_,d2,e,Y7,hd2⟩
   cases e
   have hl2:d2.length<=1100:=by
    grind
   have e7:=Y7.1
   have hx:(if L=[]then(0:Int)else dp-1)=if n=0 then 0 else dp-1:=by grind
   generalize hxx:(if L=[]then(0:Int)else dp-1)=x at hx
   have hxb: -1001<x/\x<1000:=by omega
   refine ap8 (m:=1) (H:=[]) [101] Y7 (by simp) (by omega) rfl rfl fun A8 c8 h8 Y8 b8 s8 _=>?_
   refine⟨fun lz h'=>lz=[.int .i64 x]/\h8=h',av (fun hz=>⟨by grind,rfl⟩) fun hz=>⟨by rw[hx,if_neg (by omega),wr (by omega) (by omega)],rfl⟩,?_⟩
   rintro _ _ ⟨e,rfl⟩
   cases e
   refine⟨fun lz h'=>lz=[.int .u8 (if x<0 then 45 else 43),.int .i64 (x.natAbs:Int)]/\h8=h',ag (fun h=>⟨by rw[if_pos h,wr (by omega) (by omega)];congr 4;omega,rfl⟩) fun h=>⟨by grind,rfl⟩,?_⟩
   rintro _ _ _ ⟨e,rfl⟩
   cases e
   refine ap8 (m:=1) (H:=[]) [if x<0 then 45 else 43] Y8 (by simp) (by omega) rfl rfl fun A9 c9 h9 Y9 b9 s9 _=>?_
   have ha:x.natAbs<1001:=by omega
   have key:R (d2++[101]++eI x):=by
    grind [jp]
   generalize hA:x.natAbs=a at*
   have t10:Int.tdiv (a:Int) 10=((a/10:Nat):Int):=rfl
   have t100:Int.tdiv (a:Int) 100=((a/100:Nat):Int):=rfl
   have m10:Int.tmod (a:Int) 10=((a % 10:Nat):Int):=rfl
   have bH:∀b∈[h8.size],b∉ah A9:=by simpa using b9
   refine⟨J8 h M sA sC sV fun d=>d=d2++[101]++eI x,ag (fun hq=>?_) fun hq=>⟨J8 h M sA sC sV fun d=>d=d2++[101]++eI x,ag (fun h2=>⟨by decide,by decide,?_⟩) fun h2=>⟨by decide,by decide,by decide,by decide,?_⟩,?_⟩,?_⟩
   ·refine ap8 (m:=2) (H:=[h8.size]) [48,_] Y9 bH (by omega) rfl rfl fun A c h' Y' _ _ _=>⟨_,_,_,_,rfl,Y',?_⟩
    rw[u8w (x:=(a:Int)) (by omega) (by omega),u8w (by omega) (by omega)]
    unfold eI;grind
   ·refine ap8 (m:=2) (H:=[h8.size]) [_,_] Y9 bH (by omega) rfl rfl fun A c h' Y' _ _ _=>⟨_,_,_,_,rfl,Y',?_⟩
    rw[t10,m10,wr (by omega) (by omega),u8w (x:=((a/10:Nat):Int)) (by omega) (by omega),u8w (x:=((a/10:Nat):Int)+48) (by omega) (by omega),u8w (x:=((a % 10:Nat):Int)) (by omega) (by omega),u8w (x:=((a % 10:Nat):Int)+48) (by omega) (by omega)]
    unfold eI;grind
   ·refine ap8 (m:=3) (H:=[h8.size]) [_,_,_] Y9 bH (by omega) rfl rfl fun A c h' Y' _ _ _=>⟨_,_,_,_,rfl,Y',?_⟩
    rw[t100,t10,m10,wr (x:=((a/100:Nat):Int)) (by omega) (by omega),wr (x:=((a/10:Nat):Int)) (by omega) (by omega),u8w (x:=((a/100:Nat):Int)) (by omega) (by omega),u8w (x:=((a/100:Nat):Int)+48) (by omega) (by omega),u8w (x:=((a/10:Nat):Int)) (by omega) (by omega),
     u8w (x:=((a % 10:Nat):Int)) (by omega) (by omega),u8w (x:=((a % 10:Nat):Int)+48) (by omega) (by omega)]
    rw[show Int.tmod ((a/10:Nat):Int) 10=((a/10 % 10:Nat):Int)from rfl,u8w (x:=((a/10 % 10:Nat):Int)+48) (by omega) (by omega)]
    unfold eI;grind
   ·grind
   ·rintro A n c h' ⟨_,_,_,d,e,Y',rfl⟩
    cases e
    exact⟨_,_,_,_,by rw[<-hM];exact Y'.2.pick [0] rfl,rfl,key⟩
  exact av (fun _=>hK4) fun q=>absurd rfl q
 refine aO rfl ?_
 intro K
 have hK:K n h:=by
  unfold K
  refine⟨fun lz h'=>lz=[.int .i64 6]/\h=h',aO rfl ⟨rfl,rfl⟩,?_⟩
  rintro _ _ ⟨e,rfl⟩
  cases e
  have ed:i64.wrap (dp-1)=dp-1:=wr (by omega) (by omega)
  have ef:u8.wrap (u8.wrap (103+101)-103)=101:=by decide
  rw[ed,ef]
  have en:i64.wrap ((n:Int)-1)=(n:Int)-1:=wr (by omega) (by omega)
  refine ag (fun _=>⟨fun lz h'=>lz=[.int .i64 (n:Int)]/\h=h',ag (fun _=>⟨rfl,rfl⟩) fun _=>⟨rfl,rfl⟩,?_⟩) fun hlt=>⟨fun lz h'=>lz=[.int .i64 ((n:Int)-1),.int .u8 101]/\h=h',ag (fun _=>⟨fun lz h'=>lz=[.int .i64 (n:Int)]/\h=h',ag (fun _=>⟨rfl,rfl⟩) fun _=>⟨rfl,rfl⟩,?_⟩) fun h=>absurd hE (by omega),?_⟩
  ·simp_all
  ·simp_all
  simp_all
 exact ag (fun h=>absurd h (by omega)) fun _=>hK
theorem CZ {dst sV L:List Int} {neg:Bool} {dp pc:Int} {n:Nat} {R:List Int->Prop} (hd:dst.length<1000) (hL:sV.take n=L) (hn:n<=sV.length) (hn32:n<=32) (h0: -1000<dp) (h1:dp<1000) (hE:¬(dp-1< -4\/6<=dp-1))
  (hpc:pc=n\/(n=0/\dp=0/\pc= -1)) (r:R (dst++ir neg++dh L dp)):qz dst neg sV dp n pc 103 true R:=by
 have hLl:L.length=n:=by grind
 intro h dstA dstL dstC sA sL sC H
 have Y0:Sy h (ao [Ck.sl (eK .u8) 5 dstA dstL dstC dst]) h _:=Sy.startM H rfl
 obtain rfl:=Y0.lenS 0 rfl
 obtain rfl:=Y0.lenV 1 rfl
 have hcap:=(Y0.capV 1 rfl).1
 apply ub
 unfold HF
 obtain⟨M,hM⟩:∃M,M=ao [Ck.sl (eK .u8) 5 dstA dst.length dstC dst]:=⟨_,rfl⟩
 rw[<-hM]at Y0
 intro K3
 have hK3:∀h',h=h'->K3 ((n-dp).toNat:Int) 102 h':=by
  rintro _ rfl
  have Y1:S8 h M sA sC sV h dstA dst.length dstC dst:=⟨rfl,Y0⟩
  unfold K3
  intro K4
  have hK4:K4 false h:=by
   unfold K4
   refine aG rfl (aO rfl ?_)
   refine⟨J8 h M sA sC sV fun d=>d=dst++ir neg,bp (fun hb=>?_) (fun hb=>⟨_,_,_,_,rfl,Y1,by subst hb;simp[ir]⟩),?_⟩
   ·exact ap8 (m:=1) (H:=[]) [45] Y1 (by simp) (by omega) rfl rfl fun A c h2 Y2 _ _ _=>⟨_,_,_,_,rfl,Y2,by subst hb;rfl⟩
   rintro A n2 c h2 ⟨_,_,_,d1,e,Y2,hd1⟩
   cases e
   have hl1:d1.length<=1001:=by grind [ir]
   have e2:=Y2.1
   refine⟨J8 h M sA sC sV fun d=>d=d1++(if 0<dp then L.take dp.toNat++List.replicate (dp.toNat-L.length) 48 else [48]),ag (fun hp=>?_) fun hp=>?_,?_⟩
   ·obtain⟨m,hm,hmn⟩:∃m:Nat,(if dp<(n:Int)then dp else(n:Int))=m/\m=min dp.toNat n:=⟨min dp.toNat n,by split<;>omega,rfl⟩
    rw[hm,Int.toNat_natCast,if_pos hp]
    have hmL:sV.take m=L.take m:=by grind
    have hml:(L.take m).length=m:=by grind
    refine⟨by omega,by omega,fun lz h'=>∃(A:Option Addr) (n' c:Nat) (d:List Int) (k:Nat),lz=[.slice A n' c,.int .i64 (k:Int)]/\S8 h M sA sC sV h' A n' c d/\k<=m/\d=d1++(L.take m).take k,fun lz _=>match lz with | [_,.int _ i]=>m-i.toNat | _=>0,⟨_,_,_,_,0,rfl,Y2,Nat.zero_le _,by simp⟩,?_⟩
    rintro A3 n3 c3 _ h3 ⟨_,_,_,d,k,e,Y3,hk,hd3⟩
    cases e
    have l3:n3<=1100:=by rw[Y3.1,hd3];grind
    refine ag (fun hlt=>?_) fun hge=>?_
    ·obtain⟨b,o,ea,_,v,hv⟩:=Y3.2.atV 1 rfl (i:=(k:Int)) (by omega) (by omega)
     have hs0:sC≠0:=by omega
     have ea':(if sC=0 then sA else Option.map (fun addr=>Addr.add addr (0*1)) sA)=some ⟨b,o,none⟩:=by rw[if_neg hs0,ea];rfl
     refine⟨b,o,ea',by omega,hlt,v,Y3.2.cellV 1 rfl ea (i:=k) (t:=0) hv rfl,?_⟩
     refine ap8 (m:=1) (H:=[]) [v] Y3 (by simp) (by omega) rfl rfl fun A4 c4 h4 Y4 _ _ _=>?_
     rw[wr1 (by omega)]
     refine⟨⟨_,_,_,_,k+1,rfl,Y4,by omega,?_⟩,by grind⟩
     have hv2:(L.take m)[k]? =some v:=by grind
     grind [List.take_add_one]
    ·have hkm:k=m:=by omega
     subst hkm
     rw[List.take_of_length_le (by omega)]at hd3
     have hzz:i64.wrap (dp-(k:Int))=((dp.toNat-k:Nat):Int):=by rw[wr (by omega) (by omega)];omega
     refine Ga (dp.toNat-k) hzz Y3 (by omega) fun A5 n5 c5 h5 Y5=>⟨_,_,_,_,rfl,Y5,?_⟩
     grind
   ·exact ap8 (m:=1) (H:=[]) [48] Y2 (by simp) (by omega) rfl rfl fun A3 c3 h3 Y3 _ _ _=>⟨_,_,_,_,rfl,Y3,by rw[if_neg hp]⟩
   rintro A7 n7 c7 h7 ⟨_,_,_,d2,e,Y7,hd2⟩
   cases e
   have hl2:d2.length<=3000:=by
    grind
   have e7:=Y7.1
   refine⟨J8 h M sA sC sV fun d=>d=d2++(if dp<(L.length:Int)then 46::(List.replicate (-dp).toNat 48++L.drop dp.toNat)else []),ag (fun hq=>?_) fun hq=>⟨_,_,_,_,rfl,Y7,by grind⟩,?_⟩
   ·have hlt:dp<n:=by omega
    have hfr:(if dp<(L.length:Int)then 46::(List.replicate (-dp).toNat (48:Int)++L.drop dp.toNat)else [])=46::(List.replicate (-dp).toNat (48:Int)++L.drop dp.toNat):=if_pos (by omega)
    rw[hfr]
    obtain⟨zn,hzn⟩:∃zn:Nat,zn=(-dp).toNat:=⟨_,rfl⟩
    obtain⟨on,hon⟩:∃on:Nat,on=dp.toNat:=⟨_,rfl⟩
    obtain⟨mn,hmn⟩:∃mn:Nat,mn=n-on:=⟨_,rfl⟩
    have hz1:(if i64.wrap (0-dp)>(0:Int)then i64.wrap (0-dp)else 0)=(zn:Int):=by grind [wr]
    have hz2:(if(zn:Int)<((n-dp).toNat:Int)then(zn:Int)else((n-dp).toNat:Int))=(zn:Int):=by split<;>omega
    have ho:i64.wrap (dp+(zn:Int))=(on:Int):=by rw[wr (by omega) (by omega)];omega
    have hm1:i64.wrap ((n:Int)-(on:Int))=(mn:Int):=by rw[wr (by omega) (by omega)];omega
    have hm2:(if(mn:Int)>0 then(mn:Int)else 0)=(mn:Int):=by split<;>omega
    have hm3:i64.wrap (((n-dp).toNat:Int)-(zn:Int))=(mn:Int):=by grind
    have hm4:(if(mn:Int)<(mn:Int)then(mn:Int)else(mn:Int))=(mn:Int):=by split<;>rfl
    have hm5:i64.wrap ((mn:Int)-(mn:Int))=0:=by rw[wr (by omega) (by omega)];omega
    have hm6:(if(0:Int)>0 then(0:Int)else 0)=0:=by decide
    simp only[hz1,hz2,ho,hm1,hm2,hm3,hm4,hm5,hm6]
    rw[<-hzn,<-hon]
    refine ap8 (m:=1) (H:=[]) [46] Y7 (by simp) (by omega) rfl rfl fun A8 c8 h8 Y8 _ _ _=>?_
    refine Ga zn rfl Y8 (by omega) fun A9 n9 c9 h9 Y9=>?_
    have hdl:(L.drop on).length=mn:=by grind
    have l9:n9<=9000:=by rw[Y9.1];simp;omega
    refine⟨fun lz h'=>∃(A:Option Addr) (n' c:Nat) (d:List Int) (k:Nat),lz=[.slice A n' c,.int .i64 (k:Int)]/\S8 h M sA sC sV h' A n' c d/\k<=mn/\d=d2++[46]++List.replicate zn 48++(L.drop on).take k,fun lz _=>match lz with | [_,.int _ i]=>mn-i.toNat | _=>0,⟨_,_,_,_,0,rfl,Y9,Nat.zero_le _,by simp⟩,?_⟩
    rintro A3 n3 c3 _ h3 ⟨_,_,_,d,k,e,Y3,hk,hd3⟩
    cases e
    have l3:n3<=9000:=by rw[Y3.1,hd3];simp only[List.length_append,List.length_take,List.length_replicate,List.length_cons,List.length_nil];omega
    have ek:i64.wrap ((on:Int)+(k:Int))=((on+k:Nat):Int):=by rw[wr (by omega) (by omega)];omega
    rw[ek]
    refine ag (fun hlt=>?_) fun hge=>?_
    ·obtain⟨b,o,ea,_,v,hv⟩:=Y3.2.atV 1 rfl (i:=((on+k:Nat):Int)) (by omega) (by omega)
     refine⟨b,o,ea,by omega,by omega,v,Y3.2.cellV 1 rfl ea (i:=on+k) (t:=0) hv rfl,?_⟩
     refine ap8 (m:=1) (H:=[]) [v] Y3 (by simp) (by omega) rfl rfl fun A4 c4 h4 Y4 _ _ _=>?_
     rw[wr1 (by omega)]
     refine⟨⟨_,_,_,_,k+1,rfl,Y4,by omega,?_⟩,by dsimp only;omega⟩
     have hv2:(L.drop on)[k]? =some v:=by
      rw[List.getElem?_drop,<-hL,List.getElem?_take,if_pos (by omega)];exact hv
     grind [List.take_add_one]
    ·have hkm:k=mn:=by omega
     refine Ga 0 rfl Y3 (by omega) fun A5 n5 c5 h5 Y5=>⟨_,_,_,_,rfl,Y5,?_⟩
     grind
   rintro A n c h' ⟨_,_,_,d3,e,Y',hd3⟩
   cases e
   refine⟨_,_,_,_,by rw[<-hM];exact Y'.2.pick [0] rfl,rfl,?_⟩
   grind [dh]
  exact av (fun q=>absurd q (by decide)) fun _=>hK4
 refine aO rfl ?_
 intro K
 have hK:∀e,K e h:=by
  intro e0
  unfold K
  refine⟨fun lz h'=>lz=[.int .i64 6]/\h=h',aO rfl ⟨rfl,rfl⟩,?_⟩
  rintro _ _ ⟨e,rfl⟩
  cases e
  have ed:i64.wrap (dp-1)=dp-1:=wr (by omega) (by omega)
  rw[ed]
  refine ag (fun h=>absurd h (by omega)) fun _=>⟨fun lz h'=>lz=[.int .i64 ((n-dp).toNat:Int),.int .u8 102]/\h=h',ag (fun h=>absurd h (by omega)) fun _=>⟨fun lz h'=>∃p:Int,lz=[.int .i64 p]/\h=h'/\(p=n\/p=pc/\pc<=dp),ag (fun _=>⟨_,rfl,rfl,.inl rfl⟩) fun q=>⟨_,rfl,rfl,.inr ⟨rfl,by omega⟩⟩,?_⟩,?_⟩
  ·rintro p _ ⟨q,e,rfl,hp⟩
   obtain rfl:p=q:=by simpa using e
   have hp2: -1<=p/\p<=32:=by omega
   rw[wr (x:=p-dp) (by omega) (by omega)]
   refine⟨?_,rfl⟩
   congr 2
   split<;>omega
  simp_all
 refine ag (fun _=>⟨fun _ h'=>h=h',ag (fun _=>rfl) fun _=>rfl,?_⟩) fun _=>hK _
 omega
theorem I9 {dst sV L:List Int} {neg:Bool} {dp:Int} {n:Nat} {R:List Int->Prop} (hd:dst.length<1000) (hL:sV.take n=L) (hn:n<=sV.length) (hn32:n<=32) (h0: -1000<dp) (h1:dp<1000)
  (r:R (dst++fmtG neg L dp)):qz dst neg sV dp n n 103 true R:=by
 unfold fmtG at r
 rw[<-List.append_assoc]at r
 by_cases hE:dp-1< -4\/6<=dp-1
 ·rw[if_pos hE]at r
  exact I8 hd hL hn hn32 h0 h1 hE r
 ·rw[if_neg hE]at r
  grind [CZ]
theorem Ja {dst:List Int} {neg:Bool} {R:List Int->Prop} (hd:dst.length<1000) (r:R (dst++fmtG neg [] 0)):qz dst neg [] 0 0 (-1) 103 true R:=by
 unfold fmtG at r
 rw[<-List.append_assoc,if_neg (by decide)]at r
 exact CZ (n:=0) hd rfl (by simp) (by omega) (by omega) (by omega) (by decide) (.inr ⟨rfl,rfl,rfl⟩) r
end Go.Proofs.YtemclecmafjjfaaGreatDoor.N
/- FormatFloat(x, 'g', -1, 64) of finite numbers, as a function. Conditions: none. -/
namespace Go.Proofs.YtemclecmafjjfaaGreatDoor.N
open Go.X Go.Proofs.YtemclecmafjjfaaGreatDoor
set_option maxRecDepth 100000
set_option maxHeartbeats 1000000
def gN (f:Nat):Nat:=f/4503599627370496 % 2048
def C0 (f:Nat):Nat:=f % 4503599627370496
def iX (f:Nat):Bool:=decide (f/9223372036854775808≠0)
def bT (f:Nat):Nat:=if gN f=0 then C0 f else C0 f+4503599627370496
def iY (f:Nat):Int:=if gN f=0 then 1 else gN f
def gy (f:Nat):Nat:=64-Lib.bitLen (bT f)
def mY (f:Nat):Nat:=bT f*2^gy f
def iH (f:Nat):Int:=iY f-1075-gy f
def dOf (f:Nat):Nat:=(short (mY f) (iH f)).1
def pOf (f:Nat):Int:=(short (mY f) (iH f)).2
def LOf (f:Nat):List Int:=(dgL (dOf f) (ndg (dOf f))).take (dX (dgL (dOf f) (ndg (dOf f))) (ndg (dOf f)))
def kZ (f:Nat):Int:=ndg (dOf f)+pOf f
def dy (f:Nat):List Int:=if bT f=0 then fmtG (iX f) [] 0 else fmtG (iX f) (LOf f) (kZ f)
theorem wy {d:Nat} (h:d<18446744073709551616):ndg d<=20:=by
 unfold ndg;split
 ·omega
 ·rename_i h0
  have:=Lib.numDigits_eq d (by omega) h
  grind
theorem wz (d:Nat):d<10^ndg d:=by
 grind [ndg,Lib.lt_pow_nDigits]
theorem oY (m:Nat) (ev:Int):(short m ev).1<18446744073709551616:=by
 have h1:bS m ev<18446744073709551616:=by unfold bS;omega
 have h2:dT m ev<18446744073709551616:=by unfold dT;omega
 unfold short
 split
 ·omega
 ·split
  ·show rnd _<_;unfold rnd;omega
  ·exact h2
theorem iI {x:Nat} (h:x≠0) (hx:x<18446744073709551616):1<=Lib.bitLen x/\2^(Lib.bitLen x-1)<=x/\x<2^Lib.bitLen x:=Lib.bitLenAux_bounds 64 x hx h
theorem ym {x k:Nat} (h1:2^k<=x) (h2:x<2^(k+1)) (hx:x<18446744073709551616):Lib.bitLen x=k+1:=by
 have hp:0<2^k:=Nat.two_pow_pos k
 obtain⟨a1,a2,a3⟩:=iI (show x≠0 by omega) hx
 have b1:=(Nat.pow_lt_pow_iff_right (a:=2) (by decide)).1 (Nat.lt_of_le_of_lt a2 h2)
 have b2:=(Nat.pow_lt_pow_iff_right (a:=2) (by decide)).1 (Nat.lt_of_le_of_lt h1 a3)
 omega
theorem uG (f:Nat):C0 f<4503599627370496:=Nat.mod_lt _ (by decide)
theorem C1 (f:Nat):bT f<9007199254740992:=by
 grind [uG,bT]
theorem C4 {f:Nat} (hx:gN f≠2047) (hm:bT f≠0):Mt (mY f) (iH f)/\gy f<=63/\11<=gy f:=by
 have hl:=C1 f
 have he:gN f<2048:=Nat.mod_lt _ (by decide)
 obtain⟨b1,b2,b3⟩:=iI hm (by omega)
 have b53:Lib.bitLen (bT f)<=53:=Lib.bitLen_le _ 53 (by decide) hl
 have hs:gy f=64-Lib.bitLen (bT f):=rfl
 have hs2:11<=gy f/\gy f<=63:=by omega
 have hb:gy f+Lib.bitLen (bT f)=64:=by omega
 have lo:9223372036854775808<=mY f:=by
  have:2^(Lib.bitLen (bT f)-1)*2^gy f=2^63:=by rw[<-Nat.pow_add];congr 1;omega
  have h2:=Nat.mul_le_mul_right (2^gy f) b2
  rw[this]at h2
  exact h2
 have hi:mY f<18446744073709551616:=by
  have:2^Lib.bitLen (bT f)*2^gy f=2^64:=by rw[<-Nat.pow_add];congr 1;omega
  have h2:=Nat.mul_lt_mul_of_pos_right b3 (Nat.two_pow_pos (gy f))
  rw[this]at h2
  exact h2
 have hz:zOf (iH f)=gy f/\ -1137<=iH f/\iH f<=960:=by
  unfold iH iY
  by_cases h0:gN f=0
  ·have hm2:bT f<2^52:=by unfold bT;rw[if_pos h0];exact uG f
   have:Lib.bitLen (bT f)<=52:=Lib.bitLen_le _ 52 (by decide) hm2
   rw[if_pos h0]
   unfold zOf
   grind
  ·have hm2:2^52<=bT f:=by unfold bT;grind
   have:Lib.bitLen (bT f)=53:=ym (k:=52) hm2 hl (by omega)
   rw[if_neg h0]
   unfold zOf
   grind
 exact⟨⟨lo,hi,hz.2.1,hz.2.2,by rw[hz.1];exact Nat.mul_mod_left _ _⟩,hs2.2,hs2.1⟩
theorem Mk {m:Nat} {ev:Int} (h:Mt m ev): -360<=(short m ev).2/\(short m ev).2<=360:=by
 obtain⟨p1,p2⟩:=h.p
 unfold short
 split
 ·omega
 ·split
  ·omega
  omega
theorem Ml {dst:List Int} {f:Nat} {R:List Int->Prop} (hf:f<18446744073709551616) (hx:gN f≠2047) (hd:dst.length<1000) (r:R (dst++dy f)):HG dst f 103 (-1) R:=by
 apply M5
 unfold T85
 refine⟨fun a b c d=>a=(f:Int)/\b=11/\c=52/\d= -1023,aG (by decide) ⟨fun a b c d=>a=(f:Int)/\b=11/\c=52/\d= -1023,aO (by decide) (bf (FY f) ⟨_,rfl,rfl,rfl,rfl,rfl⟩),fun _ _ _ _ h=>h⟩,?_⟩
 rintro _ _ _ _ ⟨rfl,rfl,rfl,rfl⟩
 have c63:i64.wrap ((11:Int)+52)=63:=by decide
 have c2047:i64.wrap (i64.wrap ((1:Int)*2^min (Int.toNat 11) 64)-1)=2047:=by decide
 have cmask:u64.wrap (u64.wrap ((1:Int)*2^min (Int.toNat 52) 64)-1)=4503599627370495:=by decide
 have c52:u64.wrap ((1:Int)*2^min (Int.toNat 52) 64)=4503599627370496:=by decide
 have m52:min (Int.toNat 52) 64=52:=by decide
 have m63:min (Int.toNat 63) 64=63:=by decide
 rw[c63,c2047,cmask,c52,m52,m63,shr,shr]
 have hq:f/2^52<4096:=by
  omega
 have eex:bits .and .i64 (i64.wrap ((f/2^52:Nat):Int)) 2047=(gN f:Int):=by
  grind [wr,F9,gN]
 have efr:bits .and .u64 (f:Int) 4503599627370495=(C0 f:Int):=Mg f hf
 have ene:(((f/2^63:Nat):Int) != 0)=iX f:=by
  have:(2:Nat)^63=9223372036854775808:=by decide
  rw[this];unfold iX
  grind
 rw[eex,efr,ND _ (uG f),ene]
 have he:gN f<2048:=Nat.mod_lt _ (by decide)
 have hml:=C1 f
 refine⟨by decide,by decide,by decide,by decide,by decide,av (fun h=>absurd h (by omega)) fun _=>?_⟩
 refine⟨fun a b=>a=iY f/\b=(bT f:Int),av (fun h=>?_) fun h=>⟨by decide,?_⟩,?_⟩
 ·have h':gN f=0:=by omega
  unfold iY bT;rw[if_pos h',if_pos h',h',show i64.wrap (((0:Nat):Int)+1)=1 by decide]
  omega
 ·have h':gN f≠0:=by omega
  unfold iY bT;grind
 rintro _ _ ⟨rfl,rfl⟩
 refine aG (by decide) (aG (by decide) (aG (by decide) (av (fun h0=>?_) fun h0=>?_)))
 ·have h0':bT f=0:=by omega
  unfold dy at r;rw[if_pos h0']at r
  exact Ja hd r
 have h0':bT f≠0:=by omega
 unfold dy at r;rw[if_neg h0']at r
 obtain⟨hmt,hs63,hs11⟩:=C4 hx h0'
 refine aO (by decide) (wv (by omega) (by omega) ?_)
 have eb:bl (bT f:Int)=((Lib.bitLen (bT f):Nat):Int):=rfl
 obtain⟨b1,b2,b3⟩:=iI h0' (by omega)
 have b53:Lib.bitLen (bT f)<=53:=Lib.bitLen_le _ 53 (by decide) hml
 have es:i64.wrap ((64:Int)-bl (bT f:Int))=(gy f:Int):=by grind [wr,gy]
 rw[es,Int.toNat_natCast,Nat.min_eq_left (by omega),uA,<-Int.natCast_mul,show bT f*2^gy f=mY f from rfl,dw hmt.hi]
 have hxp: -1<=iY f/\iY f<=2047:=by unfold iY;split<;>omega
 have ee:i64.wrap (i64.wrap (i64.wrap (iY f+ -1023)-(gy f:Int))-52)=iH f:=by
  grind [wr,iH]
 rw[ee]
 refine⟨by omega,I6 hmt ?_⟩
 have hdl:=oY (mY f) (iH f)
 obtain⟨p1,p2⟩:=Mk hmt
 have hn:=wy hdl
 refine Mj hdl (I7 (wz _) hdl (by omega) ⟨by omega,by omega⟩ ?_)
 refine⟨fun q=>q=(dX (dgL (dOf f) (ndg (dOf f))) (ndg (dOf f)):Int),⟨fun x=>x=false,aG (by decide) (by decide),?_⟩,?_⟩
 ·rintro _ rfl
  refine aG rfl ⟨fun q=>q=(dX (dgL (dOf f) (ndg (dOf f))) (ndg (dOf f)):Int),aG (by decide) ⟨fun x=>x=true,aO (by decide) (by decide),?_⟩,fun _ h=>h⟩
  rintro _ rfl
  exact aO rfl rfl
 rintro _ rfl
 have ht:=oX (dgL (dOf f) (ndg (dOf f))) (ndg (dOf f))
 have hn2:ndg (dOf f)<=20:=hn
 refine I9 hd ?_ ?_ (Nat.le_trans ht (by omega)) (show-1000<kZ f by unfold kZ pOf;omega) (show kZ f<1000 by unfold kZ pOf;omega) r
 ·rw[List.take_append_of_le_length (by rw[gT];exact ht)];rfl
 grind [dgL,dOf]
theorem Mm {f:Nat} {R:ByteArray->Prop} (hf:f<18446744073709551616) (hx:gN f≠2047) (r:R (strOf (dy f))):HH f 103 (-1) 64 R:=by
 apply M7
 unfold T64
 refine aG (by decide) (aO (by decide) ⟨by decide,by decide,by decide,Ml hf hx (by decide) ?_⟩)
 exact r
theorem Mn {f:Nat} {R:ByteArray->Prop} (hf:f<18446744073709551616) (hx:gN f≠2047) (r:R (strOf (dy f))):HI f 103 (-1) 64 R:=by
 grind [M9,T45,Mm]
end Go.Proofs.YtemclecmafjjfaaGreatDoor.N
