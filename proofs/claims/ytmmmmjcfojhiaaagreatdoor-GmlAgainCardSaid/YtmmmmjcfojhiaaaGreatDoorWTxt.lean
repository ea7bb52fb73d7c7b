/- Numbers of 64 bits as natural numbers: shifts, masks, wraps. Conditions: none. -/
import Derived.Test.YtmmmmjcfojhiaaaGreatDoorWFast
set_option linter.unusedVariables false
set_option linter.unusedSimpArgs false
set_option maxRecDepth 100000
set_option maxHeartbeats 2000000
open Go.IntKind (i64 u64 u8 i32)
namespace Go.Proofs.YtmmmmjcfojhiaaaGreatDoor.N
open Go.X Go.Proofs.YtmmmmjcfojhiaaaGreatDoor
theorem Og {x y:Int} {R:Int->Int->Prop} (hx0:0<=x) (hx:x<18446744073709551616) (hy0:0<=y) (hy:y<18446744073709551616) (r:R (x*y/18446744073709551616) (x*y % 18446744073709551616)):Gy x y R:=by
 intro h _
 obtain⟨a,rfl⟩:=Int.eq_ofNat_of_zero_le hx0
 obtain⟨b,rfl⟩:=Int.eq_ofNat_of_zero_le hy0
 refine ic (v:=.tuple #[PO ((a*b/18446744073709551616:Nat):Int),PO ((a*b % 18446744073709551616:Nat):Int)]) (fun w=>Go.Proofs.Tryz.bits_Mul64 a b PA PA w) ?_
 refine⟨_,_,sy0 (Fr.refl _ _),rfl,?_⟩
 have e:((a:Int)*(b:Int))=((a*b:Nat):Int):=(R3 a b).symm
 rw[e]at r
 exact r
def bl (x:Int):Int:=Lib.bitLen x.toNat
theorem xF {x:Int} {R:Int->Prop} (hx0:0<=x) (hx:x<18446744073709551616) (r:R (bl x)):yI x R:=by
 intro h _
 exact ic (fun w=>Go.Proofs.Tryz.bits_Len64 x w hx0 PA) ⟨_,sy0 (Fr.refl _ _),rfl,r⟩
theorem Oh {s chars:P0} {R:Bool->Prop} (hs:s.size<4294967281) (hcs:chars.size<4294967281) (has:∀(j:Nat) b,s.data.toList[j]? =some b->b.toNat<128) (hac:∀(j:Nat) b,chars.data.toList[j]? =some b->b.toNat<128)
  (r:R (Lib.containsAny s.data.toList chars.data.toList)):Md s chars R:=by
 intro h _
 exact gk (fun w _=>Go.Proofs.Tryz.strings_ContainsAny_laid s chars w hs hcs has hac) fun h' f=>⟨_,sy0 f,rfl,r⟩
theorem Iy (a b:Nat) (hb:b<=18446744073709551616):u64.wrap ((a:Int)-(b:Int))=(((a+18446744073709551616-b) % 18446744073709551616:Nat):Int):=by rw[IntKind.wrap_u64];omega
theorem xG {a b:Nat} (h:b<=a) (ha:a<18446744073709551616):u64.wrap ((a:Int)-(b:Int))=((a-b:Nat):Int):=by rw[IntKind.wrap_u64];omega
theorem tW (x:Int) (m:Nat) (hm:m<9223372036854775808):bits .and .i64 x (m:Int)=(((x % 18446744073709551616).toNat&&& m:Nat):Int):=by
 show i64.wrap ((BitVec.ofInt 64 x&&& BitVec.ofInt 64 (m:Int)).toNat:Int)=_
 rw[BitVec.toNat_and,BitVec.toNat_ofInt,BitVec.ofInt_natCast,BitVec.toNat_ofNat,Ra (show m<2^64 by omega)]
 have h1:(x % 18446744073709551616).toNat&&& m<=m:=Nat.and_le_right
 have e:(x % ((2^64:Nat):Int))=x % 18446744073709551616:=rfl
 rw[e,IntKind.wrap_i64];omega
theorem Oi (x:Int):bits .and .i64 x 63=(((x % 64).toNat:Nat):Int):=by
 have:=tW x 63 PB
 have e:(x % 18446744073709551616).toNat&&& 63=(x % 18446744073709551616).toNat % 64:=Qv _ 6
 rw[e]at this
 rw[show((63:Int))=((63:Nat):Int)from rfl,this];omega
theorem Pw (x:Int):bits .and .i64 x 1=(((x % 2).toNat:Nat):Int):=by
 have:=tW x 1 PB
 have e:(x % 18446744073709551616).toNat&&& 1=(x % 18446744073709551616).toNat % 2:=Qv _ 1
 rw[e]at this
 rw[show((1:Int))=((1:Nat):Int)from rfl,this];omega
theorem HI (x:Int):bits .and .i64 x 2047=(((x % 2048).toNat:Nat):Int):=by
 have:=tW x 2047 PB
 have e:(x % 18446744073709551616).toNat&&& 2047=(x % 18446744073709551616).toNat % 2048:=Qv _ 11
 rw[e]at this
 rw[show((2047:Int))=((2047:Nat):Int)from rfl,this];omega
theorem Iz (a:Nat) (ha:a<18446744073709551616):bits .and .u64 (a:Int) 1=((a % 2:Nat):Int):=by
 have:=bits_and_u64_nat a 1 ha PB
 rw[show((1:Int))=((1:Nat):Int)from rfl,this,show a&&& 1=a % 2 from Qv _ 1]
theorem Oj (a:Nat) (ha:a<18446744073709551616):bits .and .u64 (a:Int) 4503599627370495=((a % 4503599627370496:Nat):Int):=by
 have:=bits_and_u64_nat a 4503599627370495 ha PB
 rw[show((4503599627370495:Int))=((4503599627370495:Nat):Int)from rfl,this,show a&&& 4503599627370495=a % 4503599627370496 from Qv _ 52]
theorem Px (a:Nat) (ha:a<4503599627370496):bits .or .u64 (a:Int) 4503599627370496=((a+4503599627370496:Nat):Int):=by
 have:=bits_or_u64_nat a 4503599627370496 PA PB
 rw[show((4503599627370496:Int))=((4503599627370496:Nat):Int)from rfl,this]
 have h:a||| 2^52=a+2^52:=by
  have:=R5 (i:=52) (b:=a) PA 1
  rw[Qy]at this
  rw[Nat.or_comm,<-this];omega
 exact congrArg _ h
def usc (x hi lo s:Nat):Nat:=
 let H:=x*hi/18446744073709551616
 let M:=x*hi % 18446744073709551616
 if H/2^s*2^s=H then
  let m2:=x*lo/18446744073709551616
  ((H+18446744073709551616-(if M<m2 then 1 else 0)) % 18446744073709551616/2^s)||| (if(M+18446744073709551616-m2) % 18446744073709551616>1 then 1 else 0)
 else(H/2^s)||| 1
theorem IA {x y:Nat} {R:Int->Int->Prop} (hx:x<18446744073709551616) (hy:y<18446744073709551616) (r:R ((x*y/18446744073709551616:Nat):Int) ((x*y % 18446744073709551616:Nat):Int)):Gy x y R:=
 Og PA PA PA PA r
theorem Ec {b:Bool} {R:Int->Prop} (r:R (((if b then 1 else 0:Nat)):Int)):yK b R:=by
 apply Mp;unfold Jw
 cases b
 ·exact az rfl r
 ·exact aJ rfl r
theorem jG {x y:Nat} (hx:x<18446744073709551616) (hy:y<18446744073709551616):x*y/18446744073709551616<18446744073709551616:=
 RQ (Nat.mul_lt_mul'' hx hy)
theorem Ed {x hi lo s:Nat} (hx:x<18446744073709551616) (hh:hi<18446744073709551616):usc x hi lo s<18446744073709551616:=by
 have h64:((18446744073709551616:Nat))=2^64:=by decide
 have hd:=jG hx hh
 unfold usc
 simp only[]
 rw[h64]at*
 have hs:∀a:Nat,a<2^64->a/2^s<2^64:=fun a ha=>Qf (R4 _ _) ha
 split
 ·exact R6 (hs _ (QG _ PB)) (by split<;>decide)
 ·exact R6 (hs _ hd) PB
theorem tX {x hi lo:Nat} {s:Int} {R:Int->Prop} (hx:x<18446744073709551616) (hh:hi<18446744073709551616) (hl:lo<18446744073709551616) (r:R ((usc x hi lo (s % 64).toNat:Nat):Int)):rI x hi lo s R:=by
 apply ML
 unfold JE
 refine IA hx hh ?_
 have hk:(s % 64).toNat<64:=by omega
 have hd:=jG hx hh
 have hd2:=jG hx hl
 have hmin:min (((s % 64).toNat:Nat):Int).toNat 64=(s % 64).toNat:=by omega
 have h64:((18446744073709551616:Nat))=2^64:=by decide
 rw[Oi,hmin]
 generalize (s % 64).toNat=k at*
 have hM:x*hi % 18446744073709551616<18446744073709551616:=QG _ PB
 unfold usc at r
 simp only[]at r
 generalize x*hi/18446744073709551616=H at*
 generalize x*hi % 18446744073709551616=M at*
 have hq:H/2^k<18446744073709551616:=Qf (R4 _ _) hd
 refine⟨Rv _,Rv _,?_⟩
 rw[shr,vG,<-R3,dz (Qf (Nat.div_mul_le_self _ _) hd)]
 refine cn (fun e=>?_) fun e=>?_
 ·rw[if_neg (fun h=>e (by rw[h]))]at r
  refine⟨Rv _,?_⟩
  have:=bits_or_u64_nat (H/2^k) 1 hq PB
  rw[show((1:Int))=((1:Nat):Int)from rfl,this]
  exact r
 ·rw[if_pos (Int.ofNat_inj.1 e)]at r
  refine IA hx hl ?_
  generalize x*lo/18446744073709551616=m2 at*
  refine pH ⟨Rv _,pH ?_⟩
  have c1:∀c:Nat,c<=1->(u64.wrap ((H:Int)-(c:Int)))=(((H+18446744073709551616-c) % 18446744073709551616:Nat):Int):=fun c hc=>Iy H c PA
  rw[c1 _ (by split<;>omega),Iy M m2 PA,<-vG,shr]
  have hle:∀c:Nat,(H+18446744073709551616-c) % 18446744073709551616/2^k<18446744073709551616:=fun c=>Qf (R4 _ _) (QG _ PB)
  rw[bits_or_u64_nat _ _ (hle _) (by split<;>omega)]
  have e1:(decide ((M:Int)<(m2:Int)))=decide (M<m2):=by simp
  have e2:(decide ((((M+18446744073709551616-m2) % 18446744073709551616:Nat):Int)>1))=decide ((M+18446744073709551616-m2) % 18446744073709551616>1):=by
   rw[decide_eq_decide];omega
  rw[e1,e2]
  simpa using r
end Go.Proofs.YtmmmmjcfojhiaaaGreatDoor.N
/- The shortest digits of a number, as natural numbers reckon them: the program's shortFloat. Conditions: none. -/
namespace Go.Proofs.YtmmmmjcfojhiaaaGreatDoor.N
open Go.X Go.Proofs.YtmmmmjcfojhiaaaGreatDoor
theorem KH :tT.length=1392:=by kernel_rfl
theorem KI :(tT.all fun v=>decide (0<=v)&&decide (v<18446744073709551616))=true:=by kernel_rfl
def hiP (p:Int):Nat:=(tT.getD ((p+348).toNat*2) 0).toNat
def loP (p:Int):Nat:=(tT.getD ((p+348).toNat*2+1) 0).toNat
theorem zj {i:Nat} (h:i<1392):tT[i]? =some (((tT.getD i 0).toNat:Nat):Int)/\(tT.getD i 0).toNat<18446744073709551616:=by
 have hl:i<tT.length:=by rw[KH];exact h
 have hm:=Qx.1 KI _ (RJ hl)
 grind
theorem pP {p:Int} (h1: -348<=p) (h2:p<=347):hiP p<18446744073709551616:=(zj (i:=(p+348).toNat*2) PA).2
theorem tY {p:Int} (h1: -348<=p) (h2:p<=347):loP p<18446744073709551616:=(zj (i:=(p+348).toNat*2+1) PA).2
theorem Ee {a b c ev p lp:Int} {R:Int->Int->Int->Prop} (h1: -348<=p) (h2:p<=347) (h3: -4000<=ev) (h4:ev<=4000) (h5: -4000<=lp) (h6:lp<=4000)
  (r:R (hiP p:Int) (loP p:Int) (-(ev+lp+3))):yN a b c ev p lp R:=by
 apply MJ
 unfold JD
 have e1:i64.wrap (p-(-348))=p+348:=by rw[wr PA PA];omega
 have e2:i64.wrap (0-i64.wrap (i64.wrap (ev+lp)+3))= -(ev+lp+3):=by
  grind [wr]
 rw[e1,e2]
 exact⟨PA,PA,_,(zj PA).1,PA,PA,_,(zj PA).1,r⟩
def l10 (x:Int):Int:=x*78913/262144
def l2 (x:Int):Int:=x*108853/32768
def skw (x:Int):Int:=(x*631305-261663)/2097152
theorem xH {x:Int} {R:Int->Prop} (h1: -4000<=x) (h2:x<=4000) (r:R (l10 x)):lB x R:=by
 apply Mj;unfold Js
 rw[wr PA PA,show min (Int.toNat 18) 64=18 from rfl,Kv]
 exact⟨PB,r⟩
theorem Ef {x:Int} {R:Int->Prop} (h1: -4000<=x) (h2:x<=4000) (r:R (l2 x)):yJ x R:=by
 apply Ml;unfold Jt
 rw[wr PA PA,show min (Int.toNat 15) 64=15 from rfl,Kv]
 exact⟨PB,r⟩
theorem KJ {x:Int} {R:Int->Prop} (h1: -4000<=x) (h2:x<=4000) (r:R (skw x)):Cq x R:=by
 apply Mn;unfold Ju
 rw[wr (x:=x*631305) PA PA,wr PA PA,show min (Int.toNat 21) 64=21 from rfl,Kv]
 exact⟨PB,r⟩
theorem Eg {u:Nat} {x:Int} {R:Int->Prop} (r:R (u64.wrap ((u:Int)+u64.wrap x))):yL u x R:=by
 apply Mz;exact r
theorem KK {u:Nat} {R:Int->Prop} (r:R (((u+3) % 18446744073709551616/4:Nat):Int)):Cx u R:=by
 apply MC;unfold Jz
 rw[show min (Int.toNat 2) 64=2 from rfl,show((u:Int)+3)=((u+3:Nat):Int) by omega,vH,shr]
 grind
theorem KL {u:Nat} {R:Int->Prop} (r:R ((u % 18446744073709551616/4:Nat):Int)):Cz u R:=by
 grind [MF,JB,vH]
def rnd (u:Nat):Nat:=(u+1+u/4 % 2) % 18446744073709551616/4
theorem Eh {u:Nat} (hu:u<18446744073709551616) {R:Int->Prop} (r:R ((rnd u:Nat):Int)):yM u R:=by
 apply MH;unfold JC
 have hq:u/2^2<18446744073709551616:=Qf (R4 _ _) hu
 rw[show min (Int.toNat 2) 64=2 from rfl,shr,Iz _ hq,show((u:Int)+1)=((u+1:Nat):Int) by omega,vH]
 have e:(((u+1) % 18446744073709551616:Nat):Int)+((u/2^2 % 2:Nat):Int)=(((u+1) % 18446744073709551616+u/2^2 % 2:Nat):Int):=by omega
 rw[e,vH,shr]
 grind [rnd]
def zOf (ev:Int):Nat:=if-1085<=ev then 11 else(-1074-ev).toNat
def shA (m:Nat) (ev:Int):Bool:=decide (m=9223372036854775808)&&decide (-1085<ev)
def shP (m:Nat) (ev:Int):Int:=if shA m ev then-skw (ev+11)else-l10 (ev+zOf ev)
def scl (x:Nat) (ev p:Int):Nat:=usc x (hiP p) (loP p) ((-(ev+l2 p+3)) % 64).toNat
def cG (m:Nat) (ev:Int):Nat:=if shA m ev then m-512 else m-2^(zOf ev-1)
def dw (m:Nat) (ev:Int):Nat:=m+2^(zOf ev-1)
def fS (m:Nat) (ev:Int):Nat:=m/2^zOf ev % 2
def fk (m:Nat) (ev:Int):Nat:=(scl (cG m ev) ev (shP m ev)+fS m ev+3) % 18446744073709551616/4
def ca (m:Nat) (ev:Int):Nat:=(scl (dw m ev) ev (shP m ev)+18446744073709551616-fS m ev) % 18446744073709551616/4
def short (m:Nat) (ev:Int):Nat × Int:=
 if fk m ev<=ca m ev/10*10 then(ca m ev/10,-(shP m ev-1))
 else if fk m ev<ca m ev then(rnd (scl m ev (shP m ev)),-shP m ev)
 else(fk m ev,-shP m ev)
structure Mt (m:Nat) (ev:Int):Prop where
 lo:9223372036854775808<=m
 hi:m<18446744073709551616
 e0: -1137<=ev
 e1:ev<=960
 al:m % 2^zOf ev=0
theorem Mt.z {m:Nat} {ev:Int} (h:Mt m ev):11<=zOf ev/\zOf ev<=63:=by
 have:=h.e0;unfold zOf;split<;>omega
theorem Mt.top {m:Nat} {ev:Int} (h:Mt m ev):m+2^zOf ev<=18446744073709551616:=by
 obtain⟨z1,z2⟩:=h.z
 have h1:=h.al;have h2:=h.hi
 obtain⟨k,hk⟩:∃k,64=zOf ev+k:=⟨64-zOf ev,PA⟩
 have e:(18446744073709551616:Nat)=2^zOf ev*2^k:=by rw[<-Qc,<-hk]
 obtain⟨q,rfl⟩:=Nat.dvd_of_mod_eq_zero h1
 rw[e]at h2 ⊢
 have:=RP h2
 calc 2^zOf ev*q+2^zOf ev=2^zOf ev*(q+1):=by grind
  _<=_:=QP _ this
theorem Mt.half {m:Nat} {ev:Int} (h:Mt m ev):2^(zOf ev-1)*2=2^zOf ev/\2^zOf ev<=9223372036854775808/\1024<=2^(zOf ev-1):=by
 obtain⟨z1,z2⟩:=h.z
 refine⟨by rw[<-QR];congr 1;omega,?_,?_⟩
 ·exact(P7 PB z2:2^zOf ev<=2^63)
 ·exact(P7 PB PA:2^10<=2^(zOf ev-1))
theorem Mt.p {m:Nat} {ev:Int} (h:Mt m ev): -348<=shP m ev/\shP m ev<=347:=by
 obtain⟨z1,z2⟩:=h.z
 have:=h.e0;have:=h.e1
 have hz: -1074<=ev+zOf ev/\ev+zOf ev<=971:=by
  unfold zOf;split<;>omega
 unfold shP skw l10
 omega
theorem Ol {q:Nat} (hq:q<18446744073709551616):(((i64.wrap (q:Int)) % 2).toNat:Int)=((q % 2:Nat):Int):=by
 rw[IntKind.wrap_i64];omega
theorem KM {m:Nat} {ev:Int} (h:Mt m ev) {R:Int->Int->Prop} (r:R ((short m ev).1:Int) (short m ev).2):Cj m ev R:=by
 apply Mf
 unfold Jn
 obtain⟨z1,z2⟩:=h.z
 have hlo:=h.lo;have hhi:=h.hi;have he0:=h.e0;have he1:=h.e1
 have htop:=h.top
 obtain⟨hh1,hh2,hh3⟩:=h.half
 obtain⟨p1,p2⟩:=h.p
 refine⟨fun a b=>a=52/\b= -1085,az PB ⟨fun a b=>a=52/\b= -1085,aJ PB ⟨rfl,rfl⟩,fun a b h=>h⟩,?_⟩
 rintro _ _ ⟨rfl,rfl⟩
 have e11:i64.wrap ((63:Int)-52)=11:=by decide
 have e10:i64.wrap ((11:Int)-1)=10:=by decide
 have e9:i64.wrap ((11:Int)-2)=9:=by decide
 have p9:u64.wrap ((1:Int)*2^min (Int.toNat 9) 64)=((512:Nat):Int):=by decide
 have p10:u64.wrap ((1:Int)*2^min (Int.toNat 10) 64)=((1024:Nat):Int):=by decide
 simp only[e11,e10,e9,p9,p10]
 have odd:∀z:Nat,z<=63->bits .and .i64 (i64.wrap (Int.fdiv (m:Int) (2^min z 64))) 1=((m/2^z % 2:Nat):Int):=by
  intro z hz
  rw[QY PA,shr,Pw]
  have hq:m/2^z<18446744073709551616:=Qf (R4 _ _) hhi
  exact Ol hq
 have o11:=odd 11 PB
 refine⟨fun a b c d=>a=shP m ev/\b=(cG m ev:Int)/\c=(dw m ev:Int)/\d=(fS m ev:Int),?_,?_⟩
 ·--the three ways
  have J1:¬(m=9223372036854775808/\ -1085<ev)-> -1085<=ev->lB (i64.wrap (ev+11)) fun r=>(0:Int)<=10/\(0:Int)<=10/\(0:Int)<=11/\(i64.wrap (0-r)=shP m ev/\u64.wrap ((m:Int)-(1024:Nat))=(cG m ev:Int)/\u64.wrap ((m:Int)+(1024:Nat))=(dw m ev:Int)/\bits .and .i64 (i64.wrap (Int.fdiv (m:Int) (2^min (Int.toNat 11) 64))) 1=(fS m ev:Int)):=by
   intro hA hE
   have hz:zOf ev=11:=by unfold zOf;rw[if_pos hE]
   have h10:2^(zOf ev-1)=1024:=by rw[hz]
   have hs:shA m ev=false:=by
    grind [shA]
   rw[wr PA PA]
   refine xH PA PA ⟨PB,PB,PB,?_,?_,?_,?_⟩
   ·unfold shP;rw[hs,hz];simp only[Qq,if_false]
    grind [wr,l10]
   ·rw[xG PA hhi];unfold cG;grind
   ·grind [dz,dw]
   grind [fS]
  have J2:ev< -1085->lB (i64.wrap (ev+i64.wrap (11+i64.wrap (-1085-ev)))) fun r=>(0:Int)<=i64.wrap (i64.wrap (11+i64.wrap (-1085-ev))-1)/\(0:Int)<=i64.wrap (i64.wrap (11+i64.wrap (-1085-ev))-1)/\(0:Int)<=i64.wrap (11+i64.wrap (-1085-ev))/\
    (i64.wrap (0-r)=shP m ev/\u64.wrap ((m:Int)-u64.wrap (1*2^min (Int.toNat (i64.wrap (i64.wrap (11+i64.wrap (-1085-ev))-1))) 64))=(cG m ev:Int)/\
     u64.wrap ((m:Int)+u64.wrap (1*2^min (Int.toNat (i64.wrap (i64.wrap (11+i64.wrap (-1085-ev))-1))) 64))=(dw m ev:Int)/\
     bits .and .i64 (i64.wrap (Int.fdiv (m:Int) (2^min (Int.toNat (i64.wrap (11+i64.wrap (-1085-ev)))) 64))) 1=(fS m ev:Int)):=by
   intro hE
   have hz:(zOf ev:Int)= -1074-ev:=by unfold zOf;grind
   have hs:shA m ev=false:=by
    grind [shA]
   have ez:i64.wrap (11+i64.wrap (-1085-ev))=(zOf ev:Int):=by
    grind [wr]
   rw[ez]
   have ez1:i64.wrap ((zOf ev:Int)-1)=((zOf ev-1:Nat):Int):=by rw[wr PA PA];omega
   rw[ez1,P8,P8]
   have ep:u64.wrap (1*2^min (zOf ev-1) 64)=((2^(zOf ev-1):Nat):Int):=by
    rw[QY PA,Int.one_mul,vG,dz PA]
   rw[ep]
   rw[wr PA PA]
   refine xH PA PA ⟨PA,PA,PA,?_,?_,?_,?_⟩
   ·unfold shP;rw[hs];simp only[Qq,if_false]
    rw[wr (by unfold l10;omega) (by unfold l10;omega)]
    omega
   ·rw[xG PA hhi];unfold cG;grind
   ·grind [dz,dw]
   ·rw[odd _ z2];rfl
  refine au (fun hm=>?_) fun hm=>?_
  ·have hm':m=9223372036854775808:=by omega
   refine⟨fun a b c d=>a=shP m ev/\b=(cG m ev:Int)/\c=(dw m ev:Int)/\d=(fS m ev:Int),ae (fun hE=>?_) fun hE=>⟨fun a b c d=>a=shP m ev/\b=(cG m ev:Int)/\c=(dw m ev:Int)/\d=(fS m ev:Int),ae (fun hE2=>J1 PA PA) fun hE2=>J2 PA,fun _ _ _ _ h=>h⟩,fun _ _ _ _ h=>h⟩
   have hz:zOf ev=11:=by unfold zOf;grind
   have h10:2^(zOf ev-1)=1024:=by rw[hz]
   have hs:shA m ev=true:=by unfold shA;grind
   rw[wr PA PA]
   refine KJ PA PA ⟨PB,PB,PB,?_,?_,?_,?_⟩
   ·unfold shP;rw[hs];simp only[if_true]
    rw[wr (by unfold skw;omega) (by unfold skw;omega)]
    omega
   ·rw[xG PA hhi];unfold cG;grind
   ·rw[<-RT,dz PA];unfold dw;rw[h10]
   grind [fS]
  ·have hm':m≠9223372036854775808:=by omega
   exact⟨fun a b c d=>a=shP m ev/\b=(cG m ev:Int)/\c=(dw m ev:Int)/\d=(fS m ev:Int),ae (fun hE2=>J1 PA PA) fun hE2=>J2 PA,fun _ _ _ _ h=>h⟩
 ·rintro _ _ _ _ ⟨rfl,rfl,rfl,rfl⟩
  have hodd:fS m ev<=1:=by unfold fS;omega
  have hmin:cG m ev<18446744073709551616:=by unfold cG;split<;>omega
  have hmax:dw m ev<18446744073709551616:=by unfold dw;omega
  have hl2: -4000<=l2 (shP m ev)/\l2 (shP m ev)<=4000:=by unfold l2;omega
  have hhi':=pP p1 p2;have hlo':=tY p1 p2
  refine Ef PA PA (Ee p1 p2 PA PA hl2.1 hl2.2 (tX hmin hhi' hlo' ?_))
  have u1:∀x,x<18446744073709551616->usc x (hiP (shP m ev)) (loP (shP m ev)) ((-(ev+l2 (shP m ev)+3)) % 64).toNat<18446744073709551616:=fun x hx=>Ed hx hhi'
  refine Eg ?_
  have w1:∀u o:Nat,o<=1->u64.wrap ((u:Int)+u64.wrap (o:Int))=(((u+o) % 18446744073709551616:Nat):Int):=by
   intro u o ho
   rw[dz (a:=o) PA,<-RT,vH]
  have w2:∀u o:Nat,o<=1->u64.wrap ((u:Int)+u64.wrap (i64.wrap (0-(o:Int))))=(((u+18446744073709551616-o) % 18446744073709551616:Nat):Int):=by
   intro u o ho
   rw[wr PA PA,IntKind.wrap_u64,IntKind.wrap_u64];omega
  rw[w1 _ _ hodd]
  refine KK (tX hmax hhi' hlo' (Eg ?_))
  rw[w2 _ _ hodd]
  refine KL ?_
  have ea:((usc (cG m ev) (hiP (shP m ev)) (loP (shP m ev)) ((-(ev+l2 (shP m ev)+3)) % 64).toNat+fS m ev) % 18446744073709551616+3) % 18446744073709551616/4=fk m ev:=by unfold fk scl;omega
  have eb:(usc (dw m ev) (hiP (shP m ev)) (loP (shP m ev)) ((-(ev+l2 (shP m ev)+3)) % 64).toNat+18446744073709551616-fS m ev) % 18446744073709551616 % 18446744073709551616/4=ca m ev:=by unfold ca scl;omega
  rw[ea,eb]
  have hb:ca m ev<18446744073709551616:=by omega
  have ed:u64.wrap (Int.tdiv (ca m ev:Int) 10)=((ca m ev/10:Nat):Int):=by
   rw[show Int.tdiv (ca m ev:Int) 10=((ca m ev/10:Nat):Int)from rfl,dz PA]
  have em:u64.wrap (((ca m ev/10:Nat):Int)*10)=((ca m ev/10*10:Nat):Int):=by
   rw[show(((ca m ev/10:Nat):Int)*10)=((ca m ev/10*10:Nat):Int) by omega,dz PA]
  rw[ed,em]
  unfold short at r
  have ip:∀x:Int,-1000<=x->x<=1000->i64.wrap (0-x)= -x:=fun x h1 h2=>by rw[wr PA PA];omega
  refine⟨PB,ae (fun hc=>?_) fun hc=>?_⟩
  ·rw[if_pos PA]at r
   grind [wr]
  ·rw[if_neg PA]at r
   rw[ip _ PA PA]
   refine⟨fun d=>d=((if fk m ev<ca m ev then rnd (scl m ev (shP m ev))else fk m ev:Nat):Int),ae (fun hd=>?_) fun hd=>?_,?_⟩
   ·refine tX hhi hhi' hlo' (Eh (u1 _ hhi) ?_)
    rw[if_pos PA];rfl
   ·rw[if_neg PA]
   ·rintro _ rfl
    split<;>rename_i hq<;>simp only[hq,if_true,if_false]at r<;>exact r
end Go.Proofs.YtmmmmjcfojhiaaaGreatDoor.N
/- A number's digits written into a buffer: numDigits, formatBase10, setDigits. Conditions: none. -/
namespace Go.Proofs.YtmmmmjcfojhiaaaGreatDoor.N
open Go.X Go.Proofs.YtmmmmjcfojhiaaaGreatDoor
def ndg (d:Nat):Nat:=if d=0 then 0 else Lib.nDigits d
theorem Om :∀k:Fin 20,tU[k.val]? =some ((10^k.val:Nat):Int):=by decide+kernel
theorem On {d:Nat} (hd:d<18446744073709551616) {R:Int->Prop} (r:R (ndg d:Int)):Jm d R:=by
 apply O8
 unfold T87
 refine xF PA PA ?_
 have e:bl (d:Int)=((Lib.bitLen d:Nat):Int):=rfl
 have key:Lib.l10 (Lib.bitLen d)<=19/\Lib.bitLen d<=64/\Lib.l10 (Lib.bitLen d)+(if 10^Lib.l10 (Lib.bitLen d)<=d then 1 else 0)=ndg d:=by
  have h64:Lib.bitLen d<=64:=Lib.bitLen_le d 64 (P3 _) hd
  by_cases h0:d=0
  ·subst h0;decide
  ·have:=Lib.numDigits_eq d PA hd
   unfold ndg
   grind
 obtain⟨k1,k2,k3⟩:=key
 rw[e]
 refine xH PA PA ?_
 have e2:l10 ((Lib.bitLen d:Nat):Int)=((Lib.l10 (Lib.bitLen d):Nat):Int):=by unfold l10 Lib.l10;omega
 rw[e2]
 refine⟨PA,PA,((10^Lib.l10 (Lib.bitLen d):Nat):Int),?_,?_⟩
 ·rw[show((Lib.l10 (Lib.bitLen d):Nat):Int).toNat*1=Lib.l10 (Lib.bitLen d) by omega]
  exact Om ⟨Lib.l10 (Lib.bitLen d),PA⟩
 ·refine Ec ?_
  have e3:(decide ((d:Int)>=((10^Lib.l10 (Lib.bitLen d):Nat):Int)))=decide (10^Lib.l10 (Lib.bitLen d)<=d):=by grind
  grind [wr]
def dgL (d n:Nat):List Int:=(List.range n).map fun t=>((48+d/10^(n-1-t) % 10:Nat):Int)
theorem ij (d n:Nat):(dgL d n).length=n:=by simp[dgL]
theorem tZ {d n k:Nat} (h:k<n):(dgL d n)[k]? =some ((48+d/10^(n-1-k) % 10:Nat):Int):=by simp[dgL,h]
theorem call40 {h:ab} {g T sC d nd:Nat} {cur:Array Value} (H:Blk h g T cur) (hn:nd<=cur.size) (h0:∀j,j<nd->cur[j]? =some (PR 0)) (hd:d<10^nd) (hd64:d<18446744073709551616) (hnd:nd<4611686018427387904):
  PJ 88 #[PT (some ⟨g,0,none⟩) nd sC,PO d] h fun v h'=>Fr [g] h h'/\v= .tuple #[]/\∃cur':Array Value,Blk h' g T cur'/\cur'.size=cur.size/\(∀k,k<nd->cur'[k]? =some (PR ((48+d/10^(nd-1-k) % 10:Nat):Int)))/\∀k,nd<=k->cur'[k]? =cur[k]? :=by
 intro w hw
 obtain⟨f,hb,hf⟩:=id H
 have hbw:w.heap[g]? =some (.cells cur T f):=by grind
 have hs:(Array.replicate nd (0:UInt8)).size=nd:=by simp
 have:=Go.Proofs.Tryz.internal_strconv_formatBase10 g 0 sC d (Array.replicate nd (0:UInt8)) w (fun j hj=>by
  rw[hs]at hj
  have hc:=h0 j hj
  have hj2:j<cur.size:=by omega
  refine⟨?_,?_⟩
  ·rw[getElem!_pos _ j PA]
   simp[World.cell?,hbw,hc]
  ·exact qD (u:=PR 0) (by rw[hw,H.cell,Qu,hc]) (by rw[hw];exact H.free _)) PE hd64 PA
 rw[hs]at this
 refine this.mono ?_
 rintro e w' ⟨rfl,n,v',dk,rfl,F⟩
 have hsz:dk.size=nd:=F.size
 have hh:((Go.Sort.putRow (fun(b:UInt8)=>PR (b.toNat:Int)) w g 0 dk).drewN n).heap=w.heap.modify g (Go.Sort.onCells (Go.Sort.putCells (fun(b:UInt8)=>PR (b.toNat:Int)) 0 dk)):=rfl
 have hg:=yp hbw
 have hat:(w.heap.modify g (Go.Sort.onCells (Go.Sort.putCells (fun(b:UInt8)=>PR (b.toNat:Int)) 0 dk)))[g]? =some (.cells (Go.Sort.putCells (fun(b:UInt8)=>PR (b.toNat:Int)) 0 dk cur) T f):=by
  rw[Array.getElem?_modify,if_pos rfl,hbw];rfl
 have hfr:Fr [g] w.heap (w.heap.modify g (Go.Sort.onCells (Go.Sort.putCells (fun(b:UInt8)=>PR (b.toNat:Int)) 0 dk))):=
  ⟨PC,fun b hb hm=>by grind⟩
 refine⟨_,rfl,⟨rfl,rfl,rfl,by rw[hh];simp⟩,?_,rfl,?_⟩
 ·grind
 ·refine⟨_,⟨_,by rw[hh];exact hat,by simpa[Go.Sort.putCells]using hf⟩,by simp[Go.Sort.putCells],fun k hk=>?_,fun k hk=>?_⟩
  ·have hk2:k<cur.size:=by omega
   simp only[Go.Sort.putCells,Array.getElem?_mapIdx,Array.getElem?_eq_getElem hk2,QL,RC]
   rw[if_pos ⟨QU _,PA⟩,F.done k (QU _) hk]
   have:(48+d/10^(nd-1-k) % 10)<256:=by omega
   simp[Lib.dg,Ra this]
  ·simp only[Go.Sort.putCells,Array.getElem?_mapIdx]
   grind
def fl (L:List Int):Nat->Nat
 | 0=>0
 | n+1=>if L[n]? =some 48 then fl L n else n+1
theorem pQ (L:List Int):∀n,fl L n<=n
 | 0=>P3 _
 | n+1=>by
  unfold fl
  split
  ·exact Nat.le_succ_of_le (pQ L n)
  omega
theorem KN {d nd:Nat} {p:Int} (hd:d<10^nd) (hd64:d<18446744073709551616) (hn:nd<=32) (hp: -4000<=p/\p<=4000) {R:List Int->Int->Int->Prop}
  (r:R (dgL d nd++List.replicate (32-nd) 0) (nd+p) (fl (dgL d nd) nd:Int)):H6 (List.replicate 32 0) d p nd R:=by
 intro h sA sL sC sT H
 have Y:=Sy.start H
 obtain rfl:sL=32:=by have:=Y.lenS 0 rfl;grind
 obtain⟨⟨hxl,ho⟩,_⟩:=Y.ok (k:=0) rfl
 obtain⟨rfl,h0,_⟩ | ⟨g,cur,rfl,hb,hle,hmx,hsz,htk⟩:=ho
 ·omega
 have hM:(ao [Ck.sl (eK .u8) sT (some ⟨g,0,none⟩) 32 sC (List.replicate 32 0)])=[g]:=rfl
 have e1:(eK .u8).sz=1:=rfl
 rw[e1,Qy]at hsz htk
 have hcz:∀j,j<32->cur[j]? =some (PR 0):=by
  intro j hj
  have:(cur.toList.take 32)[j]? =some (PR 0):=by rw[htk,wG,List.getElem?_map,List.getElem?_replicate,if_pos hj];rfl
  grind
 have hcs:32<=cur.size:=Qg hle hsz
 apply Cl
 unfold Mg
 refine⟨fun vs hv=>∃cur':Array Value,vs=[PN (fl (dgL d nd) nd:Int),PN (nd+p)]/\Fr [g] h hv/\Blk hv g sT cur'/\cur'.size=cur.size/\(∀k,k<nd->cur'[k]? =(dgL d nd)[k]?.map (Value.int .u8))/\∀k,nd<=k->cur'[k]? =cur[k]?,?_,?_⟩
 ·refine ae (fun _=>?_) fun hc=>absurd (show(nd:Int)<=((32:Nat):Int) by omega) hc
  refine⟨PA,PA,?_⟩
  have hc0:sC≠0:=by omega
  have ea:(if sC=0 then some (⟨g,0,none⟩:Addr)else Option.map (fun addr=>Addr.add addr (0*1)) (some ⟨g,0,none⟩))=some ⟨g,0,none⟩:=by rw[if_neg hc0];rfl
  rw[ea,show(Int.toNat (nd:Int))-0=nd by omega]
  refine cq [g] (call40 (sC:=sC-0) hb PA (fun j hj=>hcz j PA) hd hd64 PA) PC ?_
  rintro v h1 f1 ⟨rfl,cur',hb',hs',hlo,hhi⟩
  have hlo':∀k,k<nd->cur'[k]? =(dgL d nd)[k]?.map (Value.int .u8):=fun k hk=>by rw[hlo k hk,tZ hk];rfl
  refine⟨rfl,fun vs hv=>hv=h1/\∃m:Nat,vs=[PN m]/\m<=nd/\fl (dgL d nd) m=fl (dgL d nd) nd,fun vs _=>match vs with | .int _ x::_=>x.toNat | _=>0,⟨rfl,nd,rfl,P3 _,rfl⟩,?_⟩
  rintro nd2 hv2 ⟨ehv,m,hv,hm,ht⟩
  subst ehv
  simp only[List.cons.injEq,Value.int.injEq,true_and,and_true]at hv
  subst hv
  have fin:fl (dgL d nd) nd=m->∃cur'':Array Value,[PN (m:Int),PN (i64.wrap ((nd:Int)+p))]=[PN (fl (dgL d nd) nd:Int),PN (nd+p)]/\Fr [g] h hv2/\Blk hv2 g sT cur''/\cur''.size=cur.size/\(∀k,k<nd->cur''[k]? =(dgL d nd)[k]?.map (Value.int .u8))/\∀k,nd<=k->cur''[k]? =cur[k]? :=by
   intro e
   exact⟨cur',by rw[e,wr PA PA],f1,hb',hs',hlo',hhi⟩
  refine ae (fun hm0=>?_) fun hm0=>?_
  ·obtain⟨q,rfl⟩:∃q,m=q+1:=⟨m-1,PA⟩
   have ew:i64.wrap (((q+1:Nat):Int)-1)=(q:Int):=by rw[wr PA PA];omega
   rw[ew,P8]
   obtain⟨x,hx⟩:∃x,(dgL d nd)[q]? =some x:=⟨_,tZ PA⟩
   refine⟨g,0,rfl,PA,PA,x,?_,au (fun hx48=>?_) fun hx48=>?_⟩
   ·rw[hb'.cell,Qu,Qy,hlo' q PA,hx];rfl
   ·refine⟨⟨rfl,q,rfl,PA,?_⟩,?_⟩
    ·rw[<-ht,fl,if_pos (by rw[hx,hx48])]
    grind
   ·apply fin
    rw[<-ht,fl,if_neg PE]
  ·apply fin
   have:m=0:=by omega
   subst this
   rw[<-ht];rfl
 ·rintro nd3 dp h3 ⟨cur',hv,f3,hb',hs',hlo',hhi⟩
  simp only[List.cons.injEq,Value.int.injEq,true_and,and_true]at hv
  obtain⟨rfl,rfl⟩:=hv
  refine⟨_,_,_,?_,rfl,r⟩
  have hown:aw h3 sT (eK .u8).sz (some ⟨g,0,none⟩) 32 sC ((eK .u8).l (dgL d nd++List.replicate (32-nd) 0)):=by
   refine⟨by grind [En.l_len,ij],.inr ⟨g,cur',rfl,hb',hle,hmx,PE,?_⟩⟩
   rw[wG,e1,Qy]
   apply Re
   intro k
   rw[List.getElem?_take]
   split
   ·rename_i hk
    rw[List.getElem?_map]
    by_cases hkn:k<nd
    ·grind
    ·rw[List.getElem?_append_right (by rw[ij];omega),ij,List.getElem?_replicate,if_pos PA]
     grind
   grind [ij]
  refine⟨PE,Hp.one ⟨hown,by simp[ij];omega⟩,fun k c hk b hbo=>?_⟩
  cases k with
  | zero=>simp at hk;subst hk;exact .inl hbo
  | succ k=>simp at hk
end Go.Proofs.YtmmmmjcfojhiaaaGreatDoor.N
/- The text of digits with a point, or with an exponent: fmtEFG for the shortest form 'g', over memory. Conditions: none. -/
namespace Go.Proofs.YtmmmmjcfojhiaaaGreatDoor.N
open Go.X Go.Proofs.YtmmmmjcfojhiaaaGreatDoor
def iK (neg:Bool):List Int:=if neg then [45]else []
def fu (x:Int):List Int:=
 let a:=x.natAbs
 (if x<0 then 45 else 43)::(if a<10 then [48,((48+a:Nat):Int)]else if a<100 then [((48+a/10:Nat):Int),((48+a % 10:Nat):Int)]else [((48+a/100:Nat):Int),((48+a/10 % 10:Nat):Int),((48+a % 10:Nat):Int)])
def jH (L:List Int) (dp:Int):List Int:=
 (if L=[]then [48]else L.take 1)++(if 1<L.length then 46::L.drop 1 else [])++[101]++fu (if L=[]then 0 else dp-1)
def dJ (L:List Int) (dp:Int):List Int:=
 (if 0<dp then L.take dp.toNat++List.replicate (dp.toNat-L.length) 48 else [48])++(if dp<(L.length:Int)then 46::(List.replicate (-dp).toNat 48++L.drop dp.toNat)else [])
def fmtG (neg:Bool) (L:List Int) (dp:Int):List Int:=
 iK neg++(if dp-1< -4\/6<=dp-1 then jH L dp else dJ L dp)
def S3q (h:ab) (M:List Nat) (sA:PY) (sC:Nat) (sV:List Int) (h':ab) (A:PY) (n c:Nat) (d:List Int):Prop:=n=d.length/\Sy h M h' [Ck.sl (eK .u8) 5 A n c d,Ck.vw (eK .u8) sA sV.length sC sV]
def J8 (h:ab) (M:List Nat) (sA:PY) (sC:Nat) (sV:List Int) (P:List Int->Prop):List Value->ab->Prop:=fun lz h'=>∃A n c d,lz=[PT A n c]/\S3q h M sA sC sV h' A n c d/\P d
section
variable {h h':ab} {M:List Nat} {sA:PY} {sC:Nat} {sV:List Int} {A:PY} {n c:Nat} {d:List Int} {H:List Nat}
theorem Py (ys:List Int) {m:Nat} {xs:List Value} (Y:S3q h M sA sC sV h' A n c d) (hH:∀b∈H,b∉ai A) (hl:n+m<=100000) (hm:ys.length=m) (hx:(eK .u8).l ys=xs) {K:PY->Nat->ab->Prop}
  (k:∀A' c' h'',S3q h M sA sC sV h'' A' (n+m) c' (d++ys)->K A' c' h''):
  ∃old,aw h' 5 1 A n c old/\(∀b∈H,b∉ai A)/\(n+m)*1<=140737488355328/\(n+m)<=maxLen/\∀sA sC h'',aw h'' 5 1 sA (n+m) sC (old++xs)->Fr (ai A) h' h''->((sA=A/\sC=c)\/∃g,sA=some ⟨g,0,none⟩/\h'.size<=g)->(c<(n+m)->Fr [] h' h'')->K sA sC h'':=by
 obtain⟨rfl,Y⟩:=Y
 refine⟨_,Y.ownS 0 rfl,hH,PA,by unfold maxLen;omega,fun A' c' h'' ow f g _=>?_⟩
 subst hx
 exact k A' c' h'' ⟨by simp[hm],Y.appS 0 rfl ys ow f g rfl hm⟩
theorem ap8 {o:Obj} (ys:List Int) {m:Nat} {xs:List Value} (Y:S3q h M sA sC sV h' A n c d) (hH:∀b∈H,b∉ai A) (hl:n+m<=100000) (hm:ys.length=m) (hx:(eK .u8).l ys=xs) {K:PY->Nat->ab->Prop}
  (k:∀A' c' h'',S3q h M sA sC sV h'' A' (n+m) c' (d++ys)->h'.size∉ai A'->h'.size<h''.size->(∀b,b<h'.size->b∉ai A->b∉ai A')->K A' c' h''):
  ∃old,aw (h'.push o) 5 1 A n c old/\(∀b∈h'.size::H,b∉ai A)/\(n+m)*1<=140737488355328/\(n+m)<=maxLen/\∀sA sC h'',aw h'' 5 1 sA (n+m) sC (old++xs)->Fr (ai A) (h'.push o) h''->((sA=A/\sC=c)\/∃g,sA=some ⟨g,0,none⟩/\(h'.push o).size<=g)->(c<(n+m)->Fr [] (h'.push o) h'')->K sA sC h'':=by
 obtain⟨rfl,Y⟩:=Y
 have Y1:Sy h M (h'.push o) [_,_,_]:=Y.junk o
 refine⟨_,Y1.ownS 0 rfl,jT (Y1.nJ 0 2 rfl rfl rfl) hH,PA,by unfold maxLen;omega,fun A' c' h'' ow f g _=>?_⟩
 subst hx
 have Y2:Sy h M h'' [_,_,_]:=Y1.appS 0 rfl ys ow f g rfl hm
 refine k A' c' h'' ⟨by simp[hm],Y2.pick [0,1] rfl⟩ (Y2.nJ 0 2 rfl rfl rfl) (by have:=f.size;grind) fun b hb hn=>?_
 grind [ai]
theorem HJ {Z:Int} (z:Nat) (hZ:Z=z) (Y:S3q h M sA sC sV h' A n c d) (hl:n+z<=90000) {K:PY->Nat->Nat->ab->Prop} (k:∀A n c h'',S3q h M sA sC sV h'' A n c (d++List.replicate z 48)->K A n c h''):
  ∃(Iv:List Value->ab->Prop) (m:List Value->ab->Nat),Iv [PT A n c,PN 0] h'/\∀(A:PY) (n c:Nat),∀x:Int,∀hv,Iv [PT A n c,PN x] hv->cnd (decide (x<Z))
   (∃old,aw (hv.push (.cells #[PR 48] 5)) 5 1 A n c old/\(∀b∈[hv.size],b∉ai A)/\(n+1)*1<=140737488355328/\(n+1)<=maxLen/\∀sA sC h3,aw h3 5 1 sA (n+1) sC (old++[PR 48])->Fr (ai A) (hv.push (.cells #[PR 48] 5)) h3->((sA=A/\sC=c)\/∃g,sA=some ⟨g,0,none⟩/\(hv.push (.cells #[PR 48] 5)).size<=g)->(c<(n+1)->Fr [] (hv.push (.cells #[PR 48] 5)) h3)->
    Iv [PT sA (n+1) sC,PN (i64.wrap (x+(1:Int)))] h3/\m [PT sA (n+1) sC,PN (i64.wrap (x+(1:Int)))] h3<m [PT A n c,PN x] hv) (K A n c hv):=by
 subst hZ
 refine⟨fun lz h'=>∃(A:PY) (n c j:Nat),lz=[PT A n c,PN (j:Int)]/\j<=z/\S3q h M sA sC sV h' A n c (d++List.replicate j 48),fun lz _=>match lz with | [_,.int _ i]=>z-i.toNat | _=>0,⟨_,_,_,0,rfl,QU _,by simpa using Y⟩,?_⟩
 rintro A' n' c' _ hv ⟨_,_,_,j,e,hj,Y'⟩
 cases e
 have hn:n'=d.length+j:=by have:=Y'.1;grind
 have hd:=Y.1
 refine ae (fun hlt=>?_) fun hlt=>k _ _ _ _ PE
 refine ap8 (m:=1) (H:=[]) [48] Y' PC PA rfl rfl fun A2 c2 h2 Y2 _ _ _=>?_
 rw[wr1 PA]
 exact⟨⟨_,_,_,j+1,rfl,PA,by grind [List.replicate_succ']⟩,PE⟩
end
theorem KO {dst sV L:List Int} {neg:Bool} {dp:Int} {n:Nat} {R:List Int->Prop} (hd:dst.length<1000) (hL:sV.take n=L) (hn:n<=sV.length) (hn32:n<=32) (h0: -1000<dp) (h1:dp<1000) (hE:dp-1< -4\/6<=dp-1)
  (r:R (dst++iK neg++jH L dp)):rH dst neg sV dp n n 103 true R:=by
 have hLl:L.length=n:=by grind
 have hnil:L=[] ↔ n=0:=by grind
 intro h dstA dstL dstC sA sL sC H
 have Y0:Sy h (ao [Ck.sl (eK .u8) 5 dstA dstL dstC dst]) h _:=Sy.startM H rfl
 obtain rfl:=Y0.lenS 0 rfl
 obtain rfl:=Y0.lenV 1 rfl
 have hcap:=(Y0.capV 1 rfl).1
 apply uY
 unfold Jo
 obtain⟨M,hM⟩:∃M,M=ao [Ck.sl (eK .u8) 5 dstA dst.length dstC dst]:=⟨_,rfl⟩
 rw[<-hM]at Y0
 intro K3
 have hK3:∀h',h=h'->K3 ((n:Int)-1) 101 h':=by
  rintro _ rfl
  have Y1:S3q h M sA sC sV h dstA dst.length dstC dst:=⟨rfl,Y0⟩
  unfold K3
  intro K4
  have hK4:K4 true h:=by
   unfold K4
   refine aJ rfl ?_
   refine⟨J8 h M sA sC sV fun d=>d=dst++iK neg,aU (fun hb=>?_) (fun hb=>⟨_,_,_,_,rfl,Y1,by subst hb;simp[iK]⟩),?_⟩
   ·exact ap8 (m:=1) (H:=[]) [45] Y1 PC PA rfl rfl fun A c h2 Y2 _ _ _=>⟨_,_,_,_,rfl,Y2,by subst hb;rfl⟩
   rintro A n2 c h2 ⟨_,_,_,d1,e,Y2,hd1⟩
   cases e
   have hl1:d1.length<=1001:=by grind [iK]
   have e2:=Y2.1
   refine⟨fun lz h'=>∃c:Int,lz=[PR c]/\h2=h'/\ [c]=if L=[]then [48]else L.take 1,cn (fun hz=>?_) fun hz=>⟨_,rfl,rfl,PE⟩,?_⟩
   ·obtain⟨b,o,ea,_,x,hx⟩:=Y2.2.atV 1 rfl (i:=0) PA PA
    refine⟨b,o,ea,PA,PA,x,Y2.2.cellV 1 rfl ea (i:=0) (t:=0) hx rfl,x,rfl,rfl,?_⟩
    rw[if_neg (fun e=>by grind),<-hL]
    cases sV<;>grind
   rintro ch _ ⟨_,e,rfl,hc⟩
   cases e
   have ep:i64.wrap ((n:Int)-1+1)=(n:Int):=by rw[wr PA PA];omega
   have em:(if(n:Int)<(n:Int)then(n:Int)else(n:Int))=n:=by split<;>rfl
   refine ap8 (m:=1) (H:=[]) [ch] Y2 PC PA rfl rfl fun A3 c3 h3 Y3 b3 s3 _=>?_
   refine⟨J8 h M sA sC sV fun d=>d=d1++(if L=[]then [48]else L.take 1)++(if 1<L.length then 46::L.drop 1 else []),ae (fun hp=>?_) fun hp=>⟨_,_,_,_,rfl,Y3,PE⟩,?_⟩
   ·refine ap8 (m:=1) (H:=[h2.size]) [46] Y3 (by simpa using b3) PA rfl rfl fun A4 c4 h4 Y4 b4 s4 o4=>?_
    rw[ep,em]
    refine⟨fun lz h'=>∃A n' c d,lz=[PT A n' c,PN (n:Int)]/\S3q h M sA sC sV h' A n' c d/\d=d1++[ch]++(46::L.drop 1),ae (fun _=>?_) fun h=>absurd (show(1:Int)<n by omega) h,?_⟩
    ·refine⟨PA,PA,PA,PA,_,((Y4.2.readsV 1 rfl).takeR (Int.toNat (n:Int)) PA).dropR (Int.toNat (1:Int)) PA PA (Y4.2.capV 1 rfl).2 rfl,K8 (Y4.2.capV 1 rfl).2,En.l_one _,?_⟩
     refine Py (H:=[h3.size,h2.size]) ((sV.take (Int.toNat (n:Int))).drop (Int.toNat (1:Int))) Y4 (jT b4 (jT (o4 _ s3 b3) bf)) PA (Oz _ PA) rfl fun A5 c5 h5 Y5=>⟨_,_,_,_,rfl,Y5,?_⟩
     grind
    rintro A5 n5 c5 i h5 ⟨_,_,_,d5,e,Y5,hd5⟩
    cases e
    have l5:n5<=2000:=by rw[Y5.1,hd5];simp;omega
    refine HJ 0 (by rw[wr PA PA];omega) Y5 PA fun A6 n6 c6 h6 Y6=>⟨_,_,_,_,rfl,Y6,?_⟩
    grind
   rintro A7 n7 c7 h7 ⟨_,_,_,d2,e,Y7,hd2⟩
   cases e
   have hl2:d2.length<=1100:=by
    grind
   have e7:=Y7.1
   have hx:(if L=[]then(0:Int)else dp-1)=if n=0 then 0 else dp-1:=by grind
   generalize hxx:(if L=[]then(0:Int)else dp-1)=x at hx
   have hxb: -1001<x/\x<1000:=by omega
   refine ap8 (m:=1) (H:=[]) [101] Y7 PC PA rfl rfl fun A8 c8 h8 Y8 b8 s8 _=>?_
   refine⟨fun lz h'=>lz=[PN x]/\h8=h',au (fun hz=>⟨PE,rfl⟩) fun hz=>⟨by rw[hx,if_neg PA,wr PA PA],rfl⟩,?_⟩
   rintro _ _ ⟨e,rfl⟩
   cases e
   refine⟨fun lz h'=>lz=[PR (if x<0 then 45 else 43),PN (x.natAbs:Int)]/\h8=h',ae (fun h=>⟨by rw[if_pos h,wr PA PA];congr 4;omega,rfl⟩) fun h=>⟨PE,rfl⟩,?_⟩
   rintro _ _ _ ⟨e,rfl⟩
   cases e
   refine ap8 (m:=1) (H:=[]) [if x<0 then 45 else 43] Y8 PC PA rfl rfl fun A9 c9 h9 Y9 b9 s9 _=>?_
   have ha:x.natAbs<1001:=by omega
   have key:R (d2++[101]++fu x):=by
    grind [jH]
   generalize hA:x.natAbs=a at*
   have t10:Int.tdiv (a:Int) 10=((a/10:Nat):Int):=rfl
   have t100:Int.tdiv (a:Int) 100=((a/100:Nat):Int):=rfl
   have m10:Int.tmod (a:Int) 10=((a % 10:Nat):Int):=rfl
   have bH:∀b∈[h8.size],b∉ai A9:=by simpa using b9
   refine⟨J8 h M sA sC sV fun d=>d=d2++[101]++fu x,ae (fun hq=>?_) fun hq=>⟨J8 h M sA sC sV fun d=>d=d2++[101]++fu x,ae (fun h2=>⟨PB,PB,?_⟩) fun h2=>⟨PB,PB,PB,PB,?_⟩,?_⟩,?_⟩
   ·refine ap8 (m:=2) (H:=[h8.size]) [48,_] Y9 bH PA rfl rfl fun A c h' Y' _ _ _=>⟨_,_,_,_,rfl,Y',?_⟩
    rw[u8w (x:=(a:Int)) PA PA,u8w PA PA]
    unfold fu;grind
   ·refine ap8 (m:=2) (H:=[h8.size]) [_,_] Y9 bH PA rfl rfl fun A c h' Y' _ _ _=>⟨_,_,_,_,rfl,Y',?_⟩
    rw[t10,m10,wr PA PA,u8w (x:=((a/10:Nat):Int)) PA PA,u8w (x:=((a/10:Nat):Int)+48) PA PA,u8w (x:=((a % 10:Nat):Int)) PA PA,u8w (x:=((a % 10:Nat):Int)+48) PA PA]
    unfold fu;grind
   ·refine ap8 (m:=3) (H:=[h8.size]) [_,_,_] Y9 bH PA rfl rfl fun A c h' Y' _ _ _=>⟨_,_,_,_,rfl,Y',?_⟩
    rw[t100,t10,m10,wr (x:=((a/100:Nat):Int)) PA PA,wr (x:=((a/10:Nat):Int)) PA PA,u8w (x:=((a/100:Nat):Int)) PA PA,u8w (x:=((a/100:Nat):Int)+48) PA PA,u8w (x:=((a/10:Nat):Int)) PA PA,
     u8w (x:=((a % 10:Nat):Int)) PA PA,u8w (x:=((a % 10:Nat):Int)+48) PA PA]
    rw[show Int.tmod ((a/10:Nat):Int) 10=((a/10 % 10:Nat):Int)from rfl,u8w (x:=((a/10 % 10:Nat):Int)+48) PA PA]
    unfold fu;grind
   ·grind
   ·rintro A n c h' ⟨_,_,_,d,e,Y',rfl⟩
    cases e
    exact⟨_,_,_,_,by rw[<-hM];exact Y'.2.pick [0] rfl,rfl,key⟩
  exact au (fun _=>hK4) fun q=>absurd rfl q
 refine aJ rfl ?_
 intro K
 have hK:K n h:=by
  unfold K
  refine⟨fun lz h'=>lz=[PN 6]/\h=h',aJ rfl ⟨rfl,rfl⟩,?_⟩
  rintro _ _ ⟨e,rfl⟩
  cases e
  have ed:i64.wrap (dp-1)=dp-1:=wr PA PA
  have ef:u8.wrap (u8.wrap (103+101)-103)=101:=by decide
  rw[ed,ef]
  have en:i64.wrap ((n:Int)-1)=(n:Int)-1:=wr PA PA
  refine ae (fun _=>⟨fun lz h'=>lz=[PN (n:Int)]/\h=h',ae (fun _=>⟨rfl,rfl⟩) fun _=>⟨rfl,rfl⟩,?_⟩) fun hlt=>⟨fun lz h'=>lz=[PN ((n:Int)-1),PR 101]/\h=h',ae (fun _=>⟨fun lz h'=>lz=[PN (n:Int)]/\h=h',ae (fun _=>⟨rfl,rfl⟩) fun _=>⟨rfl,rfl⟩,?_⟩) fun h=>absurd hE PA,?_⟩
  ·simp_all
  ·simp_all
  simp_all
 exact ae (fun h=>absurd h PA) fun _=>hK
theorem Ei {dst sV L:List Int} {neg:Bool} {dp pc:Int} {n:Nat} {R:List Int->Prop} (hd:dst.length<1000) (hL:sV.take n=L) (hn:n<=sV.length) (hn32:n<=32) (h0: -1000<dp) (h1:dp<1000) (hE:¬(dp-1< -4\/6<=dp-1))
  (hpc:pc=n\/(n=0/\dp=0/\pc= -1)) (r:R (dst++iK neg++dJ L dp)):rH dst neg sV dp n pc 103 true R:=by
 have hLl:L.length=n:=by grind
 intro h dstA dstL dstC sA sL sC H
 have Y0:Sy h (ao [Ck.sl (eK .u8) 5 dstA dstL dstC dst]) h _:=Sy.startM H rfl
 obtain rfl:=Y0.lenS 0 rfl
 obtain rfl:=Y0.lenV 1 rfl
 have hcap:=(Y0.capV 1 rfl).1
 apply uY
 unfold Jo
 obtain⟨M,hM⟩:∃M,M=ao [Ck.sl (eK .u8) 5 dstA dst.length dstC dst]:=⟨_,rfl⟩
 rw[<-hM]at Y0
 intro K3
 have hK3:∀h',h=h'->K3 ((n-dp).toNat:Int) 102 h':=by
  rintro _ rfl
  have Y1:S3q h M sA sC sV h dstA dst.length dstC dst:=⟨rfl,Y0⟩
  unfold K3
  intro K4
  have hK4:K4 false h:=by
   unfold K4
   refine az rfl (aJ rfl ?_)
   refine⟨J8 h M sA sC sV fun d=>d=dst++iK neg,aU (fun hb=>?_) (fun hb=>⟨_,_,_,_,rfl,Y1,by subst hb;simp[iK]⟩),?_⟩
   ·exact ap8 (m:=1) (H:=[]) [45] Y1 PC PA rfl rfl fun A c h2 Y2 _ _ _=>⟨_,_,_,_,rfl,Y2,by subst hb;rfl⟩
   rintro A n2 c h2 ⟨_,_,_,d1,e,Y2,hd1⟩
   cases e
   have hl1:d1.length<=1001:=by grind [iK]
   have e2:=Y2.1
   refine⟨J8 h M sA sC sV fun d=>d=d1++(if 0<dp then L.take dp.toNat++List.replicate (dp.toNat-L.length) 48 else [48]),ae (fun hp=>?_) fun hp=>?_,?_⟩
   ·obtain⟨m,hm,hmn⟩:∃m:Nat,(if dp<(n:Int)then dp else(n:Int))=m/\m=min dp.toNat n:=⟨min dp.toNat n,by split<;>omega,rfl⟩
    rw[hm,P8,if_pos hp]
    have hmL:sV.take m=L.take m:=by grind
    have hml:(L.take m).length=m:=by grind
    refine⟨PA,PA,fun lz h'=>∃(A:PY) (n' c:Nat) (d:List Int) (k:Nat),lz=[PT A n' c,PN (k:Int)]/\S3q h M sA sC sV h' A n' c d/\k<=m/\d=d1++(L.take m).take k,fun lz _=>match lz with | [_,.int _ i]=>m-i.toNat | _=>0,⟨_,_,_,_,0,rfl,Y2,QU _,PC⟩,?_⟩
    rintro A3 n3 c3 _ h3 ⟨_,_,_,d,k,e,Y3,hk,hd3⟩
    cases e
    have l3:n3<=1100:=by rw[Y3.1,hd3];grind
    refine ae (fun hlt=>?_) fun hge=>?_
    ·obtain⟨b,o,ea,_,v,hv⟩:=Y3.2.atV 1 rfl (i:=(k:Int)) PA PA
     have hs0:sC≠0:=by omega
     have ea':(if sC=0 then sA else Option.map (fun addr=>Addr.add addr (0*1)) sA)=some ⟨b,o,none⟩:=by rw[if_neg hs0,ea];rfl
     refine⟨b,o,ea',PA,hlt,v,Y3.2.cellV 1 rfl ea (i:=k) (t:=0) hv rfl,?_⟩
     refine ap8 (m:=1) (H:=[]) [v] Y3 PC PA rfl rfl fun A4 c4 h4 Y4 _ _ _=>?_
     rw[wr1 PA]
     refine⟨⟨_,_,_,_,k+1,rfl,Y4,PA,?_⟩,PE⟩
     have hv2:(L.take m)[k]? =some v:=by grind
     grind [List.take_add_one]
    ·have hkm:k=m:=by omega
     subst hkm
     rw[QF PA]at hd3
     have hzz:i64.wrap (dp-(k:Int))=((dp.toNat-k:Nat):Int):=by rw[wr PA PA];omega
     refine HJ (dp.toNat-k) hzz Y3 PA fun A5 n5 c5 h5 Y5=>⟨_,_,_,_,rfl,Y5,?_⟩
     grind
   ·exact ap8 (m:=1) (H:=[]) [48] Y2 PC PA rfl rfl fun A3 c3 h3 Y3 _ _ _=>⟨_,_,_,_,rfl,Y3,by rw[if_neg hp]⟩
   rintro A7 n7 c7 h7 ⟨_,_,_,d2,e,Y7,hd2⟩
   cases e
   have hl2:d2.length<=3000:=by
    grind
   have e7:=Y7.1
   refine⟨J8 h M sA sC sV fun d=>d=d2++(if dp<(L.length:Int)then 46::(List.replicate (-dp).toNat 48++L.drop dp.toNat)else []),ae (fun hq=>?_) fun hq=>⟨_,_,_,_,rfl,Y7,PE⟩,?_⟩
   ·have hlt:dp<n:=by omega
    have hfr:(if dp<(L.length:Int)then 46::(List.replicate (-dp).toNat (48:Int)++L.drop dp.toNat)else [])=46::(List.replicate (-dp).toNat (48:Int)++L.drop dp.toNat):=if_pos PA
    rw[hfr]
    obtain⟨zn,hzn⟩:∃zn:Nat,zn=(-dp).toNat:=⟨_,rfl⟩
    obtain⟨on,hon⟩:∃on:Nat,on=dp.toNat:=⟨_,rfl⟩
    obtain⟨mn,hmn⟩:∃mn:Nat,mn=n-on:=⟨_,rfl⟩
    have hz1:(if i64.wrap (0-dp)>(0:Int)then i64.wrap (0-dp)else 0)=(zn:Int):=by grind [wr]
    have hz2:(if(zn:Int)<((n-dp).toNat:Int)then(zn:Int)else((n-dp).toNat:Int))=(zn:Int):=by split<;>omega
    have ho:i64.wrap (dp+(zn:Int))=(on:Int):=by rw[wr PA PA];omega
    have hm1:i64.wrap ((n:Int)-(on:Int))=(mn:Int):=by rw[wr PA PA];omega
    have hm2:(if(mn:Int)>0 then(mn:Int)else 0)=(mn:Int):=by split<;>omega
    have hm3:i64.wrap (((n-dp).toNat:Int)-(zn:Int))=(mn:Int):=by grind
    have hm4:(if(mn:Int)<(mn:Int)then(mn:Int)else(mn:Int))=(mn:Int):=by split<;>rfl
    have hm5:i64.wrap ((mn:Int)-(mn:Int))=0:=by rw[wr PA PA];omega
    have hm6:(if(0:Int)>0 then(0:Int)else 0)=0:=by decide
    simp only[hz1,hz2,ho,hm1,hm2,hm3,hm4,hm5,hm6]
    rw[<-hzn,<-hon]
    refine ap8 (m:=1) (H:=[]) [46] Y7 PC PA rfl rfl fun A8 c8 h8 Y8 _ _ _=>?_
    refine HJ zn rfl Y8 PA fun A9 n9 c9 h9 Y9=>?_
    have hdl:(L.drop on).length=mn:=by grind
    have l9:n9<=9000:=by rw[Y9.1];simp;omega
    refine⟨fun lz h'=>∃(A:PY) (n' c:Nat) (d:List Int) (k:Nat),lz=[PT A n' c,PN (k:Int)]/\S3q h M sA sC sV h' A n' c d/\k<=mn/\d=d2++[46]++List.replicate zn 48++(L.drop on).take k,fun lz _=>match lz with | [_,.int _ i]=>mn-i.toNat | _=>0,⟨_,_,_,_,0,rfl,Y9,QU _,PC⟩,?_⟩
    rintro A3 n3 c3 _ h3 ⟨_,_,_,d,k,e,Y3,hk,hd3⟩
    cases e
    have l3:n3<=9000:=by rw[Y3.1,hd3];simp only[P9,List.length_take,QA,Qk,List.length_nil];omega
    have ek:i64.wrap ((on:Int)+(k:Int))=((on+k:Nat):Int):=by rw[wr PA PA];omega
    rw[ek]
    refine ae (fun hlt=>?_) fun hge=>?_
    ·obtain⟨b,o,ea,_,v,hv⟩:=Y3.2.atV 1 rfl (i:=((on+k:Nat):Int)) PA PA
     refine⟨b,o,ea,PA,PA,v,Y3.2.cellV 1 rfl ea (i:=on+k) (t:=0) hv rfl,?_⟩
     refine ap8 (m:=1) (H:=[]) [v] Y3 PC PA rfl rfl fun A4 c4 h4 Y4 _ _ _=>?_
     rw[wr1 PA]
     refine⟨⟨_,_,_,_,k+1,rfl,Y4,PA,?_⟩,by dsimp only;omega⟩
     have hv2:(L.drop on)[k]? =some v:=by
      rw[List.getElem?_drop,<-hL,List.getElem?_take,if_pos PA];exact hv
     grind [List.take_add_one]
    ·have hkm:k=mn:=by omega
     refine HJ 0 rfl Y3 PA fun A5 n5 c5 h5 Y5=>⟨_,_,_,_,rfl,Y5,?_⟩
     grind
   rintro A n c h' ⟨_,_,_,d3,e,Y',hd3⟩
   cases e
   refine⟨_,_,_,_,by rw[<-hM];exact Y'.2.pick [0] rfl,rfl,?_⟩
   grind [dJ]
  exact au (fun q=>absurd q PB) fun _=>hK4
 refine aJ rfl ?_
 intro K
 have hK:∀e,K e h:=by
  intro e0
  unfold K
  refine⟨fun lz h'=>lz=[PN 6]/\h=h',aJ rfl ⟨rfl,rfl⟩,?_⟩
  rintro _ _ ⟨e,rfl⟩
  cases e
  have ed:i64.wrap (dp-1)=dp-1:=wr PA PA
  rw[ed]
  refine ae (fun h=>absurd h PA) fun _=>⟨fun lz h'=>lz=[PN ((n-dp).toNat:Int),PR 102]/\h=h',ae (fun h=>absurd h PA) fun _=>⟨fun lz h'=>∃p:Int,lz=[PN p]/\h=h'/\(p=n\/p=pc/\pc<=dp),ae (fun _=>⟨_,rfl,rfl,.inl rfl⟩) fun q=>⟨_,rfl,rfl,.inr ⟨rfl,PA⟩⟩,?_⟩,?_⟩
  ·rintro p _ ⟨q,e,rfl,hp⟩
   obtain rfl:p=q:=by simpa using e
   have hp2: -1<=p/\p<=32:=by omega
   rw[wr (x:=p-dp) PA PA]
   refine⟨?_,rfl⟩
   congr 2
   split<;>omega
  simp_all
 refine ae (fun _=>⟨fun _ h'=>h=h',ae (fun _=>rfl) fun _=>rfl,?_⟩) fun _=>hK _
 omega
theorem KP {dst sV L:List Int} {neg:Bool} {dp:Int} {n:Nat} {R:List Int->Prop} (hd:dst.length<1000) (hL:sV.take n=L) (hn:n<=sV.length) (hn32:n<=32) (h0: -1000<dp) (h1:dp<1000)
  (r:R (dst++fmtG neg L dp)):rH dst neg sV dp n n 103 true R:=by
 unfold fmtG at r
 rw[<-Qj]at r
 by_cases hE:dp-1< -4\/6<=dp-1
 ·rw[if_pos hE]at r
  exact KO hd hL hn hn32 h0 h1 hE r
 ·rw[if_neg hE]at r
  grind [Ei]
theorem KQ {dst:List Int} {neg:Bool} {R:List Int->Prop} (hd:dst.length<1000) (r:R (dst++fmtG neg [] 0)):rH dst neg [] 0 0 (-1) 103 true R:=by
 unfold fmtG at r
 rw[<-Qj,if_neg PB]at r
 exact Ei (n:=0) hd rfl PC PA PA PA PB (.inr ⟨rfl,rfl,rfl⟩) r
end Go.Proofs.YtmmmmjcfojhiaaaGreatDoor.N
/- FormatFloat(x, 'g', -1, 64) of finite numbers, as a function. Conditions: none. -/
namespace Go.Proofs.YtmmmmjcfojhiaaaGreatDoor.N
open Go.X Go.Proofs.YtmmmmjcfojhiaaaGreatDoor
def hO (f:Nat):Nat:=f/4503599627370496 % 2048
def Ej (f:Nat):Nat:=f % 4503599627370496
def jo (f:Nat):Bool:=decide (f/9223372036854775808≠0)
def ci (f:Nat):Nat:=if hO f=0 then Ej f else Ej f+4503599627370496
def jp (f:Nat):Int:=if hO f=0 then 1 else hO f
def gQ (f:Nat):Nat:=64-Lib.bitLen (ci f)
def nZ (f:Nat):Nat:=ci f*2^gQ f
def jc (f:Nat):Int:=jp f-1075-gQ f
def dOf (f:Nat):Nat:=(short (nZ f) (jc f)).1
def pOf (f:Nat):Int:=(short (nZ f) (jc f)).2
def LOf (f:Nat):List Int:=(dgL (dOf f) (ndg (dOf f))).take (fl (dgL (dOf f) (ndg (dOf f))) (ndg (dOf f)))
def lT (f:Nat):Int:=ndg (dOf f)+pOf f
def eC (f:Nat):List Int:=if ci f=0 then fmtG (jo f) [] 0 else fmtG (jo f) (LOf f) (lT f)
theorem xI {d:Nat} (h:d<18446744073709551616):ndg d<=20:=by
 unfold ndg;split
 ·omega
 ·rename_i h0
  have:=Lib.numDigits_eq d PA h
  grind
theorem xJ (d:Nat):d<10^ndg d:=by
 grind [ndg,Lib.lt_pow_nDigits]
theorem pR (m:Nat) (ev:Int):(short m ev).1<18446744073709551616:=by
 have h1:ca m ev<18446744073709551616:=by unfold ca;omega
 have h2:fk m ev<18446744073709551616:=by unfold fk;omega
 unfold short
 split
 ·omega
 ·split
  ·show rnd _<_;unfold rnd;omega
  ·exact h2
theorem jd {x:Nat} (h:x≠0) (hx:x<18446744073709551616):1<=Lib.bitLen x/\2^(Lib.bitLen x-1)<=x/\x<2^Lib.bitLen x:=Lib.bitLenAux_bounds 64 x hx h
theorem zk {x k:Nat} (h1:2^k<=x) (h2:x<2^(k+1)) (hx:x<18446744073709551616):Lib.bitLen x=k+1:=by
 have hp:0<2^k:=QD k
 obtain⟨a1,a2,a3⟩:=jd (show x≠0 by omega) hx
 have b1:=(Qs (a:=2) PB).1 (Qf a2 h2)
 have b2:=(Qs (a:=2) PB).1 (Qf h1 a3)
 omega
theorem vP (f:Nat):Ej f<4503599627370496:=QG _ PB
theorem Ek (f:Nat):ci f<9007199254740992:=by
 grind [vP,ci]
theorem El {f:Nat} (hx:hO f≠2047) (hm:ci f≠0):Mt (nZ f) (jc f)/\gQ f<=63/\11<=gQ f:=by
 have hl:=Ek f
 have he:hO f<2048:=QG _ PB
 obtain⟨b1,b2,b3⟩:=jd hm PA
 have b53:Lib.bitLen (ci f)<=53:=Lib.bitLen_le _ 53 PB hl
 have hs:gQ f=64-Lib.bitLen (ci f):=rfl
 have hs2:11<=gQ f/\gQ f<=63:=by omega
 have hb:gQ f+Lib.bitLen (ci f)=64:=by omega
 have lo:9223372036854775808<=nZ f:=by
  have:2^(Lib.bitLen (ci f)-1)*2^gQ f=2^63:=by rw[<-Qc];congr 1;omega
  have h2:=P1 (2^gQ f) b2
  rw[this]at h2
  exact h2
 have hi:nZ f<18446744073709551616:=by
  have:2^Lib.bitLen (ci f)*2^gQ f=2^64:=by rw[<-Qc];congr 1;omega
  have h2:=P5 b3 (QD (gQ f))
  rw[this]at h2
  exact h2
 have hz:zOf (jc f)=gQ f/\ -1137<=jc f/\jc f<=960:=by
  unfold jc jp
  by_cases h0:hO f=0
  ·have hm2:ci f<2^52:=by unfold ci;rw[if_pos h0];exact vP f
   have:Lib.bitLen (ci f)<=52:=Lib.bitLen_le _ 52 PB hm2
   rw[if_pos h0]
   unfold zOf
   grind
  ·have hm2:2^52<=ci f:=by unfold ci;grind
   have:Lib.bitLen (ci f)=53:=zk (k:=52) hm2 hl PA
   rw[if_neg h0]
   unfold zOf
   grind
 exact⟨⟨lo,hi,hz.2.1,hz.2.2,by rw[hz.1];exact Nat.mul_mod_left _ _⟩,hs2.2,hs2.1⟩
theorem Oo {m:Nat} {ev:Int} (h:Mt m ev): -360<=(short m ev).2/\(short m ev).2<=360:=by
 obtain⟨p1,p2⟩:=h.p
 unfold short
 split
 ·omega
 ·split
  ·omega
  omega
theorem Oq {dst:List Int} {f:Nat} {R:List Int->Prop} (hf:f<18446744073709551616) (hx:hO f≠2047) (hd:dst.length<1000) (r:R (dst++eC f)):Jp dst f 103 (-1) R:=by
 apply O9
 unfold T92
 refine⟨fun a b c d=>a=(f:Int)/\b=11/\c=52/\d= -1023,az PB ⟨fun a b c d=>a=(f:Int)/\b=11/\c=52/\d= -1023,aJ PB (bh (Hx f) ⟨_,rfl,rfl,rfl,rfl,rfl⟩),fun _ _ _ _ h=>h⟩,?_⟩
 rintro _ _ _ _ ⟨rfl,rfl,rfl,rfl⟩
 have c63:i64.wrap ((11:Int)+52)=63:=by decide
 have c2047:i64.wrap (i64.wrap ((1:Int)*2^min (Int.toNat 11) 64)-1)=2047:=by decide
 have cmask:u64.wrap (u64.wrap ((1:Int)*2^min (Int.toNat 52) 64)-1)=4503599627370495:=by decide
 have c52:u64.wrap ((1:Int)*2^min (Int.toNat 52) 64)=4503599627370496:=by decide
 have m52:min (Int.toNat 52) 64=52:=by decide
 have m63:min (Int.toNat 63) 64=63:=by decide
 rw[c63,c2047,cmask,c52,m52,m63,shr,shr]
 have hq:f/2^52<4096:=by
  omega
 have eex:bits .and .i64 (i64.wrap ((f/2^52:Nat):Int)) 2047=(hO f:Int):=by
  grind [wr,HI,hO]
 have efr:bits .and .u64 (f:Int) 4503599627370495=(Ej f:Int):=Oj f hf
 have ene:(((f/2^63:Nat):Int) != 0)=jo f:=by
  have:(2:Nat)^63=9223372036854775808:=by decide
  rw[this];unfold jo
  grind
 rw[eex,efr,Px _ (vP f),ene]
 have he:hO f<2048:=QG _ PB
 have hml:=Ek f
 refine⟨PB,PB,PB,PB,PB,au (fun h=>absurd h PA) fun _=>?_⟩
 refine⟨fun a b=>a=jp f/\b=(ci f:Int),au (fun h=>?_) fun h=>⟨PB,?_⟩,?_⟩
 ·have h':hO f=0:=by omega
  unfold jp ci;rw[if_pos h',if_pos h',h',show i64.wrap (((0:Nat):Int)+1)=1 by decide]
  omega
 ·have h':hO f≠0:=by omega
  unfold jp ci;grind
 rintro _ _ ⟨rfl,rfl⟩
 refine az PB (az PB (az PB (au (fun h0=>?_) fun h0=>?_)))
 ·have h0':ci f=0:=by omega
  unfold eC at r;rw[if_pos h0']at r
  exact KQ hd r
 have h0':ci f≠0:=by omega
 unfold eC at r;rw[if_neg h0']at r
 obtain⟨hmt,hs63,hs11⟩:=El hx h0'
 refine aJ PB (xF PA PA ?_)
 have eb:bl (ci f:Int)=((Lib.bitLen (ci f):Nat):Int):=rfl
 obtain⟨b1,b2,b3⟩:=jd h0' PA
 have b53:Lib.bitLen (ci f)<=53:=Lib.bitLen_le _ 53 PB hml
 have es:i64.wrap ((64:Int)-bl (ci f:Int))=(gQ f:Int):=by grind [wr,gQ]
 rw[es,P8,QY PA,vG,<-R3,show ci f*2^gQ f=nZ f from rfl,dz hmt.hi]
 have hxp: -1<=jp f/\jp f<=2047:=by unfold jp;split<;>omega
 have ee:i64.wrap (i64.wrap (i64.wrap (jp f+ -1023)-(gQ f:Int))-52)=jc f:=by
  grind [wr,jc]
 rw[ee]
 refine⟨PA,KM hmt ?_⟩
 have hdl:=pR (nZ f) (jc f)
 obtain⟨p1,p2⟩:=Oo hmt
 have hn:=xI hdl
 refine On hdl (KN (xJ _) hdl PA ⟨PA,PA⟩ ?_)
 refine⟨fun q=>q=(fl (dgL (dOf f) (ndg (dOf f))) (ndg (dOf f)):Int),⟨fun x=>x=false,az PB PB,?_⟩,?_⟩
 ·rintro _ rfl
  refine az rfl ⟨fun q=>q=(fl (dgL (dOf f) (ndg (dOf f))) (ndg (dOf f)):Int),az PB ⟨fun x=>x=true,aJ PB PB,?_⟩,fun _ h=>h⟩
  rintro _ rfl
  exact aJ rfl rfl
 rintro _ rfl
 have ht:=pQ (dgL (dOf f) (ndg (dOf f))) (ndg (dOf f))
 have hn2:ndg (dOf f)<=20:=hn
 refine KP hd ?_ ?_ (Qg ht PA) (show-1000<lT f by unfold lT pOf;omega) (show lT f<1000 by unfold lT pOf;omega) r
 ·rw[List.take_append_of_le_length (by rw[ij];exact ht)];rfl
 grind [dgL,dOf]
theorem Ot {f:Nat} {R:P0->Prop} (hf:f<18446744073709551616) (hx:hO f≠2047) (r:R (strOf (eC f))):Jq f 103 (-1) 64 R:=by
 apply Pa
 unfold T64
 refine az PB (aJ PB ⟨PB,PB,PB,Oq hf hx PB ?_⟩)
 exact r
theorem Ou {f:Nat} {R:P0->Prop} (hf:f<18446744073709551616) (hx:hO f≠2047) (r:R (strOf (eC f))):Jr f 103 (-1) 64 R:=by
 grind [Pb,T45,Ot]
end Go.Proofs.YtmmmmjcfojhiaaaGreatDoor.N
