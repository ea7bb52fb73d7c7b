/- The program's lexer of GML: what its functions tell, by the plain reader. Conditions: none. -/
import Derived.Test.YtemclecmafjjfaaGreatDoorHBr
import Derived.Test.YtemclecmafjjfaaGreatDoorSLex
import Derived.Test.YtemclecmafjjfaaGreatDoorGTell
import Derived.Test.YtemclecmafjjfaaGreatDoorSRd
import Derived.Lib.ConvBytes
import Derived.Lib.ParseIntBTie
set_option linter.unusedVariables false
set_option linter.unusedSimpArgs false
open Go.IntKind (i64 u64 u8 i32)
namespace Go.Proofs.YtemclecmafjjfaaGreatDoor.N
open Go.Proofs.YtemclecmafjjfaaGreatDoor
open Go.X
set_option maxRecDepth 100000
def cF (t:G.Tok):Value:=.agg #[.int .i64 (t.kind:Int),.int .i64 (t.at_:Int),.string t.says,.float .f64 t.num]
def flt (f:G.F):Value:=.iface 58 (.agg #[.int .i64 (f.1:Int),.int .i64 (f.2:Int)])
theorem jf {a e:Nat} {h:ab} {H:List Nat} {K E:Value->ab->Prop} (k:E (flt (a,e)) h):aF Tryz.prog 47 #[.int .i64 (a:Int),.int .i64 (e:Int)] h H K E:=by
 refine aK (R:=fun _ _=>False) (Rp:=fun v h'=>v=flt (a,e)/\h'=h) [] ?_ (by simp) (fun _ _ r=>r.elim) (fun _ _ r=>Fr.of_eq r.2) (fun _ _ r=>r.elim) fun v h' r=>by grind
 apply Ed
 exact⟨rfl,rfl⟩
theorem aw {b:Bool} {a e:Nat} {h:ab} {H:List Nat} {K E:Value->ab->Prop} (k:b=true->K (.tuple #[]) h) (k2:b=false->E (flt (a,e)) h):aF Tryz.prog 23 #[.bool b,.int .i64 (a:Int),.int .i64 (e:Int)] h H K E:=by
 refine aK (R:=fun v h'=>b=true/\v= .tuple #[]/\h'=h) (Rp:=fun v h'=>b=false/\v=flt (a,e)/\h'=h) [] ?_ (by simp) (fun _ _ r=>Fr.of_eq r.2.2) (fun _ _ r=>Fr.of_eq r.2.2) (fun v h' r=>by grind) fun v h' r=>by grind
 apply xB
 unfold S23
 refine⟨fun _ h'=>b=true/\h'=h,aV (fun q=>?_) fun q=>⟨q,rfl⟩,fun h' q=>⟨q.1,rfl,q.2⟩⟩
 exact jf ⟨q,rfl,rfl⟩
theorem il {p:Prop} [Decidable p] {b:Bool} (h:b=true ↔ p):b=decide p:=by
 grind
section
variable {n:Nat} {h:ab} {H:List Nat} {K:Value->ab->Prop}
theorem cJ {f:Nat} {r:Bool} (c:ae Tryz.prog f #[.int .u8 (n:Int)] h fun v h'=>v= .bool r/\h'=h) (k:K (.bool r) h):ai Tryz.prog f #[.int .u8 (n:Int)] h H K:=
 ak [] c (by simp) (fun _ _ r=>Fr.of_eq r.2) fun v h' r=>by grind
theorem Hh :ae Tryz.prog 92 #[.int .u8 (n:Int)] h fun v h'=>v= .bool (G.gO n)/\h'=h:=by
 apply D8
 unfold S92
 have fin:∀b:Bool,(b=true ↔ 97<=n/\n<=122\/65<=n/\n<=90)->Value.bool b= .bool (G.gO n)/\h=h:=fun b e=>⟨by rw[il e];rfl,rfl⟩
 refine ag (fun h1=>ag (fun h2=>fin _ ?_) fun h2=>ag (fun h3=>fin _ ?_) fun h3=>fin _ ?_) fun h1=>ag (fun h3=>fin _ ?_) fun h3=>fin _ ?_
 all_goals grind
theorem DP :ae Tryz.prog 95 #[.int .u8 (n:Int)] h fun v h'=>v= .bool (G.cQ n)/\h'=h:=by
 apply D9
 unfold S95
 have fin:∀b:Bool,(b=true ↔ 48<=n/\n<=57)->Value.bool b= .bool (G.cQ n)/\h=h:=fun b e=>⟨by rw[il e];rfl,rfl⟩
 refine ag (fun h1=>fin _ ?_) fun h1=>fin _ ?_
 all_goals grind
theorem Hi :ae Tryz.prog 55 #[.int .u8 (n:Int)] h fun v h'=>v= .bool (G.fN n)/\h'=h:=by
 apply Ea
 unfold S55
 have fin:∀b:Bool,(b=true ↔ 32<=n/\n<=126)->Value.bool b= .bool (G.fN n)/\h=h:=fun b e=>⟨by rw[il e];rfl,rfl⟩
 refine ag (fun h1=>fin _ ?_) fun h1=>fin _ ?_
 all_goals grind
theorem Gz :ae Tryz.prog 129 #[.int .u8 (n:Int)] h fun v h'=>v= .bool (G.lY n)/\h'=h:=by
 apply AO
 unfold J5
 have fin:∀b:Bool,(b=true ↔ n=32\/n=9\/n=10\/n=13)->Value.bool b= .bool (G.lY n)/\h=h:=fun b e=>⟨by rw[il e];rfl,rfl⟩
 refine av (fun h1=>fin _ ?_) fun h1=>av (fun h2=>fin _ ?_) fun h2=>av (fun h3=>fin _ ?_) fun h3=>fin _ ?_
 all_goals grind
theorem Mz :ae Tryz.prog 94 #[.int .u8 (n:Int)] h fun v h'=>v= .bool (G.cM n)/\h'=h:=by
 apply Eb
 unfold S94
 intro K
 refine cJ Hh ⟨_,rfl,bp (fun q=>?_) fun q=>cJ DP ⟨_,rfl,bp (fun q2=>?_) fun q2=>?_⟩⟩
 ·exact⟨by simp[G.cM,q],rfl⟩
 ·exact⟨by simp[G.cM,q2],rfl⟩
 ·refine⟨?_,rfl⟩
  have:((n:Int)==95)=decide (n=95):=il (by simp;omega)
  rw[this]
  simp[G.cM,q,q2]
theorem MB :ae Tryz.prog 96 #[.int .u8 (n:Int)] h fun v h'=>v= .bool (G.bx n)/\h'=h:=by
 apply Ec
 unfold S96
 intro K
 refine cJ Hh ⟨_,rfl,bp (fun q=>?_) fun q=>cJ DP ⟨_,rfl,bp (fun q2=>?_) fun q2=>av (fun q3=>?_) fun q3=>av (fun q4=>?_) fun q4=>?_⟩⟩
 ·exact⟨by simp[G.bx,q],rfl⟩
 ·exact⟨by simp[G.bx,q2],rfl⟩
 ·grind [G.bx]
 ·grind [G.bx]
 ·refine⟨?_,rfl⟩
  have:((n:Int)==46)=decide (n=46):=il (by simp;omega)
  grind [G.bx]
end
theorem wrN {j:Nat} (h:j<4611686018427387904):i64.wrap ((j:Int)+(1:Int))=((j+1:Nat):Int):=by
 rw[wr (by omega) (by omega)];omega
theorem get_at {s:ByteArray} {j:Nat} (h:j<s.size):∃c:UInt8,s[j]? =some c/\G.bt s j=c.toNat:=by
 refine⟨s[j],getElem?_pos s j h,?_⟩
 unfold G.bt
 grind
def Aj (s:ByteArray) (b:Nat):List Value->ab->Nat:=fun _ h=>
 match ac h b 1 with
 | some (.int _ x)=>s.size-x.toNat
 | _=>0
theorem jI {s:ByteArray} {b i:Nat} {h:ab} (L:Lx h b s i) (l:List Value):Aj s b l h=s.size-i:=by
 unfold Aj;rw[L.c1];simp
theorem Ak {s:ByteArray} {j:Nat} (h:¬j<s.size):G.skp s j=j:=by rw[G.skp,if_neg h]
theorem Al {s:ByteArray} {j:Nat} (h1:G.lY (G.bt s j)=false) (h2:G.bt s j≠35):G.skp s j=j:=by
 grind [G.skp]
theorem yU {s:ByteArray} {j:Nat} (h:j<s.size) (h1:G.lY (G.bt s j)=true):G.skp s j=G.skp s (j+1):=by
 conv=>lhs;rw[G.skp,if_pos h,if_pos h1]
theorem Am {s:ByteArray} {j:Nat} (h:j<s.size) (h1:G.bt s j=35):G.skp s j=G.skp s (G.run (fun c=>decide (c≠10)) s j):=by
 conv=>lhs;rw[G.skp,if_pos h,if_neg (by rw[h1];decide),if_pos h1]
 conv=>rhs;rw[G.run,if_pos ⟨h,by rw[h1];rfl⟩]
theorem qv {s:ByteArray}:∀{l:List UInt8} {j:Nat},G.At s j l->G.run (fun c=>decide (c≠10)) s j=(if Lib.indexByte l 10<0 then s.size else j+(Lib.indexByte l 10).toNat)/\ -1<=Lib.indexByte l 10
 | [],j,a=>by
  have:=a.nil
  rw[G.run,if_neg (by omega)]
  simp[Lib.indexByte,this]
 | c::l,j,a=>by
  obtain⟨h1,h2,h3⟩:=a.cons
  obtain⟨e1,e2⟩:=qv h3
  rw[G.run]
  by_cases q:c=10
  ·subst q
   rw[if_neg (by rw[h2];simp)]
   simp[Lib.indexByte]
  ·have hq:c.toNat≠10:=fun e=>q (UInt8.toNat_inj.1 e)
   rw[if_pos ⟨h1,by grind⟩,e1]
   have e3:Lib.indexByte (c::l) 10=if Lib.indexByte l 10== -1 then-1 else Lib.indexByte l 10+1:=by
    simp[Lib.indexByte,q]
   grind
theorem DQ {s:ByteArray} {j:Nat} (h:j<=s.size):G.At s j (s.extract j s.size).data.toList:=by
 refine⟨h,?_⟩
 rw[ByteArray.data_extract,Array.toList_extract,List.extract_eq_take_drop,List.take_of_length_le]
 simp_all
theorem MC {h:ab} {b i:Nat} {s:ByteArray} (L:Lx h b s i) (hi:i<=s.size) (hs:s.size<=262144):ae Tryz.prog 90 #[.pointer (some ⟨b,0,none⟩)] h fun v h'=>v= .tuple #[]/\Mv b h h' (G.skp s i):=by
 apply Ee
 unfold S90
 refine⟨fun _ h'=>∃j,j<=s.size/\G.skp s j=G.skp s i/\Mv b h h' j,Aj s b,⟨i,hi,rfl,Mv.refl L⟩,?_⟩
 rintro hv ⟨j,hj,hsk,M⟩
 have Lj:=L.mv M
 refine⟨b,0,rfl,_,Lj.c1,b,0,rfl,_,Lj.c0,ag (fun hlt=>?_) fun hlt=>?_⟩
 ·have hlt:j<s.size:=by omega
  obtain⟨c,hc,hb⟩:=get_at hlt
  refine⟨b,0,rfl,_,Lj.c0,b,0,rfl,_,Lj.c1,by omega,by omega,c,by grind,?_⟩
  refine cJ Gz ⟨_,rfl,?_⟩
  refine⟨fun _ h'=>∃k,j<k/\k<=s.size/\G.skp s k=G.skp s i/\Mv b h h' k,?_,?_⟩
  ·refine bp (fun q=>?_) fun q=>av (fun q2=>?_) fun q2=>?_
   ·refine⟨b,0,rfl,_,Lj.c1,b,0,rfl,Lj.cell,Lj.fr,?_⟩
    rw[wrN (by omega)]
    exact⟨j+1,by omega,by omega,by grind [yU],M.trans (Mv.to Lj (j+1))⟩
   ·have h35:G.bt s j=35:=by rw[hb];omega
    refine⟨b,0,rfl,_,Lj.c0,b,0,rfl,_,Lj.c1,by omega,by omega,?_⟩
    rw[Int.toNat_natCast]
    refine fZ (Ju (c:=10) (by decide)) ?_
    have e10:UInt8.ofNat 10=10:=rfl
    rw[e10]
    obtain⟨e1,e2⟩:=qv (DQ (s:=s) (j:=j) hj)
    generalize Lib.indexByte (s.extract j s.size).data.toList 10=n at e1 e2
    refine⟨_,rfl,Fr.refl _ _,?_⟩
    have hge:=G.rQ (fun c=>decide (c≠10)) s j
    have hle:=G.rG (fun c=>decide (c≠10)) s _ j rfl hj
    have hgt:=G.vF (p:=fun c=>decide (c≠10)) hlt (by rw[h35];rfl)
    have hsk2:=Am hlt h35
    refine⟨fun l h'=>∃n2:Int,l=[.int .i64 n2]/\h'=hv/\(j:Int)+n2=(G.run (fun c=>decide (c≠10)) s j:Nat),?_,?_⟩
    ·refine ag (fun hneg=>?_) fun hneg=>?_
     ·rw[if_pos hneg]at e1
      refine⟨b,0,rfl,_,Lj.c0,b,0,rfl,_,Lj.c1,?_⟩
      grind [wr]
     grind
    ·rintro n2 hv5 ⟨_,e,rfl,hn⟩
     cases e
     refine⟨b,0,rfl,_,Lj.c1,b,0,rfl,Lj.cell,Lj.fr,?_⟩
     rw[wr (by omega) (by omega),hn]
     exact⟨_,hgt,hle,by omega,M.trans (Mv.to Lj _)⟩
   grind [Al]
  ·rintro hv7 ⟨k,h1,h2,h3,h4⟩
   refine⟨⟨k,h2,h3,h4⟩,?_⟩
   rw[jI (L.mv h4),jI Lj]
   omega
 grind [Ak]
theorem JB {p:Nat->Bool} {g:Nat} (hg:∀(n:Nat) (h:ab),ae Tryz.prog g #[.int .u8 (n:Int)] h fun v h'=>v= .bool (p n)/\h'=h) (hm:mem jY g=true) {h:ab} {b i:Nat} {s:ByteArray} (L:Lx h b s i) (hi:i<=s.size) (hs:s.size<=262144):
  ae Tryz.prog 93 #[.pointer (some ⟨b,0,none⟩),.func (.func g) #[] #[]] h fun v h'=>v= .string (s.extract i (G.run p s i))/\Mv b h h' (G.run p s i):=by
 apply Ef
 unfold S93
 refine⟨b,0,rfl,_,L.c1,?_⟩
 intro K
 refine⟨fun _ h'=>∃j,i<=j/\j<=s.size/\G.run p s j=G.run p s i/\Mv b h h' j,Aj s b,⟨i,Nat.le_refl _,hi,rfl,Mv.refl L⟩,?_⟩
 rintro hv ⟨j,hij,hj,hsk,M⟩
 have Lj:=L.mv M
 have fin:G.run p s j=j->K hv:=by
  intro e
  have ej:G.run p s i=j:=by rw[<-hsk,e]
  refine⟨b,0,rfl,_,Lj.c0,b,0,rfl,_,Lj.c1,by omega,by omega,by omega,by omega,?_⟩
  grind
 refine⟨b,0,rfl,_,Lj.c1,b,0,rfl,_,Lj.c0,ag (fun hlt=>?_) fun hlt=>?_⟩
 ·have hlt:j<s.size:=by omega
  obtain⟨c,hc,hb⟩:=get_at hlt
  refine⟨b,0,rfl,_,Lj.c0,b,0,rfl,_,Lj.c1,by omega,by omega,c,by grind,?_⟩
  have hcall:∀{K:Value->ab->Prop},K (.bool (p c.toNat)) hv->gU Tryz.prog jY [] none (.func g) #[] #[] [.int .u8 ((UInt8.toNat c:Nat):Int)] hv [] K:=by
   grind [gU,mem,cJ]
  refine hcall ⟨_,rfl,Fr.refl _ _,bp (fun q=>?_) fun q=>?_⟩
  ·refine⟨b,0,rfl,_,Lj.c1,b,0,rfl,Lj.cell,Lj.fr,?_⟩
   rw[wrN (by omega)]
   have M':=M.trans (Mv.to Lj (j+1))
   refine⟨⟨j+1,by omega,by omega,?_,M'⟩,?_⟩
   ·rw[<-hsk]
    conv=>rhs;rw[G.run,if_pos ⟨hlt,by grind⟩]
   ·rw[jI (L.mv M'),jI Lj]
    omega
  ·exact fin (by rw[G.run,if_neg (by grind)])
 ·exact⟨Fr.refl _ _,fin (by rw[G.run,if_neg (by omega)])⟩
theorem u8w {x:Int} (h1:0<=x) (h2:x<256):u8.wrap x=x:=by rw[IntKind.wrap_u8'];omega
theorem qw (t:ByteArray) (l:List UInt8):G.preB t 0 l=Lib.hasPrefix t.data.toList l:=by
 unfold G.preB Lib.hasPrefix
 rw[ByteArray.data_extract,Array.toList_extract,List.extract_eq_take_drop,List.drop_zero,Nat.zero_add,Nat.sub_zero]
 rw[Bool.eq_iff_iff]
 simp only[decide_eq_true_eq,List.isPrefixOf_iff_prefix]
 constructor
 ·intro e
  rw[<-e]
  exact List.take_prefix _ _
 ·intro h
  exact(List.prefix_iff_eq_take.1 h).symm
def GA (o:Option (Nat × Nat)):Value:=
 match o with
 | some (c,n)=>.tuple #[.int .u8 (c:Int),.int .i64 (n:Int)]
 | none=>.tuple #[.int .u8 0,.int .i64 0]
def nm5 :List (List UInt8):=[G.amp,G.vK,G.ltB,G.gtB,G.Ha]
def nb5 :List UInt8:=[38,34,60,62,39]
theorem Hl {t:ByteArray} {i:Nat} (h:G.cQ (G.bt t i)=true):i<t.size:=G.Gx (by intro e;rw[e]at h;revert h;decide)
theorem JD {t:ByteArray} (ht:t.size<=262144) {h:ab}:ae Tryz.prog 130 #[.string t] h fun v h'=>v=GA (G.part t 0)/\Fr [] h h':=by
 apply AP
 unfold J6
 intro hv
 have hfr:Fr [] h hv:=Fr.push h _
 have hblk:hv[h.size]? =some (.cells #[.string ⟨#[38,97,109,112,59]⟩,.string ⟨#[38,113,117,111,116,59]⟩,.string ⟨#[38,108,116,59]⟩,.string ⟨#[38,103,116,59]⟩,.string ⟨#[38,97,112,111,115,59]⟩] 9):=iK
 clear_value hv
 refine⟨fun l h'=>∃n:Nat,l=[.int .i64 (n:Int)]/\n<=5/\h'=hv/\∀k x,k<n->nm5[k]? =some x->G.preB t 0 x=false,mI 5,⟨0,rfl,by decide,rfl,fun k x hk=>by omega⟩,?_⟩
 rintro _ hv2 ⟨n,e,hn,rfl,hno⟩
 cases e
 refine ag (fun hlt=>?_) fun hlt=>?_
 ·have hn5:n<5:=by omega
  obtain⟨x,hx,c,hc,ac,hbyte,hpart⟩:∃x:List UInt8,nm5[n]? =some x/\∃c:UInt8,nb5[n]? =some c/\ac hv2 h.size (0+(Int.toNat (n:Int))*1)=some (.string ⟨x.toArray⟩)/\(⟨#[38,34,60,62,39]⟩:ByteArray)[Int.toNat (n:Int)]? =some c/\(G.preB t 0 x=true->G.part t 0=some (c.toNat,x.length)):=by
   have q:∀k v,(#[.string ⟨#[38,97,109,112,59]⟩,.string ⟨#[38,113,117,111,116,59]⟩,.string ⟨#[38,108,116,59]⟩,.string ⟨#[38,103,116,59]⟩,.string ⟨#[38,97,112,111,115,59]⟩]:Array Value)[k]? =some v->ac hv2 h.size k=some v:=fun k v q=>by rw[bm hblk];exact q
   have no:∀k x,k<n->nm5[k]? =some x->¬G.preB t 0 x=true:=fun k x a b=>by rw[hno k x a b];simp
   match n,hn5,no with
   | 0,_,no=>exact⟨G.amp,rfl,38,rfl,q 0 _ rfl,rfl,fun p=>by unfold G.part;rw[if_pos p];rfl⟩
   | 1,_,no=>exact⟨G.vK,rfl,34,rfl,q 1 _ rfl,rfl,fun p=>by unfold G.part;rw[if_neg (no 0 _ (by decide) rfl),if_pos p];rfl⟩
   | 2,_,no=>exact⟨G.ltB,rfl,60,rfl,q 2 _ rfl,rfl,fun p=>by unfold G.part;rw[if_neg (no 0 _ (by decide) rfl),if_neg (no 1 _ (by decide) rfl),if_pos p];rfl⟩
   | 3,_,no=>exact⟨G.gtB,rfl,62,rfl,q 3 _ rfl,rfl,fun p=>by unfold G.part;rw[if_neg (no 0 _ (by decide) rfl),if_neg (no 1 _ (by decide) rfl),if_neg (no 2 _ (by decide) rfl),if_pos p];rfl⟩
   | 4,_,no=>exact⟨G.Ha,rfl,39,rfl,q 4 _ rfl,rfl,fun p=>by unfold G.part;rw[if_neg (no 0 _ (by decide) rfl),if_neg (no 1 _ (by decide) rfl),if_neg (no 2 _ (by decide) rfl),if_neg (no 3 _ (by decide) rfl),if_pos p];rfl⟩
  refine⟨h.size,0,rfl,by omega,by omega,_,ac,?_⟩
  refine fZ Jw ?_
  rw[<-qw]
  refine⟨_,rfl,bp (fun p=>?_) fun p=>?_⟩
  ·refine⟨by omega,by show(n:Int)<((5:Nat):Int);omega,c,hbyte,?_,hfr⟩
   rw[hpart p]
   rfl
  ·rw[wr (x:=(n:Int)+1) (by omega) (by omega)]
   refine⟨⟨n+1,by simp,by omega,rfl,fun k y hk hy=>?_⟩,by simp only[mI];omega⟩
   by_cases q:k=n
   ·subst q;rw[hx]at hy;cases hy;exact p
   ·exact hno k y (by omega) hy
 ·obtain rfl:n=5:=by omega
  have np:∀k x,k<5->nm5[k]? =some x->¬G.preB t 0 x=true:=fun k x a b=>by rw[hno k x a b];simp
  have hp:G.part t 0=(if G.preB t 0 [38,35]=false then none else match G.ij t 3 0 (0+2)with
    | (n,k)=>if k=0+2\/G.bt t k≠59\/G.fN n=false then none else some (n,k+1-0)):=by
   unfold G.part
   rw[if_neg (np 0 _ (by decide) rfl),if_neg (np 1 _ (by decide) rfl),if_neg (np 2 _ (by decide) rfl),if_neg (np 3 _ (by decide) rfl),if_neg (np 4 _ (by decide) rfl)]
  refine fZ Jw ?_
  rw[<-qw]
  refine⟨_,rfl,aV (fun p=>?_) fun p=>?_⟩
  ·rw[hp,if_pos p]
   exact⟨rfl,hfr⟩
  ·rw[if_neg (by rw[p];simp)]at hp
   intro K2
   have fin:∀m k:Nat,G.ij t 3 0 2=(m,k)->2<=k->k<=5->k<=t.size->m<1000->K2 (m:Int) (k:Int) hv2:=by
    intro m k e k2 k5 ks m3
    rw[show(0+2)=2 from rfl,e]at hp
    simp only[Nat.sub_zero]at hp
    have no:(k=2\/G.bt t k≠59\/G.fN m=false)->Value.tuple #[Value.int IntKind.u8 0,Value.int IntKind.i64 0]=GA (G.part t 0)/\Fr [] h hv2:=fun q=>by rw[if_pos q]at hp;exact⟨by rw[hp];rfl,hfr⟩
    refine av (fun q=>no (.inl (by omega))) fun q=>av (fun q2=>?_) fun q2=>?_
    ·refine no (.inr (.inl ?_))
     have:¬k<t.size:=by omega
     unfold G.bt
     rw[getElem?_neg t k this]
     decide
    ·have hk:k<t.size:=by omega
     obtain⟨c,hc,hb⟩:=get_at hk
     refine⟨by omega,by omega,c,by rw[Int.toNat_natCast];exact hc,cC (fun q3=>no (.inr (.inl (by rw[hb];omega)))) fun q3=>ag (fun q4=>?_) fun q4=>?_⟩
     ·refine no (.inr (.inr ?_))
      simp[G.fN];omega
     ·rw[u8w (x:=(m:Int)) (by omega) (by omega)]
      refine cJ Hi ⟨_,rfl,aV (fun q5=>?_) fun q5=>?_⟩
      ·have:=no (.inr (.inr q5))
       exact this
      ·rw[wrN (by omega)]
       rw[if_neg (by rw[hb,q5];simp;omega)]at hp
       exact⟨by rw[hp];rfl,hfr⟩
   refine⟨fun l h'=>∃r m k:Nat,l=[.int .i64 (m:Int),.int .i64 (k:Int)]/\k+r=5/\2<=k/\k<=t.size/\G.ij t 3 0 2=G.ij t r m k/\m<10^(k-2)/\h'=hv2,fun l _=>(match l with | [_,.int _ x]=>((5:Int)-x).toNat | _=>0),⟨3,0,2,rfl,rfl,by decide,?_,rfl,by decide,rfl⟩,?_⟩
   ·rcases G.xi p with q | q
    ·simpa using q
    ·cases q
   rintro _ _ hv5 ⟨r,m,k,e,hr,k2,ks,hd,hm,rfl⟩
   cases e
   have m3:m<1000:=by
    have:10^(k-2)<=10^3:=Nat.pow_le_pow_right (by decide) (by omega)
    omega
   intro K
   have stop:G.ij t r m k=(m,k)->K2 (m:Int) (k:Int) hv5:=fun q=>fin m k (hd.trans q) k2 (by omega) ks m3
   refine ag (fun q1=>ag (fun q2=>?_) fun q2=>?_) fun q1=>?_
   ·obtain⟨c,hc,hb⟩:=get_at (show k<t.size by omega)
    refine⟨by omega,by omega,c,by rw[Int.toNat_natCast];exact hc,?_⟩
    obtain⟨r',rfl⟩:∃r',r=r'+1:=⟨r-1,by omega⟩
    refine cJ DP ⟨_,rfl,bp (fun q3=>?_) fun q3=>?_⟩
    ·have hdg:48<=c.toNat/\c.toNat<=57:=by simpa[G.cQ]using q3
     refine⟨by omega,by omega,c,by rw[Int.toNat_natCast];exact hc,?_⟩
     have e1:u8.wrap (((UInt8.toNat c:Nat):Int)-(48:Int))=((c.toNat-48:Nat):Int):=by rw[u8w (by omega) (by omega)];omega
     rw[e1,wr (x:=((c.toNat-48:Nat):Int)) (by omega) (by omega),wr (x:=(10:Int)*(m:Int)) (by omega) (by omega),wr (x:=(10:Int)*(m:Int)+((c.toNat-48:Nat):Int)) (by omega) (by omega),wrN (by omega)]
     refine⟨⟨r',10*m+(c.toNat-48),k+1,by simp,by omega,by omega,by omega,?_,?_,rfl⟩,by simp only[];omega⟩
     ·rw[hd,G.ij,if_pos (by rw[hb];exact q3),hb]
     ·rw[show k+1-2=(k-2)+1 by omega,Nat.pow_succ];omega
    ·exact stop (by rw[G.ij,if_neg (by rw[hb,q3];simp)])
   ·obtain rfl:r=0:=by omega
    exact stop rfl
   ·refine stop ?_
    cases r with
    | zero=>rfl
    | succ r=>
     rw[G.ij,if_neg]
     intro q
     have:=Hl q
     omega
end Go.Proofs.YtemclecmafjjfaaGreatDoor.N
namespace Go.Proofs.YtemclecmafjjfaaGreatDoor.G
theorem og {s:ByteArray} {j:Nat} (a b:Nat):(s.extract a b).data.toList=(s.data.toList.drop a).take (b-a):=by
 rw[ByteArray.data_extract,Array.toList_extract,List.extract_eq_take_drop]
theorem xt (s:ByteArray) (j:Nat):(s.extract j s.size).data.toList=s.data.toList.drop j:=by
 rw[og (j:=0),List.take_of_length_le]
 rw[List.length_drop];exact Nat.le_refl _
theorem Ao (s:ByteArray) (j:Nat) (l:List UInt8):preB (s.extract j s.size) 0 l=preB s j l:=by
 unfold preB
 rw[og (j:=0),xt,og (j:=0),Nat.zero_add,Nat.sub_zero,Nat.add_sub_cancel_left,List.drop_zero]
theorem Aq (s:ByteArray) (j k:Nat):bt (s.extract j s.size) k=bt s (j+k):=by
 rw[vH,vH,xt,List.getElem?_drop]
theorem tM (s:ByteArray) (j:Nat):∀(r n k:Nat),ij s r n (j+k)=((ij (s.extract j s.size) r n k).1,j+(ij (s.extract j s.size) r n k).2)
 | 0,n,k=>rfl
 | r+1,n,k=>by
  rw[ij,ij,Aq]
  split
  ·rw[show j+k+1=j+(k+1) by omega,tM s j r _ (k+1)]
  ·rfl
theorem Ar (s:ByteArray) (j:Nat):part (s.extract j s.size) 0=part s j:=by
 unfold part
 simp only[Ao,tM s j 3 0 2]
 have hg:=rH (s.extract j s.size) 3 0 2
 simp only[Nat.zero_add]at hg ⊢
 generalize ij (s.extract j s.size) 3 0 2=y at hg ⊢
 obtain⟨n,k⟩:=y
 simp only[Aq]at hg ⊢
 have e1:(j+k=j+2)=(k=2):=by apply propext;omega
 have e2:j+k+1-j=k+1-0:=by omega
 simp only[e1,e2]
theorem DV {s:ByteArray} {i c n:Nat} (h:part s i=some (c,n)):c<256:=by
 unfold part at h
 split at h
 ·cases h;decide
 split at h
 ·cases h;decide
 split at h
 ·cases h;decide
 split at h
 ·cases h;decide
 split at h
 ·cases h;decide
 split at h
 ·cases h
 ·generalize ij s 3 0 (i+2)=y at h
  obtain⟨m,k⟩:=y
  simp only at h
  split at h
  ·cases h
  ·rename_i q
   simp only[not_or,Bool.not_eq_false]at q
   simp only[Option.some.injEq,Prod.mk.injEq]at h
   have:=q.2.2
   simp[fN]at this
   omega
end Go.Proofs.YtemclecmafjjfaaGreatDoor.G
namespace Go.Proofs.YtemclecmafjjfaaGreatDoor.N
open Go.Proofs.YtemclecmafjjfaaGreatDoor
open Go.X
set_option maxRecDepth 100000
def bv (l:List UInt8):List Value:=l.map fun c=>Value.int .u8 ((c.toNat:Nat):Int)
theorem tN (l:List UInt8):strOf (l.map fun c=>((c.toNat:Nat):Int))=G.mkB l:=by
 unfold strOf G.mkB
 rw[foldl_push_byteCells l ByteArray.empty]
 have e:ByteArray.empty.data=#[]:=rfl
 rw[e];simp
theorem DW {s:ByteArray} {fr i:Nat} {out:List UInt8} (h:¬i<s.size):G.str s fr i out= .no (fr,15):=by rw[G.str,if_neg h]
theorem MF {h:ab} {b i:Nat} {s:ByteArray} (L:Lx h b s i) (hi:i<s.size) (hs:s.size<=262144):
  aB Tryz.prog 91 #[.pointer (some ⟨b,0,none⟩)] h (fun v h'=>∃l j,G.str s i (i+1) []= .ok (l,j)/\v= .string (G.mkB l)/\Mv b h h' j) (fun v h'=>∃f,G.str s i (i+1) []= .no f/\v=flt f/\Fr [b] h h'):=by
 apply Eg
 unfold S91
 refine⟨b,0,rfl,_,L.c1,b,0,rfl,_,L.c1,b,0,rfl,L.cell,L.fr,?_⟩
 rw[wrN (by omega)]
 intro hv
 have M0:Mv b h hv (i+1):=Mv.to L (i+1)
 clear_value hv
 refine⟨fun l h'=>∃(A:Option Addr) (C j:Nat) (out:List UInt8),l=[.slice A out.length C]/\out.length+i+1<=j/\j<=s.size/\G.str s i j out=G.str s i (i+1) []/\Mv b h h' j/\ar h' 5 1 A out.length C (bv out)/\∀g∈ah A,h.size<=g,Aj s b,
  ⟨none,0,i+1,[],rfl,by simp,by omega,rfl,M0,ar.nil _ _ _,by simp[ah]⟩,?_⟩
 rintro A _ C hv2 ⟨_,_,j,out,e,hol,hj,hst,M,ow,hA⟩
 cases e
 have Lj:=L.mv M
 have ne:∀g∈ah A,g≠b:=fun g q e=>by have:=hA g q;have:=L.lt;omega
 refine⟨b,0,rfl,_,Lj.c1,b,0,rfl,_,Lj.c0,ag (fun hlt=>?_) fun hlt=>?_⟩
 ·have hlt:j<s.size:=by omega
  obtain⟨c,hc,hb⟩:=get_at hlt
  rw[G.str,if_pos hlt,hb]at hst
  refine⟨b,0,rfl,_,Lj.c0,b,0,rfl,_,Lj.c1,by omega,by omega,c,by rw[Int.toNat_natCast];exact hc,av (fun q=>?_) fun q=>?_⟩
  ·rw[if_pos (by omega)]at hst
   refine⟨b,0,rfl,_,Lj.c1,b,0,rfl,Lj.cell,Lj.fr,?_⟩
   rw[wrN (by omega)]
   have M':=M.trans (Mv.to Lj (j+1))
   have ow':ar (am hv2 b (0+1) (.int .i64 ((j+1:Nat):Int))) 5 1 A out.length C (bv out):=ow.fr (Fr.hset _ _ _ _) (fun g q=>by simpa using ne g q)
   refine⟨out.map fun c=>((c.toNat:Nat):Int),?_,out,j+1,hst.symm,by rw[tN],M'⟩
   have:=ow'.reads
   rw[List.map_map]
   exact this
  ·rw[if_neg (by omega)]at hst
   have put:∀(hv6:ab) (ra:Int) (c1:UInt8) (k:Nat) {K:Value->ab->Prop},Fr [] hv2 hv6->ra=((c1.toNat:Nat):Int)->j<k->k<=s.size->G.str s i k (out++[c1])=G.str s i (i+1) []->
     (let hv7:ab:=hv6.push (.cells #[.int .u8 ra] 5)
      ∃old,ar hv7 5 1 A out.length C old/\(∀b∈([hv6.size]:List Nat),b∉ah A)/\(out.length+1)*1<=140737488355328/\(out.length+1)<=maxLen/\
      ∀sA sC hv8,ar hv8 5 1 sA (out.length+1) sC (old++[.int .u8 ra])->Fr (ah A) hv7 hv8->((sA=A/\sC=C)\/∃g,sA=some ⟨g,0,none⟩/\hv7.size<=g)->(C<(out.length+1)->Fr [] hv7 hv8)->
      (Lx hv8 b s j/\b≠hv6.size/\∃(A':Option Addr) (C' k':Nat) (out':List UInt8),[Value.slice sA (out.length+1) sC]=[.slice A' out'.length C']/\out'.length+i+1<=k'/\j<k'/\k'<=s.size/\G.str s i k' out'=G.str s i (i+1) []/\k'=k/\
       (Mv b h (am hv8 b 1 (.int .i64 (k':Int))) k'/\ar (am hv8 b 1 (.int .i64 (k':Int))) 5 1 A' out'.length C' (bv out')/\∀g∈ah A',h.size<=g))):=by
    intro hv6 ra c1 k K f6 hra hk hks hst2 hv7
    have f7:Fr [] hv2 hv7:=f6.trans (Fr.push hv6 _)
    have hsz:hv2.size<=hv6.size:=f6.size
    have hM:=M.fr.size
    have e7:hv7.size=hv6.size+1:=by simp[hv7]
    clear_value hv7
    refine⟨bv out,ow.fr f7 (by simp),fun x hx=>?_,by omega,by simp only[maxLen];omega,?_⟩
    ·simp only[List.mem_singleton]at hx
     subst hx
     intro q
     have:=ow.lt _ q
     omega
    intro sA sC hv8 ow8 f8 gA _
    have M8:Mv b h hv8 j:=(M.ext f7 (by simp)).ext f8 hA
    have L8:=L.mv M8
    have hA8:∀g∈ah sA,h.size<=g:=by
     rcases gA with⟨rfl,_⟩ | ⟨g,rfl,hg⟩
     ·exact hA
     ·intro x hx;simp[ah]at hx;omega
    have ne8:∀g∈ah sA,g≠b:=fun g q e=>by have:=hA8 g q;have:=L.lt;omega
    refine⟨L8,by have:=L.lt;omega,sA,sC,k,out++[c1],by rw[List.length_append];rfl,by rw[List.length_append,List.length_singleton];omega,hk,hks,hst2,rfl,M8.trans (Mv.to L8 k),?_,hA8⟩
    have e2:bv out++[.int .u8 ra]=bv (out++[c1]):=by simp[bv,hra]
    rw[e2]at ow8
    rw[List.length_append,List.length_singleton]
    exact ow8.fr (Fr.hset _ _ _ _) (fun g q=>by simpa using ne8 g q)
   let J:List Value->ab->Prop:=fun l h'=>∃(A:Option Addr) (C k:Nat) (out:List UInt8),l=[.slice A out.length C]/\out.length+i+1<=k/\j<k/\k<=s.size/\G.str s i k out=G.str s i (i+1) []/\Mv b h h' k/\ar h' 5 1 A out.length C (bv out)/\∀g∈ah A,h.size<=g
   refine⟨J,?_,?_⟩
   ·refine av (fun q2=>?_) fun q2=>?_
    ·rw[if_pos (by omega)]at hst
     refine⟨b,0,rfl,_,Lj.c0,b,0,rfl,_,Lj.c1,by omega,by omega,?_⟩
     rw[Int.toNat_natCast]
     refine ak [] (JD (t:=s.extract j s.size) (by rw[ByteArray.size_extract];omega)) (by simp) (fun _ _ r=>r.2) fun v hv4 r=>?_
     obtain⟨rfl,f4⟩:=r
     rw[G.Ar]
     have L4:=Lj.mv ((Mv.refl Lj).ext f4 (by simp))
     cases hp:G.part s j with
     | none=>
      rw[hp]at hst
      refine⟨0,0,rfl,f4,b,0,rfl,_,L4.c1,?_⟩
      refine aw (fun q=>?_) fun q=>?_
      ·exact absurd q (by decide)
      ·exact⟨_,hst.symm,rfl,M.fr.trans f4.nil⟩
     | some p=>
      obtain⟨c1,n1⟩:=p
      rw[hp]at hst
      simp only at hst
      obtain⟨p1,p2⟩:=G.xj hlt hp
      have p3:=G.DV hp
      refine⟨_,_,rfl,f4,b,0,rfl,_,L4.c1,?_⟩
      refine aw (fun q=>⟨rfl,?_⟩) fun q=>?_
      ·obtain⟨old,o1,o2,o3,o4,o5⟩:=put hv4 (c1:Int) (UInt8.ofNat c1) (j+(n1-1)+1) (K:=fun _ _=>True) f4 (by rw[UInt8.toNat_ofNat'];omega) (by omega) (by omega) hst
       refine⟨old,o1,o2,o3,o4,fun sA sC hv7 q1 q2 q3 q4=>?_⟩
       obtain⟨L8,hne,A',C',k',out',e1,e2,e3,e4,e5,e6,e7,e8,e9⟩:=o5 sA sC hv7 q1 q2 q3 q4
       refine⟨b,0,rfl,_,L8.c1,b,0,rfl,hne,L8.cell,L8.fr,?_⟩
       have ek:(j:Int)+(n1:Int)=(k':Int):=by omega
       rw[wr (by omega) (by omega),ek]
       exact⟨A',C',k',out',e1,e2,e3,e4,e5,e7,e8,e9⟩
      ·exact absurd q (by simp;omega)
    ·rw[if_neg (by omega)]at hst
     intro K
     have go:∀hv13,Fr [] hv2 hv13->(G.fN c.toNat=true\/G.lY c.toNat=true)->K hv13:=by
      intro hv13 f13 hpb
      rw[if_pos hpb,UInt8.ofNat_toNat]at hst
      obtain⟨old,o1,o2,o3,o4,o5⟩:=put hv13 ((c.toNat:Nat):Int) c (j+1) (K:=fun _ _=>True) f13 rfl (by omega) (by omega) hst
      refine⟨old,o1,o2,o3,o4,fun sA sC hv7 q1 q2 q3 q4=>?_⟩
      obtain⟨L8,hne,A',C',k',out',e1,e2,e3,e4,e5,e6,e7,e8,e9⟩:=o5 sA sC hv7 q1 q2 q3 q4
      refine⟨b,0,rfl,_,L8.c1,b,0,rfl,hne,L8.cell,L8.fr,?_⟩
      have ek:(j:Int)+(1:Int)=(k':Int):=by omega
      rw[wr (by omega) (by omega),ek]
      exact⟨A',C',k',out',e1,e2,e3,e4,e5,e7,e8,e9⟩
     refine⟨b,0,rfl,_,Lj.c1,?_⟩
     refine cJ Hi ⟨_,rfl,Fr.refl _ _,bp (fun q3=>?_) fun q3=>?_⟩
     ·refine⟨Fr.refl _ _,?_⟩
      refine aw (fun _=>⟨rfl,Fr.refl _ _,go _ (Fr.refl _ _) (.inl q3)⟩) fun q=>absurd q (by decide)
     ·refine cJ Gz ⟨_,rfl,Fr.refl _ _,?_⟩
      refine aw (fun q4=>⟨rfl,Fr.refl _ _,go _ (Fr.refl _ _) (.inr q4)⟩) fun q4=>?_
      rw[if_neg (by rw[q3,q4];simp)]at hst
      exact⟨_,hst.symm,rfl,M.fr⟩
   ·rintro A2 L2 C2 hv17 ⟨A3,C3,k,out3,e,h1,h2,h3,h4,h5,h6,h7⟩
    refine⟨⟨A3,C3,k,out3,e,h1,h3,h4,h5,h6,h7⟩,?_⟩
    rw[jI (L.mv h5),jI Lj]
    omega
 ·refine jf ?_
  exact⟨_,by rw[<-hst];exact DW (by omega),rfl,M.fr⟩
def jU (s:ByteArray) (p:Nat):G.Er (G.Tok × Nat):=
 if p>=s.size then .ok (⟨0,p,G.noB,0⟩,p)
 else if G.bt s p=91 then .ok (⟨1,p,G.noB,0⟩,p+1)
 else if G.bt s p=93 then .ok (⟨2,p,G.noB,0⟩,p+1)
 else if G.bt s p=34 then(G.str s p (p+1) []).bind fun(l,j)=>.ok (⟨5,p,G.mkB l,0⟩,j)
 else if G.gO (G.bt s p)=true then .ok (⟨3,p,s.extract p (G.run G.cM s p),0⟩,G.run G.cM s p)
 else if G.cQ (G.bt s p)=true\/G.bt s p=43\/G.bt s p=45\/G.bt s p=46 then .ok (⟨4,p,s.extract p (G.run G.bx s p),0⟩,G.run G.bx s p)
 else .no (p,15)
theorem xr (s:ByteArray) (i:Nat):G.next s i=jU s (G.skp s i):=rfl
def DT (t:G.Tok):List Value:=[.int .i64 (t.kind:Int),.int .i64 (t.at_:Int),.string t.says,.float .f64 t.num]
theorem Hk {h:ab} {b i:Nat} {s:ByteArray} (L:Lx h b s i) (hi:i<=s.size) (hs:s.size<=262144):
  aB Tryz.prog 66 #[.pointer (some ⟨b,0,none⟩)] h (fun v h'=>∃t j,G.next s i= .ok (t,j)/\v=cF t/\Mv b h h' j) (fun v h'=>∃f,G.next s i= .no f/\v=flt f/\Fr [b] h h'):=by
 apply Eh
 unfold S66
 rw[xr]
 obtain⟨hp1,hp2⟩:=G.zX s _ i (Nat.le_refl _) hi
 intro hv
 have bl:=L.lt
 have M1:Mv b h hv i:=(Mv.refl L).push _
 have e1:hv.size=h.size+1:=by simp[hv]
 clear_value hv
 have L1:=L.mv M1
 refine ak [b] (MC L1 hi hs) (by simp;omega) (fun _ _ r=>r.2.fr) fun v hv2 r=>?_
 obtain⟨rfl,M2⟩:=r
 generalize G.skp s i=p at hp1 hp2 M2
 have s12:hv.size<=hv2.size:=M2.fr.size
 have M2:=M1.trans M2
 have L2:=L.mv M2
 refine⟨rfl,b,0,rfl,_,L2.c1,?_⟩
 intro hv3 hv4
 have M4:Mv b h hv4 p:=((((M2.push _).hsetn (by omega)).hsetn (by omega)).hsetn (by omega)).hsetn (by omega)
 have e4:hv4.size=hv2.size+1:=by simp[hv4,hv3]
 clear_value hv4
 clear hv3
 have L4:=L.mv M4
 have fin:∀(t:G.Tok) (j:Nat) (hv29:ab),jU s p= .ok (t,j)->Mv b h hv29 j->
   ∃t' j',jU s p= .ok (t',j')/\Value.agg #[.int .i64 (t.kind:Int),.int .i64 (t.at_:Int),.string t.says,.float .f64 t.num]=cF t'/\
    Mv b h (am (am (am (am hv29 h.size 0 (.int .i64 (t.kind:Int))) h.size (0+1) (.int .i64 (t.at_:Int))) h.size ((0+1)+1) (.string t.says)) h.size (((0+1)+1)+1) (.float .f64 t.num)) j':=
  fun t j hv29 q M=>⟨t,j,q,rfl,(((M.hsetn (Nat.le_refl _)).hsetn (Nat.le_refl _)).hsetn (Nat.le_refl _)).hsetn (Nat.le_refl _)⟩
 refine⟨b,0,rfl,_,L4.c1,b,0,rfl,_,L4.c0,av (fun q=>?_) fun q=>?_⟩
 ·exact fin ⟨0,p,G.noB,0⟩ p hv4 (by unfold jU;grind) M4
 ·have hlt:p<s.size:=by omega
  obtain⟨c,hc,hb⟩:=get_at hlt
  have hnx:jU s p=(if c.toNat=91 then .ok (⟨1,p,G.noB,0⟩,p+1)
    else if c.toNat=93 then .ok (⟨2,p,G.noB,0⟩,p+1)
    else if c.toNat=34 then(G.str s p (p+1) []).bind fun(l,j)=>.ok (⟨5,p,G.mkB l,0⟩,j)
    else if G.gO c.toNat=true then .ok (⟨3,p,s.extract p (G.run G.cM s p),0⟩,G.run G.cM s p)
    else if G.cQ c.toNat=true\/c.toNat=43\/c.toNat=45\/c.toNat=46 then .ok (⟨4,p,s.extract p (G.run G.bx s p),0⟩,G.run G.bx s p)
    else .no (p,15)):=by
   unfold jU
   grind
  refine⟨b,0,rfl,_,L4.c0,b,0,rfl,_,L4.c1,by omega,by omega,c,by grind,?_⟩
  let J:List Value->ab->Prop:=fun l h'=>∃t j,l=DT t/\jU s p= .ok (t,j)/\Mv b h h' j
  have out:∀{k a:Int} {x:ByteArray} {f:Nat} {hv29:ab},J [.int .i64 k,.int .i64 a,.string x,.float .f64 f] hv29->
    ∃t' j',jU s p= .ok (t',j')/\Value.agg #[.int .i64 k,.int .i64 a,.string x,.float .f64 f]=cF t'/\
    Mv b h (am (am (am (am hv29 h.size 0 (.int .i64 k)) h.size (0+1) (.int .i64 a)) h.size ((0+1)+1) (.string x)) h.size (((0+1)+1)+1) (.float .f64 f)) j':=by
   rintro k a x f hv29 ⟨t,j,e,q,M⟩
   cases e
   grind
  have H2:∀x∈([hv2.size,h.size]:List Nat),x∉([b]:List Nat):=by simp;omega
  have H0:∀x∈([hv2.size,h.size]:List Nat),x∉([]:List Nat):=by simp
  refine⟨J,?_,fun k a x f hv29 q=>out q⟩
  refine av (fun q1=>?_) fun q1=>?_
  ·rw[if_pos (by omega)]at hnx
   intro hv6
   have M6:Mv b h hv6 p:=M4.hsetn (by omega)
   clear_value hv6
   have L6:=L.mv M6
   refine⟨b,0,rfl,_,L6.c1,b,0,rfl,by omega,by omega,L6.cell,L6.fr,?_⟩
   rw[wrN (by omega)]
   exact⟨_,_,rfl,hnx,M6.trans (Mv.to L6 (p+1))⟩
  rw[if_neg (by omega)]at hnx
  refine⟨J,?_,fun k a x f hv29 q=>q⟩
  refine av (fun q2=>?_) fun q2=>?_
  ·rw[if_pos (by omega)]at hnx
   intro hv6
   have M6:Mv b h hv6 p:=M4.hsetn (by omega)
   clear_value hv6
   have L6:=L.mv M6
   refine⟨b,0,rfl,_,L6.c1,b,0,rfl,by omega,by omega,L6.cell,L6.fr,?_⟩
   rw[wrN (by omega)]
   exact⟨_,_,rfl,hnx,M6.trans (Mv.to L6 (p+1))⟩
  rw[if_neg (by omega)]at hnx
  refine⟨J,?_,fun k a x f hv29 q=>q⟩
  refine av (fun q3=>?_) fun q3=>?_
  ·rw[if_pos (by omega)]at hnx
   refine aK [b] (MF L4 hlt hs) H2 (fun v h' r=>?_) (fun v h' r=>?_) (fun v h' r=>?_) fun v h' r=>?_
   ·obtain⟨_,_,_,_,r⟩:=r;exact r.fr
   ·grind
   ·obtain⟨l,j,e,rfl,M⟩:=r
    refine⟨_,rfl,?_⟩
    rw[e]at hnx
    exact⟨⟨5,p,G.mkB l,0⟩,j,rfl,hnx,((M4.trans M).hsetn (by omega)).hsetn (by omega)⟩
   ·obtain⟨f,e,rfl,M⟩:=r
    rw[e]at hnx
    exact⟨f,hnx,rfl,M4.fr.trans M⟩
  rw[if_neg (by omega)]at hnx
  refine cJ Hh ⟨_,rfl,?_⟩
  refine⟨J,?_,fun k a x f hv29 q=>q⟩
  refine bp (fun q4=>?_) fun q4=>?_
  ·rw[if_pos q4]at hnx
   intro hv14
   have M14:Mv b h hv14 p:=M4.hsetn (by omega)
   clear_value hv14
   have L14:=L.mv M14
   refine ak [b] (JB (fun n h=>Mz) rfl L14 hp2 hs) H2 (fun _ _ r=>r.2.fr) fun v hv15 r=>?_
   obtain⟨rfl,M⟩:=r
   exact⟨_,rfl,_,_,rfl,hnx,(M14.trans M).hsetn (by omega)⟩
  rw[if_neg (by rw[q4];simp)]at hnx
  have num:jU s p= .ok (⟨4,p,s.extract p (G.run G.bx s p),0⟩,G.run G.bx s p)->
    (let hv18:ab:=am hv4 hv2.size 0 (.int .i64 4)
     ai Tryz.prog 93 #[.pointer (some ⟨b,0,none⟩),.func (.func 96) #[] #[]] hv18 [hv2.size,h.size] fun v6 hv19=>
     ∃r5:ByteArray,v6= .string r5/\
     let hv20:ab:=am hv19 hv2.size 2 (.string r5)
     J [.int .i64 4,.int .i64 p,.string r5,.float .f64 0] hv20):=by
   intro hnx hv18
   have M14:Mv b h hv18 p:=M4.hsetn (by omega)
   clear_value hv18
   have L14:=L.mv M14
   refine ak [b] (JB (fun n h=>MB) rfl L14 hp2 hs) H2 (fun _ _ r=>r.2.fr) fun v hv15 r=>?_
   obtain⟨rfl,M⟩:=r
   exact⟨_,rfl,_,_,rfl,hnx,(M14.trans M).hsetn (by omega)⟩
  refine cJ DP ⟨_,rfl,?_⟩
  refine bp (fun q5=>?_) fun q5=>?_
  ·grind
  refine av (fun q6=>?_) fun q6=>?_
  ·grind
  refine av (fun q7=>?_) fun q7=>?_
  ·grind
  refine⟨J,?_,fun k a x f hv29 q=>q⟩
  refine av (fun q8=>?_) fun q8=>?_
  ·grind
  ·rw[if_neg (by grind)]at hnx
   refine⟨b,0,rfl,_,L4.c1,?_⟩
   exact jf ⟨_,hnx,rfl,M4.fr⟩
theorem _root_.Go.X.Gl.fr {gl:GL} {h h':ab} {M:List Nat} (g:Gl gl h) (f:Fr M h h') (hm:∀b∈glB gl,b∉M):Gl gl h':=g.congr fun b hb=>f.blk b (g.lt b hb) (hm b hb)
def rR (rd:ByteArray->Option (Nat × Nat)) (gl:GL):Prop:=
 ∀(t:ByteArray) (x e:Nat),rd t=some (x,e)->∀h,Gl gl h->ae Tryz.prog 131 #[.string t] h fun v h'=>v= .tuple #[.float .f64 x,.int .i64 (e:Int)]/\Fr [] h h'
theorem _root_.Go.X.Fr.hsetL {h h1:ab} {M:List Nat} (f:Fr M h h1) {p o:Nat} {v:Value} (hp:h.size<=p):Fr M h (am h1 p o v):=f.hsetr (.inl hp)
theorem cH {a b:ByteArray}:(a.toList==b.toList)=decide (a.data.toList=b.data.toList):=by
 grind [Lib.toList_data]
theorem ME {rd:ByteArray->Option (Nat × Nat)} {gl:GL} (hr:rR rd gl) {t:G.Tok} {h:ab} (g:Gl gl h) (hu:G.bw rd t≠ .un):
  aB Tryz.prog 97 #[cF t] h (fun v h'=>∃t',G.bw rd t= .ok t'/\v=cF t'/\Fr [] h h') (fun v h'=>∃f,G.bw rd t= .no f/\v=flt f/\Fr [] h h'):=by
 unfold cF
 apply Ei
 unfold S97
 intro hv hv2
 have f2:Fr [] h hv2:=(Fr.push h _).pushr _
 have e1:hv.size=h.size+1:=by simp[hv]
 have e2:hv2.size=h.size+2:=by simp[hv2,hv]
 clear_value hv2
 clear_value hv
 intro K
 have H:∀x∈([hv.size,h.size]:List Nat),x∉([]:List Nat):=by simp
 have fin:∀(t':G.Tok) (hv15:ab),G.bw rd t= .ok t'->Fr [] h hv15->
   ∃t'',G.bw rd t= .ok t''/\Value.agg #[.int .i64 (t'.kind:Int),.int .i64 (t'.at_:Int),.string t'.says,.float .f64 t'.num]=cF t''/\
    Fr [] h (am (am (am (am hv15 hv.size 0 (.int .i64 (t'.kind:Int))) hv.size (0+1) (.int .i64 (t'.at_:Int))) hv.size ((0+1)+1) (.string t'.says)) hv.size (((0+1)+1)+1) (.float .f64 t'.num)):=
  fun t' hv15 q f=>⟨t',q,rfl,(((f.hsetL (by omega)).hsetL (by omega)).hsetL (by omega)).hsetL (by omega)⟩
 let J:List Value->ab->Prop:=fun l h'=>∃t',l=DT t'/\G.bw rd t= .ok t'/\Fr [] h h'
 have out:∀{k a:Int} {x:ByteArray} {f:Nat} {hv15:ab},J [.int .i64 k,.int .i64 a,.string x,.float .f64 f] hv15->
   ∃t'',G.bw rd t= .ok t''/\Value.agg #[.int .i64 k,.int .i64 a,.string x,.float .f64 f]=cF t''/\
    Fr [] h (am (am (am (am hv15 hv.size 0 (.int .i64 k)) hv.size (0+1) (.int .i64 a)) hv.size ((0+1)+1) (.string x)) hv.size (((0+1)+1)+1) (.float .f64 f)):=by
  rintro k a x f hv15 ⟨t',e,q,f'⟩
  cases e
  grind
 have bad:(t.kind=0\/t.kind=2)->K true hv2:=by
  intro q
  refine aO rfl ?_
  refine jf ⟨_,?_,rfl,f2⟩
  unfold G.bw
  rw[if_pos q]
 have good:¬(t.kind=0\/t.kind=2)->K false hv2:=by
  intro q
  have hv0:G.bw rd t=(if t.kind=3 then
    if t.l=G.vM\/t.l=G.vN then
     match rd t.says with
     | some (x,_)=>.ok {t with kind:=4,num:=x}
     | none=>.un
    else .no (t.at_,16)
   else if t.kind=4 then
    match rd t.says with
    | some (x,0)=>.ok {t with num:=x}
    | some (_,e+1)=>.no (t.at_,e+1)
    | none=>.un
   else .ok t):=by
   unfold G.bw
   grind
  refine aG rfl ?_
  refine⟨J,?_,fun k a x f hv15 q=>out q⟩
  refine av (fun q3=>?_) fun q3=>?_
  ·rw[if_pos (by omega)]at hv0
   intro K2
   have k2:(t.l=G.vM\/t.l=G.vN)->K2 hv2:=by
    intro q4
    rw[if_pos q4]at hv0
    dsimp-zeta only[K2]
    intro hv8
    have f8:Fr [] h hv8:=f2.hsetL (by omega)
    clear_value hv8
    cases hrd:rd t.says with
    | none=>grind
    | some y=>
     obtain⟨x,e⟩:=y
     rw[hrd]at hv0
     refine ak [] (hr t.says x e hrd hv8 (g.fr f8 (by simp))) H (fun _ _ r=>r.2) fun v hv9 r=>?_
     obtain⟨rfl,f9⟩:=r
     exact⟨x,(e:Int),rfl,{t with kind:=4,num:=x},rfl,hv0,(f8.trans f9).hsetL (Nat.le_refl _)⟩
   rw[cH,cH]
   have en:(t.says.data.toList=(⟨#[78,97,78]⟩:ByteArray).data.toList)=(t.l=G.vM):=rfl
   have ei:(t.says.data.toList=(⟨#[73,78,70]⟩:ByteArray).data.toList)=(t.l=G.vN):=rfl
   refine ag (fun q4=>?_) fun q4=>?_
   ·refine aw (fun _=>⟨rfl,k2 (.inl q4)⟩) fun q=>absurd q (by decide)
   ·refine aw (fun q5=>⟨rfl,k2 (.inr (of_decide_eq_true q5))⟩) fun q5=>?_
    grind
  rw[if_neg (by omega)]at hv0
  refine⟨J,?_,fun k a x f hv14 q=>q⟩
  refine av (fun q4=>?_) fun q4=>?_
  ·rw[if_pos (by omega)]at hv0
   cases hrd:rd t.says with
   | none=>grind
   | some y=>
    obtain⟨x,e⟩:=y
    rw[hrd]at hv0
    refine ak [] (hr t.says x e hrd hv2 (g.fr f2 (by simp))) H (fun _ _ r=>r.2) fun v hv11 r=>?_
    obtain⟨rfl,f11⟩:=r
    refine⟨x,(e:Int),rfl,?_⟩
    refine aw (fun q5=>⟨rfl,?_⟩) fun q5=>?_
    ·obtain rfl:e=0:=by simpa using q5
     exact⟨{t with num:=x},rfl,hv0,(f2.trans f11).hsetL (Nat.le_refl _)⟩
    ·obtain⟨e',rfl⟩:∃e',e=e'+1:=by
      cases e<;>grind
     exact⟨_,hv0,rfl,f2.trans f11⟩
  ·rw[if_neg (by omega)]at hv0
   exact⟨t,rfl,hv0,f2⟩
 refine av (fun q=>?_) fun q=>?_
 ·grind
 ·by_cases q2:t.kind=2
  ·simp_all
  ·have e:((t.kind:Int)==(2:Int))=false:=by simp;omega
   grind
open Go.RowKit (Below)
theorem Gl.tab {gl:GL} {w:World} (g:Gl gl w.heap):Lib.TabIs Tryz.prog w "internal/strconv.uint64pow10" .u64 Lib.pow10Tab:=by
 obtain⟨e,f,q⟩:=g.uu
 have hg:Tryz.prog.globalNamed "internal/strconv.uint64pow10" =some 1:=by kernel_rfl
 unfold Lib.TabIs World.var?
 rw[hg]
 show(match w.heap[1]? with | some (.cells cs _ _)=>some cs | _=>none)=_
 rw[q]
 rfl
theorem MK {gl:GL} {n:Int} {h:ab} (g:Gl gl h) (h0: -9223372036854775808<=n) (h1:n<=9223372036854775807):ae Tryz.prog 72 #[.int .i64 n,.int .i64 10] h fun v h'=>v= .string ⟨(Lib.itoa n).toArray⟩/\Fr [] h h':=by
 intro w hw
 subst hw
 refine(Go.Proofs.Tryz.strconv_FormatInt_10 n h0 h1 w (Gl.tab g)).mono fun e w' ⟨e1,k,os,e2⟩=>⟨_,e1,?_,rfl,?_⟩
 ·subst e2;exact⟨rfl,rfl,rfl,by simp[Sort.grow]⟩
 ·subst e2;exact⟨by simp[Sort.grow],fun j hj _=>Sort.heap_grow_old _ _ hj⟩
theorem ML {gl:GL} {s:ByteArray} {h:ab} (g:Gl gl h) (hs:s.size<=262144):ae Tryz.prog 71 #[.string s,.int .i64 10,.int .i64 64] h fun v h'=>
  ((∃n,Lib.parseIntB 64 s.data.toList= .ok n/\v= .tuple #[.int .i64 n,.nilIface])\/((∀n,Lib.parseIntB 64 s.data.toList≠ .ok n)/\∃n t x,v= .tuple #[.int .i64 n,.iface t x]))/\Fr [] h h':=by
 intro w hw
 subst hw
 cases q:Lib.parseIntB 64 s.data.toList with
 | ok n=>
  refine(Go.Proofs.Tryz.strconv_ParseInt_10_at64_ok s (by omega) n q w).mono fun e w' ⟨e1,e2⟩=>⟨_,e1,?_,.inl ⟨n,rfl,rfl⟩,?_⟩
  ·rcases e2 with rfl | ⟨t,rfl⟩
   ·exact Rest.refl _
   ·exact gi (⟨rfl,rfl,rfl,by rw[Lib.bytesWorld_size];omega,fun k hk=>Lib.bytesWorld_at_old w _ _ k hk⟩)
  ·rcases e2 with rfl | ⟨t,rfl⟩
   ·exact Fr.refl _ _
   ·exact jd (⟨rfl,rfl,rfl,by rw[Lib.bytesWorld_size];omega,fun k hk=>Lib.bytesWorld_at_old w _ _ k hk⟩)
 | range=>
  obtain⟨te,pe,hc⟩:=g.e2
  exact(Go.Proofs.Tryz.strconv_ParseInt_10_at64_range s (by omega) q (.iface te pe) w ((ba _ _ _).trans hc) (.inr ⟨te,pe,rfl⟩)).mono fun e w' ⟨N,q1,q2,q3,q4⟩=>⟨_,q1,gi q4,.inr ⟨(by intro n h;cases h),_,_,_,rfl⟩,jd q4⟩
 | _=>
  obtain⟨te,pe,hc⟩:=g.e1
  exact(Go.Proofs.Tryz.strconv_ParseInt_10_at64_syntax s (by omega) q (.iface te pe) w ((ba _ _ _).trans hc) (.inr ⟨te,pe,rfl⟩)).mono fun e w' ⟨N,q1,q2,q3,q4⟩=>⟨_,q1,gi q4,.inr ⟨(by intro n h;cases h),_,_,_,rfl⟩,jd q4⟩
theorem Ho {gl:GL} {t:G.Tok} {h:ab} (g:Gl gl h) (hs:t.says.size<=262144):
  aB Tryz.prog 50 #[cF t] h (fun v h'=>∃n,G.whole t.l=some n/\v= .int .i64 n/\Fr [] h h') (fun v h'=>G.whole t.l=none/\v=flt (t.at_,17)/\Fr [] h h'):=by
 unfold cF
 apply Ej
 unfold S50
 intro hv
 have f1:Fr [] h hv:=Fr.push h _
 have e1:hv.size=h.size+1:=by simp[hv]
 clear_value hv
 have H:∀x∈([h.size]:List Nat),x∉([]:List Nat):=by simp
 refine ak [] (ML (g.fr f1 (by simp)) hs) H (fun _ _ r=>r.2) fun v hv2 r=>?_
 obtain⟨r,f2⟩:=r
 have f2':=f1.trans f2
 rcases r with⟨n,q,rfl⟩ | ⟨q,n,te,x,rfl⟩
 ·refine⟨n,.inl ⟨rfl,?_⟩⟩
  intro K
  refine aO rfl ?_
  have hl:=G.Ag q
  have hr:=Lib.parseIntB_bounds q
  simp at hr
  refine ak [] (MK (g.fr f2' (by simp)) (by omega) (by omega)) H (fun _ _ r=>r.2) fun v hv3 r=>?_
  obtain⟨rfl,f3⟩:=r
  refine⟨_,rfl,f3,?_⟩
  rw[cH]
  refine ag (fun q1=>?_) fun q1=>?_
  ·refine ag (fun q2=>?_) fun q2=>?_
   ·refine aw (fun q3=>⟨rfl,f3,n,?_,rfl,f2'.trans f3⟩) fun q3=>⟨?_,rfl,f2'.trans f3⟩
    ·rw[if_pos ⟨by simpa using q1,q2,of_decide_eq_true q3⟩]at hl;exact hl
    ·rw[if_neg (fun z=>of_decide_eq_false q3 z.2.2)]at hl;exact hl
   ·refine aw (fun q3=>absurd q3 (by decide)) fun q3=>⟨?_,rfl,f2'.trans f3⟩
    rw[if_neg (fun z=>q2 z.2.1)]at hl;exact hl
  ·refine aw (fun q3=>absurd q3 (by decide)) fun q3=>⟨?_,rfl,f2'.trans f3⟩
   rw[if_neg (fun z=>q1 (by simpa using z.1))]at hl;exact hl
 ·refine⟨n,.inr ⟨te,x,rfl,?_⟩⟩
  intro K
  refine aG rfl ⟨Fr.refl _ _,?_⟩
  refine aw (fun q3=>absurd q3 (by decide)) fun q3=>⟨G.yQ q,rfl,f2'⟩
end Go.Proofs.YtemclecmafjjfaaGreatDoor.N
