/- The program's lexer of GML: what its functions tell, by the plain reader. Conditions: none. -/
import Derived.Test.YtmmmmjcfojhiaaaGreatDoorGTell
import Derived.Test.YtmmmmjcfojhiaaaGreatDoorSRd
import Derived.Lib.ConvBytes
import Derived.Lib.ParseIntBTie
set_option linter.unusedVariables false
set_option linter.unusedSimpArgs false
set_option maxRecDepth 100000
open Go.IntKind (i64 u64 u8 i32)
namespace Go.Proofs.YtmmmmjcfojhiaaaGreatDoor.N
open Go.Proofs.YtmmmmjcfojhiaaaGreatDoor
open Go.X
def cQ (t:G.Tok):Value:=.agg #[PN (t.kind:Int),PN (t.at_:Int),PU t.says,PS t.num]
def flt (f:G.F):Value:=.iface 40 (.agg #[PN (f.1:Int),PN (f.2:Int)])
theorem jw {a e:Nat} {h:ab} {H:List Nat} {K E:Value->ab->Prop} (k:E (flt (a,e)) h):PK 32 #[PN (a:Int),PN (e:Int)] h H K E:=by
 refine aK (R:=fun _ _=>False) (Rp:=fun v h'=>v=flt (a,e)/\h'=h) [] ?_ PC (fun _ _ r=>r.elim) (fun _ _ r=>Fr.of_eq r.2) (fun _ _ r=>r.elim) fun v h' r=>by grind
 apply FO
 exact⟨rfl,rfl⟩
theorem aF {b:Bool} {a e:Nat} {h:ab} {H:List Nat} {K E:Value->ab->Prop} (k:b=true->K (.tuple #[]) h) (k2:b=false->E (flt (a,e)) h):PK 11 #[PV b,PN (a:Int),PN (e:Int)] h H K E:=by
 refine aK (R:=fun v h'=>b=true/\v= .tuple #[]/\h'=h) (Rp:=fun v h'=>b=false/\v=flt (a,e)/\h'=h) [] ?_ PC (fun _ _ r=>Fr.of_eq r.2.2) (fun _ _ r=>Fr.of_eq r.2.2) (fun v h' r=>by grind) fun v h' r=>by grind
 apply yH
 unfold S11
 refine⟨fun _ h'=>b=true/\h'=h,bj (fun q=>?_) fun q=>⟨q,rfl⟩,fun h' q=>⟨q.1,rfl,q.2⟩⟩
 exact jw ⟨q,rfl,rfl⟩
theorem iE {p:Prop} [Decidable p] {b:Bool} (h:b=true ↔ p):b=decide p:=by
 grind
section
variable {n:Nat} {h:ab} {H:List Nat} {K:Value->ab->Prop}
theorem dm {f:Nat} {r:Bool} (c:PJ f #[PR (n:Int)] h fun v h'=>v= PV r/\h'=h) (k:K (PV r) h):PI f #[PR (n:Int)] h H K:=
 ak [] c PC (fun _ _ r=>Fr.of_eq r.2) fun v h' r=>by grind
theorem IY :PJ 68 #[PR (n:Int)] h fun v h'=>v= PV (G.ia n)/\h'=h:=by
 apply FH
 unfold S68
 have fin:∀b:Bool,(b=true ↔ 97<=n/\n<=122\/65<=n/\n<=90)->PV b= PV (G.ia n)/\h=h:=fun b e=>⟨by rw[iE e];rfl,rfl⟩
 refine ae (fun h1=>ae (fun h2=>fin _ ?_) fun h2=>ae (fun h3=>fin _ ?_) fun h3=>fin _ ?_) fun h1=>ae (fun h3=>fin _ ?_) fun h3=>fin _ ?_
 all_goals grind
theorem Fh :PJ 71 #[PR (n:Int)] h fun v h'=>v= PV (G.dy n)/\h'=h:=by
 apply FI
 unfold S71
 have fin:∀b:Bool,(b=true ↔ 48<=n/\n<=57)->PV b= PV (G.dy n)/\h=h:=fun b e=>⟨by rw[iE e];rfl,rfl⟩
 refine ae (fun h1=>fin _ ?_) fun h1=>fin _ ?_
 all_goals grind
theorem IZ :PJ 49 #[PR (n:Int)] h fun v h'=>v= PV (G.gH n)/\h'=h:=by
 apply FK
 unfold S49
 have fin:∀b:Bool,(b=true ↔ 32<=n/\n<=126)->PV b= PV (G.gH n)/\h=h:=fun b e=>⟨by rw[iE e];rfl,rfl⟩
 refine ae (fun h1=>fin _ ?_) fun h1=>fin _ ?_
 all_goals grind
theorem Ll :PJ 97 #[PR (n:Int)] h fun v h'=>v= PV (G.mG n)/\h'=h:=by
 apply FJ
 unfold S97
 have fin:∀b:Bool,(b=true ↔ n=32\/n=9\/n=10\/n=13)->PV b= PV (G.mG n)/\h=h:=fun b e=>⟨by rw[iE e];rfl,rfl⟩
 refine au (fun h1=>fin _ ?_) fun h1=>au (fun h2=>fin _ ?_) fun h2=>au (fun h3=>fin _ ?_) fun h3=>fin _ ?_
 all_goals grind
theorem OH :PJ 70 #[PR (n:Int)] h fun v h'=>v= PV (G.du n)/\h'=h:=by
 apply FL
 unfold S70
 intro K
 refine dm IY ⟨_,rfl,aU (fun q=>?_) fun q=>dm Fh ⟨_,rfl,aU (fun q2=>?_) fun q2=>?_⟩⟩
 ·exact⟨by simp[G.du,q],rfl⟩
 ·exact⟨by simp[G.du,q2],rfl⟩
 ·refine⟨?_,rfl⟩
  have:((n:Int)==95)=decide (n=95):=iE PH
  rw[this]
  simp[G.du,q,q2]
theorem OI :PJ 72 #[PR (n:Int)] h fun v h'=>v= PV (G.bM n)/\h'=h:=by
 apply FN
 unfold S72
 intro K
 refine dm IY ⟨_,rfl,aU (fun q=>?_) fun q=>dm Fh ⟨_,rfl,aU (fun q2=>?_) fun q2=>au (fun q3=>?_) fun q3=>au (fun q4=>?_) fun q4=>?_⟩⟩
 ·exact⟨by simp[G.bM,q],rfl⟩
 ·exact⟨by simp[G.bM,q2],rfl⟩
 ·grind [G.bM]
 ·grind [G.bM]
 ·refine⟨?_,rfl⟩
  have:((n:Int)==46)=decide (n=46):=iE PH
  grind [G.bM]
end
theorem wrN {j:Nat} (h:j<4611686018427387904):i64.wrap ((j:Int)+(1:Int))=((j+1:Nat):Int):=by
 rw[wr PA PA];omega
theorem get_at {s:P0} {j:Nat} (h:j<s.size):∃c:UInt8,s[j]? =some c/\G.bt s j=c.toNat:=by
 refine⟨s[j],getElem?_pos s j h,?_⟩
 unfold G.bt
 grind
def Bs (s:P0) (b:Nat):List Value->ab->Nat:=fun _ h=>
 match ac h b 1 with
 | some (.int _ x)=>s.size-x.toNat
 | _=>0
theorem jY {s:P0} {b i:Nat} {h:ab} (L:Lx h b s i) (l:List Value):Bs s b l h=s.size-i:=by
 unfold Bs;rw[L.c1];simp
theorem Bt {s:P0} {j:Nat} (h:¬j<s.size):G.skp s j=j:=by rw[G.skp,if_neg h]
theorem Bu {s:P0} {j:Nat} (h1:G.mG (G.bt s j)=false) (h2:G.bt s j≠35):G.skp s j=j:=by
 grind [G.skp]
theorem zY {s:P0} {j:Nat} (h:j<s.size) (h1:G.mG (G.bt s j)=true):G.skp s j=G.skp s (j+1):=by
 conv=>lhs;rw[G.skp,if_pos h,if_pos h1]
theorem Bv {s:P0} {j:Nat} (h:j<s.size) (h1:G.bt s j=35):G.skp s j=G.skp s (G.run (fun c=>decide (c≠10)) s j):=by
 conv=>lhs;rw[G.skp,if_pos h,if_neg (by rw[h1];decide),if_pos h1]
 conv=>rhs;rw[G.run,if_pos ⟨h,by rw[h1];rfl⟩]
theorem ry {s:P0}:∀{l:PZ} {j:Nat},G.At s j l->G.run (fun c=>decide (c≠10)) s j=(if Lib.indexByte l 10<0 then s.size else j+(Lib.indexByte l 10).toNat)/\ -1<=Lib.indexByte l 10
 | [],j,a=>by
  have:=a.nil
  rw[G.run,if_neg PA]
  simp[Lib.indexByte,this]
 | c::l,j,a=>by
  obtain⟨h1,h2,h3⟩:=a.cons
  obtain⟨e1,e2⟩:=ry h3
  rw[G.run]
  by_cases q:c=10
  ·subst q
   rw[if_neg (by rw[h2];simp)]
   simp[Lib.indexByte]
  ·have hq:c.toNat≠10:=fun e=>q (QE.1 e)
   rw[if_pos ⟨h1,PE⟩,e1]
   have e3:Lib.indexByte (c::l) 10=if Lib.indexByte l 10== -1 then-1 else Lib.indexByte l 10+1:=by
    simp[Lib.indexByte,q]
   grind
theorem Fi {s:P0} {j:Nat} (h:j<=s.size):G.At s j (s.extract j s.size).data.toList:=by
 refine⟨h,?_⟩
 rw[Rk,RR,Sb,QF]
 simp_all
theorem OJ {h:ab} {b i:Nat} {s:P0} (L:Lx h b s i) (hi:i<=s.size) (hs:s.size<=262144):PJ 66 #[PW (some ⟨b,0,none⟩)] h fun v h'=>v= .tuple #[]/\Mv b h h' (G.skp s i):=by
 apply FQ
 unfold S66
 refine⟨fun _ h'=>∃j,j<=s.size/\G.skp s j=G.skp s i/\Mv b h h' j,Bs s b,⟨i,hi,rfl,Mv.refl L⟩,?_⟩
 rintro hv ⟨j,hj,hsk,M⟩
 have Lj:=L.mv M
 refine⟨b,0,rfl,_,Lj.c1,b,0,rfl,_,Lj.c0,ae (fun hlt=>?_) fun hlt=>?_⟩
 ·have hlt:j<s.size:=by omega
  obtain⟨c,hc,hb⟩:=get_at hlt
  refine⟨b,0,rfl,_,Lj.c0,b,0,rfl,_,Lj.c1,PA,PA,c,PE,?_⟩
  refine dm Ll ⟨_,rfl,?_⟩
  refine⟨fun _ h'=>∃k,j<k/\k<=s.size/\G.skp s k=G.skp s i/\Mv b h h' k,?_,?_⟩
  ·refine aU (fun q=>?_) fun q=>au (fun q2=>?_) fun q2=>?_
   ·refine⟨b,0,rfl,_,Lj.c1,b,0,rfl,Lj.cell,Lj.fr,?_⟩
    rw[wrN PA]
    exact⟨j+1,PA,PA,by grind [zY],M.trans (Mv.to Lj (j+1))⟩
   ·have h35:G.bt s j=35:=by rw[hb];omega
    refine⟨b,0,rfl,_,Lj.c0,b,0,rfl,_,Lj.c1,PA,PA,?_⟩
    rw[P8]
    refine gG (OC (c:=10) PB) ?_
    have e10:UInt8.ofNat 10=10:=rfl
    rw[e10]
    obtain⟨e1,e2⟩:=ry (Fi (s:=s) (j:=j) hj)
    generalize Lib.indexByte (s.extract j s.size).data.toList 10=n at e1 e2
    refine⟨_,rfl,Fr.refl _ _,?_⟩
    have hge:=G.tf (fun c=>decide (c≠10)) s j
    have hle:=G.sW (fun c=>decide (c≠10)) s _ j rfl hj
    have hgt:=G.wQ (p:=fun c=>decide (c≠10)) hlt (by rw[h35];rfl)
    have hsk2:=Bv hlt h35
    refine⟨fun l h'=>∃n2:Int,l=[PN n2]/\h'=hv/\(j:Int)+n2=(G.run (fun c=>decide (c≠10)) s j:Nat),?_,?_⟩
    ·refine ae (fun hneg=>?_) fun hneg=>?_
     ·rw[if_pos hneg]at e1
      refine⟨b,0,rfl,_,Lj.c0,b,0,rfl,_,Lj.c1,?_⟩
      grind [wr]
     grind
    ·rintro n2 hv5 ⟨_,e,rfl,hn⟩
     cases e
     refine⟨b,0,rfl,_,Lj.c1,b,0,rfl,Lj.cell,Lj.fr,?_⟩
     rw[wr PA PA,hn]
     exact⟨_,hgt,hle,PA,M.trans (Mv.to Lj _)⟩
   grind [Bu]
  ·rintro hv7 ⟨k,h1,h2,h3,h4⟩
   refine⟨⟨k,h2,h3,h4⟩,?_⟩
   rw[jY (L.mv h4),jY Lj]
   omega
 grind [Bt]
theorem Ln {p:Nat->Bool} {g:Nat} (hg:∀(n:Nat) (h:ab),PJ g #[PR (n:Int)] h fun v h'=>v= PV (p n)/\h'=h) (hm:mem kH g=true) {h:ab} {b i:Nat} {s:P0} (L:Lx h b s i) (hi:i<=s.size) (hs:s.size<=262144):
  PJ 69 #[PW (some ⟨b,0,none⟩),.func (.func g) #[] #[]] h fun v h'=>v= PU (s.extract i (G.run p s i))/\Mv b h h' (G.run p s i):=by
 apply FR
 unfold S69
 refine⟨b,0,rfl,_,L.c1,?_⟩
 intro K
 refine⟨fun _ h'=>∃j,i<=j/\j<=s.size/\G.run p s j=G.run p s i/\Mv b h h' j,Bs s b,⟨i,P3 _,hi,rfl,Mv.refl L⟩,?_⟩
 rintro hv ⟨j,hij,hj,hsk,M⟩
 have Lj:=L.mv M
 have fin:G.run p s j=j->K hv:=by
  intro e
  have ej:G.run p s i=j:=by rw[<-hsk,e]
  refine⟨b,0,rfl,_,Lj.c0,b,0,rfl,_,Lj.c1,PA,PA,PA,PA,?_⟩
  grind
 refine⟨b,0,rfl,_,Lj.c1,b,0,rfl,_,Lj.c0,ae (fun hlt=>?_) fun hlt=>?_⟩
 ·have hlt:j<s.size:=by omega
  obtain⟨c,hc,hb⟩:=get_at hlt
  refine⟨b,0,rfl,_,Lj.c0,b,0,rfl,_,Lj.c1,PA,PA,c,PE,?_⟩
  have hcall:∀{K:Value->ab->Prop},K (PV (p c.toNat)) hv->ik Tryz.prog kH [] none (.func g) #[] #[] [PR ((UInt8.toNat c:Nat):Int)] hv [] K:=by
   grind [ik,mem,dm]
  refine hcall ⟨_,rfl,Fr.refl _ _,aU (fun q=>?_) fun q=>?_⟩
  ·refine⟨b,0,rfl,_,Lj.c1,b,0,rfl,Lj.cell,Lj.fr,?_⟩
   rw[wrN PA]
   have M':=M.trans (Mv.to Lj (j+1))
   refine⟨⟨j+1,PA,PA,?_,M'⟩,?_⟩
   ·rw[<-hsk]
    conv=>rhs;rw[G.run,if_pos ⟨hlt,PE⟩]
   ·rw[jY (L.mv M'),jY Lj]
    omega
  ·exact fin (by rw[G.run,if_neg PE])
 ·exact⟨Fr.refl _ _,fin (by rw[G.run,if_neg PA])⟩
theorem u8w {x:Int} (h1:0<=x) (h2:x<256):u8.wrap x=x:=by rw[IntKind.wrap_u8'];omega
theorem rE (t:P0) (l:PZ):G.preB t 0 l=Lib.hasPrefix t.data.toList l:=by
 unfold G.preB Lib.hasPrefix
 rw[Rk,RR,Sb,Sa,Qu,RC]
 rw[Rr]
 simp only[decide_eq_true_eq,List.isPrefixOf_iff_prefix]
 constructor
 ·intro e
  rw[<-e]
  exact List.take_prefix _ _
 ·intro h
  exact(List.prefix_iff_eq_take.1 h).symm
def H3 (o:Option (Nat × Nat)):Value:=
 match o with
 | some (c,n)=>.tuple #[PR (c:Int),PN (n:Int)]
 | none=>.tuple #[PR 0,PN 0]
def nm5 :List PZ:=[G.amp,G.wV,G.ltB,G.gtB,G.IQ]
def nb5 :PZ:=[38,34,60,62,39]
theorem I2 {t:P0} {i:Nat} (h:G.dy (G.bt t i)=true):i<t.size:=G.HZ (by intro e;rw[e]at h;revert h;decide)
theorem OM {t:P0} (ht:t.size<=262144) {h:ab}:PJ 99 #[PU t] h fun v h'=>v=H3 (G.part t 0)/\Fr [] h h':=by
 apply FT
 unfold S99
 intro hv
 have hfr:Fr [] h hv:=Fr.push h _
 have hblk:hv[h.size]? =some (.cells #[PU ⟨#[38,97,109,112,59]⟩,PU ⟨#[38,113,117,111,116,59]⟩,PU ⟨#[38,108,116,59]⟩,PU ⟨#[38,103,116,59]⟩,PU ⟨#[38,97,112,111,115,59]⟩] 9):=gy
 clear_value hv
 refine⟨fun l h'=>∃n:Nat,l=[PN (n:Int)]/\n<=5/\h'=hv/\∀k x,k<n->nm5[k]? =some x->G.preB t 0 x=false,mI 5,⟨0,rfl,PB,rfl,fun k x hk=>by omega⟩,?_⟩
 rintro _ hv2 ⟨n,e,hn,rfl,hno⟩
 cases e
 refine ae (fun hlt=>?_) fun hlt=>?_
 ·have hn5:n<5:=by omega
  obtain⟨x,hx,c,hc,ac,hbyte,hpart⟩:∃x:PZ,nm5[n]? =some x/\∃c:UInt8,nb5[n]? =some c/\ac hv2 h.size (0+(Int.toNat (n:Int))*1)=some (PU ⟨x.toArray⟩)/\(⟨#[38,34,60,62,39]⟩:P0)[Int.toNat (n:Int)]? =some c/\(G.preB t 0 x=true->G.part t 0=some (c.toNat,x.length)):=by
   have q:∀k v,(#[PU ⟨#[38,97,109,112,59]⟩,PU ⟨#[38,113,117,111,116,59]⟩,PU ⟨#[38,108,116,59]⟩,PU ⟨#[38,103,116,59]⟩,PU ⟨#[38,97,112,111,115,59]⟩]:Array Value)[k]? =some v->ac hv2 h.size k=some v:=fun k v q=>by rw[bs hblk];exact q
   have no:∀k x,k<n->nm5[k]? =some x->¬G.preB t 0 x=true:=fun k x a b=>by rw[hno k x a b];simp
   match n,hn5,no with
   | 0,_,no=>exact⟨G.amp,rfl,38,rfl,q 0 _ rfl,rfl,fun p=>by unfold G.part;rw[if_pos p];rfl⟩
   | 1,_,no=>exact⟨G.wV,rfl,34,rfl,q 1 _ rfl,rfl,fun p=>by unfold G.part;rw[if_neg (no 0 _ PB rfl),if_pos p];rfl⟩
   | 2,_,no=>exact⟨G.ltB,rfl,60,rfl,q 2 _ rfl,rfl,fun p=>by unfold G.part;rw[if_neg (no 0 _ PB rfl),if_neg (no 1 _ PB rfl),if_pos p];rfl⟩
   | 3,_,no=>exact⟨G.gtB,rfl,62,rfl,q 3 _ rfl,rfl,fun p=>by unfold G.part;rw[if_neg (no 0 _ PB rfl),if_neg (no 1 _ PB rfl),if_neg (no 2 _ PB rfl),if_pos p];rfl⟩
   | 4,_,no=>exact⟨G.IQ,rfl,39,rfl,q 4 _ rfl,rfl,fun p=>by unfold G.part;rw[if_neg (no 0 _ PB rfl),if_neg (no 1 _ PB rfl),if_neg (no 2 _ PB rfl),if_neg (no 3 _ PB rfl),if_pos p];rfl⟩
  refine⟨h.size,0,rfl,PA,PA,_,ac,?_⟩
  refine gG Lh ?_
  rw[<-rE]
  refine⟨_,rfl,aU (fun p=>?_) fun p=>?_⟩
  ·refine⟨PA,by show(n:Int)<((5:Nat):Int);omega,c,hbyte,?_,hfr⟩
   rw[hpart p]
   rfl
  ·rw[wr (x:=(n:Int)+1) PA PA]
   refine⟨⟨n+1,PC,PA,rfl,fun k y hk hy=>?_⟩,by simp only[mI];omega⟩
   by_cases q:k=n
   ·subst q;rw[hx]at hy;cases hy;exact p
   ·exact hno k y PA hy
 ·obtain rfl:n=5:=by omega
  have np:∀k x,k<5->nm5[k]? =some x->¬G.preB t 0 x=true:=fun k x a b=>by rw[hno k x a b];simp
  have hp:G.part t 0=(if G.preB t 0 [38,35]=false then none else match G.iB t 3 0 (0+2)with
    | (n,k)=>if k=0+2\/G.bt t k≠59\/G.gH n=false then none else some (n,k+1-0)):=by
   unfold G.part
   rw[if_neg (np 0 _ PB rfl),if_neg (np 1 _ PB rfl),if_neg (np 2 _ PB rfl),if_neg (np 3 _ PB rfl),if_neg (np 4 _ PB rfl)]
  refine gG Lh ?_
  rw[<-rE]
  refine⟨_,rfl,bj (fun p=>?_) fun p=>?_⟩
  ·rw[hp,if_pos p]
   exact⟨rfl,hfr⟩
  ·rw[if_neg (by rw[p];simp)]at hp
   intro K2
   have fin:∀m k:Nat,G.iB t 3 0 2=(m,k)->2<=k->k<=5->k<=t.size->m<1000->K2 (m:Int) (k:Int) hv2:=by
    intro m k e k2 k5 ks m3
    rw[show(0+2)=2 from rfl,e]at hp
    simp only[RC]at hp
    have no:(k=2\/G.bt t k≠59\/G.gH m=false)->Value.tuple #[Value.int IntKind.u8 0,Value.int IntKind.i64 0]=H3 (G.part t 0)/\Fr [] h hv2:=fun q=>by rw[if_pos q]at hp;exact⟨by rw[hp];rfl,hfr⟩
    refine au (fun q=>no (.inl PA)) fun q=>au (fun q2=>?_) fun q2=>?_
    ·refine no (.inr (.inl ?_))
     have:¬k<t.size:=by omega
     unfold G.bt
     rw[getElem?_neg t k this]
     decide
    ·have hk:k<t.size:=by omega
     obtain⟨c,hc,hb⟩:=get_at hk
     refine⟨PA,PA,c,by rw[P8];exact hc,cn (fun q3=>no (.inr (.inl (by rw[hb];omega)))) fun q3=>ae (fun q4=>?_) fun q4=>?_⟩
     ·refine no (.inr (.inr ?_))
      simp[G.gH];omega
     ·rw[u8w (x:=(m:Int)) PA PA]
      refine dm IZ ⟨_,rfl,bj (fun q5=>?_) fun q5=>?_⟩
      ·have:=no (.inr (.inr q5))
       exact this
      ·rw[wrN PA]
       rw[if_neg (by rw[hb,q5];simp;omega)]at hp
       exact⟨by rw[hp];rfl,hfr⟩
   refine⟨fun l h'=>∃r m k:Nat,l=[PN (m:Int),PN (k:Int)]/\k+r=5/\2<=k/\k<=t.size/\G.iB t 3 0 2=G.iB t r m k/\m<10^(k-2)/\h'=hv2,fun l _=>(match l with | [_,.int _ x]=>((5:Int)-x).toNat | _=>0),⟨3,0,2,rfl,rfl,PB,?_,rfl,PB,rfl⟩,?_⟩
   ·rcases G.yu p with q | q
    ·simpa using q
    ·cases q
   rintro _ _ hv5 ⟨r,m,k,e,hr,k2,ks,hd,hm,rfl⟩
   cases e
   have m3:m<1000:=by
    have:10^(k-2)<=10^3:=P7 PB PA
    omega
   intro K
   have stop:G.iB t r m k=(m,k)->K2 (m:Int) (k:Int) hv5:=fun q=>fin m k (hd.trans q) k2 PA ks m3
   refine ae (fun q1=>ae (fun q2=>?_) fun q2=>?_) fun q1=>?_
   ·obtain⟨c,hc,hb⟩:=get_at (show k<t.size by omega)
    refine⟨PA,PA,c,by rw[P8];exact hc,?_⟩
    obtain⟨r',rfl⟩:∃r',r=r'+1:=⟨r-1,PA⟩
    refine dm Fh ⟨_,rfl,aU (fun q3=>?_) fun q3=>?_⟩
    ·have hdg:48<=c.toNat/\c.toNat<=57:=by simpa[G.dy]using q3
     refine⟨PA,PA,c,by rw[P8];exact hc,?_⟩
     have e1:u8.wrap (((UInt8.toNat c:Nat):Int)-(48:Int))=((c.toNat-48:Nat):Int):=by rw[u8w PA PA];omega
     rw[e1,wr (x:=((c.toNat-48:Nat):Int)) PA PA,wr (x:=(10:Int)*(m:Int)) PA PA,wr (x:=(10:Int)*(m:Int)+((c.toNat-48:Nat):Int)) PA PA,wrN PA]
     refine⟨⟨r',10*m+(c.toNat-48),k+1,PC,PA,PA,PA,?_,?_,rfl⟩,by simp only[];omega⟩
     ·rw[hd,G.iB,if_pos (by rw[hb];exact q3),hb]
     ·rw[show k+1-2=(k-2)+1 by omega,QR];omega
    ·exact stop (by rw[G.iB,if_neg (by rw[hb,q3];simp)])
   ·obtain rfl:r=0:=by omega
    exact stop rfl
   ·refine stop ?_
    cases r with
    | zero=>rfl
    | succ r=>
     rw[G.iB,if_neg]
     intro q
     have:=I2 q
     omega
end Go.Proofs.YtmmmmjcfojhiaaaGreatDoor.N
namespace Go.Proofs.YtmmmmjcfojhiaaaGreatDoor.G
theorem oW {s:P0} {j:Nat} (a b:Nat):(s.extract a b).data.toList=(s.data.toList.drop a).take (b-a):=by
 rw[Rk,RR,Sb]
theorem oe (s:P0) (j:Nat):(s.extract j s.size).data.toList=s.data.toList.drop j:=by
 rw[oW (j:=0),QF]
 rw[Ry];exact P3 _
theorem Bx (s:P0) (j:Nat) (l:PZ):preB (s.extract j s.size) 0 l=preB s j l:=by
 unfold preB
 rw[oW (j:=0),oe,oW (j:=0),Qu,RC,Nat.add_sub_cancel_left,Sa]
theorem Bz (s:P0) (j k:Nat):bt (s.extract j s.size) k=bt s (j+k):=by
 rw[wS,wS,oe,List.getElem?_drop]
theorem uQ (s:P0) (j:Nat):∀(r n k:Nat),iB s r n (j+k)=((iB (s.extract j s.size) r n k).1,j+(iB (s.extract j s.size) r n k).2)
 | 0,n,k=>rfl
 | r+1,n,k=>by
  rw[iB,iB,Bz]
  split
  ·rw[show j+k+1=j+(k+1) by omega,uQ s j r _ (k+1)]
  ·rfl
theorem BA (s:P0) (j:Nat):part (s.extract j s.size) 0=part s j:=by
 unfold part
 simp only[Bx,uQ s j 3 0 2]
 have hg:=sX (s.extract j s.size) 3 0 2
 simp only[Qu]at hg ⊢
 generalize iB (s.extract j s.size) 3 0 2=y at hg ⊢
 obtain⟨n,k⟩:=y
 simp only[Bz]at hg ⊢
 have e1:(j+k=j+2)=(k=2):=by apply propext;omega
 have e2:j+k+1-j=k+1-0:=by omega
 simp only[e1,e2]
theorem Fo {s:P0} {i c n:Nat} (h:part s i=some (c,n)):c<256:=by
 unfold part at h
 split at h
 ·cases h;decide
 split at h
 ·cases h;decide
 split at h
 ·cases h;decide
 split at h
 ·cases h;decide
 split at h
 ·cases h;decide
 split at h
 ·cases h
 ·generalize iB s 3 0 (i+2)=y at h
  obtain⟨m,k⟩:=y
  simp only at h
  split at h
  ·cases h
  ·rename_i q
   simp only[not_or,Bool.not_eq_false]at q
   simp only[Option.some.injEq,Prod.mk.injEq]at h
   have:=q.2.2
   simp[gH]at this
   omega
end Go.Proofs.YtmmmmjcfojhiaaaGreatDoor.G
namespace Go.Proofs.YtmmmmjcfojhiaaaGreatDoor.N
open Go.Proofs.YtmmmmjcfojhiaaaGreatDoor
open Go.X
def bv (l:PZ):List Value:=l.map fun c=>PR ((c.toNat:Nat):Int)
theorem uR (l:PZ):strOf (l.map fun c=>((c.toNat:Nat):Int))=G.mkB l:=by
 unfold strOf G.mkB
 rw[foldl_push_byteCells l ByteArray.empty]
 have e:ByteArray.empty.data=#[]:=rfl
 rw[e];simp
theorem Fp {s:P0} {fr i:Nat} {out:PZ} (h:¬i<s.size):G.str s fr i out= .no (fr,15):=by rw[G.str,if_neg h]
theorem ON {h:ab} {b i:Nat} {s:P0} (L:Lx h b s i) (hi:i<s.size) (hs:s.size<=262144):
  PM 67 #[PW (some ⟨b,0,none⟩)] h (fun v h'=>∃l j,G.str s i (i+1) []= .ok (l,j)/\v= PU (G.mkB l)/\Mv b h h' j) (fun v h'=>∃f,G.str s i (i+1) []= .no f/\v=flt f/\Fr [b] h h'):=by
 apply FS
 unfold S67
 refine⟨b,0,rfl,_,L.c1,b,0,rfl,_,L.c1,b,0,rfl,L.cell,L.fr,?_⟩
 rw[wrN PA]
 intro hv
 have M0:Mv b h hv (i+1):=Mv.to L (i+1)
 clear_value hv
 refine⟨fun l h'=>∃(A:PY) (C j:Nat) (out:PZ),l=[PT A out.length C]/\out.length+i+1<=j/\j<=s.size/\G.str s i j out=G.str s i (i+1) []/\Mv b h h' j/\aw h' 5 1 A out.length C (bv out)/\∀g∈ai A,h.size<=g,Bs s b,
  ⟨none,0,i+1,[],rfl,PC,PA,rfl,M0,aw.nil _ _ _,by simp[ai]⟩,?_⟩
 rintro A _ C hv2 ⟨_,_,j,out,e,hol,hj,hst,M,ow,hA⟩
 cases e
 have Lj:=L.mv M
 have ne:∀g∈ai A,g≠b:=fun g q e=>by have:=hA g q;have:=L.lt;omega
 refine⟨b,0,rfl,_,Lj.c1,b,0,rfl,_,Lj.c0,ae (fun hlt=>?_) fun hlt=>?_⟩
 ·have hlt:j<s.size:=by omega
  obtain⟨c,hc,hb⟩:=get_at hlt
  rw[G.str,if_pos hlt,hb]at hst
  refine⟨b,0,rfl,_,Lj.c0,b,0,rfl,_,Lj.c1,PA,PA,c,by rw[P8];exact hc,au (fun q=>?_) fun q=>?_⟩
  ·rw[if_pos PA]at hst
   refine⟨b,0,rfl,_,Lj.c1,b,0,rfl,Lj.cell,Lj.fr,?_⟩
   rw[wrN PA]
   have M':=M.trans (Mv.to Lj (j+1))
   have ow':aw (aj hv2 b (0+1) (PN ((j+1:Nat):Int))) 5 1 A out.length C (bv out):=ow.fr (Fr.hset _ _ _ _) (fun g q=>by simpa using ne g q)
   refine⟨out.map fun c=>((c.toNat:Nat):Int),?_,out,j+1,hst.symm,by rw[uR],M'⟩
   have:=ow'.reads
   rw[List.map_map]
   exact this
  ·rw[if_neg PA]at hst
   have put:∀(hv6:ab) (ra:Int) (c1:UInt8) (k:Nat) {K:Value->ab->Prop},Fr [] hv2 hv6->ra=((c1.toNat:Nat):Int)->j<k->k<=s.size->G.str s i k (out++[c1])=G.str s i (i+1) []->
     (let hv7:ab:=hv6.push (.cells #[PR ra] 5)
      ∃old,aw hv7 5 1 A out.length C old/\(∀b∈([hv6.size]:List Nat),b∉ai A)/\(out.length+1)*1<=140737488355328/\(out.length+1)<=maxLen/\
      ∀sA sC hv8,aw hv8 5 1 sA (out.length+1) sC (old++[PR ra])->Fr (ai A) hv7 hv8->((sA=A/\sC=C)\/∃g,sA=some ⟨g,0,none⟩/\hv7.size<=g)->(C<(out.length+1)->Fr [] hv7 hv8)->
      (Lx hv8 b s j/\b≠hv6.size/\∃(A':PY) (C' k':Nat) (out':PZ),[PT sA (out.length+1) sC]=[PT A' out'.length C']/\out'.length+i+1<=k'/\j<k'/\k'<=s.size/\G.str s i k' out'=G.str s i (i+1) []/\k'=k/\
       (Mv b h (aj hv8 b 1 (PN (k':Int))) k'/\aw (aj hv8 b 1 (PN (k':Int))) 5 1 A' out'.length C' (bv out')/\∀g∈ai A',h.size<=g))):=by
    intro hv6 ra c1 k K f6 hra hk hks hst2 hv7
    have f7:Fr [] hv2 hv7:=f6.trans (Fr.push hv6 _)
    have hsz:hv2.size<=hv6.size:=f6.size
    have hM:=M.fr.size
    have e7:hv7.size=hv6.size+1:=by simp[hv7]
    clear_value hv7
    refine⟨bv out,ow.fr f7 PC,fun x hx=>?_,PA,by simp only[maxLen];omega,?_⟩
    ·simp only[Qi]at hx
     subst hx
     intro q
     have:=ow.lt _ q
     omega
    intro sA sC hv8 ow8 f8 gA _
    have M8:Mv b h hv8 j:=(M.ext f7 PC).ext f8 hA
    have L8:=L.mv M8
    have hA8:∀g∈ai sA,h.size<=g:=by
     rcases gA with⟨rfl,_⟩ | ⟨g,rfl,hg⟩
     ·exact hA
     ·intro x hx;simp[ai]at hx;omega
    have ne8:∀g∈ai sA,g≠b:=fun g q e=>by have:=hA8 g q;have:=L.lt;omega
    refine⟨L8,by have:=L.lt;omega,sA,sC,k,out++[c1],by rw[P9];rfl,by rw[P9,Rs];omega,hk,hks,hst2,rfl,M8.trans (Mv.to L8 k),?_,hA8⟩
    have e2:bv out++[PR ra]=bv (out++[c1]):=by simp[bv,hra]
    rw[e2]at ow8
    rw[P9,Rs]
    exact ow8.fr (Fr.hset _ _ _ _) (fun g q=>by simpa using ne8 g q)
   let J:List Value->ab->Prop:=fun l h'=>∃(A:PY) (C k:Nat) (out:PZ),l=[PT A out.length C]/\out.length+i+1<=k/\j<k/\k<=s.size/\G.str s i k out=G.str s i (i+1) []/\Mv b h h' k/\aw h' 5 1 A out.length C (bv out)/\∀g∈ai A,h.size<=g
   refine⟨J,?_,?_⟩
   ·refine au (fun q2=>?_) fun q2=>?_
    ·rw[if_pos PA]at hst
     refine⟨b,0,rfl,_,Lj.c0,b,0,rfl,_,Lj.c1,PA,PA,?_⟩
     rw[P8]
     refine ak [] (OM (t:=s.extract j s.size) (by rw[ByteArray.size_extract];omega)) PC (fun _ _ r=>r.2) fun v hv4 r=>?_
     obtain⟨rfl,f4⟩:=r
     rw[G.BA]
     have L4:=Lj.mv ((Mv.refl Lj).ext f4 PC)
     cases hp:G.part s j with
     | none=>
      rw[hp]at hst
      refine⟨0,0,rfl,f4,b,0,rfl,_,L4.c1,?_⟩
      refine aF (fun q=>?_) fun q=>?_
      ·exact absurd q PB
      ·exact⟨_,hst.symm,rfl,M.fr.trans f4.nil⟩
     | some p=>
      obtain⟨c1,n1⟩:=p
      rw[hp]at hst
      simp only at hst
      obtain⟨p1,p2⟩:=G.sY hlt hp
      have p3:=G.Fo hp
      refine⟨_,_,rfl,f4,b,0,rfl,_,L4.c1,?_⟩
      refine aF (fun q=>⟨rfl,?_⟩) fun q=>?_
      ·obtain⟨old,o1,o2,o3,o4,o5⟩:=put hv4 (c1:Int) (UInt8.ofNat c1) (j+(n1-1)+1) (K:=fun _ _=>True) f4 (by rw[Sg];omega) PA PA hst
       refine⟨old,o1,o2,o3,o4,fun sA sC hv7 q1 q2 q3 q4=>?_⟩
       obtain⟨L8,hne,A',C',k',out',e1,e2,e3,e4,e5,e6,e7,e8,e9⟩:=o5 sA sC hv7 q1 q2 q3 q4
       refine⟨b,0,rfl,_,L8.c1,b,0,rfl,hne,L8.cell,L8.fr,?_⟩
       have ek:(j:Int)+(n1:Int)=(k':Int):=by omega
       rw[wr PA PA,ek]
       exact⟨A',C',k',out',e1,e2,e3,e4,e5,e7,e8,e9⟩
      ·exact absurd q PH
    ·rw[if_neg PA]at hst
     intro K
     have go:∀hv13,Fr [] hv2 hv13->(G.gH c.toNat=true\/G.mG c.toNat=true)->K hv13:=by
      intro hv13 f13 hpb
      rw[if_pos hpb,UInt8.ofNat_toNat]at hst
      obtain⟨old,o1,o2,o3,o4,o5⟩:=put hv13 ((c.toNat:Nat):Int) c (j+1) (K:=fun _ _=>True) f13 rfl PA PA hst
      refine⟨old,o1,o2,o3,o4,fun sA sC hv7 q1 q2 q3 q4=>?_⟩
      obtain⟨L8,hne,A',C',k',out',e1,e2,e3,e4,e5,e6,e7,e8,e9⟩:=o5 sA sC hv7 q1 q2 q3 q4
      refine⟨b,0,rfl,_,L8.c1,b,0,rfl,hne,L8.cell,L8.fr,?_⟩
      have ek:(j:Int)+(1:Int)=(k':Int):=by omega
      rw[wr PA PA,ek]
      exact⟨A',C',k',out',e1,e2,e3,e4,e5,e7,e8,e9⟩
     refine⟨b,0,rfl,_,Lj.c1,?_⟩
     refine dm IZ ⟨_,rfl,Fr.refl _ _,aU (fun q3=>?_) fun q3=>?_⟩
     ·refine⟨Fr.refl _ _,?_⟩
      refine aF (fun _=>⟨rfl,Fr.refl _ _,go _ (Fr.refl _ _) (.inl q3)⟩) fun q=>absurd q PB
     ·refine dm Ll ⟨_,rfl,Fr.refl _ _,?_⟩
      refine aF (fun q4=>⟨rfl,Fr.refl _ _,go _ (Fr.refl _ _) (.inr q4)⟩) fun q4=>?_
      rw[if_neg (by rw[q3,q4];simp)]at hst
      exact⟨_,hst.symm,rfl,M.fr⟩
   ·rintro A2 L2 C2 hv17 ⟨A3,C3,k,out3,e,h1,h2,h3,h4,h5,h6,h7⟩
    refine⟨⟨A3,C3,k,out3,e,h1,h3,h4,h5,h6,h7⟩,?_⟩
    rw[jY (L.mv h5),jY Lj]
    omega
 ·refine jw ?_
  exact⟨_,by rw[<-hst];exact Fp PA,rfl,M.fr⟩
def kw (s:P0) (p:Nat):G.Er (G.Tok × Nat):=
 if p>=s.size then .ok (⟨0,p,G.noB,0⟩,p)
 else if G.bt s p=91 then .ok (⟨1,p,G.noB,0⟩,p+1)
 else if G.bt s p=93 then .ok (⟨2,p,G.noB,0⟩,p+1)
 else if G.bt s p=34 then(G.str s p (p+1) []).bind fun(l,j)=>.ok (⟨5,p,G.mkB l,0⟩,j)
 else if G.ia (G.bt s p)=true then .ok (⟨3,p,s.extract p (G.run G.du s p),0⟩,G.run G.du s p)
 else if G.dy (G.bt s p)=true\/G.bt s p=43\/G.bt s p=45\/G.bt s p=46 then .ok (⟨4,p,s.extract p (G.run G.bM s p),0⟩,G.run G.bM s p)
 else .no (p,15)
theorem yC (s:P0) (i:Nat):G.next s i=kw s (G.skp s i):=rfl
def Fl (t:G.Tok):List Value:=[PN (t.kind:Int),PN (t.at_:Int),PU t.says,PS t.num]
theorem I1 {h:ab} {b i:Nat} {s:P0} (L:Lx h b s i) (hi:i<=s.size) (hs:s.size<=262144):
  PM 50 #[PW (some ⟨b,0,none⟩)] h (fun v h'=>∃t j,G.next s i= .ok (t,j)/\v=cQ t/\Mv b h h' j) (fun v h'=>∃f,G.next s i= .no f/\v=flt f/\Fr [b] h h'):=by
 apply FU
 unfold S50
 rw[yC]
 obtain⟨hp1,hp2⟩:=G.Bb s _ i (P3 _) hi
 intro hv
 have bl:=L.lt
 have M1:Mv b h hv i:=(Mv.refl L).push _
 have e1:hv.size=h.size+1:=by simp[hv]
 clear_value hv
 have L1:=L.mv M1
 refine ak [b] (OJ L1 hi hs) PH (fun _ _ r=>r.2.fr) fun v hv2 r=>?_
 obtain⟨rfl,M2⟩:=r
 generalize G.skp s i=p at hp1 hp2 M2
 have s12:hv.size<=hv2.size:=M2.fr.size
 have M2:=M1.trans M2
 have L2:=L.mv M2
 refine⟨rfl,b,0,rfl,_,L2.c1,?_⟩
 intro hv3 hv4
 have M4:Mv b h hv4 p:=((((M2.push _).hsetn PA).hsetn PA).hsetn PA).hsetn PA
 have e4:hv4.size=hv2.size+1:=by simp[hv4,hv3]
 clear_value hv4
 clear hv3
 have L4:=L.mv M4
 have fin:∀(t:G.Tok) (j:Nat) (hv29:ab),kw s p= .ok (t,j)->Mv b h hv29 j->
   ∃t' j',kw s p= .ok (t',j')/\Value.agg #[PN (t.kind:Int),PN (t.at_:Int),PU t.says,PS t.num]=cQ t'/\
    Mv b h (aj (aj (aj (aj hv29 h.size 0 (PN (t.kind:Int))) h.size (0+1) (PN (t.at_:Int))) h.size ((0+1)+1) (PU t.says)) h.size (((0+1)+1)+1) (PS t.num)) j':=
  fun t j hv29 q M=>⟨t,j,q,rfl,(((M.hsetn (P3 _)).hsetn (P3 _)).hsetn (P3 _)).hsetn (P3 _)⟩
 refine⟨b,0,rfl,_,L4.c1,b,0,rfl,_,L4.c0,au (fun q=>?_) fun q=>?_⟩
 ·exact fin ⟨0,p,G.noB,0⟩ p hv4 (by unfold kw;grind) M4
 ·have hlt:p<s.size:=by omega
  obtain⟨c,hc,hb⟩:=get_at hlt
  have hnx:kw s p=(if c.toNat=91 then .ok (⟨1,p,G.noB,0⟩,p+1)
    else if c.toNat=93 then .ok (⟨2,p,G.noB,0⟩,p+1)
    else if c.toNat=34 then(G.str s p (p+1) []).bind fun(l,j)=>.ok (⟨5,p,G.mkB l,0⟩,j)
    else if G.ia c.toNat=true then .ok (⟨3,p,s.extract p (G.run G.du s p),0⟩,G.run G.du s p)
    else if G.dy c.toNat=true\/c.toNat=43\/c.toNat=45\/c.toNat=46 then .ok (⟨4,p,s.extract p (G.run G.bM s p),0⟩,G.run G.bM s p)
    else .no (p,15)):=by
   unfold kw
   grind
  refine⟨b,0,rfl,_,L4.c0,b,0,rfl,_,L4.c1,PA,PA,c,PE,?_⟩
  let J:List Value->ab->Prop:=fun l h'=>∃t j,l=Fl t/\kw s p= .ok (t,j)/\Mv b h h' j
  have out:∀{k a:Int} {x:P0} {f:Nat} {hv29:ab},J [PN k,PN a,PU x,PS f] hv29->
    ∃t' j',kw s p= .ok (t',j')/\Value.agg #[PN k,PN a,PU x,PS f]=cQ t'/\
    Mv b h (aj (aj (aj (aj hv29 h.size 0 (PN k)) h.size (0+1) (PN a)) h.size ((0+1)+1) (PU x)) h.size (((0+1)+1)+1) (PS f)) j':=by
   rintro k a x f hv29 ⟨t,j,e,q,M⟩
   cases e
   grind
  have H2:∀x∈([hv2.size,h.size]:List Nat),x∉([b]:List Nat):=by simp;omega
  have H0:∀x∈([hv2.size,h.size]:List Nat),x∉([]:List Nat):=by simp
  refine⟨J,?_,fun k a x f hv29 q=>out q⟩
  refine au (fun q1=>?_) fun q1=>?_
  ·rw[if_pos PA]at hnx
   intro hv6
   have M6:Mv b h hv6 p:=M4.hsetn PA
   clear_value hv6
   have L6:=L.mv M6
   refine⟨b,0,rfl,_,L6.c1,b,0,rfl,PA,PA,L6.cell,L6.fr,?_⟩
   rw[wrN PA]
   exact⟨_,_,rfl,hnx,M6.trans (Mv.to L6 (p+1))⟩
  rw[if_neg PA]at hnx
  refine⟨J,?_,fun k a x f hv29 q=>q⟩
  refine au (fun q2=>?_) fun q2=>?_
  ·rw[if_pos PA]at hnx
   intro hv6
   have M6:Mv b h hv6 p:=M4.hsetn PA
   clear_value hv6
   have L6:=L.mv M6
   refine⟨b,0,rfl,_,L6.c1,b,0,rfl,PA,PA,L6.cell,L6.fr,?_⟩
   rw[wrN PA]
   exact⟨_,_,rfl,hnx,M6.trans (Mv.to L6 (p+1))⟩
  rw[if_neg PA]at hnx
  refine⟨J,?_,fun k a x f hv29 q=>q⟩
  refine au (fun q3=>?_) fun q3=>?_
  ·rw[if_pos PA]at hnx
   refine aK [b] (ON L4 hlt hs) H2 (fun v h' r=>?_) (fun v h' r=>?_) (fun v h' r=>?_) fun v h' r=>?_
   ·obtain⟨_,_,_,_,r⟩:=r;exact r.fr
   ·grind
   ·obtain⟨l,j,e,rfl,M⟩:=r
    refine⟨_,rfl,?_⟩
    rw[e]at hnx
    exact⟨⟨5,p,G.mkB l,0⟩,j,rfl,hnx,((M4.trans M).hsetn PA).hsetn PA⟩
   ·obtain⟨f,e,rfl,M⟩:=r
    rw[e]at hnx
    exact⟨f,hnx,rfl,M4.fr.trans M⟩
  rw[if_neg PA]at hnx
  refine dm IY ⟨_,rfl,?_⟩
  refine⟨J,?_,fun k a x f hv29 q=>q⟩
  refine aU (fun q4=>?_) fun q4=>?_
  ·rw[if_pos q4]at hnx
   intro hv14
   have M14:Mv b h hv14 p:=M4.hsetn PA
   clear_value hv14
   have L14:=L.mv M14
   refine ak [b] (Ln (fun n h=>OH) rfl L14 hp2 hs) H2 (fun _ _ r=>r.2.fr) fun v hv15 r=>?_
   obtain⟨rfl,M⟩:=r
   exact⟨_,rfl,_,_,rfl,hnx,(M14.trans M).hsetn PA⟩
  rw[if_neg (by rw[q4];simp)]at hnx
  have num:kw s p= .ok (⟨4,p,s.extract p (G.run G.bM s p),0⟩,G.run G.bM s p)->
    (let hv18:ab:=aj hv4 hv2.size 0 (PN 4)
     PI 69 #[PW (some ⟨b,0,none⟩),.func (.func 72) #[] #[]] hv18 [hv2.size,h.size] fun v6 hv19=>
     ∃r5:P0,v6= PU r5/\
     let hv20:ab:=aj hv19 hv2.size 2 (PU r5)
     J [PN 4,PN p,PU r5,PS 0] hv20):=by
   intro hnx hv18
   have M14:Mv b h hv18 p:=M4.hsetn PA
   clear_value hv18
   have L14:=L.mv M14
   refine ak [b] (Ln (fun n h=>OI) rfl L14 hp2 hs) H2 (fun _ _ r=>r.2.fr) fun v hv15 r=>?_
   obtain⟨rfl,M⟩:=r
   exact⟨_,rfl,_,_,rfl,hnx,(M14.trans M).hsetn PA⟩
  refine dm Fh ⟨_,rfl,?_⟩
  refine aU (fun q5=>?_) fun q5=>?_
  ·grind
  refine au (fun q6=>?_) fun q6=>?_
  ·grind
  refine au (fun q7=>?_) fun q7=>?_
  ·grind
  refine⟨J,?_,fun k a x f hv29 q=>q⟩
  refine au (fun q8=>?_) fun q8=>?_
  ·grind
  ·rw[if_neg PE]at hnx
   refine⟨b,0,rfl,_,L4.c1,?_⟩
   exact jw ⟨_,hnx,rfl,M4.fr⟩
theorem _root_.Go.X.Gl.fr {gl:GL} {h h':ab} {M:List Nat} (g:Gl gl h) (f:Fr M h h') (hm:∀b∈glB gl,b∉M):Gl gl h':=g.congr fun b hb=>f.blk b (g.lt b hb) (hm b hb)
def qO (rd:P0->Option (Nat × Nat)) (gl:GL):Prop:=
 ∀(t:P0) (x e:Nat),rd t=some (x,e)->∀h,Gl gl h->PJ 100 #[PU t] h fun v h'=>v= .tuple #[PS x,PN (e:Int)]/\Fr [] h h'
theorem _root_.Go.X.Fr.hsetL {h h1:ab} {M:List Nat} (f:Fr M h h1) {p o:Nat} {v:Value} (hp:h.size<=p):Fr M h (aj h1 p o v):=f.hsetr (.inl hp)
theorem cU {a b:P0}:(a.toList==b.toList)=decide (a.data.toList=b.data.toList):=by
 grind [Lib.toList_data]
theorem OL {rd:P0->Option (Nat × Nat)} {gl:GL} (hr:qO rd gl) {t:G.Tok} {h:ab} (g:Gl gl h) (hu:G.bn rd t≠ .un):
  PM 73 #[cQ t] h (fun v h'=>∃t',G.bn rd t= .ok t'/\v=cQ t'/\Fr [] h h') (fun v h'=>∃f,G.bn rd t= .no f/\v=flt f/\Fr [] h h'):=by
 unfold cQ
 apply FV
 unfold S73
 intro hv hv2
 have f2:Fr [] h hv2:=(Fr.push h _).pushr _
 have e1:hv.size=h.size+1:=by simp[hv]
 have e2:hv2.size=h.size+2:=by simp[hv2,hv]
 clear_value hv2
 clear_value hv
 intro K
 have H:∀x∈([hv.size,h.size]:List Nat),x∉([]:List Nat):=by simp
 have fin:∀(t':G.Tok) (hv15:ab),G.bn rd t= .ok t'->Fr [] h hv15->
   ∃t'',G.bn rd t= .ok t''/\Value.agg #[PN (t'.kind:Int),PN (t'.at_:Int),PU t'.says,PS t'.num]=cQ t''/\
    Fr [] h (aj (aj (aj (aj hv15 hv.size 0 (PN (t'.kind:Int))) hv.size (0+1) (PN (t'.at_:Int))) hv.size ((0+1)+1) (PU t'.says)) hv.size (((0+1)+1)+1) (PS t'.num)):=
  fun t' hv15 q f=>⟨t',q,rfl,(((f.hsetL PA).hsetL PA).hsetL PA).hsetL PA⟩
 let J:List Value->ab->Prop:=fun l h'=>∃t',l=Fl t'/\G.bn rd t= .ok t'/\Fr [] h h'
 have out:∀{k a:Int} {x:P0} {f:Nat} {hv15:ab},J [PN k,PN a,PU x,PS f] hv15->
   ∃t'',G.bn rd t= .ok t''/\Value.agg #[PN k,PN a,PU x,PS f]=cQ t''/\
    Fr [] h (aj (aj (aj (aj hv15 hv.size 0 (PN k)) hv.size (0+1) (PN a)) hv.size ((0+1)+1) (PU x)) hv.size (((0+1)+1)+1) (PS f)):=by
  rintro k a x f hv15 ⟨t',e,q,f'⟩
  cases e
  grind
 have bad:(t.kind=0\/t.kind=2)->K true hv2:=by
  intro q
  refine aJ rfl ?_
  refine jw ⟨_,?_,rfl,f2⟩
  unfold G.bn
  rw[if_pos q]
 have good:¬(t.kind=0\/t.kind=2)->K false hv2:=by
  intro q
  have hv0:G.bn rd t=(if t.kind=3 then
    if t.l=G.wW\/t.l=G.wX then
     match rd t.says with
     | some (x,_)=>.ok {t with kind:=4,num:=x}
     | none=>.un
    else .no (t.at_,16)
   else if t.kind=4 then
    match rd t.says with
    | some (x,0)=>.ok {t with num:=x}
    | some (_,e+1)=>.no (t.at_,e+1)
    | none=>.un
   else .ok t):=by
   unfold G.bn
   grind
  refine az rfl ?_
  refine⟨J,?_,fun k a x f hv15 q=>out q⟩
  refine au (fun q3=>?_) fun q3=>?_
  ·rw[if_pos PA]at hv0
   intro K2
   have k2:(t.l=G.wW\/t.l=G.wX)->K2 hv2:=by
    intro q4
    rw[if_pos q4]at hv0
    dsimp-zeta only[K2]
    intro hv8
    have f8:Fr [] h hv8:=f2.hsetL PA
    clear_value hv8
    cases hrd:rd t.says with
    | none=>grind
    | some y=>
     obtain⟨x,e⟩:=y
     rw[hrd]at hv0
     refine ak [] (hr t.says x e hrd hv8 (g.fr f8 PC)) H (fun _ _ r=>r.2) fun v hv9 r=>?_
     obtain⟨rfl,f9⟩:=r
     exact⟨x,(e:Int),rfl,{t with kind:=4,num:=x},rfl,hv0,(f8.trans f9).hsetL (P3 _)⟩
   rw[cU,cU]
   have en:(t.says.data.toList=(⟨#[78,97,78]⟩:P0).data.toList)=(t.l=G.wW):=rfl
   have ei:(t.says.data.toList=(⟨#[73,78,70]⟩:P0).data.toList)=(t.l=G.wX):=rfl
   refine ae (fun q4=>?_) fun q4=>?_
   ·refine aF (fun _=>⟨rfl,k2 (.inl q4)⟩) fun q=>absurd q PB
   ·refine aF (fun q5=>⟨rfl,k2 (.inr (of_decide_eq_true q5))⟩) fun q5=>?_
    grind
  rw[if_neg PA]at hv0
  refine⟨J,?_,fun k a x f hv14 q=>q⟩
  refine au (fun q4=>?_) fun q4=>?_
  ·rw[if_pos PA]at hv0
   cases hrd:rd t.says with
   | none=>grind
   | some y=>
    obtain⟨x,e⟩:=y
    rw[hrd]at hv0
    refine ak [] (hr t.says x e hrd hv2 (g.fr f2 PC)) H (fun _ _ r=>r.2) fun v hv11 r=>?_
    obtain⟨rfl,f11⟩:=r
    refine⟨x,(e:Int),rfl,?_⟩
    refine aF (fun q5=>⟨rfl,?_⟩) fun q5=>?_
    ·obtain rfl:e=0:=by simpa using q5
     exact⟨{t with num:=x},rfl,hv0,(f2.trans f11).hsetL (P3 _)⟩
    ·obtain⟨e',rfl⟩:∃e',e=e'+1:=by
      cases e<;>grind
     exact⟨_,hv0,rfl,f2.trans f11⟩
  ·rw[if_neg PA]at hv0
   exact⟨t,rfl,hv0,f2⟩
 refine au (fun q=>?_) fun q=>?_
 ·grind
 ·by_cases q2:t.kind=2
  ·simp_all
  ·have e:((t.kind:Int)==(2:Int))=false:=by simp;omega
   grind
open Go.RowKit (Below)
theorem Gl.tab {gl:GL} {w:World} (g:Gl gl w.heap):Lib.TabIs Tryz.prog w "internal/strconv.uint64pow10" .u64 Lib.pow10Tab:=by
 obtain⟨e,f,q⟩:=g.uu
 have hg:Tryz.prog.globalNamed "internal/strconv.uint64pow10" =some 1:=by kernel_rfl
 unfold Lib.TabIs World.var?
 rw[hg]
 show(match w.heap[1]? with | some (.cells cs _ _)=>some cs | _=>none)=_
 rw[q]
 rfl
theorem OT {gl:GL} {n:Int} {h:ab} (g:Gl gl h) (h0: -9223372036854775808<=n) (h1:n<=9223372036854775807):PJ 56 #[PN n,PN 10] h fun v h'=>v= PU ⟨(Lib.itoa n).toArray⟩/\Fr [] h h':=by
 intro w hw
 subst hw
 refine(Go.Proofs.Tryz.strconv_FormatInt_10 n h0 h1 w (Gl.tab g)).mono fun e w' ⟨e1,k,os,e2⟩=>⟨_,e1,?_,rfl,?_⟩
 ·subst e2;exact⟨rfl,rfl,rfl,by simp[Sort.grow]⟩
 ·subst e2;exact⟨by simp[Sort.grow],fun j hj _=>Sort.heap_grow_old _ _ hj⟩
theorem OU {gl:GL} {s:P0} {h:ab} (g:Gl gl h) (hs:s.size<=262144):PJ 55 #[PU s,PN 10,PN 64] h fun v h'=>
  ((∃n,Lib.parseIntB 64 s.data.toList= .ok n/\v= .tuple #[PN n,.nilIface])\/((∀n,Lib.parseIntB 64 s.data.toList≠ .ok n)/\∃n t x,v= .tuple #[PN n,.iface t x]))/\Fr [] h h':=by
 intro w hw
 subst hw
 cases q:Lib.parseIntB 64 s.data.toList with
 | ok n=>
  refine(Go.Proofs.Tryz.strconv_ParseInt_10_at64_ok s PA n q w).mono fun e w' ⟨e1,e2⟩=>⟨_,e1,?_,.inl ⟨n,rfl,rfl⟩,?_⟩
  ·rcases e2 with rfl | ⟨t,rfl⟩
   ·exact Rest.refl _
   ·exact gI (⟨rfl,rfl,rfl,by rw[Lib.bytesWorld_size];omega,fun k hk=>Lib.bytesWorld_at_old w _ _ k hk⟩)
  ·rcases e2 with rfl | ⟨t,rfl⟩
   ·exact Fr.refl _ _
   ·exact ju (⟨rfl,rfl,rfl,by rw[Lib.bytesWorld_size];omega,fun k hk=>Lib.bytesWorld_at_old w _ _ k hk⟩)
 | range=>
  obtain⟨te,pe,hc⟩:=g.e2
  exact(Go.Proofs.Tryz.strconv_ParseInt_10_at64_range s PA q (.iface te pe) w ((bz _ _ _).trans hc) (.inr ⟨te,pe,rfl⟩)).mono fun e w' ⟨N,q1,q2,q3,q4⟩=>⟨_,q1,gI q4,.inr ⟨(by intro n h;cases h),_,_,_,rfl⟩,ju q4⟩
 | _=>
  obtain⟨te,pe,hc⟩:=g.e1
  exact(Go.Proofs.Tryz.strconv_ParseInt_10_at64_syntax s PA q (.iface te pe) w ((bz _ _ _).trans hc) (.inr ⟨te,pe,rfl⟩)).mono fun e w' ⟨N,q1,q2,q3,q4⟩=>⟨_,q1,gI q4,.inr ⟨(by intro n h;cases h),_,_,_,rfl⟩,ju q4⟩
theorem I4 {gl:GL} {t:G.Tok} {h:ab} (g:Gl gl h) (hs:t.says.size<=262144):
  PM 35 #[cQ t] h (fun v h'=>∃n,G.whole t.l=some n/\v= PN n/\Fr [] h h') (fun v h'=>G.whole t.l=none/\v=flt (t.at_,17)/\Fr [] h h'):=by
 unfold cQ
 apply FW
 unfold S35
 intro hv
 have f1:Fr [] h hv:=Fr.push h _
 have e1:hv.size=h.size+1:=by simp[hv]
 clear_value hv
 have H:∀x∈([h.size]:List Nat),x∉([]:List Nat):=by simp
 refine ak [] (OU (g.fr f1 PC) hs) H (fun _ _ r=>r.2) fun v hv2 r=>?_
 obtain⟨r,f2⟩:=r
 have f2':=f1.trans f2
 rcases r with⟨n,q,rfl⟩ | ⟨q,n,te,x,rfl⟩
 ·refine⟨n,.inl ⟨rfl,?_⟩⟩
  intro K
  refine aJ rfl ?_
  have hl:=G.Bp q
  have hr:=Lib.parseIntB_bounds q
  simp at hr
  refine ak [] (OT (g.fr f2' PC) PA PA) H (fun _ _ r=>r.2) fun v hv3 r=>?_
  obtain⟨rfl,f3⟩:=r
  refine⟨_,rfl,f3,?_⟩
  rw[cU]
  refine ae (fun q1=>?_) fun q1=>?_
  ·refine ae (fun q2=>?_) fun q2=>?_
   ·refine aF (fun q3=>⟨rfl,f3,n,?_,rfl,f2'.trans f3⟩) fun q3=>⟨?_,rfl,f2'.trans f3⟩
    ·rw[if_pos ⟨by simpa using q1,q2,of_decide_eq_true q3⟩]at hl;exact hl
    ·rw[if_neg (fun z=>of_decide_eq_false q3 z.2.2)]at hl;exact hl
   ·refine aF (fun q3=>absurd q3 PB) fun q3=>⟨?_,rfl,f2'.trans f3⟩
    rw[if_neg (fun z=>q2 z.2.1)]at hl;exact hl
  ·refine aF (fun q3=>absurd q3 PB) fun q3=>⟨?_,rfl,f2'.trans f3⟩
   rw[if_neg (fun z=>q1 (by simpa using z.1))]at hl;exact hl
 ·refine⟨n,.inr ⟨te,x,rfl,?_⟩⟩
  intro K
  refine az rfl ⟨Fr.refl _ _,?_⟩
  refine aF (fun q3=>absurd q3 PB) fun q3=>⟨G.zU q,rfl,f2'⟩
end Go.Proofs.YtmmmmjcfojhiaaaGreatDoor.N
namespace Go.X
def rds (cs:List Ck):List Nat:=cs.flatMap Ck.rd
theorem cw {cs:List Ck} {b:Nat}:b∈rds cs ↔ ∃(k:Nat) (c:Ck),cs[k]? =some c/\b∈c.rd:=by
 simp only[rds,List.mem_flatMap]
 exact⟨fun⟨c,h1,h2⟩=>let ⟨k,h3⟩:=QO.1 h1;⟨k,c,h3,h2⟩,fun⟨k,c,h1,h2⟩=>⟨c,Qa h1,h2⟩⟩
theorem bD {cs:List Ck} {b:Nat}:b∈ao cs ↔ ∃(k:Nat) (c:Ck),cs[k]? =some c/\b∈c.own:=by
 simp only[ao,List.mem_flatMap]
 exact⟨fun⟨c,h1,h2⟩=>let ⟨k,h3⟩:=QO.1 h1;⟨k,c,h3,h2⟩,fun⟨k,c,h1,h2⟩=>⟨c,Qa h1,h2⟩⟩
structure Sq (h0:ab) (C:List Ck) (h:ab) (cs:List Ck):Prop where
 sy:Sy h0 (ao C) h cs
 ri:∀b∈rds cs,b∈rds C\/b∈ao C\/h0.size<=b
theorem Sq.start {h:ab} {cs:List Ck} (H:Hp h cs):Sq h cs h cs:=⟨Sy.start H,fun b hb=>.inl hb⟩
theorem Sq.hp {h0 h:ab} {C cs:List Ck} (q:Sq h0 C h cs):Hp h cs:=q.sy.hp
theorem Sq.fr {h0 h:ab} {C cs:List Ck} (q:Sq h0 C h cs):Fr (ao C) h0 h:=q.sy.fr
section
variable {h0 h h':ab} {C A B cs cs':List Ck}
theorem gf {k:Nat} {c:Ck} (hk:A[k]? =some c):(A++B)[k]? =some c:=by
 grind
theorem jy {k:Nat} {c:Ck} (hk:B[k]? =some c):(A++B)[A.length+k]? =some c:=by
 grind
theorem dY {k:Nat} {c:Ck} (hk:(A++B)[k]? =some c):A[k]? =some c\/(A.length<=k/\B[k-A.length]? =some c):=by
 grind
theorem Sq.frA (q:Sq h0 C h (A++B)) (f:Fr (ao A) h h'):Fr (ao C) h0 h':=
 q.fr.comp f fun b hb=>by
  obtain⟨k,c,h1,h2⟩:=bD.1 hb
  exact q.sy.ow k c (gf h1) b h2
theorem Sq.frT (q:Sq h0 C h cs) (f:Fr (ao cs) h h'):Fr (ao C) h0 h':=Sq.frA (B:=[]) (by simpa using q) f
theorem Sq.call (q:Sq h0 C h (A++B)) (p:Sq h A h' cs'):Sq h0 C h' (cs'++B):=by
 have Y:=q.sy
 have P:=p.sy
 have okB:∀(k:Nat) (c:Ck),B[k]? =some c->c.ok h':=by
  intro k c hk
  have hk':=jy (A:=A) hk
  have hok:=Y.hp.ok _ c hk'
  obtain⟨l1,l2⟩:=c.lt h hok
  refine c.fr h h' (fun b hb=>P.fr.blk b (l1 b hb) fun w=>?_) (fun b hb=>P.fr.blk b (l2 b hb) fun w=>?_) hok
  ·obtain⟨i,d,h1,h3⟩:=bD.1 w
   have:=(List.getElem?_eq_some_iff.1 h1).1
   exact(Y.hp.ap i (A.length+k) d c PA (gf h1) hk' b h3).1 hb
  ·obtain⟨i,d,h1,h3⟩:=bD.1 w
   have:=(List.getElem?_eq_some_iff.1 h1).1
   exact(Y.hp.ap i (A.length+k) d c PA (gf h1) hk' b h3).2 hb
 refine⟨⟨q.frA P.fr,⟨fun k c hk=>?_,fun i j c d hij hi hj=>?_⟩,fun k c hk b hb=>?_⟩,fun b hb=>?_⟩
 ·rcases dY hk with hk | ⟨_,hk⟩
  ·exact P.hp.ok k c hk
  grind
 ·rcases dY hi with hi | ⟨hl,hi⟩
  ·rcases dY hj with hj | ⟨hl2,hj⟩
   ·exact P.hp.ap i j c d hij hi hj
   ·intro b hb
    have hj':=jy (A:=A) hj
    obtain⟨l1,l2⟩:=d.lt h (Y.hp.ok _ d hj')
    rcases P.ow i c hi b hb with w | w
    ·obtain⟨x,e,h1,h3⟩:=bD.1 w
     have:=(List.getElem?_eq_some_iff.1 h1).1
     exact Y.hp.ap x _ e d PA (gf h1) hj' b h3
    grind
  ·rcases dY hj with hj | ⟨hl2,hj⟩
   ·intro b hb
    have hi':=jy (A:=A) hi
    obtain⟨l1,l2⟩:=c.lt h (Y.hp.ok _ c hi')
    have hbl:=l1 b hb
    refine⟨fun x=>?_,fun x=>?_⟩
    ·rcases P.ow j d hj b x with w | w
     ·obtain⟨x,e,h1,h3⟩:=bD.1 w
      have:=(List.getElem?_eq_some_iff.1 h1).1
      exact(Y.hp.ap x _ e c PA (gf h1) hi' b h3).1 hb
     ·omega
    ·rcases p.ri b (cw.2 ⟨j,d,hj,x⟩)with w | w | w
     ·obtain⟨x,e,h1,h3⟩:=cw.1 w
      have:=(List.getElem?_eq_some_iff.1 h1).1
      exact(Y.hp.ap _ x c e PA hi' (gf h1) b hb).2 h3
     ·obtain⟨x,e,h1,h3⟩:=bD.1 w
      have:=(List.getElem?_eq_some_iff.1 h1).1
      exact(Y.hp.ap x _ e c PA (gf h1) hi' b h3).1 hb
     ·omega
   ·exact Y.hp.ap _ _ c d PA (jy hi) (jy hj)
 ·rcases dY hk with hk | ⟨_,hk⟩
  ·rcases P.ow k c hk b hb with w | w
   ·obtain⟨i,d,h1,h3⟩:=bD.1 w
    exact Y.ow i d (gf h1) b h3
   ·have:=Y.le;omega
  ·exact Y.ow _ c (jy hk) b hb
 ·obtain⟨k,c,hk,hb⟩:=cw.1 hb
  rcases dY hk with hk | ⟨_,hk⟩
  ·rcases p.ri b (cw.2 ⟨k,c,hk,hb⟩)with w | w | w
   ·obtain⟨x,e,h1,h3⟩:=cw.1 w
    exact q.ri b (cw.2 ⟨x,e,gf h1,h3⟩)
   ·obtain⟨x,e,h1,h3⟩:=bD.1 w
    have:=Y.ow x e (gf h1) b h3
    grind
   ·have:=Y.le;omega
  ·exact q.ri b (cw.2 ⟨_,c,jy hk,hb⟩)
theorem Sq.callT (q:Sq h0 C h cs) (p:Sq h cs h' cs'):Sq h0 C h' cs':=by
 have:=Sq.call (A:=cs) (B:=[]) (by simpa using q) p
 grind
theorem Sq.pick (q:Sq h0 C h cs) (l:List Nat) (hc:jR cs.length l=true):Sq h0 C h (pk cs l):=
 ⟨q.sy.pick l hc,fun b hb=>by
  obtain⟨k,c,h1,h2⟩:=cw.1 hb
  obtain⟨i,_,h3⟩:=lf hc h1
  exact q.ri b (cw.2 ⟨i,c,h3,h2⟩)⟩
theorem Sq.gr (q:Sq h0 C h cs) (f:Fr [] h h'):Sq h0 C h' cs:=⟨q.sy.gr f,q.ri⟩
end
def ek (ks:List PZ):List (Value × Value):=ks.map fun k=>(PU (Go.Proofs.YtmmmmjcfojhiaaaGreatDoor.G.mkB k),PN 1)
abbrev Fs :=List (Nat × Nat × Value)
def Ck.fx (mo:Option (Nat × List PZ)) (fs:Fs):Ck:=
 ⟨(mo.map (·.1)).toList,fs.map (·.1),fun h=>(∀p,mo=some p->cI h p.1=some (Ent (ek p.2),(ek p.2).length))/\∀f∈fs,ac h f.1 f.2.1=some f.2.2,
  fun h o=>⟨by
   intro b hb
   cases mo with
   | none=>simp at hb
   | some p=>
    simp only[QL,R1,Qi]at hb
    subst hb
    exact(Array.getElem?_eq_some_iff.1 (bW (o.1 p rfl))).1,fun b hb=>by
   obtain⟨f,h1,rfl⟩:=Rj.1 hb
   exact bJ (o.2 f h1)⟩,fun h h' he hr o=>⟨fun p hp=>by
   grind [mh,bW],fun f hf=>(di (hr f.1 (Rj.2 ⟨f,hf,rfl⟩)) _).trans (o.2 f hf)⟩⟩
section
variable {h0 h h':ab} {M:List Nat} {cs:List Ck} {mo:Option (Nat × List PZ)} {fs:Fs} {gl:GL}
theorem Sy.factF (Y:Sy h0 M h cs) (k:Nat) (hk:cs[k]? =some (Ck.fx mo fs)) (j:Nat) {b o:Nat} {v:Value} (hj:fs[j]? =some (b,o,v)):ac h b o=some v:=(Y.ok hk).2 (b,o,v) (Qa hj)
theorem Sy.mapF {m:Nat} {ks:List PZ} (Y:Sy h0 M h cs) (k:Nat) (hk:cs[k]? =some (Ck.fx (some (m,ks)) fs)):cI h m=some (Ent (ek ks),(ek ks).length):=(Y.ok hk).1 (m,ks) rfl
theorem jz {m b o:Nat} {v:Value} {x:Array MapEntry × Nat} (h1:cI h m=some x) (h2:ac h b o=some v):m≠b:=by
 rintro rfl
 obtain⟨es,c⟩:=x
 obtain⟨c,e,f,h3,_⟩:=mE h2
 rw[bW h1]at h3
 cases h3
theorem Sy.seeF {m:Nat} {ks ks':List PZ} (Y:Sy h0 M h cs) (k:Nat) (hk:cs[k]? =some (Ck.fx (some (m,ks)) fs)) (f:Fr [m] h h') (hm:cI h' m=some (Ent (ek ks'),(ek ks').length)):Sy h0 M h' (cs.set k (Ck.fx (some (m,ks')) fs)):=by
 refine Y.mut hk _ f.size (fun d hd hn=>f.blk d hd (by simpa[Ck.fx]using hn)) ⟨fun p hp=>?_,fun x hx=>?_⟩ (fun d hd=>.inl hd) (fun d hd=>.inr (.inl hd))
 ·grind
 ·have h1:=(Y.ok hk).2 x hx
  have h2:=jz (Y.mapF k hk) h1
  rw[di (f.blk x.1 (bJ h1) PE)]
  exact h1
theorem Sy.cutF (Y:Sy h0 M h cs) (l:List Nat) (hc:jR cs.length l=true) (mo:Option (Nat × List PZ)) (fs:Fs)
  (hm:∀p,mo=some p->∃k,cs[k]? =some (Ck.mp p.1 (ek p.2))/\k∉l) (hf:∀f∈fs,ac h f.1 f.2.1=some f.2.2/\∃(k:Nat) (c:Ck),cs[k]? =some c/\((f.1∈c.own/\k∉l)\/(f.1∈c.rd/\∃mo fs,c=Ck.fx mo fs))):
  Sy h0 M h (pk cs l++[Ck.fx mo fs]):=by
 have okx:(Ck.fx mo fs).ok h:=⟨fun p hp=>by
  obtain⟨k,h1,_⟩:=hm p hp
  exact Y.mapM k h1,fun f hf'=>(hf f hf').1⟩
 have Z:=Y.pick l hc
 have ap:∀(i:Nat) (d:Ck),(pk cs l)[i]? =some d->Ap d (Ck.fx mo fs)/\Ap (Ck.fx mo fs) d:=by
  intro i d hi
  obtain⟨p,h1,h2⟩:=lf hc hi
  have hpl:p∈l:=Qa h1
  have ow:∀b∈(Ck.fx mo fs).own,b∉d.own/\b∉d.rd:=by
   intro b hb
   cases mo with
   | none=>simp[Ck.fx]at hb
   | some q=>
    simp only[Ck.fx,QL,R1,Qi]at hb
    subst hb
    obtain⟨k,h3,h4⟩:=hm q rfl
    exact Y.hp.ap k p _ d (fun e=>h4 (e▸hpl)) h3 h2 q.1 (by simp[Ck.mp])
  refine⟨fun b hb=>⟨fun x=>(ow b x).1 hb,fun x=>?_⟩,ow⟩
  obtain⟨f,h3,rfl⟩:=Rj.1 (show b∈fs.map (·.1)from x)
  obtain⟨hcl,k,c,h4,h5⟩:=hf f h3
  rcases h5 with⟨h5,h6⟩ | ⟨h5,mo',fs',rfl⟩
  ·exact(Y.hp.ap k p c d (fun e=>h6 (e▸hpl)) h4 h2 f.1 h5).1 hb
  ·by_cases e:p=k
   ·subst e
    rw[h4]at h2
    cases h2
    cases mo' with
    | none=>simp[Ck.fx]at hb
    | some q=>
     simp only[Ck.fx,QL,R1,Qi]at hb
     exact jz ((Y.ok h4).1 q rfl) hcl hb.symm
   ·exact(Y.hp.ap p k d _ e h2 h4 f.1 hb).2 h5
 refine⟨Z.fr,⟨fun k c hk=>?_,fun i j c d hij hi hj=>?_⟩,fun k c hk b hb=>?_⟩
 ·rcases dY hk with hk | ⟨_,hk⟩
  ·exact Z.hp.ok k c hk
  grind
 ·have lst:∀{n:Nat} {c:Ck},([Ck.fx mo fs]:List Ck)[n]? =some c->n=0/\c=Ck.fx mo fs:=by
   grind
  rcases dY hi with hi | ⟨hl,hi⟩
  ·rcases dY hj with hj | ⟨hl2,hj⟩
   ·exact Z.hp.ap i j c d hij hi hj
   grind
  grind
 ·rcases dY hk with hk | ⟨_,hk⟩
  ·exact Z.ow k c hk b hb
  ·obtain⟨e,rfl⟩:=List.getElem?_eq_some_iff.1 hk
   simp only[Rs]at e
   have e0:k-(pk cs l).length=0:=by omega
   simp only[e0,List.getElem_cons_zero]at hb
   cases mo with
   | none=>simp[Ck.fx]at hb
   | some q=>
    simp only[Ck.fx,QL,R1,Qi]at hb
    subst hb
    obtain⟨k,h3,h4⟩:=hm q rfl
    exact Y.ow k _ h3 q.1 (by simp[Ck.mp])
end
end Go.X
