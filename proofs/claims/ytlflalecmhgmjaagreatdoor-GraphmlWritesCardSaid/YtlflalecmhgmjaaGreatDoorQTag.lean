/- The program's scanner of GraphML: bytes, blanks, names, what stands for one byte, by the plain reader. Conditions: none. -/
import Derived.Test.YtlflalecmhgmjaaGreatDoorHSt
import Derived.Test.YtlflalecmhgmjaaGreatDoorMSpec
set_option linter.unusedVariables false
set_option linter.unusedSimpArgs false
open Go.IntKind (i64 u64 u8 i32)
namespace Go.Proofs.YtlflalecmhgmjaaGreatDoor.N
open Go.Proofs.YtlflalecmhgmjaaGreatDoor
open Go.X
set_option maxRecDepth 100000
def flx (f:G.F):Value:=.iface 63 (.agg #[.int .i64 (f.1:Int),.int .i64 (f.2:Int)])
theorem ao {b:Bool} {a e:Nat} {h:ab} {H:List Nat} {K E:Value->ab->Prop} (k:b=true->K (.tuple #[]) h) (k2:b=false->E (flx (a,e)) h):aw Tryz.prog 46 #[.bool b,.int .i64 (a:Int),.int .i64 (e:Int)] h H K E:=by
 refine av (R:=fun v h'=>b=true/\v= .tuple #[]/\h'=h) (Rp:=fun v h'=>b=false/\v=flx (a,e)/\h'=h) [] ?_ (by simp) (fun _ _ r=>Fr.of_eq r.2.2) (fun _ _ r=>Fr.of_eq r.2.2) (fun v h' r=>by obtain⟨q,rfl,rfl⟩:=r;exact k q) fun v h' r=>by obtain⟨q,rfl,rfl⟩:=r;exact k2 q
 apply sM
 unfold S46
 exact⟨fun _ h'=>b=true/\h'=h,bw (fun q=>⟨q,rfl,rfl⟩) fun q=>⟨q,rfl⟩,fun h' q=>⟨q.1,rfl,q.2⟩⟩
section
variable {n:Nat} {h:ab}
theorem su :ae Tryz.prog 230 #[.int .u8 (n:Int)] h fun v h'=>v= .bool (G.dq n)/\h'=h:=by
 apply vm
 unfold De
 have fin:∀b:Bool,(b=true ↔ 32<=n/\n<=126)->Value.bool b= .bool (G.dq n)/\h=h:=fun b e=>⟨by rw[bS e];rfl,rfl⟩
 refine af (fun h1=>fin _ ?_) fun h1=>fin _ ?_
 all_goals (simp;try omega)
theorem zX :ae Tryz.prog 180 #[.int .u8 (n:Int)] h fun v h'=>v= .bool (G.eu n)/\h'=h:=by
 apply vj
 unfold Da
 have fin:∀b:Bool,(b=true ↔ n=32\/n=9\/n=10\/n=13)->Value.bool b= .bool (G.eu n)/\h=h:=fun b e=>⟨by rw[bS e];rfl,rfl⟩
 refine bu (fun h1=>fin _ ?_) fun h1=>bu (fun h2=>fin _ ?_) fun h2=>bu (fun h3=>fin _ ?_) fun h3=>fin _ ?_
 all_goals (simp;try omega)
theorem uZ :G.ni n=decide (97<=n/\n<=122\/65<=n/\n<=90\/n=95):=by
 rw[Bool.eq_iff_iff]
 simp only[G.ni,G.zO,Bool.or_eq_true,decide_eq_true_eq]
 omega
theorem zY :ae Tryz.prog 181 #[.int .u8 (n:Int)] h fun v h'=>v= .bool (G.ni n)/\h'=h:=by
 apply vk
 unfold Db
 have fin:∀b:Bool,(b=true ↔ 97<=n/\n<=122\/65<=n/\n<=90\/n=95)->Value.bool b= .bool (G.ni n)/\h=h:=fun b e=>⟨by rw[bS e,uZ],rfl⟩
 refine af (fun h1=>af (fun h2=>fin _ ?_) fun h2=>af (fun h3=>af (fun h4=>fin _ ?_) fun h4=>fin _ ?_) fun h3=>fin _ ?_) fun h1=>af (fun h3=>af (fun h4=>fin _ ?_) fun h4=>fin _ ?_) fun h3=>fin _ ?_
 all_goals (simp;try omega)
theorem lG :G.nj n=(G.ni n||decide (48<=n/\n<=57\/n=46\/n=58\/n=45)):=by
 rw[Bool.eq_iff_iff]
 simp only[G.nj,G.uz,Bool.or_eq_true,decide_eq_true_eq]
 generalize G.ni n=b
 cases b<;>simp<;>omega
theorem CB :ae Tryz.prog 182 #[.int .u8 (n:Int)] h fun v h'=>v= .bool (G.nj n)/\h'=h:=by
 apply vl
 unfold Dd
 refine di zY ⟨_,rfl,cm (fun q=>⟨by simp[lG,q],rfl⟩) fun q=>?_⟩
 have fin:∀b:Bool,(b=true ↔ 48<=n/\n<=57\/n=46\/n=58\/n=45)->Value.bool b= .bool (G.nj n)/\h=h:=fun b e=>⟨by rw[bS e,lG,q,Bool.false_or],rfl⟩
 refine af (fun h1=>af (fun h2=>fin _ ?_) fun h2=>bu (fun h3=>fin _ ?_) fun h3=>bu (fun h4=>fin _ ?_) fun h4=>fin _ ?_) fun h1=>bu (fun h3=>fin _ ?_) fun h3=>bu (fun h4=>fin _ ?_) fun h4=>fin _ ?_
 all_goals (simp;try omega)
theorem CC :ae Tryz.prog 229 #[.int .u8 (n:Int)] h fun v h'=>v= .bool (G.dq n&&decide (n≠60))/\h'=h:=by
 apply vn
 unfold Df
 refine di su ⟨_,rfl,cm (fun q=>⟨?_,rfl⟩) fun q=>⟨by simp[q],rfl⟩⟩
 rw[q,Bool.true_and]
 congr 1
 exact bS (by simp;omega)
theorem CD :ae Tryz.prog 330 #[.int .u8 (n:Int)] h fun v h'=>v= .bool (G.dq n||G.eu n)/\h'=h:=by
 apply vo
 unfold Dg
 refine di su ⟨_,rfl,cm (fun q=>⟨by simp[q],rfl⟩) fun q=>di zX ⟨_,rfl,by simp[q],rfl⟩⟩
end
section
variable {h:ab} {b i:Nat} {s:ByteArray}
theorem lH {c:Nat} (L:Lx h b s i) (hc:c<256):ae Tryz.prog 137 #[.pointer (some ⟨b,0,none⟩),.int .u8 (c:Int)] h fun v h'=>v= .bool (decide (G.bt s i=c))/\h'=h:=by
 apply vq
 unfold Dh
 refine⟨b,0,rfl,_,L.c1,b,0,rfl,_,L.c0,af (fun q=>?_) fun q=>?_⟩
 ·obtain⟨x,hx,hb⟩:=get_at (s:=s) (j:=i) (by omega)
  refine⟨b,0,rfl,_,L.c0,b,0,rfl,_,L.c1,by omega,by omega,x,by rw[Int.toNat_natCast];exact hx,?_,rfl⟩
  rw[hb]
  congr 1
  exact bS (by simp;omega)
 ·refine⟨?_,rfl⟩
  rw[show decide (G.bt s i=c)=false from ?_]
  rw[decide_eq_false_iff_not]
  intro e
  have:G.bt s i≠256:=by omega
  have:=G.jw this
  omega
theorem lI {c:Nat} (L:Lx h b s i) (hc:c<256) (hs:s.size<=262144):az Tryz.prog 136 #[.pointer (some ⟨b,0,none⟩),.int .u8 (c:Int)] h (fun v h'=>G.want s c i= .ok (i+1)/\i<s.size/\v= .tuple #[]/\Mv b h h' (i+1)) (fun v h'=>G.want s c i= .no (i,15)/\v=flx (i,15)/\h'=h):=by
 apply vr
 unfold Di
 refine⟨b,0,rfl,_,L.c1,bn (lH L hc) ⟨_,rfl,Fr.refl _ _,ao (fun q=>?_) fun q=>?_⟩⟩
 ·have e:=of_decide_eq_true q
  have hi:i<s.size:=G.jw (by omega)
  refine⟨rfl,Fr.refl _ _,b,0,rfl,_,L.c1,b,0,rfl,L.cell,L.fr,?_⟩
  rw[wrN (by omega)]
  exact⟨by unfold G.want;rw[q];rfl,hi,rfl,Mv.to L (i+1)⟩
 ·exact⟨by unfold G.want;rw[q];rfl,rfl,rfl⟩
theorem jH {p:Nat->Bool} {j:Nat} (h:¬(j<s.size/\p (G.bt s j)=true)):G.run p s j=j:=by rw[G.run,if_neg h]
theorem sv {p:Nat->Bool} {j:Nat} (h1:j<s.size) (h2:p (G.bt s j)=true):G.run p s j=G.run p s (j+1):=by
 conv=>lhs;rw[G.run,if_pos ⟨h1,h2⟩]
theorem u3 (L:Lx h b s i) (hi:i<=s.size) (hs:s.size<=262144):ae Tryz.prog 135 #[.pointer (some ⟨b,0,none⟩)] h fun v h'=>v= .bool (decide (i<G.run G.eu s i))/\Mv b h h' (G.run G.eu s i):=by
 apply vt
 unfold Dj
 refine⟨b,0,rfl,_,L.c1,?_⟩
 intro K
 refine⟨fun _ h'=>∃j,i<=j/\j<=s.size/\G.run G.eu s j=G.run G.eu s i/\Mv b h h' j,pC s b,⟨i,Nat.le_refl _,hi,rfl,Mv.refl L⟩,?_⟩
 rintro hv ⟨j,hij,hj,hsk,M⟩
 have Lj:=L.mv M
 have fin:G.run G.eu s j=j->K hv:=by
  intro e
  have ej:G.run G.eu s i=j:=by rw[<-hsk,e]
  refine⟨b,0,rfl,_,Lj.c1,?_,by rw[ej];exact M⟩
  rw[ej]
  congr 1
  exact bS (by simp)
 refine⟨b,0,rfl,_,Lj.c1,b,0,rfl,_,Lj.c0,af (fun hlt=>?_) fun hlt=>⟨Fr.refl _ _,fin (jH (by omega))⟩⟩
 have hlt:j<s.size:=by omega
 obtain⟨c,hc,hb⟩:=get_at hlt
 refine⟨b,0,rfl,_,Lj.c0,b,0,rfl,_,Lj.c1,by omega,by omega,c,by rw[Int.toNat_natCast];exact hc,?_⟩
 refine di zX ⟨_,rfl,Fr.refl _ _,cm (fun q=>?_) fun q=>fin (jH (by rw[hb,q];simp))⟩
 refine⟨b,0,rfl,_,Lj.c1,b,0,rfl,Lj.cell,Lj.fr,?_⟩
 rw[wrN (by omega)]
 have M':=M.trans (Mv.to Lj (j+1))
 refine⟨⟨j+1,by omega,by omega,?_,M'⟩,?_⟩
 ·rw[<-hsk];exact(sv hlt (by rw[hb];exact q)).symm
 ·rw[cI (L.mv M'),cI Lj];omega
theorem u4 (L:Lx h b s i) (hi:i<=s.size) (hs:s.size<=262144):az Tryz.prog 138 #[.pointer (some ⟨b,0,none⟩)] h (fun v h'=>∃x j,G.kN s i= .ok (x,j)/\i<j/\j<=s.size/\v= .string x/\Mv b h h' j) (fun v h'=>G.kN s i= .no (i,15)/\v=flx (i,15)/\h'=h):=by
 apply vu
 unfold Dk
 intro K
 have go:i<s.size->G.ni (G.bt s i)=true->K h:=by
  intro hi1 hb0
  refine⟨b,0,rfl,_,L.c1,?_⟩
  intro K2
  refine⟨fun _ h'=>∃j,i<=j/\j<=s.size/\G.run G.nj s j=G.run G.nj s i/\Mv b h h' j,pC s b,⟨i,Nat.le_refl _,hi,rfl,Mv.refl L⟩,?_⟩
  rintro hv ⟨j,hij,hj,hsk,M⟩
  have Lj:=L.mv M
  have fin:G.run G.nj s j=j->K2 hv:=by
   intro e
   have ej:G.run G.nj s i=j:=by rw[<-hsk,e]
   refine⟨b,0,rfl,_,Lj.c0,b,0,rfl,_,Lj.c1,by omega,by omega,by omega,by omega,?_⟩
   rw[Int.toNat_natCast,Int.toNat_natCast]
   refine⟨s.extract i j,j,?_,?_,hj,rfl,M⟩
   ·unfold G.kN;rw[hb0,ej];rfl
   ·rw[<-ej];exact G.Ar hi1 (by rw[lG,hb0,Bool.true_or])
  refine⟨b,0,rfl,_,Lj.c1,b,0,rfl,_,Lj.c0,af (fun hlt=>?_) fun hlt=>⟨Fr.refl _ _,fin (jH (by omega))⟩⟩
  have hlt:j<s.size:=by omega
  obtain⟨c,hc,hb⟩:=get_at hlt
  refine⟨b,0,rfl,_,Lj.c0,b,0,rfl,_,Lj.c1,by omega,by omega,c,by rw[Int.toNat_natCast];exact hc,?_⟩
  refine di CB ⟨_,rfl,Fr.refl _ _,cm (fun q=>?_) fun q=>fin (jH (by rw[hb,q];simp))⟩
  refine⟨b,0,rfl,_,Lj.c1,b,0,rfl,Lj.cell,Lj.fr,?_⟩
  rw[wrN (by omega)]
  have M':=M.trans (Mv.to Lj (j+1))
  refine⟨⟨j+1,by omega,by omega,?_,M'⟩,?_⟩
  ·rw[<-hsk];exact(sv hlt (by rw[hb];exact q)).symm
  ·rw[cI (L.mv M'),cI Lj];omega
 have bad:G.ni (G.bt s i)=false->G.kN s i= .no (i,15):=by
  intro q;unfold G.kN;rw[q];rfl
 refine⟨b,0,rfl,_,L.c1,b,0,rfl,_,L.c0,af (fun hlt=>?_) fun hlt=>?_⟩
 ·have hlt:i<s.size:=by omega
  obtain⟨c,hc,hb⟩:=get_at hlt
  refine⟨b,0,rfl,_,L.c0,b,0,rfl,_,L.c1,by omega,by omega,c,by rw[Int.toNat_natCast];exact hc,b,0,rfl,_,L.c1,?_⟩
  refine di zY ⟨_,rfl,Fr.refl _ _,ao (fun q=>⟨rfl,Fr.refl _ _,go hlt (by rw[hb];exact q)⟩) fun q=>⟨bad (by rw[hb];exact q),rfl,rfl⟩⟩
 ·refine⟨b,0,rfl,_,L.c1,Fr.refl _ _,ao (fun q=>absurd q (by decide)) fun q=>⟨bad ?_,rfl,rfl⟩⟩
  have:G.bt s i=256:=by unfold G.bt;rw[getElem?_neg s i (by omega)]
  rw[this];decide
end
theorem pP {n:Nat}:G.uz n=decide (48<=n/\n<=57):=rfl
theorem CE {t:ByteArray} (ht:t.size<=262144) {h:ab}:ae Tryz.prog 287 #[.string t] h fun v h'=>v=zQ (G.part t 0)/\Fr [] h h':=by
 apply vv
 unfold Dl
 intro hv
 have hfr:Fr [] h hv:=Fr.push h _
 have hblk:hv[h.size]? =some (.cells #[.string ⟨#[38,97,109,112,59]⟩,.string ⟨#[38,113,117,111,116,59]⟩,.string ⟨#[38,108,116,59]⟩,.string ⟨#[38,103,116,59]⟩,.string ⟨#[38,97,112,111,115,59]⟩] 9):=ba
 clear_value hv
 refine⟨fun l h'=>∃n:Nat,l=[.int .i64 (n:Int)]/\n<=5/\h'=hv/\∀k x,k<n->nm5[k]? =some x->G.preB t 0 x=false,mI 5,⟨0,rfl,by decide,rfl,fun k x hk=>by omega⟩,?_⟩
 rintro _ hv2 ⟨n,e,hn,rfl,hno⟩
 cases e
 refine af (fun hlt=>?_) fun hlt=>?_
 ·have hn5:n<5:=by omega
  obtain⟨x,hx,c,hc,ac,hbyte,hpart⟩:∃x:List UInt8,nm5[n]? =some x/\∃c:UInt8,nb5[n]? =some c/\ac hv2 h.size (0+(Int.toNat (n:Int))*1)=some (.string ⟨x.toArray⟩)/\(⟨#[38,34,60,62,39]⟩:ByteArray)[Int.toNat (n:Int)]? =some c/\(G.preB t 0 x=true->G.part t 0=some (c.toNat,x.length)):=by
   have q:∀k v,(#[.string ⟨#[38,97,109,112,59]⟩,.string ⟨#[38,113,117,111,116,59]⟩,.string ⟨#[38,108,116,59]⟩,.string ⟨#[38,103,116,59]⟩,.string ⟨#[38,97,112,111,115,59]⟩]:Array Value)[k]? =some v->ac hv2 h.size k=some v:=fun k v q=>by rw[aI hblk];exact q
   have no:∀k x,k<n->nm5[k]? =some x->¬G.preB t 0 x=true:=fun k x a b=>by rw[hno k x a b];simp
   match n,hn5,no with
   | 0,_,no=>exact⟨G.amp,rfl,38,rfl,q 0 _ rfl,rfl,fun p=>by unfold G.part;rw[if_pos p];rfl⟩
   | 1,_,no=>exact⟨G.Au,rfl,34,rfl,q 1 _ rfl,rfl,fun p=>by unfold G.part;rw[if_neg (no 0 _ (by decide) rfl),if_pos p];rfl⟩
   | 2,_,no=>exact⟨G.ltB,rfl,60,rfl,q 2 _ rfl,rfl,fun p=>by unfold G.part;rw[if_neg (no 0 _ (by decide) rfl),if_neg (no 1 _ (by decide) rfl),if_pos p];rfl⟩
   | 3,_,no=>exact⟨G.gtB,rfl,62,rfl,q 3 _ rfl,rfl,fun p=>by unfold G.part;rw[if_neg (no 0 _ (by decide) rfl),if_neg (no 1 _ (by decide) rfl),if_neg (no 2 _ (by decide) rfl),if_pos p];rfl⟩
   | 4,_,no=>exact⟨G.Av,rfl,39,rfl,q 4 _ rfl,rfl,fun p=>by unfold G.part;rw[if_neg (no 0 _ (by decide) rfl),if_neg (no 1 _ (by decide) rfl),if_neg (no 2 _ (by decide) rfl),if_neg (no 3 _ (by decide) rfl),if_pos p];rfl⟩
  refine⟨h.size,0,rfl,by omega,by omega,_,ac,?_⟩
  refine bn zP ?_
  rw[<-nG]
  refine⟨_,rfl,cm (fun p=>?_) fun p=>?_⟩
  ·refine⟨by omega,by show(n:Int)<((5:Nat):Int);omega,c,hbyte,?_,hfr⟩
   rw[hpart p]
   rfl
  ·rw[wr (x:=(n:Int)+1) (by omega) (by omega)]
   refine⟨⟨n+1,by simp,by omega,rfl,fun k y hk hy=>?_⟩,by simp only[mI];omega⟩
   by_cases q:k=n
   ·subst q;rw[hx]at hy;cases hy;exact p
   ·exact hno k y (by omega) hy
 ·obtain rfl:n=5:=by omega
  have np:∀k x,k<5->nm5[k]? =some x->¬G.preB t 0 x=true:=fun k x a b=>by rw[hno k x a b];simp
  have hp:G.part t 0=(if G.preB t 0 [38,35]=false then none else match G.fW t 3 0 (0+2)with
    | (n,k)=>if k=0+2\/G.bt t k≠59\/G.dq n=false then none else some (n,k+1-0)):=by
   unfold G.part
   rw[if_neg (np 0 _ (by decide) rfl),if_neg (np 1 _ (by decide) rfl),if_neg (np 2 _ (by decide) rfl),if_neg (np 3 _ (by decide) rfl),if_neg (np 4 _ (by decide) rfl)]
  refine bn zP ?_
  rw[<-nG]
  refine⟨_,rfl,bw (fun p=>?_) fun p=>?_⟩
  ·rw[hp,if_pos p]
   exact⟨rfl,hfr⟩
  ·rw[if_neg (by rw[p];simp)]at hp
   intro K2
   have fin:∀m k:Nat,G.fW t 3 0 2=(m,k)->2<=k->k<=5->k<=t.size->m<1000->K2 (m:Int) (k:Int) hv2:=by
    intro m k e k2 k5 ks m3
    rw[show(0+2)=2 from rfl,e]at hp
    simp only[Nat.sub_zero]at hp
    have no:(k=2\/G.bt t k≠59\/G.dq m=false)->Value.tuple #[Value.int IntKind.u8 0,Value.int IntKind.i64 0]=zQ (G.part t 0)/\Fr [] h hv2:=fun q=>by rw[if_pos q]at hp;exact⟨by rw[hp];rfl,hfr⟩
    refine bu (fun q=>no (.inl (by omega))) fun q=>bu (fun q2=>?_) fun q2=>?_
    ·refine no (.inr (.inl ?_))
     have:¬k<t.size:=by omega
     unfold G.bt
     rw[getElem?_neg t k this]
     decide
    ·have hk:k<t.size:=by omega
     obtain⟨c,hc,hb⟩:=get_at hk
     refine⟨by omega,by omega,c,by rw[Int.toNat_natCast];exact hc,gQ (fun q3=>no (.inr (.inl (by rw[hb];omega)))) fun q3=>af (fun q4=>?_) fun q4=>?_⟩
     ·refine no (.inr (.inr ?_))
      simp[G.dq];omega
     ·rw[u8w (x:=(m:Int)) (by omega) (by omega)]
      refine di su ⟨_,rfl,bw (fun q5=>?_) fun q5=>?_⟩
      ·have:=no (.inr (.inr q5))
       exact this
      ·rw[wrN (by omega)]
       rw[if_neg (by rw[hb,q5];simp;omega)]at hp
       exact⟨by rw[hp];rfl,hfr⟩
   refine⟨fun l h'=>∃r m k:Nat,l=[.int .i64 (m:Int),.int .i64 (k:Int)]/\k+r=5/\2<=k/\k<=t.size/\G.fW t 3 0 2=G.fW t r m k/\m<10^(k-2)/\h'=hv2,fun l _=>(match l with | [_,.int _ x]=>((5:Int)-x).toNat | _=>0),⟨3,0,2,rfl,rfl,by decide,?_,rfl,by decide,rfl⟩,?_⟩
   ·rcases G.lg p with q | q
    ·simpa using q
    ·cases q
   rintro _ _ hv5 ⟨r,m,k,e,hr,k2,ks,hd,hm,rfl⟩
   cases e
   have m3:m<1000:=by
    have:10^(k-2)<=10^3:=Nat.pow_le_pow_right (by decide) (by omega)
    omega
   intro K
   have stop:G.fW t r m k=(m,k)->K2 (m:Int) (k:Int) hv5:=fun q=>fin m k (hd.trans q) k2 (by omega) ks m3
   refine af (fun q1=>af (fun q2=>?_) fun q2=>?_) fun q1=>?_
   ·obtain⟨c,hc,hb⟩:=get_at (show k<t.size by omega)
    obtain⟨r',rfl⟩:∃r',r=r'+1:=⟨r-1,by omega⟩
    have st0:¬(48<=c.toNat/\c.toNat<=57)->K2 (m:Int) (k:Int) hv5:=fun q3=>stop (by rw[G.fW,if_neg (by rw[hb,pP,decide_eq_true_eq];exact q3)])
    refine⟨by omega,by omega,c,by rw[Int.toNat_natCast];exact hc,af (fun q3=>?_) fun q3=>st0 (by omega)⟩
    refine⟨by omega,by omega,c,by rw[Int.toNat_natCast];exact hc,af (fun q4=>?_) fun q4=>st0 (by omega)⟩
    have hdg:48<=c.toNat/\c.toNat<=57:=by omega
    refine⟨by omega,by omega,c,by rw[Int.toNat_natCast];exact hc,?_⟩
    have e1:u8.wrap (((UInt8.toNat c:Nat):Int)-(48:Int))=((c.toNat-48:Nat):Int):=by rw[u8w (by omega) (by omega)];omega
    rw[e1,wr (x:=((c.toNat-48:Nat):Int)) (by omega) (by omega),wr (x:=(10:Int)*(m:Int)) (by omega) (by omega),wr (x:=(10:Int)*(m:Int)+((c.toNat-48:Nat):Int)) (by omega) (by omega),wrN (by omega)]
    refine⟨⟨r',10*m+(c.toNat-48),k+1,by simp,by omega,by omega,by omega,?_,?_,rfl⟩,by simp only[];omega⟩
    ·rw[hd,G.fW,if_pos (by rw[hb,pP,decide_eq_true_eq];exact hdg),hb]
    ·rw[show k+1-2=(k-2)+1 by omega,Nat.pow_succ];omega
   ·obtain rfl:r=0:=by omega
    exact stop rfl
   ·refine stop ?_
    cases r with
    | zero=>rfl
    | succ r=>
     rw[G.fW,if_neg]
     intro q
     have:=Aw q
     omega
def E4 (o:Option (List UInt8)):Value:=
 match o with
 | some l=>.tuple #[.string (G.mkB l),.bool true]
 | none=>.tuple #[.string ⟨#[]⟩,.bool false]
theorem vb {e c:UInt8}:(Lib.indexByte (G.mkB [e]).data.toList c>=0) ↔ c=e:=by
 by_cases q:c=e
 ·subst q;simp[G.mkB,Lib.indexByte]
 ·have:¬e=c:=fun z=>q z.symm
  simp[G.mkB,Lib.indexByte,q,this]
abbrev enB (e:UInt8):Nat->Bool:=fun c=>decide (c=e.toNat)
theorem Ac {e:UInt8} {may:Nat->Bool} {g:Nat} (hg:∀(n:Nat) (h:ab),ae Tryz.prog g #[.int .u8 (n:Int)] h fun v h'=>v= .bool (may n)/\h'=h) (hm:mem lR g=true) (hp:mem lU g=false) {h:ab} {b i:Nat} {s:ByteArray} (L:Lx h b s i) (hi:i<=s.size) (hs:s.size<=262144):
  az Tryz.prog 228 #[.pointer (some ⟨b,0,none⟩),.string (G.mkB [e]),.func (.func g) #[] #[]] h
   (fun v h'=>∃o j,G.hU s (enB e) may i []= .ok (o,j)/\v=E4 o/\i<=j/\j<=s.size/\(∀l,o=some l->j<s.size/\l.length+i<=j)/\(o=none->j=s.size)/\Mv b h h' j)
   (fun v h'=>∃f,G.hU s (enB e) may i []= .no f/\v=flx f/\Fr [b] h h'):=by
 apply vz
 unfold Dm
 refine⟨fun l h'=>∃(A:Option Addr) (C j:Nat) (out:List UInt8),l=[.slice A out.length C]/\out.length+i<=j/\j<=s.size/\G.hU s (enB e) may j out=G.hU s (enB e) may i []/\Mv b h h' j/\aC h' 5 1 A out.length C (bv out)/\∀g∈ag A,h.size<=g,pC s b,
  ⟨none,0,i,[],rfl,by simp,hi,rfl,Mv.refl L,aC.nil _ _ _,by simp[ag]⟩,?_⟩
 rintro A _ C hv2 ⟨_,_,j,out,e0,hol,hj,hst,M,ow,hA⟩
 cases e0
 have Lj:=L.mv M
 have ne:∀g∈ag A,g≠b:=fun g q e=>by have:=hA g q;have:=L.lt;omega
 refine⟨b,0,rfl,_,Lj.c1,b,0,rfl,_,Lj.c0,af (fun hlt=>?_) fun hlt=>?_⟩
 ·have hlt:j<s.size:=by omega
  obtain⟨c,hc,hb⟩:=get_at hlt
  rw[G.hU,if_pos hlt,hb]at hst
  refine⟨b,0,rfl,_,Lj.c0,b,0,rfl,_,Lj.c1,by omega,by omega,c,by rw[Int.toNat_natCast];exact hc,?_⟩
  refine bn (Cc (c:=c.toNat) (UInt8.toNat_lt c)) ?_
  rw[UInt8.ofNat_toNat]
  refine⟨_,rfl,af (fun q=>?_) fun q=>?_⟩
  ·have q:=vb.1 q
   subst q
   rw[if_pos (by simp)]at hst
   refine⟨out.map fun c=>((c.toNat:Nat):Int),?_,some out,j,hst.symm,by rw[pE];rfl,by omega,hj,fun l z=>by cases z;exact⟨hlt,hol⟩,fun z=>(by cases z),M⟩
   have:=ow.reads
   rw[List.map_map]
   exact this
  ·have q:¬c=e:=fun z=>q (vb.2 z)
   rw[if_neg (by simp only[decide_eq_true_eq];exact fun z=>q (UInt8.toNat_inj.1 z))]at hst
   have put:∀(hv6:ab) (ra:Int) (c1:UInt8) (k:Nat),Fr [] hv2 hv6->ra=((c1.toNat:Nat):Int)->j<k->k<=s.size->G.hU s (enB e) may k (out++[c1])=G.hU s (enB e) may i []->
     (let hv7:ab:=hv6.push (.cells #[.int .u8 ra] 5)
      ∃old,aC hv7 5 1 A out.length C old/\(∀b∈([hv6.size]:List Nat),b∉ag A)/\(out.length+1)*1<=140737488355328/\(out.length+1)<=maxLen/\
      ∀sA sC hv8,aC hv8 5 1 sA (out.length+1) sC (old++[.int .u8 ra])->Fr (ag A) hv7 hv8->((sA=A/\sC=C)\/∃g,sA=some ⟨g,0,none⟩/\hv7.size<=g)->(C<(out.length+1)->Fr [] hv7 hv8)->
      (Lx hv8 b s j/\b≠hv6.size/\∃(A':Option Addr) (C' k':Nat) (out':List UInt8),[Value.slice sA (out.length+1) sC]=[.slice A' out'.length C']/\out'.length+i<=k'/\j<k'/\k'<=s.size/\G.hU s (enB e) may k' out'=G.hU s (enB e) may i []/\k'=k/\
       (Mv b h (am hv8 b 1 (.int .i64 (k':Int))) k'/\aC (am hv8 b 1 (.int .i64 (k':Int))) 5 1 A' out'.length C' (bv out')/\∀g∈ag A',h.size<=g))):=by
    intro hv6 ra c1 k f6 hra hk hks hst2 hv7
    have f7:Fr [] hv2 hv7:=f6.trans (Fr.push hv6 _)
    have hsz:hv2.size<=hv6.size:=f6.size
    have hM:=M.fr.size
    have e7:hv7.size=hv6.size+1:=by simp[hv7]
    clear_value hv7
    refine⟨bv out,ow.fr f7 (by simp),fun x hx=>?_,by omega,by simp only[maxLen];omega,?_⟩
    ·simp only[List.mem_singleton]at hx
     subst hx
     intro q
     have:=ow.lt _ q
     omega
    intro sA sC hv8 ow8 f8 gA _
    have M8:Mv b h hv8 j:=(M.ext f7 (by simp)).ext f8 hA
    have L8:=L.mv M8
    have hA8:∀g∈ag sA,h.size<=g:=by
     rcases gA with⟨rfl,_⟩ | ⟨g,rfl,hg⟩
     ·exact hA
     ·intro x hx;simp[ag]at hx;omega
    have ne8:∀g∈ag sA,g≠b:=fun g q e=>by have:=hA8 g q;have:=L.lt;omega
    refine⟨L8,by have:=L.lt;omega,sA,sC,k,out++[c1],by rw[List.length_append];rfl,by rw[List.length_append,List.length_singleton];omega,hk,hks,hst2,rfl,M8.trans (Mv.to L8 k),?_,hA8⟩
    have e2:bv out++[.int .u8 ra]=bv (out++[c1]):=by simp[bv,hra]
    rw[e2]at ow8
    rw[List.length_append,List.length_singleton]
    exact ow8.fr (Fr.hset _ _ _ _) (fun g q=>by simpa using ne8 g q)
   let J:List Value->ab->Prop:=fun l h'=>∃(A:Option Addr) (C k:Nat) (out:List UInt8),l=[.slice A out.length C]/\out.length+i<=k/\j<k/\k<=s.size/\G.hU s (enB e) may k out=G.hU s (enB e) may i []/\Mv b h h' k/\aC h' 5 1 A out.length C (bv out)/\∀g∈ag A,h.size<=g
   refine⟨J,?_,?_⟩
   ·refine bu (fun q2=>?_) fun q2=>?_
    ·rw[if_pos (by omega)]at hst
     refine⟨b,0,rfl,_,Lj.c0,b,0,rfl,_,Lj.c1,by omega,by omega,?_⟩
     rw[Int.toNat_natCast]
     refine ak [] (CE (t:=s.extract j s.size) (by rw[ByteArray.size_extract];omega)) (by simp) (fun _ _ r=>r.2) fun v hv4 r=>?_
     obtain⟨rfl,f4⟩:=r
     rw[G.uG]
     have L4:=Lj.mv ((Mv.refl Lj).ext f4 (by simp))
     cases hp:G.part s j with
     | none=>
      rw[hp]at hst
      refine⟨0,0,rfl,f4,b,0,rfl,_,L4.c1,?_⟩
      refine ao (fun q=>?_) fun q=>?_
      ·exact absurd q (by decide)
      ·exact⟨_,hst.symm,rfl,M.fr.trans f4.nil⟩
     | some p=>
      obtain⟨c1,n1⟩:=p
      rw[hp]at hst
      simp only at hst
      obtain⟨p1,p2⟩:=G.xM hlt hp
      have p3:=G.xU hp
      refine⟨_,_,rfl,f4,b,0,rfl,_,L4.c1,?_⟩
      refine ao (fun q=>⟨rfl,?_⟩) fun q=>?_
      ·obtain⟨old,o1,o2,o3,o4,o5⟩:=put hv4 (c1:Int) (UInt8.ofNat c1) (j+(n1-1)+1) f4 (by rw[UInt8.toNat_ofNat'];omega) (by omega) (by omega) hst
       refine⟨old,o1,o2,o3,o4,fun sA sC hv7 q1 q2 q3 q4=>?_⟩
       obtain⟨L8,hne,A',C',k',out',e1,e2,e3,e4,e5,e6,e7,e8,e9⟩:=o5 sA sC hv7 q1 q2 q3 q4
       refine⟨b,0,rfl,_,L8.c1,b,0,rfl,hne,L8.cell,L8.fr,?_⟩
       have ek:(j:Int)+(n1:Int)=(k':Int):=by omega
       rw[wr (by omega) (by omega),ek]
       exact⟨A',C',k',out',e1,e2,e3,e4,e5,e7,e8,e9⟩
      ·exact absurd q (by simp;omega)
    ·rw[if_neg (by omega)]at hst
     refine⟨b,0,rfl,_,Lj.c1,?_⟩
     have hcall:∀{K:Value->ab->Prop} {E:Option (Value->ab->Prop)},K (.bool (may c.toNat)) hv2->iD Tryz.prog lR lU E (.func g) #[] #[] [.int .u8 ((UInt8.toNat c:Nat):Int)] hv2 [] K:=by
      intro K E k
      unfold iD
      simp only[hm,hp]
      exact di (hg c.toNat hv2) k
     refine hcall ⟨_,rfl,Fr.refl _ _,ao (fun q3=>⟨rfl,Fr.refl _ _,?_⟩) fun q3=>?_⟩
     ·rw[if_pos q3,UInt8.ofNat_toNat]at hst
      obtain⟨old,o1,o2,o3,o4,o5⟩:=put hv2 ((c.toNat:Nat):Int) c (j+1) (Fr.refl _ _) rfl (by omega) (by omega) hst
      refine⟨old,o1,o2,o3,o4,fun sA sC hv7 q1 q2 q3 q4=>?_⟩
      obtain⟨L8,hne,A',C',k',out',e1,e2,e3,e4,e5,e6,e7,e8,e9⟩:=o5 sA sC hv7 q1 q2 q3 q4
      refine⟨b,0,rfl,_,L8.c1,b,0,rfl,hne,L8.cell,L8.fr,?_⟩
      have ek:(j:Int)+(1:Int)=(k':Int):=by omega
      rw[wr (by omega) (by omega),ek]
      exact⟨A',C',k',out',e1,e2,e3,e4,e5,e7,e8,e9⟩
     ·rw[if_neg (by rw[q3];simp)]at hst
      exact⟨_,hst.symm,rfl,M.fr⟩
   ·rintro A2 L2 C2 hv17 ⟨A3,C3,k,out3,e1,h1,h2,h3,h4,h5,h6,h7⟩
    refine⟨⟨A3,C3,k,out3,e1,h1,h3,h4,h5,h6,h7⟩,?_⟩
    rw[cI (L.mv h5),cI Lj]
    omega
 ·have ej:j=s.size:=by omega
  rw[G.hU,if_neg (by omega)]at hst
  exact⟨none,s.size,hst.symm,rfl,hi,Nat.le_refl _,fun l z=>(by cases z),fun _=>rfl,by rw[<-ej];exact M⟩
abbrev ptr (b:Nat):Value:=.pointer (some ⟨b,0,none⟩)
def E3 (a:G.Atr):Value:=.agg #[.string a.name,.string a.says,.int .i64 (a.at_:Int)]
def eA :En G.Atr:=⟨3,fun a=>[.string a.name,.string a.says,.int .i64 (a.at_:Int)],by decide,fun _=>rfl,fun a v h=>by simp at h;rcases h with rfl | rfl | rfl<;>rfl⟩
def AtV (h:ab) (A:Option Addr) (l:List G.Atr):Prop:=∀(k:Nat) (a:G.Atr),l[k]? =some a->∃g o,A=some ⟨g,o,none⟩/\ac h g (o+k*3)=some (.string a.name)/\ac h g (o+k*3+1)=some (.string a.says)/\ac h g (o+k*3+1+1)=some (.int .i64 (a.at_:Int))
theorem iz {h0 h:ab} {M:List Nat} {cs:List Ck} {ty:TypeId} {A:Option Addr} {n C:Nat} {l:List G.Atr} (Y:Sy h0 M h cs) (k:Nat) (hk:cs[k]? =some (Ck.sl eA ty A n C l)):AtV h A l:=by
 intro j a ha
 have hl:=Y.lenS k hk
 have hj:=(List.getElem?_eq_some_iff.1 ha).1
 obtain⟨g,hg,-,-⟩:=Y.atS k hk (i:=(j:Int)) (by omega) (by omega)
 exact⟨g,0,hg,Y.cellS k hk hg ha (t:=0) rfl,Y.cellS k hk hg ha (t:=1) rfl,Y.cellS k hk hg ha (t:=2) rfl⟩
theorem AtV.fr {h h':ab} {M:List Nat} {A:Option Addr} {l:List G.Atr} (V:AtV h A l) (f:Fr M h h') (hm:∀g∈ag A,g∉M):AtV h' A l:=by
 intro k a ha
 obtain⟨g,o,e,c0,c1,c2⟩:=V k a ha
 have hg:g∉M:=hm g (by rw[e];simp[ag])
 exact⟨g,o,e,f.cell c0 hg,f.cell c1 hg,f.cell c2 hg⟩
theorem fK {a b:ByteArray}:(a.toList==b.toList)=decide (a.data.toList=b.data.toList):=by
 rw[Lib.toList_data a,Lib.toList_data b]
 by_cases h:a.data.toList=b.data.toList
 ·rw[decide_eq_true h,h];simp
 ·rw[decide_eq_false h];simpa using h
theorem cJ {a b:ByteArray}:G.eqB a b=decide (a.data.toList=b.data.toList):=by
 rw[Bool.eq_iff_iff];simp[G.eqB]
theorem dj {α:Type} {l:List α} {k:Nat} {a:α} (h:l[k]? =some a):l.take (k+1)=l.take k++[a]:=by
 rw[List.take_add_one,h];rfl
section
variable {h:ab} {b i:Nat} {s:ByteArray}
theorem CX {A:Option Addr} {n C:Nat} {ah:List G.Atr} (L:Lx h b s i) (V:AtV h A ah) (hb:b∉ag A) (hn:n=ah.length) (hl:ah.length<=262144) (hi:i<=s.size) (hs:s.size<=262144):
  az Tryz.prog 183 #[.pointer (some ⟨b,0,none⟩),.slice A n C] h (fun v h'=>∃a j,G.ji s ah i= .ok (a,j)/\i<j/\j<=s.size/\v=E3 a/\Mv b h h' j) (fun v h'=>∃f,G.ji s ah i= .no f/\v=flx f/\Fr [b] h h'):=by
 subst hn
 have bl:=L.lt
 apply vA
 unfold Dn
 intro hv
 have M0:Mv b h hv i:=(Mv.refl L).push _
 have L0:=L.mv M0
 have s0:hv.size=h.size+1:=by simp[hv]
 clear_value hv
 refine⟨b,0,rfl,_,L0.c1,?_⟩
 refine av [b] (u4 L0 hi hs) (by simp;omega) (fun _ _ r=>by obtain⟨_,_,_,_,_,_,m⟩:=r;exact m.fr) (fun _ _ r=>Fr.of_eq r.2.2) (fun v hv2 r=>?_) fun v hv2 r=>?_
 rotate_left
 ·obtain⟨e,rfl,rfl⟩:=r
  exact⟨_,by unfold G.ji;rw[e];rfl,rfl,M0.fr⟩
 obtain⟨nm,j1,e1,q1,q2,rfl,M1⟩:=r
 have s2:h.size<hv2.size:=by have:=M1.fr.size;omega
 have M2:=M0.trans M1
 refine⟨nm,rfl,?_⟩
 intro hv3 hv4
 have M4:Mv b h hv4 j1:=(((M2.push _).hsetn (by omega)).hsetn (by omega)).hsetn (by omega)
 have s4:hv4.size=hv2.size+1:=by simp[hv4,hv3]
 clear_value hv4
 clear hv3
 refine⟨fun l h'=>∃k:Nat,l=[.int .i64 (k:Int)]/\k<=ah.length/\hv4.size<=h'.size/\Mv b h h' j1/\∀a∈ah.take k,G.eqB a.name nm=false,mI ah.length,⟨0,rfl,Nat.zero_le _,Nat.le_refl _,M4,by simp⟩,?_⟩
 rintro x2 hv5 ⟨k,e,hk,hsz,M5,hno⟩
 cases e
 have L5:=L.mv M5
 refine af (fun q=>?_) fun q=>?_
 ·obtain⟨a,ha⟩:∃a,ah[k]? =some a:=⟨_,List.getElem?_eq_getElem (by omega)⟩
  obtain⟨g,o,eg,c0,c1,c2⟩:=V.fr M5.fr (by intro g hg;simp;rintro rfl;exact hb hg) k a ha
  refine⟨g,o,eg,by omega,by omega,a.name,by rw[Int.toNat_natCast];exact c0,a.says,by rw[Int.toNat_natCast];exact c1,(a.at_:Int),by rw[Int.toNat_natCast];exact c2,?_⟩
  intro hv6 hv7
  have f7:Fr [] hv5 hv7:=((((Fr.push hv5 _).hsetL (Nat.le_refl _)).hsetL (Nat.le_refl _)).hsetL (Nat.le_refl _))
  have M7:Mv b h hv7 j1:=M5.ext f7 (by simp)
  clear_value hv7
  clear hv6
  rw[fK,wrN (by omega)]
  refine ao (fun q3=>⟨rfl,⟨k+1,rfl,by omega,by have:=f7.size;omega,M7,?_⟩,by simp only[mI];omega⟩) fun q3=>⟨_,?_,rfl,M7.fr⟩
  ·intro x hx
   rw[dj ha,List.mem_append,List.mem_singleton]at hx
   rcases hx with hx | rfl
   ·exact hno x hx
   ·rw[cJ];simpa using q3
  ·unfold G.ji
   rw[e1]
   simp only[G.Er.bind]
   have:(ah.all fun a=> !G.eqB a.name nm)=false:=by
    rw[List.all_eq_false]
    exact⟨a,List.mem_of_getElem? ha,by rw[cJ];simpa using q3⟩
   rw[this];rfl
 ·have hall:(ah.all fun a=> !G.eqB a.name nm)=true:=by
   rw[List.all_eq_true]
   intro a ha
   rw[List.take_of_length_le (by omega)]at hno
   rw[hno a ha];rfl
  have eA:G.ji s ah i=(G.want s 61 j1).bind fun k=>G.bx (decide (G.bt s k=34\/G.bt s k=39)) (k,15) <| (G.hU s (fun c=>decide (c=G.bt s k)) (fun c=>G.dq c&&decide (c≠60)) (k+1) []).bind fun(o,e)=>
    match o with
    | some l=>.ok (⟨nm,G.mkB l,k+1⟩,e+1)
    | none=>.no (k,15):=by
   unfold G.ji
   rw[e1]
   simp only[G.Er.bind]
   rw[hall];rfl
  refine av [b] (lI (c:=61) L5 (by decide) hs) (by simp;omega) (fun _ _ r=>r.2.2.2.fr) (fun _ _ r=>Fr.of_eq r.2.2) (fun v hv9 r=>?_) fun v hv9 r=>?_
  rotate_left
  ·obtain⟨e,rfl,rfl⟩:=r
   exact⟨_,by rw[eA,e];rfl,rfl,M5.fr⟩
  obtain⟨e2,q4,rfl,M9⟩:=r
  have M9:=M5.trans M9
  have L9:=L.mv M9
  rw[e2]at eA
  simp only[G.Er.bind]at eA
  refine⟨rfl,?_⟩
  intro K
  refine⟨b,0,rfl,_,L9.c1,?_⟩
  have kk:∀(Q:UInt8),(Q=34\/Q=39)->G.bt s (j1+1)=Q.toNat->K hv9:=by
   intro Q hQ hbt
   have hlt:j1+1<s.size:=G.jw (by rw[hbt];have:=Q.toNat_lt;omega)
   obtain⟨c,hc,hb2⟩:=get_at hlt
   have cQ:c=Q:=UInt8.toNat_inj.1 (by rw[<-hb2,hbt])
   have e34:decide (Q.toNat=34\/Q.toNat=39)=true:=by rcases hQ with rfl | rfl<;>decide
   rw[hbt,e34]at eA
   simp only[G.bx]at eA
   refine⟨b,0,rfl,_,L9.c1,b,0,rfl,_,L9.c0,b,0,rfl,_,L9.c1,by omega,by omega,c,by rw[Int.toNat_natCast];exact hc,b,0,rfl,_,L9.c1,b,0,rfl,by omega,by omega,L9.cell,L9.fr,?_⟩
   rw[wrN (by omega)]
   intro hv15
   have M15:Mv b h hv15 (j1+1+1):=M9.trans (Mv.to L9 _)
   have L15:=L.mv M15
   clear_value hv15
   refine⟨b,0,rfl,_,L15.c1,?_⟩
   intro hv16
   have M16:Mv b h hv16 (j1+1+1):=M15.hsetn (by omega)
   have L16:=L.mv M16
   clear_value hv16
   have eU:Utf8.encode ((c.toNat:Nat):Int)=G.mkB [Q]:=by rw[cQ];rcases hQ with rfl | rfl<;>kernel_rfl
   rw[eU]
   refine av [b] (Ac (e:=Q) (fun n h=>CC) (by kernel_rfl) (by kernel_rfl) L16 (by omega) hs) (by simp;omega) (fun _ _ r=>by obtain⟨_,_,_,_,_,_,_,_,m⟩:=r;exact m.fr) (fun _ _ r=>by obtain⟨_,_,_,m⟩:=r;exact m) (fun v hv17 r=>?_) fun v hv17 r=>?_
   rotate_left
   ·obtain⟨f,e3,rfl,f17⟩:=r
    exact⟨f,by rw[eA,e3],rfl,M16.fr.trans f17⟩
   obtain⟨o,j2,e3,rfl,q6,q7,q8,-,M17⟩:=r
   have M17:=M16.trans M17
   have L17:=L.mv M17
   rw[e3]at eA
   simp only[G.Er.bind]at eA
   cases o with
   | none=>exact⟨_,_,rfl,ao (fun z=>absurd z (by decide)) fun _=>⟨_,eA,rfl,M17.fr⟩⟩
   | some l=>
    have hj2:=(q8 l rfl).1
    refine⟨_,_,rfl,ao (fun _=>⟨rfl,b,0,rfl,_,L17.c1,b,0,rfl,by omega,by omega,L17.cell,L17.fr,?_⟩) fun z=>absurd z (by decide)⟩
    rw[wrN (by omega)]
    intro hv19 hv20 hv21
    exact⟨⟨nm,G.mkB l,j1+1+1⟩,j2+1,eA,by omega,by omega,rfl,((((M17.trans (Mv.to L17 (j2+1))).hsetn (by omega)).hsetn (Nat.le_refl _)).hsetn (Nat.le_refl _)).hsetn (Nat.le_refl _)⟩
  refine bn (lH (c:=34) L9 (by decide)) ⟨_,rfl,Fr.refl _ _,af (fun q5=>⟨Fr.refl _ _,ao (fun _=>⟨rfl,Fr.refl _ _,kk 34 (.inl rfl) q5⟩) fun z=>absurd z (by decide)⟩) fun q5=>?_⟩
  refine bn (lH (c:=39) L9 (by decide)) ⟨_,rfl,Fr.refl _ _,ao (fun q6=>⟨rfl,Fr.refl _ _,kk 39 (.inr rfl) (of_decide_eq_true q6)⟩) fun q6=>⟨_,?_,rfl,M9.fr⟩⟩
  have q6:=of_decide_eq_false q6
  rw[eA,decide_eq_false (fun z=>z.elim q5 q6)];rfl
theorem sI {α:Type} {p:α->Bool}:∀{l:List α} {k:Nat} {a:α},l[k]? =some a->p a=true->(∀x∈l.take k,p x=false)->l.find? p=some a
 | [],_,_,h,_,_=>by simp at h
 | x::l,0,a,h,hp,_=>by simp at h;subst h;rw[List.find?_cons,hp]
 | x::l,k+1,a,h,hp,hn=>by
  rw[List.find?_cons,hn x (by simp)]
  exact sI (l:=l) (k:=k) (by simpa using h) hp fun y hy=>hn y (by simp[hy])
def atP (p:Option Addr) (A:Option Addr) (l:List G.Atr) (nm:List UInt8):Prop:=
 (p=none/\l.find? (fun a=>a.name.data.toList==nm)=none)\/∃k a g o,l[k]? =some a/\l.find? (fun a=>a.name.data.toList==nm)=some a/\A=some ⟨g,o,none⟩/\p=some ⟨g,o+k*3,none⟩
theorem lK {t:Nat} {A:Option Addr} {n C:Nat} {l:List G.Atr} {x:ByteArray} (hc:ac h t 3=some (.slice A n C)) (V:AtV h A l) (hn:n=l.length) (hl:l.length<=262144):
  ae Tryz.prog 185 #[.pointer (some ⟨t,0,none⟩),.string x] h fun v h'=>∃p,v= .pointer p/\h'=h/\atP p A l x.data.toList:=by
 subst hn
 apply vB
 unfold Dp
 have hc:ac h t (0+3)=some (.slice A l.length C):=hc
 refine⟨t,0,rfl,_,_,_,hc,?_⟩
 refine⟨fun z h'=>∃k:Nat,z=[.int .i64 (k:Int)]/\k<=l.length/\h'=h/\∀a∈l.take k,(a.name.data.toList==x.data.toList)=false,mI l.length,⟨0,rfl,Nat.zero_le _,rfl,by simp⟩,?_⟩
 rintro z hv ⟨k,e,hk,rfl,hno⟩
 cases e
 refine af (fun q=>?_) fun q=>?_
 ·obtain⟨a,ha⟩:∃a,l[k]? =some a:=⟨_,List.getElem?_eq_getElem (by omega)⟩
  obtain⟨g,o,eg,c0,-,-⟩:=V k a ha
  refine⟨t,0,rfl,_,_,_,hc,g,o,eg,by omega,by omega,a.name,by rw[Int.toNat_natCast];exact c0,?_⟩
  rw[fK]
  refine af (fun q2=>?_) fun q2=>?_
  ·refine⟨t,0,rfl,_,_,_,hc,g,o,eg,by omega,by omega,_,rfl,rfl,.inr ⟨k,a,g,o,ha,?_,eg,by rw[Int.toNat_natCast]⟩⟩
   exact sI ha (by simpa using q2) hno
  ·rw[wrN (by omega)]
   refine⟨⟨k+1,rfl,by omega,rfl,fun y hy=>?_⟩,by simp only[mI];omega⟩
   rw[dj ha,List.mem_append,List.mem_singleton]at hy
   rcases hy with hy | rfl
   ·exact hno y hy
   ·simpa using q2
 ·refine⟨_,rfl,rfl,.inl ⟨rfl,?_⟩⟩
  rw[List.take_of_length_le (by omega)]at hno
  rw[List.find?_eq_none]
  intro a ha
  rw[hno a ha];simp
theorem qZ (l:List UInt8):(G.mkB l).data.toList=l:=by simp[G.mkB]
theorem pR {t:Nat} {A:Option Addr} {C:Nat} {tg:G.Tg} {g o c:Nat} {nms:List (List UInt8)} (hc:ac h t 3=some (.slice A tg.list.length C)) (ha:ac h t 1=some (.int .i64 (tg.at_:Int))) (V:AtV h A tg.list) (hl:tg.list.length<=262144) (hm:nms.length<=262144)
  (hn:∀(k:Nat) (x:List UInt8),nms[k]? =some x->ac h g (o+k*1)=some (.string (G.mkB x))):
  az Tryz.prog 184 #[.pointer (some ⟨t,0,none⟩),.slice (some ⟨g,o,none⟩) nms.length c] h (fun v h'=>G.gd tg nms= .ok ()/\v= .tuple #[]/\h'=h) (fun v h'=>∃f,G.gd tg nms= .no f/\v=flx f/\h'=h):=by
 apply vC
 unfold Dq
 refine⟨fun z h'=>∃k:Nat,z=[.int .i64 (k:Int)]/\k<=nms.length/\h'=h/\G.gd tg nms=G.gd tg (nms.drop k),mI nms.length,⟨0,rfl,Nat.zero_le _,rfl,rfl⟩,?_⟩
 rintro z hv ⟨k,e,hk,rfl,hno⟩
 cases e
 refine af (fun q=>?_) fun q=>?_
 ·obtain⟨x,hx⟩:∃x,nms[k]? =some x:=⟨_,List.getElem?_eq_getElem (by omega)⟩
  have hd:nms.drop k=x::nms.drop (k+1):=by
   obtain⟨h1,h2⟩:=List.getElem?_eq_some_iff.1 hx
   rw[List.drop_eq_getElem_cons h1,h2]
  rw[hd,G.gd]at hno
  refine⟨g,o,rfl,by omega,by omega,_,by rw[Int.toNat_natCast];exact hn k x hx,t,0,rfl,_,ha,?_⟩
  refine ak [] (lK hc V rfl hl) (by simp) (fun _ _ r=>by obtain⟨_,_,r,_⟩:=r;exact Fr.of_eq r) fun v hv2 r=>?_
  obtain⟨p,rfl,rfl,hp⟩:=r
  rw[qZ]at hp
  refine⟨p,rfl,Fr.refl _ _,?_⟩
  rw[wrN (by omega)]
  rcases hp with⟨rfl,hf⟩ | ⟨_,a,g2,o2,_,hf,_,rfl⟩
  ·refine ao (fun z=>absurd z (by decide)) fun _=>⟨_,?_,rfl,rfl⟩
   rw[hno]
   unfold G.jC
   rw[hf];rfl
  ·refine ao (fun _=>⟨rfl,Fr.refl _ _,⟨k+1,rfl,by omega,rfl,?_⟩,by simp only[mI];omega⟩) fun z=>absurd z (by simp)
   rw[hno]
   unfold G.jC
   rw[hf];rfl
 ·refine⟨?_,rfl,rfl⟩
  rw[hno,List.drop_of_length_le (by omega)];rfl
end
def tgC (A:Option Addr) (C:Nat) (nm:ByteArray) (a0 n0:Nat) (l:List G.Atr) (w:Bool):List Value:=[.string nm,.int .i64 (a0:Int),.int .i64 (n0:Int),.slice A l.length C,.bool w]
def atC (b:Nat) (ty:TypeId) (s:ByteArray) (i:Nat) (cells:List Value) (t:Nat) (A:Option Addr) (C:Nat) (nm:ByteArray) (a0 n0:Nat) (l:List G.Atr) (w:Bool):List Ck:=
 [Ck.ob b ty (.string s:: .int .i64 (i:Int)::cells),Ck.ob t 181 (tgC A C nm a0 n0 l w),Ck.sl eA 230 A l.length C l]
theorem CY {h:ab} {b t i a0 n0 C n:Nat} {ty:TypeId} {s nm:ByteArray} {cells:List Value} {A:Option Addr} {l:List G.Atr} (H:Hp h (atC b ty s i cells t A C nm a0 n0 l false)) (hi:i<=s.size) (hl:l.length<=i) (hs:s.size<=262144) (hn:G.dH s n l i≠ .un):
  az Tryz.prog 139 #[ptr b,ptr t] h
   (fun v h'=>∃l' w j A' C',G.dH s n l i= .ok (l',w,j)/\i<j/\j<=s.size/\l'.length<=j/\v= .tuple #[]/\Sq h (atC b ty s i cells t A C nm a0 n0 l false) h' (atC b ty s j cells t A' C' nm a0 n0 l' w))
   (fun v h'=>∃f,G.dH s n l i= .no f/\v=flx f/\Fr (aA (atC b ty s i cells t A C nm a0 n0 l false)) h h'):=by
 generalize hC:atC b ty s i cells t A C nm a0 n0 l false=C0 at H ⊢
 have Q0:Sq h C0 h (atC b ty s i cells t A C nm a0 n0 l false):=by rw[hC];exact Sq.start H
 apply vD
 unfold Dr
 refine⟨fun _ h'=>∃n' l' j A' C',G.dH s n l i=G.dH s n' l' j/\i<=j/\j<=s.size/\l'.length<=j/\Sq h C0 h' (atC b ty s j cells t A' C' nm a0 n0 l' false),pC s b,⟨n,l,i,A,C,rfl,Nat.le_refl _,hi,hl,Q0⟩,?_⟩
 rintro hv ⟨n',l',j,A',C',eL,hij,hj,hlj,Q⟩
 cases n' with
 | zero=>exact absurd (eL.trans rfl) hn
 | succ m=>
 rw[G.dH]at eL
 have Lj:=Q.sy.lx 0 rfl
 have hge:=G.oD G.eu s j
 have hle:=G.qN G.eu s _ j rfl hj
 refine ak [b] (u3 Lj hj hs) (by simp) (fun _ _ r=>r.2.fr) fun v hv2 r=>?_
 obtain⟨rfl,M2⟩:=r
 have Q2:Sq h C0 hv2 (atC b ty s (G.run G.eu s j) cells t A' C' nm a0 n0 l' false):=⟨Q.sy.mv 0 rfl M2,Q.ri⟩
 have L2:=Q2.sy.lx 0 rfl
 simp only at eL
 generalize G.run G.eu s j=j1 at*
 refine⟨_,rfl,bn (lH (c:=62) L2 (by decide)) ⟨_,rfl,af (fun q=>?_) fun q=>?_⟩⟩
 ·rw[if_pos q]at eL
  have:j1<s.size:=G.jw (by omega)
  refine⟨b,0,rfl,_,L2.c1,b,0,rfl,L2.cell,L2.fr,?_⟩
  rw[wrN (by omega)]
  intro hv4
  exact⟨l',false,j1+1,A',C',eL,by omega,by omega,by omega,rfl,Q2.sy.mv 0 rfl (Mv.to L2 (j1+1)),Q2.ri⟩
 rw[if_neg q]at eL
 refine bn (lH (c:=47) L2 (by decide)) ⟨_,rfl,af (fun q2=>?_) fun q2=>?_⟩
 ·rw[if_pos q2]at eL
  have:j1<s.size:=G.jw (by omega)
  refine⟨b,0,rfl,_,L2.c1,b,0,rfl,L2.cell,L2.fr,?_⟩
  rw[wrN (by omega)]
  intro hv6
  have Q6:Sq h C0 hv6 (atC b ty s (j1+1) cells t A' C' nm a0 n0 l' false):=⟨Q2.sy.mv 0 rfl (Mv.to L2 (j1+1)),Q2.ri⟩
  clear_value hv6
  have f6:∀{h'},Fr [b] hv6 h'->Fr (aA C0) h h':=fun f=>Sq.frT Q6 (f.mono fun x hx=>bM.2 ⟨0,_,rfl,by simpa[Ck.ob]using hx⟩)
  refine av [b] (lI (c:=62) (Q6.sy.lx 0 rfl) (by decide) hs) (by simp) (fun _ _ r=>r.2.2.2.fr) (fun _ _ r=>Fr.of_eq r.2.2) (fun v hv7 r=>?_) fun v hv7 r=>?_
  ·obtain⟨e2,q4,rfl,M7⟩:=r
   have Q7:Sq h C0 hv7 (atC b ty s (j1+1+1) cells t A' C' nm a0 n0 l' false):=⟨Q6.sy.mv 0 rfl M7,Q6.ri⟩
   rw[e2]at eL
   refine⟨rfl,t,0,rfl,⟨_,Q7.sy.cellO 1 rfl 4 rfl⟩,Q7.sy.freeO 1 rfl 4,?_⟩
   intro hv8
   exact⟨l',true,j1+1+1,A',C',eL,by omega,by omega,by omega,rfl,Q7.sy.stO 1 rfl 4 (.bool true),Q7.ri⟩
  ·obtain⟨e2,rfl,rfl⟩:=r
   rw[e2]at eL
   exact⟨_,eL,rfl,f6 (Fr.refl _ _)⟩
 rw[if_neg q2]at eL
 have f2:∀{h'},Fr [b] hv2 h'->Fr (aA C0) h h':=fun f=>Sq.frT Q2 (f.mono fun x hx=>bM.2 ⟨0,_,rfl,by simpa[Ck.ob]using hx⟩)
 refine⟨b,0,rfl,_,L2.c1,?_⟩
 refine ao (fun q3=>?_) fun q3=>?_
 rotate_left
 ·rw[q3]at eL
  exact⟨_,eL,rfl,f2 (Fr.refl _ _)⟩
 rw[q3]at eL
 simp only[G.bx]at eL
 have q3:=of_decide_eq_true q3
 refine⟨rfl,b::ag A',by simp,?_⟩
 have Y:=Q2.sy
 have ht:t∉b::ag A':=by
  rw[List.mem_cons,not_or]
  exact⟨Y.ne 1 0 (by decide) rfl rfl (by simp[Ck.ob]) (by simp[Ck.ob]),fun z=>(Y.hp.ap 2 1 _ _ (by decide) rfl rfl t z).1 (by simp[Ck.ob])⟩
 have hb:b∉ag A':=fun z=>(Y.hp.ap 2 0 _ _ (by decide) rfl rfl b z).1 (by simp[Ck.ob])
 have hc3:ac hv2 t (0+3)=some (.slice A' l'.length C'):=Y.cellO 1 rfl 3 rfl
 refine⟨t,0,rfl,ht,_,_,_,hc3,t,0,rfl,ht,_,_,_,hc3,?_⟩
 refine av [b] (CX L2 (iz Y 2 rfl) hb rfl (by omega) (by omega) hs) (by simp) (fun _ _ r=>by obtain⟨_,_,_,_,_,_,m⟩:=r;exact m.fr) (fun _ _ r=>by obtain⟨_,_,_,m⟩:=r;exact m) (fun v hv10 r=>?_) fun v hv10 r=>?_
 rotate_left
 ·obtain⟨f,e3,rfl,m⟩:=r
  rw[e3]at eL
  exact⟨f,eL,rfl,f2 m⟩
 obtain⟨a,k,e3,k1,k2,rfl,M10⟩:=r
 rw[e3]at eL
 simp only[G.Er.bind]at eL
 have Q10:Sq h C0 hv10 (atC b ty s k cells t A' C' nm a0 n0 l' false):=⟨Y.mv 0 rfl M10,Q2.ri⟩
 have bl:∀g∈ag A',g<hv10.size:=fun g hg=>Q10.sy.ownS 2 rfl |>.lt g hg
 refine⟨_,_,_,rfl,M10.fr.mono (by simp),?_⟩
 intro hv11
 have f11:Fr [] hv10 hv11:=Fr.push _ _
 have Q11:=Q10.gr f11
 have s11:hv11.size=hv10.size+1:=by simp[hv11]
 clear_value hv11
 refine⟨(M10.fr.mono (by simp)).trans f11.nil,_,Q11.sy.ownS 2 rfl,fun x hx z=>?_,by omega,by simp only[maxLen];omega,fun sA sC hv12 ow f gA _=>?_⟩
 ·simp only[List.mem_singleton]at hx
  have:=bl x z
  omega
 have Y12:=Q11.sy.appS 2 rfl [a] ow f gA rfl rfl
 refine⟨((M10.fr.mono (by simp)).trans f11.nil).trans (f.mono fun x hx=>List.mem_cons_of_mem _ hx),t,0,rfl,?_,⟨_,Y12.cellO 1 rfl 3 rfl⟩,Y12.freeO 1 rfl 3,?_⟩
 ·have:=(Y.ok (k:=1) rfl:_)
  have:=aO hc3
  have:=M10.fr.size
  omega
 intro hv13
 have Q13:Sq h C0 hv13 (atC b ty s k cells t sA sC nm a0 n0 (l'++[a]) false):=by
  have e1:(l'++[a]).length=l'.length+1:=by simp
  unfold atC tgC
  rw[e1]
  refine⟨Y12.stO 1 rfl 3 (.slice sA (l'.length+1) sC),fun x hx=>Q2.ri x ?_⟩
  simp[rds,atC,Ck.ob,Ck.sl]at hx
 refine⟨⟨m,l'++[a],k,sA,sC,eL,by omega,k2,by simp;omega,Q13⟩,?_⟩
 rw[cI (Q13.sy.lx 0 rfl),cI Lj]
 omega
theorem Aa {h:ab} {b i:Nat} {s nm:ByteArray} (L:Lx h b s i) (hi:i<=s.size) (hs:s.size<=262144):
  az Tryz.prog 140 #[.pointer (some ⟨b,0,none⟩),.string nm] h (fun v h'=>∃j,G.gH s nm i= .ok j/\i<j/\j<=s.size/\v= .tuple #[]/\Mv b h h' j) (fun v h'=>∃f,G.gH s nm i= .no f/\v=flx f/\Fr [b] h h'):=by
 apply vE
 unfold Ds
 refine av [b] (lI (c:=47) L (by decide) hs) (by simp) (fun _ _ r=>r.2.2.2.fr) (fun _ _ r=>Fr.of_eq r.2.2) (fun v h1 r=>?_) fun v h1 r=>?_
 rotate_left
 ·obtain⟨e,rfl,rfl⟩:=r
  exact⟨_,by unfold G.gH;rw[e];rfl,rfl,Fr.refl _ _⟩
 obtain⟨e1,i1,rfl,M1⟩:=r
 have L1:=L.mv M1
 refine⟨rfl,b,0,rfl,_,L1.c1,?_⟩
 refine av [b] (u4 L1 (by omega) hs) (by simp) (fun _ _ r=>by obtain⟨_,_,_,_,_,_,m⟩:=r;exact m.fr) (fun _ _ r=>Fr.of_eq r.2.2) (fun v h2 r=>?_) fun v h2 r=>?_
 rotate_left
 ·obtain⟨e,rfl,rfl⟩:=r
  exact⟨_,by unfold G.gH;rw[e1];simp only[G.Er.bind];rw[e],rfl,M1.fr⟩
 obtain⟨x,j,e2,j1,j2,rfl,M2⟩:=r
 have M2:=M1.trans M2
 have eC:G.gH s nm i=G.bx (G.eqB x nm) (i+1,15) (G.want s 62 (G.run G.eu s j)):=by
  unfold G.gH;rw[e1];simp only[G.Er.bind];rw[e2]
 refine⟨x,rfl,?_⟩
 rw[fK,<-cJ]
 refine ao (fun q=>⟨rfl,?_⟩) fun q=>⟨_,by rw[eC,q];rfl,rfl,M2.fr⟩
 rw[q]at eC
 simp only[G.bx]at eC
 have hge:=G.oD G.eu s j
 have hle:=G.qN G.eu s _ j rfl j2
 refine ak [b] (u3 (L.mv M2) j2 hs) (by simp) (fun _ _ r=>r.2.fr) fun v h3 r=>?_
 obtain⟨rfl,M3⟩:=r
 have M3:=M2.trans M3
 refine⟨_,rfl,?_⟩
 refine av [b] (lI (c:=62) (L.mv M3) (by decide) hs) (by simp) (fun _ _ r=>r.2.2.2.fr) (fun _ _ r=>Fr.of_eq r.2.2) (fun v h4 r=>?_) fun v h4 r=>?_
 ·obtain⟨e4,i4,rfl,M4⟩:=r
  exact⟨rfl,_,by rw[eC,e4],by omega,by omega,rfl,M3.trans M4⟩
 ·obtain⟨e,rfl,rfl⟩:=r
  exact⟨_,by rw[eC,e],rfl,M3.fr⟩
end Go.Proofs.YtlflalecmhgmjaaGreatDoor.N
