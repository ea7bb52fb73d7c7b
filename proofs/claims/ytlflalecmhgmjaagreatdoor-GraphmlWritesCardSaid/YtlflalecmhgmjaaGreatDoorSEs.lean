/- The document's writer of GraphML answers what graphml.Write answers. Conditions: what the texts of numbers are. -/
import Derived.Test.YtlflalecmhgmjaaGreatDoorSRw
import Derived.Test.YtlflalecmhgmjaaGreatDoorSXr
import Derived.Test.YtlflalecmhgmjaaGreatDoorWEnv
import Derived.Test.YtlflalecmhgmjaaGreatDoorSWr
import Derived.Test.YtlflalecmhgmjaaGreatDoorTLib
set_option linter.unusedVariables false
set_option linter.unusedSimpArgs false
open Go.IntKind (i64 u64 u8 i32)
namespace Go.Proofs.YtlflalecmhgmjaaGreatDoor.N
open Go.Proofs.YtlflalecmhgmjaaGreatDoor
open Go.X
open Go.Proofs
set_option maxRecDepth 100000
def nX1 (v:Nat):List UInt8:=[32,32,32,32,60,110,111,100,101,32,105,100,61,34,110]++G.dec v++[34]
def dX (k t:List UInt8):List UInt8:=[32,32,32,32,32,32,60,100,97,116,97,32,107,101,121,61,34]++k++[34,62]++t++[60,47,100,97,116,97,62,10]
theorem oO (k t:List UInt8):(dX k t).length=27+k.length+t.length:=by simp[dX];omega
def nX2 (esc:ByteArray->List UInt8):Option ByteArray->List UInt8
 | none=>[]
 | some x=>dX [100,48] (esc x)
def nX3 (tx:Nat->List UInt8):Option (Nat × Nat)->List UInt8
 | none=>[]
 | some p=>dX [100,49] (tx p.1)++dX [100,50] (tx p.2)
theorem sG (tx:Nat->List UInt8) (esc:ByteArray->List UInt8) (lab:Option ByteArray) (sp:Option (Nat × Nat)) (v:Nat):
  gU tx esc lab sp v=nX1 v++(if lab=none/\sp=none then [47,62,10]else [62,10]++(nX2 esc lab++(nX3 tx sp++[32,32,32,32,60,47,110,111,100,101,62,10]))):=by
 cases lab<;>cases sp<;>simp[gU,elX,bU,iw,lnX,bZ,G.ind,G.mkB,nX1,nX2,nX3,dX,List.replicate]
def eX1 (a b:Nat):List UInt8:=[32,32,32,32,60,101,100,103,101,32,115,111,117,114,99,101,61,34,110]++G.dec a++[34,32,116,97,114,103,101,116,61,34,110]++G.dec b++[34]
def eX2 (tx:Nat->List UInt8):Option Nat->List UInt8
 | none=>[47,62,10]
 | some x=>[62,10]++dX [100,51] (tx x)++[32,32,32,32,60,47,101,100,103,101,62,10]
theorem sH (tx:Nat->List UInt8) (w:Option Nat) (e:Nat × Nat):gh tx w e=eX1 e.1 e.2++eX2 tx w:=by
 cases w<;>simp[gh,elX,gW,iw,lnX,bZ,G.ind,G.mkB,eX1,eX2,dX,List.replicate]
def grX (d:Bool):List UInt8:=if d then [32,32,60,103,114,97,112,104,32,101,100,103,101,100,101,102,97,117,108,116,61,34,100,105,114,101,99,116,101,100,34,62,10]else [32,32,60,103,114,97,112,104,32,101,100,103,101,100,101,102,97,117,108,116,61,34,117,110,100,105,114,101,99,116,101,100,34,62,10]
def lJ :List UInt8:=lnX 0 [lN]++lnX 0 [lO]
def kX0 (n:Nat):List UInt8:=if 0<n then hY ⟨#[100,48]⟩ ⟨#[110,111,100,101]⟩ ⟨#[108,97,98,101,108]⟩ ⟨#[115,116,114,105,110,103]⟩else []
def kX1 (n:Nat):List UInt8:=if 0<n then hY ⟨#[100,49]⟩ ⟨#[110,111,100,101]⟩ ⟨#[120]⟩ ⟨#[100,111,117,98,108,101]⟩++hY ⟨#[100,50]⟩ ⟨#[110,111,100,101]⟩ ⟨#[121]⟩ ⟨#[100,111,117,98,108,101]⟩else []
def kX3 (n:Nat):List UInt8:=if 0<n then hY ⟨#[100,51]⟩ ⟨#[101,100,103,101]⟩ ⟨#[119,101,105,103,104,116]⟩ ⟨#[100,111,117,98,108,101]⟩else []
def tlX :List UInt8:=[32,32,60,47,103,114,97,112,104,62,10,60,47,103,114,97,112,104,109,108,62,10]
theorem CQ (dir:Bool):lnX 1 [⟨#[60,103,114,97,112,104,32,101,100,103,101,100,101,102,97,117,108,116,61,34]⟩,jd dir,⟨#[34,62]⟩]=grX dir:=by cases dir<;>rfl
theorem CR (tx:Nat->List UInt8) (esc:ByteArray->List UInt8) (n:Nat) (dir:Bool) (es:List (Nat × Nat)) (ls:List ByteArray) (ss:List (Nat × Nat)) (ws:List Nat):
  wrX tx esc n dir es ls ss ws=lJ++kX0 ls.length++kX1 ss.length++kX3 ws.length++grX dir++(bX tx esc ls ss n 0++(ci tx es ws++tlX)):=by
 unfold wrX dJ
 rw[CQ,show tlX=lnX 1 [⟨#[60,47,103,114,97,112,104,62]⟩]++lnX 0 [⟨#[60,47,103,114,97,112,104,109,108,62]⟩]from rfl]
 unfold kP kX0 kX1 kX3 lJ
 simp only[List.append_assoc]
theorem yj {a b c d:ByteArray} (hs:a.size<=100/\b.size<=100/\c.size<=100/\d.size<=100) {h:ab}:ae Tryz.prog 75 #[.string a,.string b,.string c,.string d] h fun v h'=>v= .string (G.mkB (hY a b c d))/\Fr [] h h':=by
 apply yG
 unfold S75
 simp only[ByteArray.size_append,fR,List.size_toArray,List.length_cons,List.length_nil]
 refine⟨by omega,by omega,by omega,by omega,by omega,by omega,by omega,by omega,?_,Fr.refl _ _⟩
 rw[<-kL (_++_)]
 simp[hY,lnX,bZ,G.ind,List.replicate]
theorem yk {k t:ByteArray} (hs:k.size<=100/\t.size<=100000) {h:ab}:ae Tryz.prog 76 #[.string k,.string t] h fun v h'=>v= .string (G.mkB (dX k.data.toList t.data.toList))/\Fr [] h h':=by
 apply yH
 unfold S76
 simp only[ByteArray.size_append,fR,List.size_toArray,List.length_cons,List.length_nil]
 refine⟨by omega,by omega,by omega,by omega,?_,Fr.refl _ _⟩
 rw[<-kL (_++_)]
 simp[dX]
set_option maxHeartbeats 1000000 in
theorem E1 {s:ByteArray} (hs:s.size<=1000) {h:ab}:ae Tryz.prog 77 #[.string s] h fun v h'=>v= .string (G.mkB (aJ s.data.toList))/\Fr [] h h':=by
 apply yI
 unfold S77
 have Y0:Sy h [] h [byC none 0 []]:=Sy.nilS (sy0 (Fr.refl [] h)) (eK .u8) 5
 refine⟨fun l h'=>∃(k:Nat) (A:Option Addr) (c:Nat),l=[.slice A (aJ (s.data.toList.take k)).length c,.int .i64 (k:Int)]/\k<=s.size/\Sy h [] h' [byC A c (aJ (s.data.toList.take k))],fun l _=>match l with
  | [_,.int _ i]=>s.size-i.toNat
  | _=>0,⟨0,none,0,rfl,Nat.zero_le _,Y0⟩,?_⟩
 rintro bA bL bC i hv ⟨k,A,c,e,hk,Y⟩
 cases e
 have hsl:s.data.toList.length=s.size:=rfl
 have hl:(aJ (s.data.toList.take k)).length<=5000:=by
  have:=(iU (s.data.toList.take k)).2
  rw[List.length_take]at this
  omega
 refine af (fun q=>?_) fun q=>?_
 ·have hlt:k<s.size:=by omega
  obtain⟨x,hx,-⟩:=get_at hlt
  have hxl:s.data.toList[k]? =some x:=by rw[Array.getElem?_toList];exact hx
  have ek:aJ (s.data.toList.take (k+1))=aJ (s.data.toList.take k)++aZ x:=by rw[dj hxl,jE];simp[aJ]
  have tn:∀n:Nat,(((x.toNat:Nat):Int)==(n:Int))=decide (x.toNat=n):=fun n=>by rw[Bool.eq_iff_iff];simp;omega
  refine⟨by omega,q,x,by rw[Int.toNat_natCast];exact hx,fun l h'=>∃(A:Option Addr) (c:Nat),l=[.slice A (aJ (s.data.toList.take (k+1))).length c]/\Sy h [] h' [byC A c (aJ (s.data.toList.take (k+1)))],⟨fun q1=>?_,fun q1=>?_⟩,?_⟩
  ·have e:aZ x=(⟨#[38,97,109,112,59]⟩:ByteArray).data.toList:=by
    have:x=38:=UInt8.toNat_inj.1 (Int.ofNat.inj (by simpa using q1))
    subst this;rfl
   rw[ek,e]
   refine AM (H:=[]) _ 0 Y rfl (by simp) (by show _+5<=_;omega) fun sA sC h' Y' _=>⟨sA,sC,by rw[List.length_append];rfl,Y'⟩
  ·refine⟨fun l h'=>∃(A:Option Addr) (c:Nat),l=[.slice A (aJ (s.data.toList.take (k+1))).length c]/\Sy h [] h' [byC A c (aJ (s.data.toList.take (k+1)))],⟨fun q2=>?_,fun q2=>?_⟩,fun _ _ _ _ r=>r⟩
   ·have e:aZ x=(⟨#[38,108,116,59]⟩:ByteArray).data.toList:=by
     have:x=60:=UInt8.toNat_inj.1 (Int.ofNat.inj (by simpa using q2))
     subst this;rfl
    rw[ek,e]
    refine AM (H:=[]) _ 0 Y rfl (by simp) (by show _+4<=_;omega) fun sA sC h' Y' _=>⟨sA,sC,by rw[List.length_append];rfl,Y'⟩
   ·refine⟨fun l h'=>∃(A:Option Addr) (c:Nat),l=[.slice A (aJ (s.data.toList.take (k+1))).length c]/\Sy h [] h' [byC A c (aJ (s.data.toList.take (k+1)))],⟨fun q3=>?_,fun q3=>?_⟩,fun _ _ _ _ r=>r⟩
    ·have e:aZ x=(⟨#[38,103,116,59]⟩:ByteArray).data.toList:=by
      have:x=62:=UInt8.toNat_inj.1 (Int.ofNat.inj (by simpa using q3))
      subst this;rfl
     rw[ek,e]
     refine AM (H:=[]) _ 0 Y rfl (by simp) (by show _+4<=_;omega) fun sA sC h' Y' _=>⟨sA,sC,by rw[List.length_append];rfl,Y'⟩
    ·have e:aZ x=[x]:=by
      have n1:x≠38:=fun z=>by subst z;simp at q1
      have n2:x≠60:=fun z=>by subst z;simp at q2
      have n3:x≠62:=fun z=>by subst z;simp at q3
      unfold aZ
      rw[if_neg n1,if_neg n2,if_neg n3]
     rw[ek,e]
     refine⟨by omega,q,x,by rw[Int.toNat_natCast];exact hx,?_⟩
     intro h5
     exact EZ x 0 Y rfl (by omega) _ fun sA sC h' Y'=>⟨sA,sC,by rw[List.length_append];rfl,Y'⟩
  ·rintro bA4 bL4 bC4 h9 ⟨A4,c4,e,Y9⟩
   cases e
   rw[wrN (by omega)]
   exact⟨⟨k+1,_,_,rfl,hlt,Y9⟩,by show s.size-((k+1:Nat):Int).toNat<s.size-(k:Int).toNat;omega⟩
 ·have hke:k=s.data.toList.length:=by show k=s.size;omega
  subst hke
  rw[List.take_length]at Y ⊢
  exact⟨bI (aJ s.data.toList),by have:=Y.readsS 0 rfl;rw[oz]at this;exact this,by rw[jA],Y.fr⟩
def nn (x:ByteArray):List UInt8:=aJ x.data.toList
section
variable {gl:GL} {h:ab} {tx:Nat->List UInt8} {aE aL aS aW:Option Addr} {nE cE nL cL nS cS nW cW:Nat} {n:Int} {es:Es} {ls:List ByteArray} {ss:List (Nat × Nat)} {ws:List Nat} {dir:Bool}
set_option maxHeartbeats 8000000 in
theorem E2 (Hm:Hp h (dV gl aE nE cE es aL nL cL ls aS nS cS ss aW nW cW ws)) (hll:ls.length<=9223372036854775806) (ht:∀p∈ss,TxB gl tx p.1/\TxB gl tx p.2) (htw:∀x∈ws,TxB gl tx x):
  ae Tryz.prog 36 #[.agg #[.int .i64 n,.slice aE nE cE,.bool dir,.slice aL nL cL,.slice aS nS cS,.slice aW nW cW]] h fun w h'=>w= .tuple #[.string (G.mkB (kZ tx nn n dir es ls ss ws).1),.int .i64 (kZ tx nn n dir es ls ss ws).2]/\Fr [] h h':=by
 apply yJ
 unfold S36
 intro h1
 have Q1:Sq h (dV gl aE nE cE es aL nL cL ls aS nS cS ss aW nW cW ws) h1 (dB gl aE nE cE es aL nL cL ls aS nS cS ss aW nW cW ws h.size):=⟨(Sy.start Hm).junk _,fun x hx=>.inl (by simpa[rds,dB,Ck.junk]using hx)⟩
 clear_value h1
 refine ak (R:=fun v h'=>v= .bool (du n es ls ss ws)/\Fr [] h1 h') [] ?_ (by simp) (fun _ _ r=>r.2) ?_
 ·refine(Cg (n:=n) (es:=es) (dr:=dir) (ls:=ls) (ss:=ss) (ws:=ws) (R:=fun r=>r=du n es ls ss ws) (by omega) rfl h1 aE nE cE aL nL cL aS nS cS aW nW cW (Q1.pick [1,2,3,4] rfl).hp).mono ?_
  rintro v h' ⟨r,Y,rfl,rfl⟩
  exact⟨rfl,Y.fr⟩
 rintro v h2 ⟨rfl,f2⟩
 have Q2:=Q1.gr f2
 refine⟨_,rfl,bw (fun q=>⟨?_,Q2.fr⟩) fun q=>?_⟩
 ·unfold kZ;rw[if_pos q];rfl
 have hm:=q
 unfold du at hm
 simp only[Bool.and_eq_true]at hm
 obtain⟨m1,m2,m3,m4,m5⟩:=hm
 obtain⟨g0,g1,gm,ge⟩:=Ci m1
 obtain⟨N,rfl⟩:∃N:Nat,n=(N:Int):=⟨n.toNat,by omega⟩
 have hN:N<=1024:=by omega
 have non:∀{a b:Nat},aU (a:Int) (b:Int)=true->a=0\/a=b:=fun{a b} h=>by unfold aU at h;grind
 have hL:=non m2
 have hS:=non m3
 have hW:=non m4
 have lE:=Q2.sy.lenV 1 rfl
 have lL:=Q2.sy.lenV 2 rfl
 have lS:=Q2.sy.lenV 3 rfl
 have lW:=Q2.sy.lenV 4 rfl
 have hlp:∀s∈ls,s.size<=256:=fun s hs=>by
  have:=List.all_eq_true.1 m5 s hs
  unfold jh at this
  grind
 obtain⟨W,hWd⟩:∃W,W=wrX tx nn N dir (ndE es) ls ss ws:=⟨_,rfl⟩
 have dE:ndE es=es.map fun e=>(e.1.toNat,e.2.toNat):=rfl
 obtain⟨C,hC⟩:∃C,C=dV gl aE nE cE es aL nL cL ls aS nS cS ss aW nW cW ws:=⟨_,rfl⟩
 rw[<-hC]at Q2
 intro h3
 have Q3:Sq h C h3 (sT (some ⟨h2.size,0,none⟩) 95 95 lJ++dB gl aE nE cE es aL nL cL ls aS nS cS ss aW nW cW ws h.size):=by
  have Y:=(Q2.sy.litS (E:=eK .u8) (ty:=5) (bI lJ) (vs:=((eK .u8).l (bI lJ)).toArray) rfl (by decide)).pick [6,0,1,2,3,4,5] rfl
  exact⟨Y,fun x hx=>Q2.ri x (by simpa[rds,sT,Ck.sl,dB,dV,pk,Ck.junk,Ck.vw,Ck.glob]using hx)⟩
 obtain⟨B,hB⟩:∃B,B=dB gl aE nE cE es aL nL cL ls aS nS cS ss aW nW cW ws h.size:=⟨_,rfl⟩
 rw[<-hB]at Q2 Q3
 have hd:Hd [h.size] B:=by
  intro x hx
  obtain rfl:x=h.size:=by simpa using hx
  exact⟨5,by rw[hB];rfl⟩
 have hlt:=(hd.apart (D:=[]) Q2 h.size (by simp)).1
 refine⟨h2.size,0,rfl,by omega,_,_,ba,?_⟩
 intro h4
 have Q4:Sq h C h4 (sT (some ⟨h2.size,0,none⟩) 95 95 lJ++B):=Sq.mark Q3
 clear_value h4 h3
 clear Q3
 have kl:∀{a b c d:ByteArray},a.size<=100/\b.size<=100/\c.size<=100/\d.size<=100->(hY a b c d).length<=500:=fun{a b c d} hs=>by rw[iu];omega
 refine⟨fun lz h'=>∃A m c,lz=[.slice A m c]/\m<=1000/\Sq h C h' (sT A m c (lJ++kX0 ls.length)++B),af (fun hp=>?_) fun hp=>⟨_,_,_,rfl,by omega,?_⟩,?_⟩
 ·refine ak [] (yj (by decide)) (by simp) (fun _ _ r=>r.2) ?_
  rintro w h5 ⟨rfl,f5⟩
  have hk:=kl (a:=⟨#[100,48]⟩) (b:=⟨#[110,111,100,101]⟩) (c:=⟨#[108,97,98,101,108]⟩) (d:=⟨#[115,116,114,105,110,103]⟩) (by decide)
  refine⟨_,rfl,jg (Q4.gr f5) hd (by rw[aB];omega) fun A1 c1 h6 Q6 f6=>⟨A1,_,c1,rfl,by rw[aB];omega,?_⟩⟩
  rw[jB]at Q6
  unfold kX0;rw[if_pos (by omega)];exact Q6
 ·unfold kX0;rw[if_neg (by omega),List.append_nil];exact Q4
 rintro bA bL bC h7 ⟨A,m,c,e,hm1,Q7⟩
 cases e
 clear Q4
 refine⟨fun lz h'=>∃A m c,lz=[.slice A m c]/\m<=3000/\Sq h C h' (sT A m c (lJ++kX0 ls.length++kX1 ss.length)++B),af (fun hp=>?_) fun hp=>⟨_,_,_,rfl,by omega,?_⟩,?_⟩
 ·refine ak [] (yj (by decide)) (by simp) (fun _ _ r=>r.2) ?_
  rintro w h8 ⟨rfl,f8⟩
  refine⟨_,rfl,?_⟩
  refine ak [] (yj (by decide)) (by simp) (fun _ _ r=>r.2) ?_
  rintro w h9 ⟨rfl,f9⟩
  have hk1:=kl (a:=⟨#[100,49]⟩) (b:=⟨#[110,111,100,101]⟩) (c:=⟨#[120]⟩) (d:=⟨#[100,111,117,98,108,101]⟩) (by decide)
  have hk2:=kl (a:=⟨#[100,50]⟩) (b:=⟨#[110,111,100,101]⟩) (c:=⟨#[121]⟩) (d:=⟨#[100,111,117,98,108,101]⟩) (by decide)
  have ek:∀a b:List UInt8,G.mkB a++G.mkB b=G.mkB (a++b):=fun a b=>by apply ByteArray.ext;apply Array.ext';simp[G.mkB]
  refine⟨_,rfl,by rw[aB,aB];omega,?_⟩
  rw[ek]
  refine jg ((Q7.gr f8).gr f9) hd (by rw[aB,List.length_append];omega) fun A1 c1 h6 Q6 f6=>⟨A1,_,c1,rfl,by rw[aB,List.length_append];omega,?_⟩
  rw[jB]at Q6
  unfold kX1;rw[if_pos (by omega)];exact Q6
 ·unfold kX1;rw[if_neg (by omega),List.append_nil];exact Q7
 rintro bA bL bC h11 ⟨A,m,c,e,hm2,Q11⟩
 cases e
 clear Q7
 refine⟨fun lz h'=>∃A m c,lz=[.slice A m c]/\m<=4000/\Sq h C h' (sT A m c (lJ++kX0 ls.length++kX1 ss.length++kX3 ws.length)++B),af (fun hp=>?_) fun hp=>⟨_,_,_,rfl,by omega,?_⟩,?_⟩
 ·refine ak [] (yj (by decide)) (by simp) (fun _ _ r=>r.2) ?_
  rintro w h5 ⟨rfl,f5⟩
  have hk:=kl (a:=⟨#[100,51]⟩) (b:=⟨#[101,100,103,101]⟩) (c:=⟨#[119,101,105,103,104,116]⟩) (d:=⟨#[100,111,117,98,108,101]⟩) (by decide)
  refine⟨_,rfl,jg (Q11.gr f5) hd (by rw[aB];omega) fun A1 c1 h6 Q6 f6=>⟨A1,_,c1,rfl,by rw[aB];omega,?_⟩⟩
  rw[jB]at Q6
  unfold kX3;rw[if_pos (by omega)];exact Q6
 ·unfold kX3;rw[if_neg (by omega),List.append_nil];exact Q11
 rintro bA bL bC h14 ⟨A,m,c,e,hm3,Q14⟩
 cases e
 clear Q11
 refine⟨fun lz h'=>∃A m c,lz=[.slice A m c]/\m<=5000/\Sq h C h' (sT A m c (lJ++kX0 ls.length++kX1 ss.length++kX3 ws.length++grX dir)++B),cm (fun e=>?_) fun e=>?_,?_⟩
 ·refine jg Q14 hd (by show _+33<=_;omega) fun A1 c1 h6 Q6 f6=>⟨A1,_,c1,rfl,by show _+33<=_;omega,?_⟩
  rw[e];exact Q6
 ·refine jg Q14 hd (by show _+35<=_;omega) fun A1 c1 h6 Q6 f6=>⟨A1,_,c1,rfl,by show _+35<=_;omega,?_⟩
  rw[e];exact Q6
 rintro bA bL bC h17 ⟨A,m,c,e,hm4,Q17⟩
 cases e
 clear Q14
 obtain⟨T,hT⟩:∃T,T=ci tx (ndE es) ws++tlX:=⟨_,rfl⟩
 have eW:W=lJ++kX0 ls.length++kX1 ss.length++kX3 ws.length++grX dir++(bX tx nn ls ss N 0++T):=by rw[hWd,CR,hT]
 refine⟨fun lz h'=>∃(v:Nat) (A:Option Addr) (m c:Nat) (l:List UInt8),[.slice A m c,.int .i64 (v:Int)]=lz/\v<=N/\Sq h C h' (sT A m c l++B)/\l++(bX tx nn ls ss (N-v) v++T)=W/\m<=5000+3000*v,
  fun lz _=>match lz with | [_,.int _ i]=>((N:Int)-i).toNat | _=>0,⟨0,_,_,_,_,rfl,by omega,Q17,eW.symm,by omega⟩,?_⟩
 rintro bA bL bC i h18 ⟨v,A,m,c,l,hlz,hv,Q18,hl,hm⟩
 simp only[List.cons.injEq,Value.slice.injEq,Value.int.injEq,true_and,and_true]at hlz
 obtain⟨⟨rfl,rfl,rfl⟩,rfl⟩:=hlz
 have k2:∀{A:Option Addr} {m c:Nat} {l:List UInt8},(sT A m c l++B)[2]? =some (Ck.vw eP aE nE cE es):=by intros;rw[hB];rfl
 have k3:∀{A:Option Addr} {m c:Nat} {l:List UInt8},(sT A m c l++B)[3]? =some (Ck.vw eS aL nL cL ls):=by intros;rw[hB];rfl
 have k4:∀{A:Option Addr} {m c:Nat} {l:List UInt8},(sT A m c l++B)[4]? =some (Ck.vw eFF aS nS cS ss):=by intros;rw[hB];rfl
 have k5:∀{A:Option Addr} {m c:Nat} {l:List UInt8},(sT A m c l++B)[5]? =some (Ck.vw eF aW nW cW ws):=by intros;rw[hB];rfl
 have gG:=fun{A' n' c' l' h'} (Q:Sq h C h' (sT A' n' c' l'++B))=>(Q.sy.ok (k:=1) (c:=Ck.glob gl) (by rw[hB];rfl):Gl gl h')
 have apV:∀{A':Option Addr} {n' c':Nat} {l':List UInt8} {h':ab},Sq h C h' (sT A' n' c' l'++B)->∀{p:Nat},p∈ij aS nS->p∉ag A':=fun{_ _ _ _ _} Q {p} hp hq=>(Q.sy.hp.ap 0 4 _ _ (by decide) rfl (by rw[hB];rfl) p hq).2 hp
 have apE:∀{A':Option Addr} {n' c':Nat} {l':List UInt8} {h':ab},Sq h C h' (sT A' n' c' l'++B)->∀{p:Nat},p∈ij aE nE->p∉ag A':=fun{_ _ _ _ _} Q {p} hp hq=>(Q.sy.hp.ap 0 2 _ _ (by decide) rfl (by rw[hB];rfl) p hq).2 hp
 refine af (fun hlt=>?_) fun hlt=>?_
 ·have hvN:v<N:=by omega
  have lD:=fZ (n:=v) (by omega)
  have el1:(nX1 v).length=16+(G.dec v).length:=by simp[nX1];omega
  refine⟨fun lz h'=>∃A m' c,lz=[.slice A m' c]/\m'<=m+2900/\Sq h C h' (sT A m' c (l++gU tx nn ls[v]? ss[v]? v)++B),?_,?_⟩
  ·refine ak (R:=fun w h'=>w= .string (G.mkB (G.dec v))/\Fr [] h18 h') [] ?_ (by simp) (fun _ _ r=>r.2) ?_
   ·exact(zR v (by omega) (R:=fun s=>s.data.toList=G.dec v) (fun s hs=>hs) h18 (Hp.nil _)).mono fun w h' ⟨s,Y,e,q⟩=>⟨by rw[e,<-q,kL],Y.fr⟩
   rintro w h19 ⟨rfl,f19⟩
   have Q19:=Q18.gr f19
   refine⟨_,rfl,?_,?_,?_⟩
   ·simp only[ByteArray.size_append,aB,fR,List.size_toArray,List.length_cons,List.length_nil];omega
   ·simp only[ByteArray.size_append,aB,fR,List.size_toArray,List.length_cons,List.length_nil];omega
   rw[Co,show([32,32,32,32,60,110,111,100,101,32,105,100,61,34,110]++G.dec v++[34]:List UInt8)=nX1 v from rfl]
   refine jg Q19 hd (by rw[aB];omega) fun A1 c1 h20 Q20 f20=>?_
   rw[jB,aB]at Q20
   rw[aB]
   refine⟨fun hz=>?_,fun hz=>?_⟩
   ·have hz0:ls.length=0/\ss.length=0:=by
     rw[wr (by omega) (by omega)]at hz
     have:((nL:Nat):Int)+((nS:Nat):Int)=0:=by simpa using hz
     omega
    refine jg (s:=⟨#[47,62,10]⟩) Q20 hd (by show _+3<=_;omega) fun A2 c2 h21 Q21 f21=>⟨A2,_,c2,rfl,by show _+3<=_;omega,?_⟩
    rw[sG,List.getElem?_eq_none (by omega),List.getElem?_eq_none (by omega),if_pos ⟨rfl,rfl⟩,<-List.append_assoc]
    exact Q21
   ·have hnz:¬(ls.length=0/\ss.length=0):=by
     intro hz0
     rw[wr (by omega) (by omega)]at hz
     have:¬((nL:Nat):Int)+((nS:Nat):Int)=0:=by simpa using hz
     omega
    have hnn:¬(ls[v]? =none/\ss[v]? =none):=by
     rintro⟨z1,z2⟩
     rw[List.getElem?_eq_none_iff]at z1 z2
     omega
    refine jg (s:=⟨#[62,10]⟩) Q20 hd (by show _+2<=_;omega) fun A2 c2 h22 Q22 f22=>?_
    refine⟨fun lz h'=>∃A c m',lz=[.slice A m' c]/\m'<=m+1700/\Sq h C h' (sT A m' c (l++nX1 v++[62,10]++nX2 nn ls[v]?)++B),af (fun hp=>?_) fun hp=>⟨A2,c2,_,rfl,by show _+2<=_;omega,?_⟩,?_⟩
    ·have hx:ls[v]? =some ls[v]:=List.getElem?_eq_getElem (by omega)
     generalize ls[v]=x at hx
     have hxs:=hlp x (List.mem_of_getElem? hx)
     obtain⟨b3,o,ea,_⟩:=Q22.sy.atV 3 k3 (i:=(v:Int)) (by omega) (by omega)
     refine⟨b3,o,ea,by omega,by omega,x,Q22.sy.cellV 3 k3 ea (i:=v) (t:=0) hx rfl,?_⟩
     refine ak [] (E1 (by omega)) (by simp) (fun _ _ r=>r.2) ?_
     rintro w h23 ⟨rfl,f23⟩
     have lq:=(iU x.data.toList).2
     have hxl:x.data.toList.length=x.size:=rfl
     refine⟨_,rfl,?_⟩
     refine ak [] (yk ⟨by decide,by rw[aB];omega⟩) (by simp) (fun _ _ r=>r.2) ?_
     rintro w h24 ⟨rfl,f24⟩
     rw[jB]
     have dl:=oO (⟨#[100,48]⟩:ByteArray).data.toList (aJ x.data.toList)
     have d2:(⟨#[100,48]⟩:ByteArray).data.toList.length=2:=rfl
     refine⟨_,rfl,jg ((Q22.gr f23).gr f24) hd (by rw[aB];show _+2+_<=_;omega) fun A3 c3 h25 Q25 f25=>⟨A3,c3,_,rfl,by rw[aB];show _+2+_<=_;omega,?_⟩⟩
     rw[jB]at Q25
     rw[hx];exact Q25
    ·rw[List.getElem?_eq_none (by omega)];show Sq h C h22 (sT A2 _ c2 (_++[])++B)
     rw[List.append_nil];exact Q22
    rintro bA bL bC h26 ⟨A3,c3,m3',hlz,hm3,Q26⟩
    simp only[List.cons.injEq,Value.slice.injEq,and_true]at hlz
    obtain⟨rfl,rfl,rfl⟩:=hlz
    refine⟨fun lz h'=>∃A c m',lz=[.slice A m' c]/\m'<=m+2500/\Sq h C h' (sT A m' c (l++nX1 v++[62,10]++nX2 nn ls[v]? ++nX3 tx ss[v]?)++B),af (fun hp=>?_) fun hp=>⟨bA,bC,_,rfl,by omega,?_⟩,?_⟩
    ·have hx:ss[v]? =some ss[v]:=List.getElem?_eq_getElem (by omega)
     generalize ss[v]=x at hx
     obtain⟨⟨⟨_,t1⟩,u1⟩,⟨_,t2⟩,u2⟩:=ht x (List.mem_of_getElem? hx)
     obtain⟨b4,o2,ea,_⟩:=Q26.sy.atV 4 k4 (i:=(v:Int)) (by omega) (by omega)
     have hpr:b4∈ij aS nS:=rZ ea (by omega)
     refine⟨ag bA,fun x hx w=>(hd.apart Q26 x hx).2 (by simpa[aA,sT,Ck.sl]using w),b4,o2,ea,by omega,by omega,apV Q26 hpr,x.1,Q26.sy.cellV 4 k4 ea (i:=v) (t:=0) hx rfl,b4,o2,ea,by omega,by omega,apV Q26 hpr,x.2,Q26.sy.cellV 4 k4 ea (i:=v) (t:=1) hx rfl,?_⟩
     refine ak [] (u1 _ (gG Q26)) (by simp) (fun _ _ r=>r.2) ?_
     rintro w h27 ⟨rfl,f27⟩
     have Q27:=Q26.gr f27
     refine⟨_,rfl,f27.mono (by simp),?_⟩
     refine ak [] (yk ⟨by decide,by rw[aB];omega⟩) (by simp) (fun _ _ r=>r.2) ?_
     rintro w h28 ⟨rfl,f28⟩
     have Q28:=Q27.gr f28
     have F28:Fr (ag bA) h26 h28:=(f27.mono (by simp)).trans (f28.mono (by simp))
     refine⟨_,rfl,F28,?_⟩
     refine ak [] (u2 _ (gG Q28)) (by simp) (fun _ _ r=>r.2) ?_
     rintro w h29 ⟨rfl,f29⟩
     have Q29:=Q28.gr f29
     have F29:=F28.trans (f29.mono (N:=ag bA) (by simp))
     refine⟨_,rfl,F29,?_⟩
     refine ak [] (yk ⟨by decide,by rw[aB];omega⟩) (by simp) (fun _ _ r=>r.2) ?_
     rintro w h30 ⟨rfl,f30⟩
     have Q30:=Q29.gr f30
     have F30:=F29.trans (f30.mono (N:=ag bA) (by simp))
     rw[jB,jB]
     have ek:∀a b:List UInt8,G.mkB a++G.mkB b=G.mkB (a++b):=fun a b=>by apply ByteArray.ext;apply Array.ext';simp[G.mkB]
     have dl1:=oO (⟨#[100,49]⟩:ByteArray).data.toList (tx x.1)
     have dl2:=oO (⟨#[100,50]⟩:ByteArray).data.toList (tx x.2)
     have d2:(⟨#[100,49]⟩:ByteArray).data.toList.length=2:=rfl
     have d3:(⟨#[100,50]⟩:ByteArray).data.toList.length=2:=rfl
     refine⟨_,rfl,F30,by rw[aB,aB];omega,?_⟩
     rw[ek]
     refine jg Q30 hd (by rw[aB,List.length_append];omega) fun A3 c3 h31 Q31 f31=>?_
     refine⟨F30.trans f31,A3,c3,_,rfl,by rw[aB,List.length_append];omega,?_⟩
     rw[jB]at Q31
     rw[hx];exact Q31
    ·rw[show ss[v]? =none from List.getElem?_eq_none (by omega)];show Sq h C h26 (sT bA _ bC (_++[])++B)
     rw[List.append_nil];exact Q26
    rintro bA bL bC h32 ⟨A4,c4,m4',hlz,hm4,Q32⟩
    simp only[List.cons.injEq,Value.slice.injEq,and_true]at hlz
    obtain⟨rfl,rfl,rfl⟩:=hlz
    refine jg (s:=⟨#[32,32,32,32,60,47,110,111,100,101,62,10]⟩) Q32 hd (by show _+12<=_;omega) fun A5 c5 h33 Q33 f33=>⟨A5,_,c5,rfl,by show _+12<=_;omega,?_⟩
    rw[sG,if_neg hnn]
    simp only[<-List.append_assoc]
    exact Q33
  ·rintro bA bL bC h34 ⟨A5,m5',c5,hlz,hm5,Q34⟩
   simp only[List.cons.injEq,Value.slice.injEq,and_true]at hlz
   obtain⟨rfl,rfl,rfl⟩:=hlz
   have hw:i64.wrap ((v:Int)+1)=((v+1:Nat):Int):=by rw[wr (by omega) (by omega)];omega
   rw[hw]
   refine⟨⟨v+1,bA,_,bC,_,rfl,by omega,Q34,?_,by omega⟩,by dsimp only;omega⟩
   rw[<-hl,show N-v=(N-(v+1))+1 by omega,bX]
   simp only[List.append_assoc]
 ·have hvN:v=N:=by omega
  subst hvN
  rw[show v-v=0 by omega,bX,List.nil_append,hT]at hl
  refine⟨fun lz h'=>∃(j:Nat) (A:Option Addr) (m c:Nat) (l:List UInt8),[.slice A m c,.int .i64 (j:Int)]=lz/\j<=es.length/\Sq h C h' (sT A m c l++B)/\l++(ci tx ((ndE es).drop j) (ws.drop j)++tlX)=W/\m<=4000000+300*j,
   fun lz _=>match lz with | [_,.int _ i]=>((es.length:Int)-i).toNat | _=>0,⟨0,A,m,c,l,rfl,by omega,Q18,hl,by omega⟩,?_⟩
  rintro bA bL bC i h35 ⟨j,A,m,c,l,hlz,hj,Q35,hl,hm⟩
  simp only[List.cons.injEq,Value.slice.injEq,Value.int.injEq,true_and,and_true]at hlz
  obtain⟨⟨rfl,rfl,rfl⟩,rfl⟩:=hlz
  refine af (fun hlt=>?_) fun hlt=>?_
  ·have hjl:j<es.length:=by omega
   have hx:es[j]? =some es[j]:=List.getElem?_eq_getElem hjl
   generalize es[j]=e at hx
   obtain⟨⟨z1,z2⟩,z3,z4⟩:=ge j e hx
   obtain⟨u1,hu1⟩:∃u:Nat,e.1=(u:Int):=⟨e.1.toNat,by omega⟩
   obtain⟨u2,hu2⟩:∃u:Nat,e.2=(u:Int):=⟨e.2.toNat,by omega⟩
   have d1:=fZ (n:=u1) (by omega)
   have d2:=fZ (n:=u2) (by omega)
   have dig:∀{h':ab} (u:Nat),u<=1024->ae Tryz.prog 38 #[.int .i64 (u:Int)] h' fun w h2=>w= .string (G.mkB (G.dec u))/\Fr [] h' h2:=fun{h'} u hu=>
    (zR u (by omega) (R:=fun s=>s.data.toList=G.dec u) (fun s hs=>hs) h' (Hp.nil _)).mono fun w h' ⟨s,Y,e,q⟩=>⟨by rw[e,<-q,kL],Y.fr⟩
   obtain⟨p,o,ea,_⟩:=Q35.sy.atV 2 k2 (i:=(j:Int)) (by omega) (by omega)
   have hpr:p∈ij aE nE:=rZ ea (by omega)
   have hxD:(ndE es)[j]? =some (u1,u2):=by rw[dE,List.getElem?_map,hx];simp[hu1,hu2]
   refine⟨fun lz h'=>∃A m' c,lz=[.slice A m' c]/\m'<=m+290/\Sq h C h' (sT A m' c (l++gh tx ws[j]? (u1,u2))++B),?_,?_⟩
   ·refine⟨ag A,fun x hx w=>(hd.apart Q35 x hx).2 (by simpa[aA,sT,Ck.sl]using w),p,o,ea,by omega,by omega,apE Q35 hpr,e.1,Q35.sy.cellV 2 k2 ea (i:=j) (t:=0) hx rfl,p,o,ea,by omega,by omega,apE Q35 hpr,e.2,Q35.sy.cellV 2 k2 ea (i:=j) (t:=1) hx rfl,?_⟩
    rw[hu1,hu2]
    refine ak [] (dig u1 (by omega)) (by simp) (fun _ _ r=>r.2) ?_
    rintro w h36 ⟨rfl,f36⟩
    have F36:Fr (ag A) h35 h36:=f36.mono (by simp)
    refine⟨_,rfl,F36,?_,?_,?_⟩
    ·simp only[ByteArray.size_append,aB,fR,List.size_toArray,List.length_cons,List.length_nil];omega
    ·simp only[ByteArray.size_append,aB,fR,List.size_toArray,List.length_cons,List.length_nil];omega
    refine ak [] (dig u2 (by omega)) (by simp) (fun _ _ r=>r.2) ?_
    rintro w h37 ⟨rfl,f37⟩
    have Q37:=(Q35.gr f36).gr f37
    have F37:=F36.trans (f37.mono (N:=ag A) (by simp))
    refine⟨_,rfl,F37,?_,?_,?_⟩
    ·simp only[ByteArray.size_append,aB,fR,List.size_toArray,List.length_cons,List.length_nil];omega
    ·simp only[ByteArray.size_append,aB,fR,List.size_toArray,List.length_cons,List.length_nil];omega
    rw[EU,show([32,32,32,32,60,101,100,103,101,32,115,111,117,114,99,101,61,34,110]++G.dec u1++[34,32,116,97,114,103,101,116,61,34,110]++G.dec u2++[34]:List UInt8)=eX1 u1 u2 from rfl]
    have l3:(eX1 u1 u2).length=31+(G.dec u1).length+(G.dec u2).length:=by simp[eX1];omega
    refine jg Q37 hd (by rw[aB];omega) fun A3 c3 h38 Q38 f38=>?_
    rw[jB,aB]at Q38
    rw[aB]
    refine⟨F37.trans f38,⟨fun hz=>?_,fun hz=>?_⟩⟩
    ·have hz0:ws.length=0:=by
      have:((nW:Nat):Int)=0:=by simpa using hz
      omega
     refine jg (s:=⟨#[47,62,10]⟩) Q38 hd (by show _+3<=_;omega) fun A4 c4 h39 Q39 f39=>⟨A4,_,c4,rfl,by show _+3<=_;omega,?_⟩
     rw[sH,List.getElem?_eq_none (by omega),<-List.append_assoc]
     exact Q39
    ·have hz0:ws.length≠0:=by
      intro z
      have:¬((nW:Nat):Int)=0:=by simpa using hz
      omega
     have hxw:ws[j]? =some ws[j]:=List.getElem?_eq_getElem (by omega)
     generalize ws[j]=x at hxw
     obtain⟨⟨_,t1⟩,v1⟩:=htw x (List.mem_of_getElem? hxw)
     obtain⟨b8,o6,ea6,_⟩:=Q38.sy.atV 5 k5 (i:=(j:Int)) (by omega) (by omega)
     refine⟨b8,o6,ea6,by omega,by omega,x,Q38.sy.cellV 5 k5 ea6 (i:=j) (t:=0) hxw rfl,?_⟩
     refine ak [] (v1 _ (gG Q38)) (by simp) (fun _ _ r=>r.2) ?_
     rintro w h40 ⟨rfl,f40⟩
     refine⟨_,rfl,?_⟩
     refine ak [] (yk ⟨by decide,by rw[aB];omega⟩) (by simp) (fun _ _ r=>r.2) ?_
     rintro w h41 ⟨rfl,f41⟩
     rw[jB]
     rw[show(⟨#[100,51]⟩:ByteArray).data.toList=[100,51]from rfl]
     have dl1:=oO [100,51] (tx x)
     have dd:([100,51]:List UInt8).length=2:=rfl
     refine⟨_,rfl,?_,?_,?_⟩
     ·simp only[ByteArray.size_append,aB,fR,List.size_toArray,List.length_cons,List.length_nil];omega
     ·simp only[ByteArray.size_append,aB,fR,List.size_toArray,List.length_cons,List.length_nil];omega
     rw[Co,show([62,10]++dX [100,51] (tx x)++[32,32,32,32,60,47,101,100,103,101,62,10]:List UInt8)=eX2 tx (some x)from rfl]
     have l4:(eX2 tx (some x)).length=14+(27+2+(tx x).length):=by
      show([62,10]++dX [100,51] (tx x)++[32,32,32,32,60,47,101,100,103,101,62,10]:List UInt8).length=_
      rw[List.length_append,List.length_append,dl1,dd];simp;omega
     refine jg ((Q38.gr f40).gr f41) hd (by rw[aB];omega) fun A4 c4 h42 Q42 f42=>⟨A4,_,c4,rfl,by rw[aB];omega,?_⟩
     rw[jB]at Q42
     rw[sH,hxw,<-List.append_assoc]
     exact Q42
   ·rintro bA bL bC h43 ⟨A5,m5',c5,hlz,hm5,Q43⟩
    simp only[List.cons.injEq,Value.slice.injEq,and_true]at hlz
    obtain⟨rfl,rfl,rfl⟩:=hlz
    have hw:i64.wrap ((j:Int)+1)=((j+1:Nat):Int):=by rw[wr (by omega) (by omega)];omega
    rw[hw]
    refine⟨⟨j+1,bA,_,bC,_,rfl,by omega,Q43,?_,by omega⟩,by dsimp only;omega⟩
    rw[<-hl,kQ tx hxD]
    simp only[List.append_assoc]
  ·have hjE:j=es.length:=by omega
   have he:(ndE es).drop j=[]:=List.drop_eq_nil_of_le (by rw[dE,List.length_map];omega)
   rw[he,ci,List.nil_append]at hl
   refine jg (s:=⟨#[32,32,60,47,103,114,97,112,104,62,10,60,47,103,114,97,112,104,109,108,62,10]⟩) Q35 hd (by show _+22<=_;omega) fun A5 c5 h44 Q44 f44=>?_
   change Sq h C h44 (sT A5 (m+22) c5 (l++tlX)++B)at Q44
   rw[hl]at Q44
   have F44:Fr [] h h44:=by have:=Q44.fr;rwa[show aA C=[] by rw[hC];rfl]at this
   have lT:=Q44.sy.lenS 0 rfl
   rw[fQ]at lT
   have eD:kZ tx nn (v:Int) dir es ls ss ws=if 262144<W.length then([],23)else(W,0):=by
    unfold kZ;rw[if_neg (by rw[q];decide),Int.toNat_natCast,<-hWd]
   refine af (fun hbig=>⟨?_,F44⟩) fun hbig=>⟨bI W,iQ (Q44.sy.readsS 0 rfl),?_,F44⟩
   ·have:262144<W.length:=by rw[<-lT];exact Int.ofNat_lt.1 hbig
    rw[eD,if_pos this];rfl
   ·have:¬ 262144<W.length:=by rw[<-lT];exact fun q=>hbig (Int.ofNat_lt.2 q)
    rw[eD,if_neg this,jA]
end
set_option maxHeartbeats 2000000
def C5 (rP:Option Addr) (s:ByteArray) (h:ab) (R:VP):Prop:=∃b o,rP=some ⟨b,o,none⟩/\∃(a9:Option Addr) (a2 c0:Nat),ac h b (o+256)=some (.slice a9 a2 c0)/\∃z:LP,(cnd (decide ((i64.wrap ((a2:Int)*(8:Int)))<=(s.size:Int))) (∃b2 o2,rP=some ⟨b2,o2,none⟩/\∃(Y:Option Addr) (P c1:Nat),ac h b2 (o2+256)=some (.slice Y P c1)/\∃(w:LP) (V:List Value->ab->Nat),w [.int .i64 (s.size:Int),.bool false,.int .i64 0] h/\∀n:Int,∀q:Bool,∀g:Int,∀m,w [.int .i64 n,.bool q,.int .i64 g] m->cnd (decide (g<(P:Int))) (∃b3 o3,Y=some ⟨b3,o3,none⟩/\0<=g/\g<(P:Nat)/\∃t:ByteArray,ac m b3 (o3+(Int.toNat g)*1)=some (.string t)/\ai Tryz.prog 237 #[.string s,.string t] m [] fun O G=>∃M:Int,O= .int .i64 M/\∃A:LP,(cnd (M != 0) (0<=(0:Int)/\(0:Int)<(t.size:Int)/\∃u:UInt8,t[Int.toNat (0:Int)]? =some u/\∃b4 o4,rP=some ⟨b4,o4,none⟩/\0<=(UInt8.toNat u:Int)/\(UInt8.toNat u:Int)<(256:Int)/\∃(b0:Option Addr) (a3 c2:Nat),ac G b4 (o4+(Int.toNat (UInt8.toNat u:Int))*1)=some (.slice b0 a3 c2)/\A [.int .i64 (i64.wrap (n+(i64.wrap (M*(i64.wrap ((a3:Int)-(1:Int))))))),.bool true] G) (A [.int .i64 n,.bool q] G))/\∀K:Int,∀D:Bool,∀H,A [.int .i64 K,.bool D] H->w [.int .i64 K,.bool D,.int .i64 (i64.wrap (g+1))] H/\V [.int .i64 K,.bool D,.int .i64 (i64.wrap (g+1))] H<V [.int .i64 n,.bool q,.int .i64 g] m) (z [.int .i64 n,.bool q] m)) (∃(x:LP) (W:List Value->ab->Nat),x [.int .i64 (s.size:Int),.bool false,.int .i64 0] h/\∀p:Int,∀r:Bool,∀e:Int,∀j,x [.int .i64 p,.bool r,.int .i64 e] j->cnd (decide (e<(s.size:Int))) (0<=e/\e<(s.size:Int)/\∃l:UInt8,s[Int.toNat e]? =some l/\∃b5 o5,rP=some ⟨b5,o5,none⟩/\0<=(UInt8.toNat l:Int)/\(UInt8.toNat l:Int)<(256:Int)/\∃(Z:Option Addr) (c7 c3:Nat),ac j b5 (o5+(Int.toNat (UInt8.toNat l:Int))*1)=some (.slice Z c7 c3)/\∃B:LP,(cnd (!(Option.isNone Z)) (∃b6 o6,rP=some ⟨b6,o6,none⟩/\0<=(UInt8.toNat l:Int)/\(UInt8.toNat l:Int)<(256:Int)/\∃(b1:Option Addr) (a4 c4:Nat),ac j b6 (o6+(Int.toNat (UInt8.toNat l:Int))*1)=some (.slice b1 a4 c4)/\B [.int .i64 (i64.wrap (p+(i64.wrap ((a4:Int)-(1:Int))))),.bool true] j) (B [.int .i64 p,.bool r] j))/\∀L:Int,∀E:Bool,∀I,B [.int .i64 L,.bool E] I->x [.int .i64 L,.bool E,.int .i64 (i64.wrap (e+1))] I/\W [.int .i64 L,.bool E,.int .i64 (i64.wrap (e+1))] I<W [.int .i64 p,.bool r,.int .i64 e] j) (z [.int .i64 p,.bool r] j)))/\∀d:Int,∀T:Bool,∀k,z [.int .i64 d,.bool T] k->cnd (!T) (R (.string s) k) (0<=d/\d<=d/\(1:Int)*d<=281474976710656/\d<=9223372036854775807/\let a8:ab:=k.push (.cells (madeCells (List.toArray [.int .u8 0]) (Int.toNat d*1)) 5);∃(y:LP) (X:List Value->ab->Nat),y [.int .i64 0,.int .i64 0] a8/\∀a:Int,∀f:Int,∀c,y [.int .i64 a,.int .i64 f] c->cnd (decide (f<(s.size:Int))) (0<=f/\f<(s.size:Int)/\∃i:UInt8,s[Int.toNat f]? =some i/\∃b7 o7,rP=some ⟨b7,o7,none⟩/\0<=(UInt8.toNat i:Int)/\(UInt8.toNat i:Int)<(256:Int)/\∃(a0:Option Addr) (c8 c5:Nat),ac c b7 (o7+(Int.toNat (UInt8.toNat i:Int))*1)=some (.slice a0 c8 c5)/\∃C:LP,(cnd (!(Option.isNone a0)) (∃S:List Nat,(∀b∈([]:List Nat),b∉S)/\0<=a/\a<=((Int.toNat d):Nat)/\∃b8 o8,rP=some ⟨b8,o8,none⟩/\0<=(UInt8.toNat i:Int)/\(UInt8.toNat i:Int)<(256:Int)/\∃(a1:Option Addr) (Q c6:Nat),ac c b8 (o8+(Int.toNat (UInt8.toNat i:Int))*1)=some (.slice a1 Q c6)/\∃b9 o9,(if(Int.toNat d)=(Int.toNat a)then(some (⟨k.size,0,none⟩:Addr))else Option.map (fun a6=>Addr.add a6 ((Int.toNat a)*1)) (some (⟨k.size,0,none⟩:Addr)))=some ⟨b9,o9,none⟩/\∃v:List Value,Reads c 1 a1 (Nat.min Q ((Int.toNat d)-(Int.toNat a))) v/\(∀O∈v,O.oneCell'=true)/\(∀a,a<v.length->(∃N,ac c b9 (o9+a)=some N)/\aq c b9 (o9+a)=true)/\let U:ab:=gz c b9 o9 v;Fr S c U/\C [.int .i64 (i64.wrap (a+(((Nat.min Q ((Int.toNat d)-(Int.toNat a))):Nat):Int)))] U) (∃b10 o10,(some (⟨k.size,0,none⟩:Addr))=some ⟨b10,o10,none⟩/\0<=a/\a<((Int.toNat d):Nat)/\(∃N,ac c b10 (o10+(Int.toNat a)*1)=some N)/\aq c b10 (o10+(Int.toNat a)*1)=true/\let a7:ab:=am c b10 (o10+(Int.toNat a)*1) (.int .u8 (UInt8.toNat i:Int));C [.int .i64 (i64.wrap (a+1))] a7))/\∀J:Int,∀F,C [.int .i64 J] F->y [.int .i64 J,.int .i64 (i64.wrap (f+1))] F/\X [.int .i64 J,.int .i64 (i64.wrap (f+1))] F<X [.int .i64 a,.int .i64 f] c) (∃a5:List Int,Reads c 1 (some (⟨k.size,0,none⟩:Addr)) (Int.toNat d) (List.map (Value.int IntKind.u8) a5)/\R (.string (strOf a5)) c))
theorem vc {h:ab} {R:VP} (rP:Option Addr) (s:ByteArray) (H:C5 rP s h R):ae Tryz.prog 410 #[.pointer rP,.string s] h R:=aR [] 122 [(0,⟨[0,1,30,31],[5,6,32],[],[]⟩),(2,⟨[0,1],[5,6,10],[],[]⟩),(4,⟨[0,1,12],[13,14],[],[]⟩)] [(26,⟨[0,1],[5,6],[],[]⟩),(40,⟨[0,1,30,31,32],[5,6],[],[]⟩),(70,⟨[0,1,10],[5,6],[],[]⟩),(101,⟨[0,1,12,14],[13],[],[]⟩)] [] [(9,⟨14,false⟩),(28,⟨13,true⟩)] Tryz.func410 (by kernel_rfl) (by kernel_rfl) H
def AP (bP:Option Addr) (h:ab) (R:VP):Prop:=∃b o,bP=some ⟨b,o,none⟩/\∃(j:Option Addr) (a V:Nat),ac h b (o+4)=some (.slice j a V)/\let D:=fun(X:ab)=>(∃(u:LP) (I:List Value->ab->Nat),u [.bool true,.int .i64 0] X/\∀p:Bool,∀d:Int,∀f,u [.bool p,.int .i64 d] f->cnd (decide (d<(a:Int))) (∃b5 o5,j=some ⟨b5,o5,none⟩/\0<=d/\d<(a:Nat)/\∃S:ByteArray,ac f b5 (o5+(Int.toNat d)*1)=some (.string S)/\cnd ((S.size:Int) != (1:Int)) (ai Tryz.prog 284 #[.slice j a V] f [] fun a1 Y=>∃N:Option Addr,a1= .pointer N/\R (.iface 312 (.pointer N)) Y) (∃b6 o6,j=some ⟨b6,o6,none⟩/\0<=(i64.wrap (d+1))/\(i64.wrap (d+1))<(a:Nat)/\∃T:ByteArray,ac f b6 (o6+(Int.toNat (i64.wrap (d+1)))*1)=some (.string T)/\∃w:LP,(cnd ((T.size:Int) != (1:Int)) (w [.bool false] f) (w [.bool p] f))/\∀y:Bool,∀z,w [.bool y] z->u [.bool y,.int .i64 (i64.wrap (d+2))] z/\I [.bool y,.int .i64 (i64.wrap (d+2))] z<I [.bool p,.int .i64 d] f)) (cnd p (False) ((2:Int)≠0/\0<=(0:Int)/\(0:Int)<=(i64.wrap (Int.tdiv (a:Int) (2:Int)))/\(16:Int)*(i64.wrap (Int.tdiv (a:Int) (2:Int)))<=281474976710656/\(i64.wrap (Int.tdiv (a:Int) (2:Int)))<=9223372036854775807/\let c:ab:=f.push (.cells (madeCells (List.toArray [.string ByteArray.empty]) (Int.toNat (i64.wrap (Int.tdiv (a:Int) (2:Int)))*1)) 9);let H:ab:=c.push (.cells (List.toArray (List.replicate 257 (.slice none 0 0))) 319);stW H c.size 0 (List.replicate 256 (.slice none 0 0)++[.slice (some (⟨f.size,0,none⟩:Addr)) (Int.toNat (0:Int)) (Int.toNat (i64.wrap (Int.tdiv (a:Int) (2:Int))))]) (let Z:ab:=gz H c.size 0 (List.replicate 256 (.slice none 0 0)++[.slice (some (⟨f.size,0,none⟩:Addr)) (Int.toNat (0:Int)) (Int.toNat (i64.wrap (Int.tdiv (a:Int) (2:Int))))]);∃(v:LP) (J:List Value->ab->Nat),v [.int .i64 (i64.wrap ((a:Int)-(2:Int)))] Z/\∀e:Int,∀g,v [.int .i64 e] g->cnd (decide (e>=0)) (∃b7 o7,j=some ⟨b7,o7,none⟩/\0<=e/\e<(a:Nat)/\∃B:ByteArray,ac g b7 (o7+(Int.toNat e)*1)=some (.string B)/\0<=(0:Int)/\(0:Int)<(B.size:Int)/\∃i:UInt8,B[Int.toNat (0:Int)]? =some i/\∃b8 o8,j=some ⟨b8,o8,none⟩/\0<=(i64.wrap (e+1))/\(i64.wrap (e+1))<(a:Nat)/\∃m:ByteArray,ac g b8 (o8+(Int.toNat (i64.wrap (e+1)))*1)=some (.string m)/\0<=(UInt8.toNat i:Int)/\(UInt8.toNat i:Int)<(256:Int)/\∃(U:Option Addr) (a3 a2:Nat),ac g c.size (0+(Int.toNat (UInt8.toNat i:Int))*1)=some (.slice U a3 a2)/\∃x:LP,(cnd (Option.isNone U) (∃(n:Option Addr) (k t:Nat),ac g c.size (0+256)=some (.slice n k t)/\let q:ab:=g.push (.cells #[.int .u8 (UInt8.toNat i:Int)] 5);∃C:List Int,Reads q 1 (some (⟨g.size,0,none⟩:Addr)) 1 (List.map (Value.int IntKind.u8) C)/\let r:ab:=q.push (.cells #[.string (strOf C)] 9);∃K,aC r 9 1 n k t K/\(∀b'∈([q.size]:List Nat),b'∉ag n)/\(k+1)*16<=140737488355328/\(k+1)<=maxLen/\∀sA sC hv12,aC hv12 9 1 sA (k+1) sC (K++[.string (strOf C)])->Fr (ag n) r hv12->((sA=n/\sC=t)\/∃E,sA=some ⟨E,0,none⟩/\r.size<=E)->(t<(k+1)->Fr [] r hv12)->c.size≠q.size/\(∃A,ac hv12 c.size (0+256)=some A)/\aq hv12 c.size (0+256)=true/\let W:ab:=am hv12 c.size (0+256) (.slice sA (k+1) sC);x [] W) (x [] g))/\∀s,x [] s->m.size<=maxLen/\∀(L:Nat) (l:ab),aC l 5 1 (some ⟨s.size,0,none⟩) m.size L (Lib.strCells m)->Fr [] s l->0<=(UInt8.toNat i:Int)/\(UInt8.toNat i:Int)<(256:Int)/\(∃A,ac l c.size (0+(Int.toNat (UInt8.toNat i:Int))*1)=some A)/\aq l c.size (0+(Int.toNat (UInt8.toNat i:Int))*1)=true/\let G:ab:=am l c.size (0+(Int.toNat (UInt8.toNat i:Int))*1) (.slice (some ⟨s.size,0,none⟩) m.size L);v [.int .i64 (i64.wrap (e-2))] G/\J [.int .i64 (i64.wrap (e-2))] G<J [.int .i64 e] g) (R (.iface 320 (.pointer (some (⟨c.size,0,none⟩:Addr)))) g)))));cnd ((a:Int)==(2:Int)) (∃b2 o2,j=some ⟨b2,o2,none⟩/\0<=(0:Int)/\(0:Int)<(a:Nat)/\∃O:ByteArray,ac h b2 (o2+(Int.toNat (0:Int))*1)=some (.string O)/\cnd (decide ((O.size:Int)>(1:Int))) (∃b3 o3,j=some ⟨b3,o3,none⟩/\0<=(0:Int)/\(0:Int)<(a:Nat)/\∃P:ByteArray,ac h b3 (o3+(Int.toNat (0:Int))*1)=some (.string P)/\∃b4 o4,j=some ⟨b4,o4,none⟩/\0<=(1:Int)/\(1:Int)<(a:Nat)/\∃Q:ByteArray,ac h b4 (o4+(Int.toNat (1:Int))*1)=some (.string Q)/\ai Tryz.prog 283 #[.string P,.string Q] h [] fun a0 F=>∃M:Option Addr,a0= .pointer M/\Fr [] h F/\R (.iface 310 (.pointer M)) F) (D h)) (D h)
theorem vd {h:ab} {R:VP} (bP:Option Addr) (H:AP bP h R):ae Tryz.prog 223 #[.pointer bP] h R:=by
 have e:AP bP h R=FX (oS [123] 132) {loops:=[(0,⟨[3],[4,5],[],[]⟩),(6,⟨[3,11],[12],[],[]⟩)],joins:=[(58,⟨[3,5],[4],[],[]⟩),(117,⟨[3,11,12,13,14],[],[],[]⟩)],blocks:=[],draws:=[(3,⟨9,false⟩)],cut:=[13]} Tryz.f223 (Tryz.f223.body.getD .skip) [.pointer bP] h R:=by kernel_rfl
 exact iJ (jK _ _) Tryz.func223 (by kernel_rfl) (by kernel_rfl) (by kernel_rfl) (e▸H)
def C6 (rP:Option Addr) (h:ab) (R:VP):Prop:=let e:=fun(d:ab)=>(∃b3 o3,rP=some ⟨b3,o3,none⟩/\(∃c,ac d b3 (o3+4)=some c)/\aq d b3 (o3+4)=true/\let l:ab:=am d b3 (o3+4) (.slice none 0 0);R (.tuple #[]) l);ai Tryz.prog 223 #[.pointer rP] h [] fun i a=>((i= .nilIface/\∃b o,rP=some ⟨b,o,none⟩/\(∃c,ac a b (o+3)=some c)/\aq a b (o+3)=true/\let j:ab:=am a b (o+3) (.nilIface);e j)\/∃(g:Nat) (f:Value),i= .iface g f/\∃b2 o2,rP=some ⟨b2,o2,none⟩/\(∃c,ac a b2 (o2+3)=some c)/\aq a b2 (o2+3)=true/\let k:ab:=am a b2 (o2+3) (.iface g f);e k)
theorem ve {h:ab} {R:VP} (rP:Option Addr) (H:C6 rP h R):ae Tryz.prog 178 #[.pointer rP] h R:=aR [] 10 [] [] [] [] Tryz.func178 (by kernel_rfl) (by kernel_rfl) H
def C7 (oldnewA:Option Addr) (oldnewL oldnewC:Nat) (h:ab) (R:VP):Prop:=(2:Int)≠0/\∃c:LP,(cnd ((Int.tmod (oldnewL:Int) (2:Int))==(1:Int)) (False) (c [] h))/\∀a,c [] a->∃b:List Value,Reads a 1 oldnewA oldnewL b/\(oldnewA=none->oldnewC=0)/\(∀v∈b,v.oneCell'=true)/\∃e,aC a 9 1 none 0 0 e/\(∀b'∈([]:List Nat),b'∉ag none)/\(0+oldnewL)*16<=140737488355328/\(0+oldnewL)<=maxLen/\∀sA sC hv2,aC hv2 9 1 sA (0+oldnewL) sC (e++b)->Fr (ag none) a hv2->((sA=none/\sC=0)\/∃d,sA=some ⟨d,0,none⟩/\a.size<=d)->(0<(0+oldnewL)->Fr [] a hv2)->let f:ab:=hv2.push (.cells #[.int .u32 0,.int .i32 0,.int .u32 0,.nilIface,.slice sA (0+oldnewL) sC] 227);R (.pointer (some (⟨hv2.size,0,none⟩:Addr))) f
theorem vf {h:ab} {R:VP} (oldnewA:Option Addr) (oldnewL oldnewC:Nat) (H:C7 oldnewA oldnewL oldnewC h R):ae Tryz.prog 132 #[.slice oldnewA oldnewL oldnewC] h R:=aR [] 12 [] [(6,⟨[0],[],[],[]⟩)] [] [] Tryz.func132 (by kernel_rfl) (by kernel_rfl) H
def S90 (s:ByteArray) (h:ab) (R:VP):Prop:=let c:ab:=h.push (.cells #[.string ⟨#[38]⟩,.string ⟨#[38,97,109,112,59]⟩,.string ⟨#[60]⟩,.string ⟨#[38,108,116,59]⟩,.string ⟨#[62]⟩,.string ⟨#[38,103,116,59]⟩] 9);ai Tryz.prog 132 #[.slice (some (⟨h.size,0,none⟩:Addr)) 6 6] c [] fun f d=>∃b:Option Addr,f= .pointer b/\ai Tryz.prog 133 #[.pointer b,.string s] d [] fun g e=>∃a:ByteArray,g= .string a/\R (.string a) e
theorem yo {h:ab} {R:VP} (s:ByteArray) (H:S90 s h R):ae Tryz.prog 90 #[.string s] h R:=aR [] 7 [] [] [] [] Tryz.func90 (by kernel_rfl) (by kernel_rfl) H
def C8 (oP:Option Addr) (fF:Fn) (fX fY:Array Value) (h:ab) (R:VP):Prop:=∃b o,oP=some ⟨b,o,none⟩/\ai Tryz.prog 221 #[.pointer (some (⟨b,o,none⟩:Addr))] h [] fun g c=>∃e:Bool,g= .bool e/\∃a:LP,(cnd (!e) (ai Tryz.prog 222 #[.pointer oP,.func fF fX fY] c [] fun i f=>i= .tuple #[]/\a [] f) (a [] c))/\∀d,a [] d->R (.tuple #[]) d
theorem vg {h:ab} {R:VP} (oP:Option Addr) (fF:Fn) (fX fY:Array Value) (H:C8 oP fF fX fY h R):ae Tryz.prog 177 #[.pointer oP,.func fF fX fY] h R:=aR [] 12 [] [(8,⟨[],[],[],[]⟩)] [] [] Tryz.func177 (by kernel_rfl) (by kernel_rfl) H
end Go.Proofs.YtlflalecmhgmjaaGreatDoor.N
