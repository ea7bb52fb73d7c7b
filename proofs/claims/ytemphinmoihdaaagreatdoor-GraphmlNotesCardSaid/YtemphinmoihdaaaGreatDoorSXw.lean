/- The program's lexer of GML: what its functions tell, by the plain reader. Conditions: none. -/
import Derived.Test.YtemphinmoihdaaaGreatDoorGTell
import Derived.Test.YtemphinmoihdaaaGreatDoorWEnv
import Derived.Lib.ConvBytes
import Derived.Lib.ParseIntBTie
import Derived.Tactics
import Derived.Tactics2
import Derived.Laws.Pointers
import Derived.Test.YtemphinmoihdaaaGreatDoorMWr4
set_option linter.unusedVariables false
set_option linter.unusedSimpArgs false
open Go.IntKind (i64 u64 u8 i32)
namespace Go.Proofs.YtemphinmoihdaaaGreatDoor.N
open Go.Proofs.YtemphinmoihdaaaGreatDoor
open Go.X
set_option maxRecDepth 100000
theorem dB {p:Prop} [Decidable p] {b:Bool} (h:b=true ↔ p):b=decide p:=by
 grind
section
variable {n:Nat} {h:ab} {H:List Nat} {K:Value->ab->Prop}
theorem fQ {f:Nat} {r:Bool} (c:QH f #[QP (n:Int)] h fun v h'=>v= .bool r/\h'=h) (k:K (.bool r) h):QG f #[QP (n:Int)] h H K:=
 ao [] c QB (fun _ _ r=>Fr.of_eq r.2) fun v h' r=>by grind
theorem Px :QH 48 #[QP (n:Int)] h fun v h'=>v= .bool (G.bO n)/\h'=h:=by
 apply Gv
 unfold S48
 have fin:∀b:Bool,(b=true ↔ 32<=n/\n<=126)->Value.bool b= .bool (G.bO n)/\h=h:=fun b e=>⟨by rw[dB e];rfl,rfl⟩
 refine af (fun h1=>fin _ ?_) fun h1=>fin _ ?_
 all_goals grind
end
theorem wrN {j:Nat} (h:j<4611686018427387904):i64.wrap ((j:Int)+(1:Int))=((j+1:Nat):Int):=by
 rw[wr Qz Qz];omega
theorem get_at {s:ByteArray} {j:Nat} (h:j<s.size):∃c:UInt8,s[j]? =some c/\G.bt s j=c.toNat:=by
 refine⟨s[j],getElem?_pos s j h,?_⟩
 unfold G.bt
 grind
def vW (s:ByteArray) (b:Nat):List Value->ab->Nat:=fun _ h=>
 match ac h b 1 with
 | some (.int _ x)=>s.size-x.toNat
 | _=>0
theorem eZ {s:ByteArray} {b i:Nat} {h:ab} (L:Lx h b s i) (l:List Value):vW s b l h=s.size-i:=by
 unfold vW;rw[L.c1];simp
theorem FF {s:ByteArray} {j:Nat} (h:j<=s.size):G.At s j (s.extract j s.size).data.toList:=by
 refine⟨h,?_⟩
 rw[ByteArray.data_extract,Array.toList_extract,List.extract_eq_take_drop,List.take_of_length_le]
 simp_all
theorem u8w {x:Int} (h1:0<=x) (h2:x<256):u8.wrap x=x:=by rw[IntKind.wrap_u8'];omega
theorem tm (t:ByteArray) (l:QS):G.preB t 0 l=Lib.hasPrefix t.data.toList l:=by
 unfold G.preB Lib.hasPrefix
 rw[ByteArray.data_extract,Array.toList_extract,List.extract_eq_take_drop,List.drop_zero,Nat.zero_add,Nat.sub_zero]
 rw[Bool.eq_iff_iff]
 simp only[decide_eq_true_eq,List.isPrefixOf_iff_prefix]
 constructor
 ·intro e
  rw[<-e]
  exact List.take_prefix _ _
 ·intro h
  exact(List.prefix_iff_eq_take.1 h).symm
def IJ (o:Option (Nat × Nat)):Value:=
 match o with
 | some (c,n)=>.tuple #[QP (c:Int),QM (n:Int)]
 | none=>.tuple #[QP 0,QM 0]
def nm5 :List QS:=[G.amp,G.yB,G.ltB,G.gtB,G.Jn]
def nb5 :QS:=[38,34,60,62,39]
theorem Jo {t:ByteArray} {i:Nat} (h:G.me (G.bt t i)=true):i<t.size:=G.mZ (by intro e;rw[e]at h;revert h;decide)
end Go.Proofs.YtemphinmoihdaaaGreatDoor.N
namespace Go.Proofs.YtemphinmoihdaaaGreatDoor.G
theorem nj {s:ByteArray} {j:Nat} (a b:Nat):(s.extract a b).data.toList=(s.data.toList.drop a).take (b-a):=by
 rw[ByteArray.data_extract,Array.toList_extract,List.extract_eq_take_drop]
theorem uM (s:ByteArray) (j:Nat):(s.extract j s.size).data.toList=s.data.toList.drop j:=by
 rw[nj (j:=0),List.take_of_length_le]
 rw[List.length_drop];exact Nat.le_refl _
theorem Cf (s:ByteArray) (j:Nat) (l:QS):preB (s.extract j s.size) 0 l=preB s j l:=by
 unfold preB
 rw[nj (j:=0),uM,nj (j:=0),Nat.zero_add,Nat.sub_zero,Nat.add_sub_cancel_left,List.drop_zero]
theorem Cg (s:ByteArray) (j k:Nat):bt (s.extract j s.size) k=bt s (j+k):=by
 rw[yz,yz,uM,List.getElem?_drop]
theorem vX (s:ByteArray) (j:Nat):∀(r n k:Nat),jv s r n (j+k)=((jv (s.extract j s.size) r n k).1,j+(jv (s.extract j s.size) r n k).2)
 | 0,n,k=>rfl
 | r+1,n,k=>by
  rw[jv,jv,Cg]
  split
  ·rw[show j+k+1=j+(k+1) by omega,vX s j r _ (k+1)]
  ·rfl
theorem Ch (s:ByteArray) (j:Nat):part (s.extract j s.size) 0=part s j:=by
 unfold part
 simp only[Cf,vX s j 3 0 2]
 have hg:=uI (s.extract j s.size) 3 0 2
 simp only[Nat.zero_add]at hg ⊢
 generalize jv (s.extract j s.size) 3 0 2=y at hg ⊢
 obtain⟨n,k⟩:=y
 simp only[Cg]at hg ⊢
 have e1:(j+k=j+2)=(k=2):=by apply propext;omega
 have e2:j+k+1-j=k+1-0:=by omega
 simp only[e1,e2]
theorem uN {s:ByteArray} {i c n:Nat} (h:part s i=some (c,n)):c<256:=by
 unfold part at h
 split at h
 ·cases h;decide
 split at h
 ·cases h;decide
 split at h
 ·cases h;decide
 split at h
 ·cases h;decide
 split at h
 ·cases h;decide
 split at h
 ·cases h
 ·generalize jv s 3 0 (i+2)=y at h
  obtain⟨m,k⟩:=y
  simp only at h
  split at h
  ·cases h
  ·rename_i q
   simp only[not_or,Bool.not_eq_false]at q
   simp only[Option.some.injEq,Prod.mk.injEq]at h
   have:=q.2.2
   simp[bO]at this
   omega
end Go.Proofs.YtemphinmoihdaaaGreatDoor.G
namespace Go.Proofs.YtemphinmoihdaaaGreatDoor.N
open Go.Proofs.YtemphinmoihdaaaGreatDoor
open Go.X
set_option maxRecDepth 100000
def bv (l:QS):List Value:=l.map fun c=>QP ((c.toNat:Nat):Int)
theorem vY (l:QS):strOf (l.map fun c=>((c.toNat:Nat):Int))=G.mkB l:=by
 unfold strOf G.mkB
 rw[foldl_push_byteCells l ByteArray.empty]
 have e:ByteArray.empty.data=#[]:=rfl
 rw[e];simp
theorem _root_.Go.X.Gl.fr {gl:GL} {h h':ab} {M:List Nat} (g:Gl gl h) (f:Fr M h h') (hm:∀b∈glB gl,b∉M):Gl gl h':=g.congr fun b hb=>f.blk b (g.lt b hb) (hm b hb)
def Me (rd:ByteArray->Option (Nat × Nat)) (gl:GL):Prop:=
 ∀(t:ByteArray) (x e:Nat),rd t=some (x,e)->∀h,Gl gl h->QH 149 #[.string t] h fun v h'=>v= .tuple #[QQ x,QM (e:Int)]/\Fr [] h h'
theorem _root_.Go.X.Fr.hsetL {h h1:ab} {M:List Nat} (f:Fr M h h1) {p o:Nat} {v:Value} (hp:h.size<=p):Fr M h (am h1 p o v):=f.hsetr (.inl hp)
set_option maxHeartbeats 2000000
def S26 (s:ByteArray) (h:ab) (R:VP):Prop:=∃(c:LP) (e:List Value->ab->Nat),c [QM 0] h/\∀a:Int,∀b,c [QM a] b->cnd (decide (a<(s.size:Int))) (0<=a/\a<(s.size:Int)/\∃g:UInt8,s[Int.toNat a]? =some g/\QG 48 #[QP (UInt8.toNat g:Int)] b [] fun i d=>∃f:Bool,i= .bool f/\cnd (!f) (R (.bool false) d) (c [QM (i64.wrap (a+1))] d/\e [QM (i64.wrap (a+1))] d<e [QM a] b)) (R (.bool (decide ((s.size:Int)<=(256:Int)))) b)
theorem Gw {h:ab} {R:VP} (s:ByteArray) (H:S26 s h R):QH 26 #[.string s] h R:=aN [] 18 [(0,⟨[0,5],[6],[],[]⟩)] [] [] [] Tryz.func26 QC QC H
open Go.RowKit (Below)
theorem Gl.tab {gl:GL} {w:World} (g:Gl gl w.heap):Lib.TabIs Tryz.prog w "internal/strconv.uint64pow10" .u64 Lib.pow10Tab:=by
 obtain⟨e,f,q⟩:=g.uu
 have hg:Tryz.prog.globalNamed "internal/strconv.uint64pow10" =some 3:=by kernel_rfl
 unfold Lib.TabIs World.var?
 rw[hg]
 show(match w.heap[3]? with | some (.cells cs _ _)=>some cs | _=>none)=_
 rw[q]
 rfl
end Go.Proofs.YtemphinmoihdaaaGreatDoor.N
namespace Go.X
def rds (cs:List Ck):List Nat:=cs.flatMap Ck.rd
theorem bR {cs:List Ck} {b:Nat}:b∈rds cs ↔ ∃(k:Nat) (c:Ck),cs[k]? =some c/\b∈c.rd:=by
 simp only[rds,List.mem_flatMap]
 exact⟨fun⟨c,h1,h2⟩=>let ⟨k,h3⟩:=List.mem_iff_getElem?.1 h1;⟨k,c,h3,h2⟩,fun⟨k,c,h1,h2⟩=>⟨c,List.mem_of_getElem? h1,h2⟩⟩
theorem dm {cs:List Ck} {b:Nat}:b∈aF cs ↔ ∃(k:Nat) (c:Ck),cs[k]? =some c/\b∈c.own:=by
 simp only[aF,List.mem_flatMap]
 exact⟨fun⟨c,h1,h2⟩=>let ⟨k,h3⟩:=List.mem_iff_getElem?.1 h1;⟨k,c,h3,h2⟩,fun⟨k,c,h1,h2⟩=>⟨c,List.mem_of_getElem? h1,h2⟩⟩
structure Sq (h0:ab) (C:List Ck) (h:ab) (cs:List Ck):Prop where
 sy:Sy h0 (aF C) h cs
 ri:∀b∈rds cs,b∈rds C\/b∈aF C\/h0.size<=b
theorem Sq.start {h:ab} {cs:List Ck} (H:Hp h cs):Sq h cs h cs:=⟨Sy.start H,fun b hb=>.inl hb⟩
theorem Sq.hp {h0 h:ab} {C cs:List Ck} (q:Sq h0 C h cs):Hp h cs:=q.sy.hp
theorem Sq.fr {h0 h:ab} {C cs:List Ck} (q:Sq h0 C h cs):Fr (aF C) h0 h:=q.sy.fr
section
variable {h0 h h':ab} {C A B cs cs':List Ck}
theorem kJ {k:Nat} {c:Ck} (hk:A[k]? =some c):(A++B)[k]? =some c:=by
 grind
theorem pw {k:Nat} {c:Ck} (hk:B[k]? =some c):(A++B)[A.length+k]? =some c:=by
 grind
theorem gu {k:Nat} {c:Ck} (hk:(A++B)[k]? =some c):A[k]? =some c\/(A.length<=k/\B[k-A.length]? =some c):=by
 grind
theorem Sq.frA (q:Sq h0 C h (A++B)) (f:Fr (aF A) h h'):Fr (aF C) h0 h':=
 q.fr.comp f fun b hb=>by
  obtain⟨k,c,h1,h2⟩:=dm.1 hb
  exact q.sy.ow k c (kJ h1) b h2
theorem Sq.frT (q:Sq h0 C h cs) (f:Fr (aF cs) h h'):Fr (aF C) h0 h':=Sq.frA (B:=[]) (by simpa using q) f
theorem Sq.call (q:Sq h0 C h (A++B)) (p:Sq h A h' cs'):Sq h0 C h' (cs'++B):=by
 have Y:=q.sy
 have P:=p.sy
 have okB:∀(k:Nat) (c:Ck),B[k]? =some c->c.ok h':=by
  intro k c hk
  have hk':=pw (A:=A) hk
  have hok:=Y.hp.ok _ c hk'
  obtain⟨l1,l2⟩:=c.lt h hok
  refine c.fr h h' (fun b hb=>P.fr.blk b (l1 b hb) fun w=>?_) (fun b hb=>P.fr.blk b (l2 b hb) fun w=>?_) hok
  ·obtain⟨i,d,h1,h3⟩:=dm.1 w
   have:=(List.getElem?_eq_some_iff.1 h1).1
   exact(Y.hp.ap i (A.length+k) d c Qz (kJ h1) hk' b h3).1 hb
  ·obtain⟨i,d,h1,h3⟩:=dm.1 w
   have:=(List.getElem?_eq_some_iff.1 h1).1
   exact(Y.hp.ap i (A.length+k) d c Qz (kJ h1) hk' b h3).2 hb
 refine⟨⟨q.frA P.fr,⟨fun k c hk=>?_,fun i j c d hij hi hj=>?_⟩,fun k c hk b hb=>?_⟩,fun b hb=>?_⟩
 ·rcases gu hk with hk | ⟨_,hk⟩
  ·exact P.hp.ok k c hk
  grind
 ·rcases gu hi with hi | ⟨hl,hi⟩
  ·rcases gu hj with hj | ⟨hl2,hj⟩
   ·exact P.hp.ap i j c d hij hi hj
   ·intro b hb
    have hj':=pw (A:=A) hj
    obtain⟨l1,l2⟩:=d.lt h (Y.hp.ok _ d hj')
    rcases P.ow i c hi b hb with w | w
    ·obtain⟨x,e,h1,h3⟩:=dm.1 w
     have:=(List.getElem?_eq_some_iff.1 h1).1
     exact Y.hp.ap x _ e d Qz (kJ h1) hj' b h3
    grind
  ·rcases gu hj with hj | ⟨hl2,hj⟩
   ·intro b hb
    have hi':=pw (A:=A) hi
    obtain⟨l1,l2⟩:=c.lt h (Y.hp.ok _ c hi')
    have hbl:=l1 b hb
    refine⟨fun x=>?_,fun x=>?_⟩
    ·rcases P.ow j d hj b x with w | w
     ·obtain⟨x,e,h1,h3⟩:=dm.1 w
      have:=(List.getElem?_eq_some_iff.1 h1).1
      exact(Y.hp.ap x _ e c Qz (kJ h1) hi' b h3).1 hb
     ·omega
    ·rcases p.ri b (bR.2 ⟨j,d,hj,x⟩)with w | w | w
     ·obtain⟨x,e,h1,h3⟩:=bR.1 w
      have:=(List.getElem?_eq_some_iff.1 h1).1
      exact(Y.hp.ap _ x c e Qz hi' (kJ h1) b hb).2 h3
     ·obtain⟨x,e,h1,h3⟩:=dm.1 w
      have:=(List.getElem?_eq_some_iff.1 h1).1
      exact(Y.hp.ap x _ e c Qz (kJ h1) hi' b h3).1 hb
     ·omega
   ·exact Y.hp.ap _ _ c d Qz (pw hi) (pw hj)
 ·rcases gu hk with hk | ⟨_,hk⟩
  ·rcases P.ow k c hk b hb with w | w
   ·obtain⟨i,d,h1,h3⟩:=dm.1 w
    exact Y.ow i d (kJ h1) b h3
   ·have:=Y.le;omega
  ·exact Y.ow _ c (pw hk) b hb
 ·obtain⟨k,c,hk,hb⟩:=bR.1 hb
  rcases gu hk with hk | ⟨_,hk⟩
  ·rcases p.ri b (bR.2 ⟨k,c,hk,hb⟩)with w | w | w
   ·obtain⟨x,e,h1,h3⟩:=bR.1 w
    exact q.ri b (bR.2 ⟨x,e,kJ h1,h3⟩)
   ·obtain⟨x,e,h1,h3⟩:=dm.1 w
    have:=Y.ow x e (kJ h1) b h3
    grind
   ·have:=Y.le;omega
  ·exact q.ri b (bR.2 ⟨_,c,pw hk,hb⟩)
theorem Sq.callT (q:Sq h0 C h cs) (p:Sq h cs h' cs'):Sq h0 C h' cs':=by
 have:=Sq.call (A:=cs) (B:=[]) (by simpa using q) p
 grind
theorem Sq.pick (q:Sq h0 C h cs) (l:List Nat) (hc:ib cs.length l=true):Sq h0 C h (pk cs l):=
 ⟨q.sy.pick l hc,fun b hb=>by
  obtain⟨k,c,h1,h2⟩:=bR.1 hb
  obtain⟨i,_,h3⟩:=ja hc h1
  exact q.ri b (bR.2 ⟨i,c,h3,h2⟩)⟩
theorem Sq.gr (q:Sq h0 C h cs) (f:Fr [] h h'):Sq h0 C h' cs:=⟨q.sy.gr f,q.ri⟩
end
def ek (ks:List QS):List (Value × Value):=ks.map fun k=>(.string (Go.Proofs.YtemphinmoihdaaaGreatDoor.G.mkB k),QM 1)
abbrev Fs :=List (Nat × Nat × Value)
section
variable {h0 h h':ab} {M:List Nat} {cs:List Ck} {mo:Option (Nat × List QS)} {fs:Fs} {gl:GL}
theorem kK {m b o:Nat} {v:Value} {x:Array MapEntry × Nat} (h1:bG h m=some x) (h2:ac h b o=some v):m≠b:=by
 rintro rfl
 obtain⟨es,c⟩:=x
 obtain⟨c,e,f,h3,_⟩:=oB h2
 rw[bD h1]at h3
 cases h3
end
end Go.X
namespace Go.Proofs.YtemphinmoihdaaaGreatDoor.N
open Go.Proofs.YtemphinmoihdaaaGreatDoor
open Go.X
set_option maxRecDepth 100000
set_option maxHeartbeats 2000000
def S15 (bP:QR) (h:ab) (R:VP):Prop:=∃b o,bP=some ⟨b,o,none⟩/\∃(c:QR) (a d:Nat),ac h b (o+1)=some (.slice c a d)/\R (QM (a:Int)) h
theorem Gx {h:ab} {R:VP} (bP:QR) (H:S15 bP h R):QH 15 #[.pointer bP] h R:=aN [] 8 [] [] [] [] Tryz.func15 QC QC H
def S27 (bP:QR) (s:ByteArray) (h:ab) (R:VP):Prop:=QG 49 #[.pointer bP] h [] fun k c=>k= .tuple #[]/\∃b o,bP=some ⟨b,o,none⟩/\∃(d:QR) (a e:Nat),ac c b (o+1)=some (.slice d a e)/\∃g,ar c 5 1 d a e g/\(∀b'∈([]:List Nat),b'∉ai d)/\(a+s.size)*1<=140737488355328/\(a+s.size)<=maxLen/\∀sA sC hv2,ar hv2 5 1 sA (a+s.size) sC (g++(Lib.strCells s))->Fr (ai d) c hv2->((sA=d/\sC=e)\/∃f,sA=some ⟨f,0,none⟩/\c.size<=f)->(e<(a+s.size)->Fr [] c hv2)->∃b2 o2,bP=some ⟨b2,o2,none⟩/\(∃j,ac hv2 b2 (o2+1)=some j)/\au hv2 b2 (o2+1)=true/\let i:ab:=am hv2 b2 (o2+1) (.slice sA (a+s.size) sC);R (.tuple #[QM (s.size:Int),.nilIface]) i
theorem Gy {h:ab} {R:VP} (bP:QR) (s:ByteArray) (H:S27 bP s h R):QH 27 #[.pointer bP,.string s] h R:=aN [] 19 [] [] [] [] Tryz.func27 QC QC H
def S29 (bP:QR) (c:Int) (h:ab) (R:VP):Prop:=QG 49 #[.pointer bP] h [] fun m e=>m= .tuple #[]/\∃b o,bP=some ⟨b,o,none⟩/\∃(d:QR) (a g:Nat),ac e b (o+1)=some (.slice d a g)/\let f:ab:=e.push (.cells #[QP c] 5);∃j,ar f 5 1 d a g j/\(∀b'∈([e.size]:List Nat),b'∉ai d)/\(a+1)*1<=140737488355328/\(a+1)<=maxLen/\∀sA sC hv3,ar hv3 5 1 sA (a+1) sC (j++[QP c])->Fr (ai d) f hv3->((sA=d/\sC=g)\/∃i,sA=some ⟨i,0,none⟩/\f.size<=i)->(g<(a+1)->Fr [] f hv3)->∃b2 o2,bP=some ⟨b2,o2,none⟩/\b2≠e.size/\(∃l,ac hv3 b2 (o2+1)=some l)/\au hv3 b2 (o2+1)=true/\let k:ab:=am hv3 b2 (o2+1) (.slice sA (a+1) sC);R (.nilIface) k
theorem Gz {h:ab} {R:VP} (bP:QR) (c:Int) (H:S29 bP c h R):QH 29 #[.pointer bP,QP c] h R:=aN [13] 17 [] [] [] [] Tryz.func29 QC QC H
open Go.Proofs
def bI (l:QS):List Int:=l.map fun c=>((c.toNat:Nat):Int)
theorem qs (a b:QS):bI (a++b)=bI a++bI b:=List.map_append
theorem kL (a:QS):(bI a).length=a.length:=List.length_map _
def pU (u:Bool) (b:Nat):Value:=if u=true then .pointer (some ⟨b,0,none⟩)else .pointer none
set_option maxHeartbeats 1000000 in
theorem Bb (b:Nat) (w:World) (h0:w.cell? ⟨b,0,none⟩=some (.pointer (some ⟨b,0,none⟩))):
  Calls Tryz.prog 49 #[.pointer (some ⟨b,0,none⟩)] w fun e w'=>e= .returned (.tuple #[])/\w'=w:=by
 obtain⟨j,hj,_⟩:=Option.map_eq_some_iff.1 (show(Tryz.prog.info? 45).map (·.size)=some 2 by kernel_rfl)
 have t70:Tryz.prog.underlying 43=some (.pointer 45):=by kernel_rfl
 go_enter Tryz.func49,Tryz.ntmps49
 go_wp2
 rw[Lib.run_neq_ptr_same w _ t70 hj]
 go_wp2
 go_end0
 exact⟨rfl,rfl⟩
theorem tq {w:World} {g n:Nat}:(w.freeze ⟨g,0,none⟩ n).heap.size=w.heap.size/\(∀k,k≠g->(w.freeze ⟨g,0,none⟩ n).heap[k]? =w.heap[k]?)/\(w.freeze ⟨g,0,none⟩ n).os=w.os/\(w.freeze ⟨g,0,none⟩ n).output=w.output:=by
 unfold World.freeze
 split
 ·exact⟨rfl,fun _ _=>rfl,rfl,rfl⟩
 ·refine⟨Array.size_modify,fun k hk=>?_,rfl,rfl⟩
  show(w.heap.modify g _)[k]? =_
  rw[Array.getElem?_modify,if_neg (Ne.symm hk)]
theorem Bc {w:World} {g n:Nat}:Fr [g] w.heap (w.drew.freeze ⟨g,0,none⟩ n).heap:=by
 obtain⟨h1,h2,_⟩:=tq (w:=w.drew) (g:=g) (n:=n)
 exact⟨Nat.le_of_eq h1.symm,fun k hk hkg=>h2 k (by simpa using hkg)⟩
theorem wc {w:World} {g n:Nat}:Go.X.Rest w (w.drew.freeze ⟨g,0,none⟩ n):=by
 obtain⟨h1,_,h3,h4⟩:=tq (w:=w.drew) (g:=g) (n:=n)
 have ht:(w.drew.freeze ⟨g,0,none⟩ n).tape=w.tape:=by unfold World.freeze;split<;>rfl
 exact⟨h3,ht,h4,Nat.le_of_eq h1.symm⟩
end Go.Proofs.YtemphinmoihdaaaGreatDoor.N
namespace Go.Proofs.YtemphinmoihdaaaGreatDoor.G
def cf (ls:List QS):QS:=ls.flatMap fun l=>l++[10]
theorem kG (l:QS) (ls:List QS):cf (l::ls)=l++(10::cf ls):=by simp[cf]
theorem mw (a b:List QS):cf (a++b)=cf a++cf b:=by simp[cf]
end Go.Proofs.YtemphinmoihdaaaGreatDoor.G
namespace Go.Proofs.YtemphinmoihdaaaGreatDoor.N
open Go.Proofs.YtemphinmoihdaaaGreatDoor
open Go.X
open Go.Proofs
set_option maxRecDepth 100000
theorem IL {h0 h:ab} {M:List Nat} {cs:List Ck} (Y:Sy h0 M h cs) (k:Nat) {c:Ck} (hk:cs[k]? =some c):∀x∈c.own,x<h.size:=(c.lt h (Y.ok hk)).1
section
variable {b c d:Nat} {u:Bool} {A:QR} {l:QS} {h:ab}
theorem PD (n:Nat):Lib.repeatL [32,32] n=G.ind (2*n):=by
 induction n with
 | zero=>rfl
 | succ n ih=>
  have:Lib.repeatL [32,32] (n+1)=32::32::Lib.repeatL [32,32] n:=rfl
  rw[this,ih,show 2*(n+1)=2*n+1+1 by omega];rfl
def wds (ws:List ByteArray):List Value:=ws.map Value.string
end
set_option maxHeartbeats 2000000
def S12 (wP partsA:QR) (partsL partsC:Nat) (h:ab) (R:VP):Prop:=let e:=fun(w:ab)=>(∃(d:LP) (m:List Value->ab->Nat),d [QM 0] w/\∀a:Int,∀c,d [QM a] c->cnd (decide (a<(partsL:Int))) (let f:=fun(k:ab)=>(d [QM (i64.wrap (a+1))] k/\m [QM (i64.wrap (a+1))] k<m [QM a] c);∃b3 o3,partsA=some ⟨b3,o3,none⟩/\0<=a/\a<(partsL:Nat)/\∃v:ByteArray,ac c b3 (o3+(Int.toNat a)*1)=some (.string v)/\∃b4 o4,wP=some ⟨b4,o4,none⟩/\QG 27 #[.pointer (some (⟨b4,o4,none⟩:Addr)),.string v] c [] fun s j=>∃q:Int,((s= .tuple #[QM q,.nilIface]/\f j)\/∃(C:Nat) (A:Value),s= .tuple #[QM q,.iface C A]/\f j)) (∃b5 o5,wP=some ⟨b5,o5,none⟩/\QG 29 #[.pointer (some (⟨b5,o5,none⟩:Addr)),QP 10] c [] fun t l=>((t= .nilIface/\R (.tuple #[]) l)\/∃(y:Nat) (x:Value),t= .iface y x/\R (.tuple #[]) l)));∃b o,wP=some ⟨b,o,none⟩/\∃b2 o2,wP=some ⟨b2,o2,none⟩/\∃u:Int,ac h b2 (o2+2)=some (QM u)/\QG 28 #[.string ⟨#[32,32]⟩,QM u] h [] fun D g=>∃n:ByteArray,D= .string n/\Fr [] h g/\QG 27 #[.pointer (some (⟨b,o,none⟩:Addr)),.string n] g [] fun r i=>∃p:Int,((r= .tuple #[QM p,.nilIface]/\e i)\/∃(B:Nat) (z:Value),r= .tuple #[QM p,.iface B z]/\e i)
theorem G3 {h:ab} {R:VP} (wP partsA:QR) (partsL partsC:Nat) (H:S12 wP partsA partsL partsC h R):QH 12 #[.pointer wP,.slice partsA partsL partsC] h R:=aN [] 31 [(0,⟨[0,15,16],[17],[],[]⟩)] [] [] [(0,⟨8,false⟩)] Tryz.func12 QC QC H
def S30 (wP:QR) (id ofv name kind:ByteArray) (h:ab) (R:VP):Prop:=let a:ab:=h.push (.cells #[.string ⟨#[60,107,101,121,32,105,100,61,34]⟩,.string id,.string ⟨#[34,32,102,111,114,61,34]⟩,.string ofv,.string ⟨#[34,32,97,116,116,114,46,110,97,109,101,61,34]⟩,.string name,.string ⟨#[34,32,97,116,116,114,46,116,121,112,101,61,34]⟩,.string kind,.string ⟨#[34,47,62]⟩] 9);QG 12 #[.pointer wP,.slice (some (⟨h.size,0,none⟩:Addr)) 9 9] a [] fun c b=>c= .tuple #[]/\R (.tuple #[]) b
theorem G4 {h:ab} {R:VP} (wP:QR) (id ofv name kind:ByteArray) (H:S30 wP id ofv name kind h R):QH 30 #[.pointer wP,.string id,.string ofv,.string name,.string kind] h R:=aN [] 17 [] [] [] [] Tryz.func30 QC QC H
def S13 (wP:QR) (d:Int) (dA:QR) (dL dC:Nat) (d2:Bool) (dA2:QR) (dL2 dC2:Nat) (dA3:QR) (dL3 dC3:Nat) (dA4:QR) (dL4 dC4:Nat) (h:ab) (R:VP):Prop:=let g:ab:=h.push (.cells #[QM d,.slice dA dL dC,.bool d2,.slice dA2 dL2 dC2,.slice dA3 dL3 dC3,.slice dA4 dL4 dC4] 29);∃a:LP,(cnd (decide ((dL2:Int)>(0:Int))) (QG 30 #[.pointer wP,.string ⟨#[100,48]⟩,.string ⟨#[110,111,100,101]⟩,.string ⟨#[108,97,98,101,108]⟩,.string ⟨#[115,116,114,105,110,103]⟩] g [h.size] fun n j=>n= .tuple #[]/\a [] j) (a [] g))/\∀e,a [] e->∃b:LP,(cnd (decide ((dL3:Int)>(0:Int))) (QG 30 #[.pointer wP,.string ⟨#[100,49]⟩,.string ⟨#[110,111,100,101]⟩,.string ⟨#[120]⟩,.string ⟨#[100,111,117,98,108,101]⟩] e [h.size] fun o k=>o= .tuple #[]/\QG 30 #[.pointer wP,.string ⟨#[100,50]⟩,.string ⟨#[110,111,100,101]⟩,.string ⟨#[121]⟩,.string ⟨#[100,111,117,98,108,101]⟩] k [h.size] fun p l=>p= .tuple #[]/\b [] l) (b [] e))/\∀f,b [] f->∃c:LP,(cnd (decide ((dL4:Int)>(0:Int))) (QG 30 #[.pointer wP,.string ⟨#[100,51]⟩,.string ⟨#[101,100,103,101]⟩,.string ⟨#[119,101,105,103,104,116]⟩,.string ⟨#[100,111,117,98,108,101]⟩] f [h.size] fun q m=>q= .tuple #[]/\c [] m) (c [] f))/\∀i,c [] i->R (.tuple #[]) i
theorem G5 {h:ab} {R:VP} (wP:QR) (d:Int) (dA:QR) (dL dC:Nat) (d2:Bool) (dA2:QR) (dL2 dC2:Nat) (dA3:QR) (dL3 dC3:Nat) (dA4:QR) (dL4 dC4:Nat) (H:S13 wP d dA dL dC d2 dA2 dL2 dC2 dA3 dL3 dC3 dA4 dL4 dC4 h R):QH 13 #[.pointer wP,.agg #[QM d,.slice dA dL dC,.bool d2,.slice dA2 dL2 dC2,.slice dA3 dL3 dC3,.slice dA4 dL4 dC4]] h R:=aN [3] 24 [] [(7,⟨[0,3],[],[3],[]⟩),(13,⟨[0,3],[],[3],[]⟩),(21,⟨[],[],[],[]⟩)] [] [] Tryz.func13 QC QC H
def S33 (wP:QR) (front name:ByteArray) (dataA:QR) (dT dataC:Nat) (h:ab) (R:VP):Prop:=cnd ((dT:Int)==(0:Int)) (let q:ab:=h.push (.cells #[.string front,.string ⟨#[47,62]⟩] 9);QG 12 #[.pointer wP,.slice (some (⟨h.size,0,none⟩:Addr)) 2 2] q [] fun w t=>w= .tuple #[]/\R (.tuple #[]) t) (let u:ab:=h.push (.cells #[.string front,.string ⟨#[62]⟩] 9);QG 12 #[.pointer wP,.slice (some (⟨h.size,0,none⟩:Addr)) 2 2] u [] fun x d=>x= .tuple #[]/\∃b o,wP=some ⟨b,o,none⟩/\∃l:Int,ac d b (o+2)=some (QM l)/\∃b2 o2,wP=some ⟨b2,o2,none⟩/\(∃f,ac d b2 (o2+2)=some f)/\au d b2 (o2+2)=true/\let v:ab:=am d b2 (o2+2) (QM (i64.wrap (l+1)));∃(e:LP) (k:List Value->ab->Nat),e [QM 0] v/\∀c:Int,∀a,e [QM c] a->cnd (decide (c<(dT:Int))) (∃b3 o3,dataA=some ⟨b3,o3,none⟩/\0<=c/\c<(dT:Nat)/\∃m:ByteArray,ac a b3 (o3+(Int.toNat c)*1)=some (.string m)/\∃b4 o4,dataA=some ⟨b4,o4,none⟩/\0<=(i64.wrap (c+1))/\(i64.wrap (c+1))<(dT:Nat)/\∃n:ByteArray,ac a b4 (o4+(Int.toNat (i64.wrap (c+1)))*1)=some (.string n)/\let g:ab:=a.push (.cells #[.string ⟨#[60,100,97,116,97,32,107,101,121,61,34]⟩,.string m,.string ⟨#[34,62]⟩,.string n,.string ⟨#[60,47,100,97,116,97,62]⟩] 9);Fr [] a g/\QG 12 #[.pointer wP,.slice (some (⟨a.size,0,none⟩:Addr)) 5 5] g [] fun y i=>y= .tuple #[]/\e [QM (i64.wrap (c+2))] i/\k [QM (i64.wrap (c+2))] i<k [QM c] a) (∃b5 o5,wP=some ⟨b5,o5,none⟩/\∃p:Int,ac a b5 (o5+2)=some (QM p)/\∃b6 o6,wP=some ⟨b6,o6,none⟩/\(∃f,ac a b6 (o6+2)=some f)/\au a b6 (o6+2)=true/\let j:ab:=am a b6 (o6+2) (QM (i64.wrap (p-1)));let r:ab:=j.push (.cells #[.string ⟨#[60,47]⟩,.string name,.string ⟨#[62]⟩] 9);QG 12 #[.pointer wP,.slice (some (⟨j.size,0,none⟩:Addr)) 3 3] r [] fun z s=>z= .tuple #[]/\R (.tuple #[]) s))
theorem G6 {h:ab} {R:VP} (wP:QR) (front name:ByteArray) (dataA:QR) (dT dataC:Nat) (H:S33 wP front name dataA dT dataC h R):QH 33 #[.pointer wP,.string front,.string name,.slice dataA dT dataC] h R:=aN [] 56 [(0,⟨[0,2,3],[8],[],[]⟩)] [] [] [(7,⟨11,false⟩)] Tryz.func33 QC QC H
def S14 (wP:QR) (d:Int) (dA:QR) (dL dC:Nat) (d2:Bool) (dA2:QR) (dL2 dC2:Nat) (dA3:QR) (dL3 dC3:Nat) (dA4:QR) (dL4 dC4:Nat) (h:ab) (R:VP):Prop:=let a6:ab:=h.push (.cells #[QM d,.slice dA dL dC,.bool d2,.slice dA2 dL2 dC2,.slice dA3 dL3 dC3,.slice dA4 dL4 dC4] 29);∃(v:LP) (X:List Value->ab->Nat),v [QM 0] a6/\∀a:Int,∀l,v [QM a] l->cnd (decide (a<d)) (∃x:LP,(cnd (decide ((dL2:Int)>(0:Int))) (∃b o,dA2=some ⟨b,o,none⟩/\0<=a/\a<(dL2:Nat)/\∃a2:ByteArray,ac l b (o+(Int.toNat a)*1)=some (.string a2)/\QG 31 #[.string a2] l [h.size] fun a9 V=>∃C:ByteArray,a9= .string C/\let s:ab:=V.push (.cells #[.string ⟨#[100,48]⟩,.string C] 9);∃Z,ar s 9 1 none 0 0 Z/\(∀b'∈([V.size,h.size]:List Nat),b'∉ai none)/\(0+2)*16<=140737488355328/\(0+2)<=maxLen/\∀sA sC hv5,ar hv5 9 1 sA (0+2) sC (Z++[.string ⟨#[100,48]⟩,.string C])->Fr (ai none) s hv5->((sA=none/\sC=0)\/∃i,sA=some ⟨i,0,none⟩/\s.size<=i)->(0<(0+2)->Fr [] s hv5)->x [.slice sA (0+2) sC] hv5) (x [.slice none 0 0] l))/\∀(k:QR) (g n:Nat),∀f,x [.slice k g n] f->∃y:LP,(cnd (decide ((dL3:Int)>(0:Int))) (∃j:List Nat,(∀b∈([h.size]:List Nat),b∉j)/\∃b2 o2,dA3=some ⟨b2,o2,none⟩/\0<=a/\a<(dL3:Nat)/\b2∉j/\∃a3:Nat,ac f b2 (o2+(Int.toNat a)*2)=some (QQ a3)/\∃b3 o3,dA3=some ⟨b3,o3,none⟩/\0<=a/\a<(dL3:Nat)/\b3∉j/\∃a4:Nat,ac f b3 ((o3+(Int.toNat a)*2)+1)=some (QQ a4)/\QG 32 #[QQ a3] f [h.size] fun b0 W=>∃D:ByteArray,b0= .string D/\Fr j f W/\QG 32 #[QQ a4] W [h.size] fun b1 B=>∃E:ByteArray,b1= .string E/\Fr j f B/\let p:ab:=B.push (.cells #[.string ⟨#[100,49]⟩,.string D,.string ⟨#[100,50]⟩,.string E] 9);Fr j f p/\∃a0,ar p 9 1 k g n a0/\(∀b'∈([B.size,h.size]:List Nat),b'∉ai k)/\(g+4)*16<=140737488355328/\(g+4)<=maxLen/\∀sA2 sC2 hv10,ar hv10 9 1 sA2 (g+4) sC2 (a0++[.string ⟨#[100,49]⟩,.string D,.string ⟨#[100,50]⟩,.string E])->Fr (ai k) p hv10->((sA2=k/\sC2=n)\/∃i,sA2=some ⟨i,0,none⟩/\p.size<=i)->(n<(g+4)->Fr [] p hv10)->Fr j f hv10/\y [.slice sA2 (g+4) sC2] hv10) (y [.slice k g n] f))/\∀(I:QR) (M K:Nat),∀O,y [.slice I M K] O->QG 34 #[QM a] O [h.size] fun b6 a7=>∃t:ByteArray,b6= .string t/\((((⟨#[60,110,111,100,101,32,105,100,61,34,110]⟩:ByteArray).size+t.size:Nat)):Int)<=9223372036854775807/\(((((⟨#[60,110,111,100,101,32,105,100,61,34,110]⟩:ByteArray)++t).size+(⟨#[34]⟩:ByteArray).size:Nat)):Int)<=9223372036854775807/\QG 33 #[.pointer wP,.string (((⟨#[60,110,111,100,101,32,105,100,61,34,110]⟩:ByteArray)++t)++(⟨#[34]⟩:ByteArray)),.string ⟨#[110,111,100,101]⟩,.slice I M K] a7 [h.size] fun b7 P=>b7= .tuple #[]/\v [QM (i64.wrap (a+1))] P/\X [QM (i64.wrap (a+1))] P<X [QM a] l) (∃(w:LP) (Y:List Value->ab->Nat),w [QM 0] l/\∀e:Int,∀c,w [QM e] c->cnd (decide (e<(dL:Int))) (∃b4 o4,dA=some ⟨b4,o4,none⟩/\0<=e/\e<(dL:Nat)/\∃G:Int,ac c b4 (o4+(Int.toNat e)*2)=some (QM G)/\∃H:Int,ac c b4 ((o4+(Int.toNat e)*2)+1)=some (QM H)/\let a8:ab:=c.push (.cells #[QM 0,QM 0] 71);let A:ab:=am (am a8 c.size 0 (QM G)) c.size (0+1) (QM H);∃z:LP,(cnd (decide ((dL4:Int)>(0:Int))) (∃b5 o5,dA4=some ⟨b5,o5,none⟩/\0<=e/\e<(dL4:Nat)/\∃a5:Nat,ac A b5 (o5+(Int.toNat e)*1)=some (QQ a5)/\QG 32 #[QQ a5] A [c.size,h.size] fun b8 Q=>∃F:ByteArray,b8= .string F/\let q:ab:=Q.push (.cells #[.string ⟨#[100,51]⟩,.string F] 9);∃a1,ar q 9 1 none 0 0 a1/\(∀b'∈([Q.size,c.size,h.size]:List Nat),b'∉ai none)/\(0+2)*16<=140737488355328/\(0+2)<=maxLen/\∀sA3 sC3 hv19,ar hv19 9 1 sA3 (0+2) sC3 (a1++[.string ⟨#[100,51]⟩,.string F])->Fr (ai none) q hv19->((sA3=none/\sC3=0)\/∃i,sA3=some ⟨i,0,none⟩/\q.size<=i)->(0<(0+2)->Fr [] q hv19)->z [.slice sA3 (0+2) sC3] hv19) (z [.slice none 0 0] A))/\∀(J:QR) (N L:Nat),∀r,z [.slice J N L] r->QG 34 #[QM G] r [h.size,c.size] fun b9 S=>∃m:ByteArray,b9= .string m/\Fr [] r S/\((((⟨#[60,101,100,103,101,32,115,111,117,114,99,101,61,34,110]⟩:ByteArray).size+m.size:Nat)):Int)<=9223372036854775807/\(((((⟨#[60,101,100,103,101,32,115,111,117,114,99,101,61,34,110]⟩:ByteArray)++m).size+(⟨#[34,32,116,97,114,103,101,116,61,34,110]⟩:ByteArray).size:Nat)):Int)<=9223372036854775807/\QG 34 #[QM H] S [h.size,c.size] fun c0 T=>∃u:ByteArray,c0= .string u/\Fr [] r T/\((((((⟨#[60,101,100,103,101,32,115,111,117,114,99,101,61,34,110]⟩:ByteArray)++m)++(⟨#[34,32,116,97,114,103,101,116,61,34,110]⟩:ByteArray)).size+u.size:Nat)):Int)<=9223372036854775807/\(((((((⟨#[60,101,100,103,101,32,115,111,117,114,99,101,61,34,110]⟩:ByteArray)++m)++(⟨#[34,32,116,97,114,103,101,116,61,34,110]⟩:ByteArray))++u).size+(⟨#[34]⟩:ByteArray).size:Nat)):Int)<=9223372036854775807/\QG 33 #[.pointer wP,.string (((((⟨#[60,101,100,103,101,32,115,111,117,114,99,101,61,34,110]⟩:ByteArray)++m)++(⟨#[34,32,116,97,114,103,101,116,61,34,110]⟩:ByteArray))++u)++(⟨#[34]⟩:ByteArray)),.string ⟨#[101,100,103,101]⟩,.slice J N L] T [h.size,c.size] fun c1 U=>c1= .tuple #[]/\w [QM (i64.wrap (e+1))] U/\Y [QM (i64.wrap (e+1))] U<Y [QM e] c) (R (.tuple #[]) c))
theorem G7 {h:ab} {R:VP} (wP:QR) (d:Int) (dA:QR) (dL dC:Nat) (d2:Bool) (dA2:QR) (dL2 dC2:Nat) (dA3:QR) (dL3 dC3:Nat) (dA4:QR) (dL4 dC4:Nat) (H:S14 wP d dA dL dC d2 dA2 dL2 dC2 dA3 dL3 dC3 dA4 dL4 dC4 h R):QH 14 #[.pointer wP,.agg #[QM d,.slice dA dL dC,.bool d2,.slice dA2 dL2 dC2,.slice dA3 dL3 dC3,.slice dA4 dL4 dC4]] h R:=aN [3,7,26,47,77] 93 [(0,⟨[0,3,11],[12],[3],[]⟩),(2,⟨[0,3,59,60],[61],[3],[]⟩)] [(18,⟨[0,3,4,11,12],[5],[3],[]⟩),(31,⟨[0,3,4,11,12],[5],[3],[]⟩),(69,⟨[0,3,7,59,60,61],[8],[3,7],[]⟩)] [] [(8,⟨18,true⟩),(17,⟨12,false⟩)] Tryz.func14 QC QC H
def S6 (d:Int) (dA:QR) (dL dC:Nat) (d2:Bool) (dA2:QR) (dL2 dC2:Nat) (dA3:QR) (dL3 dC3:Nat) (dA4:QR) (dL4 dC4:Nat) (h:ab) (R:VP):Prop:=let y:ab:=h.push (.cells #[QM d,.slice dA dL dC,.bool d2,.slice dA2 dL2 dC2,.slice dA3 dL3 dC3,.slice dA4 dL4 dC4] 29);QG 11 #[.agg #[QM d,.slice dA dL dC,.bool d2,.slice dA2 dL2 dC2,.slice dA3 dL3 dC3,.slice dA4 dL4 dC4]] y [h.size] fun I a=>∃r:Bool,I= .bool r/\cnd (!r) (R (.tuple #[.string ⟨#[]⟩,QM 1]) a) (let n:ab:=a.push (.cells #[.pointer none,.slice none 0 0,QM 0] 47);let F:ab:=n.push (.cells #[.string ⟨#[60,63,120,109,108,32,118,101,114,115,105,111,110,61,34,49,46,48,34,32,101,110,99,111,100,105,110,103,61,34,85,84,70,45,56,34,63,62]⟩] 9);QG 12 #[.pointer (some (⟨a.size,0,none⟩:Addr)),.slice (some (⟨n.size,0,none⟩:Addr)) 1 1] F [h.size] fun K o=>K= .tuple #[]/\let G:ab:=o.push (.cells #[.string ⟨#[60,103,114,97,112,104,109,108,32,120,109,108,110,115,61,34,104,116,116,112,58,47,47,103,114,97,112,104,109,108,46,103,114,97,112,104,100,114,97,119,105,110,103,46,111,114,103,47,120,109,108,110,115,34,62]⟩] 9);QG 12 #[.pointer (some (⟨a.size,0,none⟩:Addr)),.slice (some (⟨o.size,0,none⟩:Addr)) 1 1] G [h.size] fun L g=>L= .tuple #[]/\∃u:Int,ac g a.size (0+2)=some (QM u)/\a.size≠h.size/\(∃b,ac g a.size (0+2)=some b)/\au g a.size (0+2)=true/\let H:ab:=am g a.size (0+2) (QM (i64.wrap (u+1)));QG 13 #[.pointer (some (⟨a.size,0,none⟩:Addr)),.agg #[QM d,.slice dA dL dC,.bool d2,.slice dA2 dL2 dC2,.slice dA3 dL3 dC3,.slice dA4 dL4 dC4]] H [h.size] fun M p=>M= .tuple #[]/\∃i:LP,(cnd d2 (i [.string ⟨#[100,105,114,101,99,116,101,100]⟩] p) (i [.string ⟨#[117,110,100,105,114,101,99,116,101,100]⟩] p))/\∀q:ByteArray,∀j,i [.string q] j->let z:ab:=j.push (.cells #[.string ⟨#[60,103,114,97,112,104,32,101,100,103,101,100,101,102,97,117,108,116,61,34]⟩,.string q,.string ⟨#[34,62]⟩] 9);QG 12 #[.pointer (some (⟨a.size,0,none⟩:Addr)),.slice (some (⟨j.size,0,none⟩:Addr)) 3 3] z [h.size] fun N c=>N= .tuple #[]/\∃v:Int,ac c a.size (0+2)=some (QM v)/\a.size≠h.size/\(∃b,ac c a.size (0+2)=some b)/\au c a.size (0+2)=true/\let A:ab:=am c a.size (0+2) (QM (i64.wrap (v+1)));QG 14 #[.pointer (some (⟨a.size,0,none⟩:Addr)),.agg #[QM d,.slice dA dL dC,.bool d2,.slice dA2 dL2 dC2,.slice dA3 dL3 dC3,.slice dA4 dL4 dC4]] A [h.size] fun O e=>O= .tuple #[]/\∃w:Int,ac e a.size (0+2)=some (QM w)/\a.size≠h.size/\(∃b,ac e a.size (0+2)=some b)/\au e a.size (0+2)=true/\let k:ab:=am e a.size (0+2) (QM (i64.wrap (w-1)));let B:ab:=k.push (.cells #[.string ⟨#[60,47,103,114,97,112,104,62]⟩] 9);QG 12 #[.pointer (some (⟨a.size,0,none⟩:Addr)),.slice (some (⟨k.size,0,none⟩:Addr)) 1 1] B [h.size] fun P f=>P= .tuple #[]/\∃x:Int,ac f a.size (0+2)=some (QM x)/\a.size≠h.size/\(∃b,ac f a.size (0+2)=some b)/\au f a.size (0+2)=true/\let l:ab:=am f a.size (0+2) (QM (i64.wrap (x-1)));let C:ab:=l.push (.cells #[.string ⟨#[60,47,103,114,97,112,104,109,108,62]⟩] 9);QG 12 #[.pointer (some (⟨a.size,0,none⟩:Addr)),.slice (some (⟨l.size,0,none⟩:Addr)) 1 1] C [h.size] fun Q D=>Q= .tuple #[]/\QG 15 #[.pointer (some (⟨a.size,0,none⟩:Addr))] D [h.size] fun S m=>∃s:Int,S= QM s/\cnd (decide (s>262144)) (R (.tuple #[.string ⟨#[]⟩,QM 23]) m) (QG 16 #[.pointer (some (⟨a.size,0,none⟩:Addr))] m [h.size] fun J E=>∃t:ByteArray,J= .string t/\R (.tuple #[.string t,QM 0]) E))
theorem JX {h:ab} {R:VP} (d:Int) (dA:QR) (dL dC:Nat) (d2:Bool) (dA2:QR) (dL2 dC2:Nat) (dA3:QR) (dL3 dC3:Nat) (dA4:QR) (dL4 dC4:Nat) (H:S6 d dA dL dC d2 dA2 dL2 dC2 dA3 dL3 dC3 dA4 dL4 dC4 h R):QH 6 #[.agg #[QM d,.slice dA dL dC,.bool d2,.slice dA2 dL2 dC2,.slice dA3 dL3 dC3,.slice dA4 dL4 dC4]] h R:=aN [1] 72 [] [(28,⟨[1,4],[5],[1],[]⟩)] [] [] Tryz.func6 QC QC H
def S4 (h:ab) (R:VP):Prop:=QG 7 #[.string ⟨#[60,103,114,97,112,104,109,108,62,60,103,114,97,112,104,32,101,100,103,101,100,101,102,97,117,108,116,61,39,100,105,114,101,99,116,101,100,39,62,60,110,111,100,101,32,105,100,61,34,97,34,47,62,60,47,103,114,97,112,104,62,60,47,103,114,97,112,104,109,108,62]⟩] h [] fun Q a=>∃d:Int,∃(f:QR) (o k:Nat),∃e:Bool,∃(g:QR) (p l:Nat),∃(i:QR) (q m:Nat),∃(j:QR) (r n:Nat),∃H:Int,∃K:Int,Q= .tuple #[.agg #[QM d,.slice f o k,.bool e,.slice g p l,.slice i q m,.slice j r n],QM H,QM K]/\let M:ab:=a.push (.cells #[QM 0,.slice none 0 0,.bool false,.slice none 0 0,.slice none 0 0,.slice none 0 0] 29);let N:ab:=am (am (am (am (am (am M a.size 0 (QM d)) a.size (0+1) (.slice f o k)) a.size ((0+1)+1) (.bool e)) a.size (((0+1)+1)+1) (.slice g p l)) a.size ((((0+1)+1)+1)+1) (.slice i q m)) a.size (((((0+1)+1)+1)+1)+1) (.slice j r n);QG 7 #[.string ⟨#[60,103,114,97,112,104,109,108,47,62]⟩] N [a.size] fun S b=>∃s:Int,∃(v:QR) (D z:Nat),∃t:Bool,∃(w:QR) (E A:Nat),∃(x:QR) (F B:Nat),∃(y:QR) (G C:Nat),∃I:Int,∃L:Int,S= .tuple #[.agg #[QM s,.slice v D z,.bool t,.slice w E A,.slice x F B,.slice y G C],QM I,QM L]/\let O:ab:=b.push (.cells #[QM 0,.slice none 0 0,.bool false,.slice none 0 0,.slice none 0 0,.slice none 0 0] 29);let P:ab:=am (am (am (am (am (am O b.size 0 (QM s)) b.size (0+1) (.slice v D z)) b.size ((0+1)+1) (.bool t)) b.size (((0+1)+1)+1) (.slice w E A)) b.size ((((0+1)+1)+1)+1) (.slice x F B)) b.size (((((0+1)+1)+1)+1)+1) (.slice y G C);QG 6 #[.agg #[QM d,.slice f o k,.bool e,.slice g p l,.slice i q m,.slice j r n]] P [b.size,a.size] fun T c=>∃u:ByteArray,∃J:Int,T= .tuple #[.string u,QM J]/\cnd (d==1) (cnd e (cnd (H==0) (cnd (K==0) (cnd (I==10) (cnd (L==14) (cnd (decide ((u.size:Int)>(100:Int))) (R (.bool (J==0)) c) (R (.bool false) c)) (R (.bool false) c)) (R (.bool false) c)) (R (.bool false) c)) (R (.bool false) c)) (R (.bool false) c)) (R (.bool false) c)
theorem JY {h:ab} {R:VP} (H:S4 h R):QH 4 #[] h R:=aN [1,4] 57 [] [] [] [] Tryz.func4 QC QC H
end Go.Proofs.YtemphinmoihdaaaGreatDoor.N
