/- Memory of the program's reader of GML: chunks, levels, takers; what a call may do to them. Conditions: none. -/
import Derived.Test.YtemclecmafjjfaaGreatDoorHWhole
import Derived.Test.YtemclecmafjjfaaGreatDoorXU
import Derived.Test.YtemclecmafjjfaaGreatDoorSBk
import Derived.Test.YtemclecmafjjfaaGreatDoorHBr
import Derived.Tactics
import Derived.Tactics2
import Derived.Laws.Pointers
import Derived.Test.YtemclecmafjjfaaGreatDoorGTell
import Derived.Lib.Replace
set_option linter.unusedVariables false
set_option linter.unusedSimpArgs false
open Go.IntKind (i64 u64 u8 i32)
namespace Go.X
def rds (cs:List Ck):List Nat:=cs.flatMap Ck.rd
theorem cd {cs:List Ck} {b:Nat}:b∈rds cs ↔ ∃(k:Nat) (c:Ck),cs[k]? =some c/\b∈c.rd:=by
 simp only[rds,List.mem_flatMap]
 exact⟨fun⟨c,h1,h2⟩=>let ⟨k,h3⟩:=List.mem_iff_getElem?.1 h1;⟨k,c,h3,h2⟩,fun⟨k,c,h1,h2⟩=>⟨c,List.mem_of_getElem? h1,h2⟩⟩
theorem br {cs:List Ck} {b:Nat}:b∈ao cs ↔ ∃(k:Nat) (c:Ck),cs[k]? =some c/\b∈c.own:=by
 simp only[ao,List.mem_flatMap]
 exact⟨fun⟨c,h1,h2⟩=>let ⟨k,h3⟩:=List.mem_iff_getElem?.1 h1;⟨k,c,h3,h2⟩,fun⟨k,c,h1,h2⟩=>⟨c,List.mem_of_getElem? h1,h2⟩⟩
structure Sq (h0:ab) (C:List Ck) (h:ab) (cs:List Ck):Prop where
 sy:Sy h0 (ao C) h cs
 ri:∀b∈rds cs,b∈rds C\/b∈ao C\/h0.size<=b
theorem Sq.start {h:ab} {cs:List Ck} (H:Hp h cs):Sq h cs h cs:=⟨Sy.start H,fun b hb=>.inl hb⟩
theorem Sq.hp {h0 h:ab} {C cs:List Ck} (q:Sq h0 C h cs):Hp h cs:=q.sy.hp
theorem Sq.fr {h0 h:ab} {C cs:List Ck} (q:Sq h0 C h cs):Fr (ao C) h0 h:=q.sy.fr
section
variable {h0 h h':ab} {C A B cs cs':List Ck}
theorem fH {k:Nat} {c:Ck} (hk:A[k]? =some c):(A++B)[k]? =some c:=by
 grind
theorem jh {k:Nat} {c:Ck} (hk:B[k]? =some c):(A++B)[A.length+k]? =some c:=by
 grind
theorem dq {k:Nat} {c:Ck} (hk:(A++B)[k]? =some c):A[k]? =some c\/(A.length<=k/\B[k-A.length]? =some c):=by
 grind
theorem Sq.frA (q:Sq h0 C h (A++B)) (f:Fr (ao A) h h'):Fr (ao C) h0 h':=
 q.fr.comp f fun b hb=>by
  obtain⟨k,c,h1,h2⟩:=br.1 hb
  exact q.sy.ow k c (fH h1) b h2
theorem Sq.frT (q:Sq h0 C h cs) (f:Fr (ao cs) h h'):Fr (ao C) h0 h':=Sq.frA (B:=[]) (by simpa using q) f
theorem Sq.call (q:Sq h0 C h (A++B)) (p:Sq h A h' cs'):Sq h0 C h' (cs'++B):=by
 have Y:=q.sy
 have P:=p.sy
 have okB:∀(k:Nat) (c:Ck),B[k]? =some c->c.ok h':=by
  intro k c hk
  have hk':=jh (A:=A) hk
  have hok:=Y.hp.ok _ c hk'
  obtain⟨l1,l2⟩:=c.lt h hok
  refine c.fr h h' (fun b hb=>P.fr.blk b (l1 b hb) fun w=>?_) (fun b hb=>P.fr.blk b (l2 b hb) fun w=>?_) hok
  ·obtain⟨i,d,h1,h3⟩:=br.1 w
   have:=(List.getElem?_eq_some_iff.1 h1).1
   exact(Y.hp.ap i (A.length+k) d c (by omega) (fH h1) hk' b h3).1 hb
  ·obtain⟨i,d,h1,h3⟩:=br.1 w
   have:=(List.getElem?_eq_some_iff.1 h1).1
   exact(Y.hp.ap i (A.length+k) d c (by omega) (fH h1) hk' b h3).2 hb
 refine⟨⟨q.frA P.fr,⟨fun k c hk=>?_,fun i j c d hij hi hj=>?_⟩,fun k c hk b hb=>?_⟩,fun b hb=>?_⟩
 ·rcases dq hk with hk | ⟨_,hk⟩
  ·exact P.hp.ok k c hk
  grind
 ·rcases dq hi with hi | ⟨hl,hi⟩
  ·rcases dq hj with hj | ⟨hl2,hj⟩
   ·exact P.hp.ap i j c d hij hi hj
   ·intro b hb
    have hj':=jh (A:=A) hj
    obtain⟨l1,l2⟩:=d.lt h (Y.hp.ok _ d hj')
    rcases P.ow i c hi b hb with w | w
    ·obtain⟨x,e,h1,h3⟩:=br.1 w
     have:=(List.getElem?_eq_some_iff.1 h1).1
     exact Y.hp.ap x _ e d (by omega) (fH h1) hj' b h3
    grind
  ·rcases dq hj with hj | ⟨hl2,hj⟩
   ·intro b hb
    have hi':=jh (A:=A) hi
    obtain⟨l1,l2⟩:=c.lt h (Y.hp.ok _ c hi')
    have hbl:=l1 b hb
    refine⟨fun x=>?_,fun x=>?_⟩
    ·rcases P.ow j d hj b x with w | w
     ·obtain⟨x,e,h1,h3⟩:=br.1 w
      have:=(List.getElem?_eq_some_iff.1 h1).1
      exact(Y.hp.ap x _ e c (by omega) (fH h1) hi' b h3).1 hb
     ·omega
    ·rcases p.ri b (cd.2 ⟨j,d,hj,x⟩)with w | w | w
     ·obtain⟨x,e,h1,h3⟩:=cd.1 w
      have:=(List.getElem?_eq_some_iff.1 h1).1
      exact(Y.hp.ap _ x c e (by omega) hi' (fH h1) b hb).2 h3
     ·obtain⟨x,e,h1,h3⟩:=br.1 w
      have:=(List.getElem?_eq_some_iff.1 h1).1
      exact(Y.hp.ap x _ e c (by omega) (fH h1) hi' b h3).1 hb
     ·omega
   ·exact Y.hp.ap _ _ c d (by omega) (jh hi) (jh hj)
 ·rcases dq hk with hk | ⟨_,hk⟩
  ·rcases P.ow k c hk b hb with w | w
   ·obtain⟨i,d,h1,h3⟩:=br.1 w
    exact Y.ow i d (fH h1) b h3
   ·have:=Y.le;omega
  ·exact Y.ow _ c (jh hk) b hb
 ·obtain⟨k,c,hk,hb⟩:=cd.1 hb
  rcases dq hk with hk | ⟨_,hk⟩
  ·rcases p.ri b (cd.2 ⟨k,c,hk,hb⟩)with w | w | w
   ·obtain⟨x,e,h1,h3⟩:=cd.1 w
    exact q.ri b (cd.2 ⟨x,e,fH h1,h3⟩)
   ·obtain⟨x,e,h1,h3⟩:=br.1 w
    have:=Y.ow x e (fH h1) b h3
    grind
   ·have:=Y.le;omega
  ·exact q.ri b (cd.2 ⟨_,c,jh hk,hb⟩)
theorem Sq.callT (q:Sq h0 C h cs) (p:Sq h cs h' cs'):Sq h0 C h' cs':=by
 have:=Sq.call (A:=cs) (B:=[]) (by simpa using q) p
 grind
theorem Sq.pick (q:Sq h0 C h cs) (l:List Nat) (hc:fT cs.length l=true):Sq h0 C h (pk cs l):=
 ⟨q.sy.pick l hc,fun b hb=>by
  obtain⟨k,c,h1,h2⟩:=cd.1 hb
  obtain⟨i,_,h3⟩:=iL hc h1
  exact q.ri b (cd.2 ⟨i,c,h3,h2⟩)⟩
theorem Sq.gr (q:Sq h0 C h cs) (f:Fr [] h h'):Sq h0 C h' cs:=⟨q.sy.gr f,q.ri⟩
end
def ek (ks:List (List UInt8)):List (Value × Value):=ks.map fun k=>(.string (Go.Proofs.YtemclecmafjjfaaGreatDoor.G.mkB k),.int .i64 1)
abbrev Fs :=List (Nat × Nat × Value)
def Ck.fx (mo:Option (Nat × List (List UInt8))) (fs:Fs):Ck:=
 ⟨(mo.map (·.1)).toList,fs.map (·.1),fun h=>(∀p,mo=some p->cy h p.1=some (Ent (ek p.2),(ek p.2).length))/\∀f∈fs,ac h f.1 f.2.1=some f.2.2,
  fun h o=>⟨by
   intro b hb
   cases mo with
   | none=>simp at hb
   | some p=>
    simp only[Option.map_some,Option.toList_some,List.mem_singleton]at hb
    subst hb
    exact(Array.getElem?_eq_some_iff.1 (bQ (o.1 p rfl))).1,fun b hb=>by
   obtain⟨f,h1,rfl⟩:=List.mem_map.1 hb
   exact bu (o.2 f h1)⟩,fun h h' he hr o=>⟨fun p hp=>by
   grind [lD,bQ],fun f hf=>(cI (hr f.1 (List.mem_map.2 ⟨f,hf,rfl⟩)) _).trans (o.2 f hf)⟩⟩
section
variable {h0 h h':ab} {M:List Nat} {cs:List Ck} {mo:Option (Nat × List (List UInt8))} {fs:Fs} {gl:GL}
theorem Sy.factF (Y:Sy h0 M h cs) (k:Nat) (hk:cs[k]? =some (Ck.fx mo fs)) (j:Nat) {b o:Nat} {v:Value} (hj:fs[j]? =some (b,o,v)):ac h b o=some v:=(Y.ok hk).2 (b,o,v) (List.mem_of_getElem? hj)
theorem Sy.mapF {m:Nat} {ks:List (List UInt8)} (Y:Sy h0 M h cs) (k:Nat) (hk:cs[k]? =some (Ck.fx (some (m,ks)) fs)):cy h m=some (Ent (ek ks),(ek ks).length):=(Y.ok hk).1 (m,ks) rfl
theorem ji {m b o:Nat} {v:Value} {x:Array MapEntry × Nat} (h1:cy h m=some x) (h2:ac h b o=some v):m≠b:=by
 rintro rfl
 obtain⟨es,c⟩:=x
 obtain⟨c,e,f,h3,_⟩:=lV h2
 rw[bQ h1]at h3
 cases h3
theorem Sy.seeF {m:Nat} {ks ks':List (List UInt8)} (Y:Sy h0 M h cs) (k:Nat) (hk:cs[k]? =some (Ck.fx (some (m,ks)) fs)) (f:Fr [m] h h') (hm:cy h' m=some (Ent (ek ks'),(ek ks').length)):Sy h0 M h' (cs.set k (Ck.fx (some (m,ks')) fs)):=by
 refine Y.mut hk _ f.size (fun d hd hn=>f.blk d hd (by simpa[Ck.fx]using hn)) ⟨fun p hp=>?_,fun x hx=>?_⟩ (fun d hd=>.inl hd) (fun d hd=>.inr (.inl hd))
 ·grind
 ·have h1:=(Y.ok hk).2 x hx
  have h2:=ji (Y.mapF k hk) h1
  rw[cI (f.blk x.1 (bu h1) (by grind))]
  exact h1
theorem Sy.cutF (Y:Sy h0 M h cs) (l:List Nat) (hc:fT cs.length l=true) (mo:Option (Nat × List (List UInt8))) (fs:Fs)
  (hm:∀p,mo=some p->∃k,cs[k]? =some (Ck.mp p.1 (ek p.2))/\k∉l) (hf:∀f∈fs,ac h f.1 f.2.1=some f.2.2/\∃(k:Nat) (c:Ck),cs[k]? =some c/\((f.1∈c.own/\k∉l)\/(f.1∈c.rd/\∃mo fs,c=Ck.fx mo fs))):
  Sy h0 M h (pk cs l++[Ck.fx mo fs]):=by
 have okx:(Ck.fx mo fs).ok h:=⟨fun p hp=>by
  obtain⟨k,h1,_⟩:=hm p hp
  exact Y.mapM k h1,fun f hf'=>(hf f hf').1⟩
 have Z:=Y.pick l hc
 have ap:∀(i:Nat) (d:Ck),(pk cs l)[i]? =some d->Ap d (Ck.fx mo fs)/\Ap (Ck.fx mo fs) d:=by
  intro i d hi
  obtain⟨p,h1,h2⟩:=iL hc hi
  have hpl:p∈l:=List.mem_of_getElem? h1
  have ow:∀b∈(Ck.fx mo fs).own,b∉d.own/\b∉d.rd:=by
   intro b hb
   cases mo with
   | none=>simp[Ck.fx]at hb
   | some q=>
    simp only[Ck.fx,Option.map_some,Option.toList_some,List.mem_singleton]at hb
    subst hb
    obtain⟨k,h3,h4⟩:=hm q rfl
    exact Y.hp.ap k p _ d (fun e=>h4 (e▸hpl)) h3 h2 q.1 (by simp[Ck.mp])
  refine⟨fun b hb=>⟨fun x=>(ow b x).1 hb,fun x=>?_⟩,ow⟩
  obtain⟨f,h3,rfl⟩:=List.mem_map.1 (show b∈fs.map (·.1)from x)
  obtain⟨hcl,k,c,h4,h5⟩:=hf f h3
  rcases h5 with⟨h5,h6⟩ | ⟨h5,mo',fs',rfl⟩
  ·exact(Y.hp.ap k p c d (fun e=>h6 (e▸hpl)) h4 h2 f.1 h5).1 hb
  ·by_cases e:p=k
   ·subst e
    rw[h4]at h2
    cases h2
    cases mo' with
    | none=>simp[Ck.fx]at hb
    | some q=>
     simp only[Ck.fx,Option.map_some,Option.toList_some,List.mem_singleton]at hb
     exact ji ((Y.ok h4).1 q rfl) hcl hb.symm
   ·exact(Y.hp.ap p k d _ e h2 h4 f.1 hb).2 h5
 refine⟨Z.fr,⟨fun k c hk=>?_,fun i j c d hij hi hj=>?_⟩,fun k c hk b hb=>?_⟩
 ·rcases dq hk with hk | ⟨_,hk⟩
  ·exact Z.hp.ok k c hk
  grind
 ·have lst:∀{n:Nat} {c:Ck},([Ck.fx mo fs]:List Ck)[n]? =some c->n=0/\c=Ck.fx mo fs:=by
   grind
  rcases dq hi with hi | ⟨hl,hi⟩
  ·rcases dq hj with hj | ⟨hl2,hj⟩
   ·exact Z.hp.ap i j c d hij hi hj
   grind
  grind
 ·rcases dq hk with hk | ⟨_,hk⟩
  ·exact Z.ow k c hk b hb
  ·obtain⟨e,rfl⟩:=List.getElem?_eq_some_iff.1 hk
   simp only[List.length_singleton]at e
   have e0:k-(pk cs l).length=0:=by omega
   simp only[e0,List.getElem_cons_zero]at hb
   cases mo with
   | none=>simp[Ck.fx]at hb
   | some q=>
    simp only[Ck.fx,Option.map_some,Option.toList_some,List.mem_singleton]at hb
    subst hb
    obtain⟨k,h3,h4⟩:=hm q rfl
    exact Y.ow k _ h3 q.1 (by simp[Ck.mp])
end
end Go.X
namespace Go.Proofs.YtemclecmafjjfaaGreatDoor.N
open Go.Proofs.YtemclecmafjjfaaGreatDoor
open Go.X
set_option maxRecDepth 100000
set_option maxHeartbeats 2000000
def S20 (bP:Option Addr) (h:ab) (R:VP):Prop:=∃b o,bP=some ⟨b,o,none⟩/\∃(c:Option Addr) (a d:Nat),ac h b (o+1)=some (.slice c a d)/\R (.int .i64 (a:Int)) h
theorem Ez {h:ab} {R:VP} (bP:Option Addr) (H:S20 bP h R):ae Tryz.prog 20 #[.pointer bP] h R:=aN [] 8 [] [] [] [] Tryz.func20 (by kernel_rfl) (by kernel_rfl) H
def S38 (bP:Option Addr) (s:ByteArray) (h:ab) (R:VP):Prop:=ai Tryz.prog 57 #[.pointer bP] h [] fun k c=>k= .tuple #[]/\∃b o,bP=some ⟨b,o,none⟩/\∃(d:Option Addr) (a e:Nat),ac c b (o+1)=some (.slice d a e)/\∃g,ar c 5 1 d a e g/\(∀b'∈([]:List Nat),b'∉ah d)/\(a+s.size)*1<=140737488355328/\(a+s.size)<=maxLen/\∀sA sC hv2,ar hv2 5 1 sA (a+s.size) sC (g++(Lib.strCells s))->Fr (ah d) c hv2->((sA=d/\sC=e)\/∃f,sA=some ⟨f,0,none⟩/\c.size<=f)->(e<(a+s.size)->Fr [] c hv2)->∃b2 o2,bP=some ⟨b2,o2,none⟩/\(∃j,ac hv2 b2 (o2+1)=some j)/\au hv2 b2 (o2+1)=true/\let i:ab:=am hv2 b2 (o2+1) (.slice sA (a+s.size) sC);R (.tuple #[.int .i64 (s.size:Int),.nilIface]) i
theorem EB {h:ab} {R:VP} (bP:Option Addr) (s:ByteArray) (H:S38 bP s h R):ae Tryz.prog 38 #[.pointer bP,.string s] h R:=aN [] 19 [] [] [] [] Tryz.func38 (by kernel_rfl) (by kernel_rfl) H
def S41 (bP:Option Addr) (c:Int) (h:ab) (R:VP):Prop:=ai Tryz.prog 57 #[.pointer bP] h [] fun m e=>m= .tuple #[]/\∃b o,bP=some ⟨b,o,none⟩/\∃(d:Option Addr) (a g:Nat),ac e b (o+1)=some (.slice d a g)/\let f:ab:=e.push (.cells #[.int .u8 c] 5);∃j,ar f 5 1 d a g j/\(∀b'∈([e.size]:List Nat),b'∉ah d)/\(a+1)*1<=140737488355328/\(a+1)<=maxLen/\∀sA sC hv3,ar hv3 5 1 sA (a+1) sC (j++[.int .u8 c])->Fr (ah d) f hv3->((sA=d/\sC=g)\/∃i,sA=some ⟨i,0,none⟩/\f.size<=i)->(g<(a+1)->Fr [] f hv3)->∃b2 o2,bP=some ⟨b2,o2,none⟩/\b2≠e.size/\(∃l,ac hv3 b2 (o2+1)=some l)/\au hv3 b2 (o2+1)=true/\let k:ab:=am hv3 b2 (o2+1) (.slice sA (a+1) sC);R (.nilIface) k
theorem EC {h:ab} {R:VP} (bP:Option Addr) (c:Int) (H:S41 bP c h R):ae Tryz.prog 41 #[.pointer bP,.int .u8 c] h R:=aN [13] 17 [] [] [] [] Tryz.func41 (by kernel_rfl) (by kernel_rfl) H
def S42 (s:ByteArray) (h:ab) (R:VP):Prop:=ai Tryz.prog 61 #[.string s,.string ⟨#[38]⟩,.string ⟨#[38,97,109,112,59]⟩] h [] fun e c=>∃b:ByteArray,e= .string b/\ai Tryz.prog 61 #[.string b,.string ⟨#[34]⟩,.string ⟨#[38,113,117,111,116,59]⟩] c [] fun f d=>∃a:ByteArray,f= .string a/\((((⟨#[34]⟩:ByteArray).size+a.size:Nat)):Int)<=9223372036854775807/\(((((⟨#[34]⟩:ByteArray)++a).size+(⟨#[34]⟩:ByteArray).size:Nat)):Int)<=9223372036854775807/\R (.string (((⟨#[34]⟩:ByteArray)++a)++(⟨#[34]⟩:ByteArray))) d
theorem ED {h:ab} {R:VP} (s:ByteArray) (H:S42 s h R):ae Tryz.prog 42 #[.string s] h R:=aN [] 8 [] [] [] [] Tryz.func42 (by kernel_rfl) (by kernel_rfl) H
def S15 (wP wordsA:Option Addr) (wordsL wordsC:Nat) (h:ab) (R:VP):Prop:=let a:=fun(f:ab)=>(let c:=fun(t:ab)=>(∃b4 o4,wP=some ⟨b4,o4,none⟩/\ai Tryz.prog 41 #[.pointer (some (⟨b4,o4,none⟩:Addr)),.int .u8 10] t [] fun r j=>((r= .nilIface/\R (.tuple #[]) j)\/∃(v:Nat) (u:Value),r= .iface v u/\R (.tuple #[]) j));∃b3 o3,wP=some ⟨b3,o3,none⟩/\ai Tryz.prog 40 #[.slice wordsA wordsL wordsC,.string ⟨#[32]⟩] f [] fun B g=>∃l:ByteArray,B= .string l/\Fr [] f g/\ai Tryz.prog 38 #[.pointer (some (⟨b3,o3,none⟩:Addr)),.string l] g [] fun q i=>∃n:Int,((q= .tuple #[.int .i64 n,.nilIface]/\c i)\/∃(z:Nat) (x:Value),q= .tuple #[.int .i64 n,.iface z x]/\c i));∃b o,wP=some ⟨b,o,none⟩/\∃b2 o2,wP=some ⟨b2,o2,none⟩/\∃s:Int,ac h b2 (o2+2)=some (.int .i64 s)/\ai Tryz.prog 39 #[.string ⟨#[32,32]⟩,.int .i64 s] h [] fun A d=>∃k:ByteArray,A= .string k/\Fr [] h d/\ai Tryz.prog 38 #[.pointer (some (⟨b,o,none⟩:Addr)),.string k] d [] fun p e=>∃m:Int,((p= .tuple #[.int .i64 m,.nilIface]/\a e)\/∃(y:Nat) (w:Value),p= .tuple #[.int .i64 m,.iface y w]/\a e)
theorem EE {h:ab} {R:VP} (wP wordsA:Option Addr) (wordsL wordsC:Nat) (H:S15 wP wordsA wordsL wordsC h R):ae Tryz.prog 15 #[.pointer wP,.slice wordsA wordsL wordsC] h R:=aN [] 23 [] [] [] [(0,⟨8,false⟩),(1,⟨5,false⟩)] Tryz.func15 (by kernel_rfl) (by kernel_rfl) H
def S14 (wP:Option Addr) (key:ByteArray) (h:ab) (R:VP):Prop:=let d:ab:=h.push (.cells #[.string key,.string ⟨#[91]⟩] 9);ai Tryz.prog 15 #[.pointer wP,.slice (some (⟨h.size,0,none⟩:Addr)) 2 2] d [] fun g a=>g= .tuple #[]/\∃b o,wP=some ⟨b,o,none⟩/\∃c:Int,ac a b (o+2)=some (.int .i64 c)/\∃b2 o2,wP=some ⟨b2,o2,none⟩/\(∃f,ac a b2 (o2+2)=some f)/\au a b2 (o2+2)=true/\let e:ab:=am a b2 (o2+2) (.int .i64 (i64.wrap (c+1)));R (.tuple #[]) e
theorem EF {h:ab} {R:VP} (wP:Option Addr) (key:ByteArray) (H:S14 wP key h R):ae Tryz.prog 14 #[.pointer wP,.string key] h R:=aN [] 15 [] [] [] [] Tryz.func14 (by kernel_rfl) (by kernel_rfl) H
def S19 (wP:Option Addr) (h:ab) (R:VP):Prop:=∃b o,wP=some ⟨b,o,none⟩/\∃c:Int,ac h b (o+2)=some (.int .i64 c)/\∃b2 o2,wP=some ⟨b2,o2,none⟩/\(∃f,ac h b2 (o2+2)=some f)/\au h b2 (o2+2)=true/\let a:ab:=am h b2 (o2+2) (.int .i64 (i64.wrap (c-1)));let d:ab:=a.push (.cells #[.string ⟨#[93]⟩] 9);ai Tryz.prog 15 #[.pointer wP,.slice (some (⟨a.size,0,none⟩:Addr)) 1 1] d [] fun g e=>g= .tuple #[]/\R (.tuple #[]) e
theorem EG {h:ab} {R:VP} (wP:Option Addr) (H:S19 wP h R):ae Tryz.prog 19 #[.pointer wP] h R:=aN [] 12 [] [] [] [] Tryz.func19 (by kernel_rfl) (by kernel_rfl) H
def S16 (wP:Option Addr) (d:Int) (dA:Option Addr) (dL dC:Nat) (d2:Bool) (dA2:Option Addr) (dL2 dC2:Nat) (dA3:Option Addr) (dL3 dC3:Nat) (dA4:Option Addr) (dL4 dC4:Nat) (v:Int) (h:ab) (R:VP):Prop:=let x:ab:=h.push (.cells #[.int .i64 d,.slice dA dL dC,.bool d2,.slice dA2 dL2 dC2,.slice dA3 dL3 dC3,.slice dA4 dL4 dC4] 29);ai Tryz.prog 14 #[.pointer wP,.string ⟨#[110,111,100,101]⟩] x [h.size] fun L D=>L= .tuple #[]/\ai Tryz.prog 17 #[.int .i64 v] D [h.size] fun M m=>∃p:ByteArray,M= .string p/\let E:ab:=m.push (.cells #[.string ⟨#[105,100]⟩,.string p] 9);ai Tryz.prog 15 #[.pointer wP,.slice (some (⟨m.size,0,none⟩:Addr)) 2 2] E [h.size] fun N e=>N= .tuple #[]/\∃a:LP,(cnd (decide ((dL2:Int)>(0:Int))) (∃b o,dA2=some ⟨b,o,none⟩/\0<=v/\v<(dL2:Nat)/\∃t:ByteArray,ac e b (o+(Int.toNat v)*1)=some (.string t)/\ai Tryz.prog 42 #[.string t] e [h.size] fun O n=>∃q:ByteArray,O= .string q/\let F:ab:=n.push (.cells #[.string ⟨#[108,97,98,101,108]⟩,.string q] 9);ai Tryz.prog 15 #[.pointer wP,.slice (some (⟨n.size,0,none⟩:Addr)) 2 2] F [h.size] fun P G=>P= .tuple #[]/\a [] G) (a [] e))/\∀f,a [] f->∃c:LP,(cnd (decide ((dL3:Int)>(0:Int))) (ai Tryz.prog 14 #[.pointer wP,.string ⟨#[103,114,97,112,104,105,99,115]⟩] f [h.size] fun Q g=>Q= .tuple #[]/\∃b2 o2,dA3=some ⟨b2,o2,none⟩/\0<=v/\v<(dL3:Nat)/\∃u:Nat,ac g b2 (o2+(Int.toNat v)*2)=some (.float .f64 u)/\ai Tryz.prog 18 #[.float .f64 u] g [h.size] fun S i=>∃r:ByteArray,S= .string r/\let y:ab:=i.push (.cells #[.string ⟨#[120]⟩,.string r] 9);ai Tryz.prog 15 #[.pointer wP,.slice (some (⟨i.size,0,none⟩:Addr)) 2 2] y [h.size] fun T j=>T= .tuple #[]/\∃b3 o3,dA3=some ⟨b3,o3,none⟩/\0<=v/\v<(dL3:Nat)/\∃w:Nat,ac j b3 ((o3+(Int.toNat v)*2)+1)=some (.float .f64 w)/\ai Tryz.prog 18 #[.float .f64 w] j [h.size] fun H k=>∃s:ByteArray,H= .string s/\let z:ab:=k.push (.cells #[.string ⟨#[121]⟩,.string s] 9);ai Tryz.prog 15 #[.pointer wP,.slice (some (⟨k.size,0,none⟩:Addr)) 2 2] z [h.size] fun I A=>I= .tuple #[]/\ai Tryz.prog 19 #[.pointer wP] A [h.size] fun J B=>J= .tuple #[]/\c [] B) (c [] f))/\∀l,c [] l->ai Tryz.prog 19 #[.pointer wP] l [] fun K C=>K= .tuple #[]/\R (.tuple #[]) C
theorem EH {h:ab} {R:VP} (wP:Option Addr) (d:Int) (dA:Option Addr) (dL dC:Nat) (d2:Bool) (dA2:Option Addr) (dL2 dC2:Nat) (dA3:Option Addr) (dL3 dC3:Nat) (dA4:Option Addr) (dL4 dC4:Nat) (v:Int) (H:S16 wP d dA dL dC d2 dA2 dL2 dC2 dA3 dL3 dC3 dA4 dL4 dC4 v h R):ae Tryz.prog 16 #[.pointer wP,.agg #[.int .i64 d,.slice dA dL dC,.bool d2,.slice dA2 dL2 dC2,.slice dA3 dL3 dC3,.slice dA4 dL4 dC4],.int .i64 v] h R:=aN [4] 56 [] [(16,⟨[0,2,4],[],[4],[]⟩),(29,⟨[0],[],[],[]⟩)] [] [] Tryz.func16 (by kernel_rfl) (by kernel_rfl) H
def S7 (d:Int) (dA:Option Addr) (dL dC:Nat) (d2:Bool) (dA2:Option Addr) (dL2 dC2:Nat) (dA3:Option Addr) (dL3 dC3:Nat) (dA4:Option Addr) (dL4 dC4:Nat) (h:ab) (R:VP):Prop:=let J:ab:=h.push (.cells #[.int .i64 d,.slice dA dL dC,.bool d2,.slice dA2 dL2 dC2,.slice dA3 dL3 dC3,.slice dA4 dL4 dC4] 29);ai Tryz.prog 11 #[.agg #[.int .i64 d,.slice dA dL dC,.bool d2,.slice dA2 dL2 dC2,.slice dA3 dL3 dC3,.slice dA4 dL4 dC4]] J [h.size] fun Y c=>∃C:Bool,Y= .bool C/\cnd (!C) (R (.tuple #[.string ⟨#[]⟩,.int .i64 1]) c) (let V:ab:=c.push (.cells #[.pointer none,.slice none 0 0,.int .i64 0] 47);ai Tryz.prog 14 #[.pointer (some (⟨c.size,0,none⟩:Addr)),.string ⟨#[103,114,97,112,104]⟩] V [h.size] fun a5 y=>a5= .tuple #[]/\∃k:LP,(cnd d2 (k [.string ⟨#[49]⟩] y) (k [.string ⟨#[48]⟩] y))/\∀r:ByteArray,∀n,k [.string r] n->let W:ab:=n.push (.cells #[.string ⟨#[100,105,114,101,99,116,101,100]⟩,.string r] 9);ai Tryz.prog 15 #[.pointer (some (⟨c.size,0,none⟩:Addr)),.slice (some (⟨n.size,0,none⟩:Addr)) 2 2] W [h.size] fun a6 X=>a6= .tuple #[]/\∃(i:LP) (A:List Value->ab->Nat),i [.int .i64 0] X/\∀f:Int,∀g,i [.int .i64 f] g->cnd (decide (f<d)) (ai Tryz.prog 16 #[.pointer (some (⟨c.size,0,none⟩:Addr)),.agg #[.int .i64 d,.slice dA dL dC,.bool d2,.slice dA2 dL2 dC2,.slice dA3 dL3 dC3,.slice dA4 dL4 dC4],.int .i64 f] g [h.size] fun a7 z=>a7= .tuple #[]/\i [.int .i64 (i64.wrap (f+1))] z/\A [.int .i64 (i64.wrap (f+1))] z<A [.int .i64 f] g) (∃(j:LP) (B:List Value->ab->Nat),j [.int .i64 0] g/\∀e:Int,∀a,j [.int .i64 e] a->cnd (decide (e<(dL:Int))) (∃b o,dA=some ⟨b,o,none⟩/\0<=e/\e<(dL:Nat)/\∃p:Int,ac a b (o+(Int.toNat e)*2)=some (.int .i64 p)/\∃q:Int,ac a b ((o+(Int.toNat e)*2)+1)=some (.int .i64 q)/\let K:ab:=a.push (.cells #[.int .i64 0,.int .i64 0] 51);let L:ab:=am (am K a.size 0 (.int .i64 p)) a.size (0+1) (.int .i64 q);ai Tryz.prog 14 #[.pointer (some (⟨c.size,0,none⟩:Addr)),.string ⟨#[101,100,103,101]⟩] L [a.size,h.size] fun a8 M=>a8= .tuple #[]/\ai Tryz.prog 17 #[.int .i64 p] M [a.size,h.size] fun a9 s=>∃D:ByteArray,a9= .string D/\let N:ab:=s.push (.cells #[.string ⟨#[115,111,117,114,99,101]⟩,.string D] 9);ai Tryz.prog 15 #[.pointer (some (⟨c.size,0,none⟩:Addr)),.slice (some (⟨s.size,0,none⟩:Addr)) 2 2] N [a.size,h.size] fun b0 O=>b0= .tuple #[]/\ai Tryz.prog 17 #[.int .i64 q] O [a.size,h.size] fun b1 t=>∃E:ByteArray,b1= .string E/\let P:ab:=t.push (.cells #[.string ⟨#[116,97,114,103,101,116]⟩,.string E] 9);ai Tryz.prog 15 #[.pointer (some (⟨c.size,0,none⟩:Addr)),.slice (some (⟨t.size,0,none⟩:Addr)) 2 2] P [a.size,h.size] fun b3 m=>b3= .tuple #[]/\∃l:LP,(cnd (decide ((dL4:Int)>(0:Int))) (∃b2 o2,dA4=some ⟨b2,o2,none⟩/\0<=e/\e<(dL4:Nat)/\∃I:Nat,ac m b2 (o2+(Int.toNat e)*1)=some (.float .f64 I)/\ai Tryz.prog 18 #[.float .f64 I] m [a.size,h.size] fun Z u=>∃F:ByteArray,Z= .string F/\let Q:ab:=u.push (.cells #[.string ⟨#[119,101,105,103,104,116]⟩,.string F] 9);ai Tryz.prog 15 #[.pointer (some (⟨c.size,0,none⟩:Addr)),.slice (some (⟨u.size,0,none⟩:Addr)) 2 2] Q [a.size,h.size] fun a0 S=>a0= .tuple #[]/\l [] S) (l [] m))/\∀v,l [] v->ai Tryz.prog 19 #[.pointer (some (⟨c.size,0,none⟩:Addr))] v [h.size] fun a1 w=>a1= .tuple #[]/\j [.int .i64 (i64.wrap (e+1))] w/\B [.int .i64 (i64.wrap (e+1))] w<B [.int .i64 e] a) (ai Tryz.prog 19 #[.pointer (some (⟨c.size,0,none⟩:Addr))] a [h.size] fun a2 T=>a2= .tuple #[]/\ai Tryz.prog 20 #[.pointer (some (⟨c.size,0,none⟩:Addr))] T [h.size] fun a3 x=>∃G:Int,a3= .int .i64 G/\cnd (decide (G>262144)) (R (.tuple #[.string ⟨#[]⟩,.int .i64 23]) x) (ai Tryz.prog 21 #[.pointer (some (⟨c.size,0,none⟩:Addr))] x [h.size] fun a4 U=>∃H:ByteArray,a4= .string H/\R (.tuple #[.string H,.int .i64 0]) U))))
theorem HC {h:ab} {R:VP} (d:Int) (dA:Option Addr) (dL dC:Nat) (d2:Bool) (dA2:Option Addr) (dL2 dC2:Nat) (dA3:Option Addr) (dL3 dC3:Nat) (dA4:Option Addr) (dL4 dC4:Nat) (H:S7 d dA dL dC d2 dA2 dL2 dC2 dA3 dL3 dC3 dA4 dL4 dC4 h R):ae Tryz.prog 7 #[.agg #[.int .i64 d,.slice dA dL dC,.bool d2,.slice dA2 dL2 dC2,.slice dA3 dL3 dC3,.slice dA4 dL4 dC4]] h R:=aN [1,8] 83 [(0,⟨[1,4,24],[25],[1],[]⟩),(2,⟨[1,4,35,36],[37],[1],[]⟩)] [(17,⟨[1,4],[5],[1],[]⟩),(59,⟨[1,4,35,36,37],[],[1],[]⟩)] [] [] Tryz.func7 (by kernel_rfl) (by kernel_rfl) H
open Go.Proofs
def bI (l:List UInt8):List Int:=l.map fun c=>((c.toNat:Nat):Int)
theorem rX (a b:List UInt8):bI (a++b)=bI a++bI b:=List.map_append
theorem AG (a:List UInt8):(bI a).length=a.length:=List.length_map _
def pU (u:Bool) (b:Nat):Value:=if u=true then .pointer (some ⟨b,0,none⟩)else .pointer none
def wC (b:Nat) (u:Bool) (A:Option Addr) (c d:Nat) (l:List UInt8):List Ck:=
 [Ck.ob b 47 [pU u b,.slice A l.length c,.int .i64 (d:Int)],Ck.sl (eK .u8) 5 A l.length c (bI l)]
set_option maxHeartbeats 1000000 in
theorem yZ (b:Nat) (w:World) (h0:w.cell? ⟨b,0,none⟩=some (.pointer (some ⟨b,0,none⟩))):
  Calls Tryz.prog 57 #[.pointer (some ⟨b,0,none⟩)] w fun e w'=>e= .returned (.tuple #[])/\w'=w:=by
 obtain⟨j,hj,_⟩:=Option.map_eq_some_iff.1 (show(Tryz.prog.info? 45).map (·.size)=some 2 by kernel_rfl)
 have t70:Tryz.prog.underlying 43=some (.pointer 45):=by kernel_rfl
 go_enter Tryz.func57,Tryz.ntmps57
 go_wp2
 rw[Lib.run_neq_ptr_same w _ t70 hj]
 go_wp2
 go_end0
 exact⟨rfl,rfl⟩
set_option maxHeartbeats 1000000 in
theorem vX (b:Nat) (w:World) (h0:w.cell? ⟨b,0,none⟩=some (.pointer none)) (hsh:w.shape? b=some (47,3)) (hfz:w.frozen? ⟨b,0,none⟩=false):
  Calls Tryz.prog 57 #[.pointer (some ⟨b,0,none⟩)] w fun e w'=>e= .returned (.tuple #[])/\w'=w.setCell ⟨b,0,none⟩ (.pointer (some ⟨b,0,none⟩)):=by
 obtain⟨j,hj,hjs⟩:=Option.map_eq_some_iff.1 (show(Tryz.prog.info? 45).map (·.size)=some 2 by kernel_rfl)
 have t70:Tryz.prog.underlying 43=some (.pointer 45):=by kernel_rfl
 have t164:Tryz.prog.underlying 123=some .unsafePointer:=by kernel_rfl
 go_enter Tryz.func57,Tryz.ntmps57
 go_wp2
 rw[Lib.run_to_unsafe w ⟨b,0,none⟩ t70 t164 hj (by rw[hjs];decide) hsh (by show 0<3;decide)]
 simp only[Result.andThen]
 rw[Oper.upon_value]
 go_wp2
 rw[run_callFunc_extern Tryz.func74 (by kernel_rfl) (by kernel_rfl) (by kernel_rfl) (e:=Extern.AbiNoEscape.same) (by kernel_rfl)]
 rw[Lib.run_noEscape]
 simp only[Result.andThen]
 rw[Oper.upon_value]
 go_wp2
 rw[Lib.run_from_unsafe w ⟨b,0,none⟩ t164 t70 hj hsh (by kernel_rfl)]
 simp only[Result.andThen]
 rw[Oper.upon_value]
 go_wp2
 go_end0
 exact⟨rfl,rfl⟩
theorem qy {w:World} {g n:Nat}:(w.freeze ⟨g,0,none⟩ n).heap.size=w.heap.size/\(∀k,k≠g->(w.freeze ⟨g,0,none⟩ n).heap[k]? =w.heap[k]?)/\(w.freeze ⟨g,0,none⟩ n).os=w.os/\(w.freeze ⟨g,0,none⟩ n).output=w.output:=by
 unfold World.freeze
 split
 ·exact⟨rfl,fun _ _=>rfl,rfl,rfl⟩
 ·refine⟨Array.size_modify,fun k hk=>?_,rfl,rfl⟩
  show(w.heap.modify g _)[k]? =_
  rw[Array.getElem?_modify,if_neg (Ne.symm hk)]
theorem y5 {w:World} {g n:Nat}:Fr [g] w.heap (w.drew.freeze ⟨g,0,none⟩ n).heap:=by
 obtain⟨h1,h2,_⟩:=qy (w:=w.drew) (g:=g) (n:=n)
 exact⟨Nat.le_of_eq h1.symm,fun k hk hkg=>h2 k (by simpa using hkg)⟩
theorem tW {w:World} {g n:Nat}:Go.X.Rest w (w.drew.freeze ⟨g,0,none⟩ n):=by
 obtain⟨h1,_,h3,h4⟩:=qy (w:=w.drew) (g:=g) (n:=n)
 have ht:(w.drew.freeze ⟨g,0,none⟩ n).tape=w.tape:=by unfold World.freeze;split<;>rfl
 exact⟨h3,ht,h4,Nat.le_of_eq h1.symm⟩
set_option maxHeartbeats 2000000 in
theorem JN {b g cap:Nat} {p dv:Value} {l:List UInt8} {cur:Array Value} (w:World) (h0:l≠[]) (hb:w.heap[b]? =some (.cells #[p,.slice (some ⟨g,0,none⟩) l.length cap,dv] 47 (0,0)))
  (hg:Blk w.heap g 5 cur) (hnc:l.length<=cap) (hcm:cap<=maxLen) (hcs:cap*1<=cur.size) (ht:cur.toList.take (l.length*1)=(eK .u8).l (bI l)):
  Calls Tryz.prog 21 #[.pointer (some ⟨b,0,none⟩)] w fun e w'=>e= .returned (.string ⟨l.toArray⟩)/\Go.X.Rest w w'/\Fr [g] w.heap w'.heap:=by
 have hl0:l.length≠0:=by simpa using h0
 have t127:Tryz.prog.underlying 92=some (.pointer 5):=by kernel_rfl
 have cB:Tryz.prog.cellsOf 5=1:=by kernel_rfl
 obtain⟨f,hgc,_⟩:=hg
 have hgc:w.heap[g]? =some (.cells cur 5 f):=hgc
 have c1:w.drew.cell? ⟨b,1,none⟩=some (.slice (some ⟨g,0,none⟩) l.length cap):=by
  have:w.drew.heap[b]? =some (.cells #[p,.slice (some ⟨g,0,none⟩) l.length cap,dv] 47 (0,0)):=hb
  rw[Lib.cell_of_heap this];rfl
 have hSD:(Builtin.unsafeSliceData_ #[39] 92 #[.slice (some ⟨g,0,none⟩) l.length cap]).run Tryz.prog w.drew= .ok (.pointer (some ⟨g,0,none⟩)) w.drew:=
  Lib.run_unsafeSliceData_row _ _ _ _ _ _ (by omega)
 have hUS:(Builtin.unsafeString_ #[92,3] 9 #[.pointer (some ⟨g,0,none⟩),.int .i64 l.length]).run Tryz.prog w.drew= .ok (.string ⟨l.toArray⟩) (w.drew.freeze ⟨g,0,none⟩ l.length):=by
  refine Lib.run_unsafeString_row w.drew 92 3 9 5 t127 cB g cur.size (by have hg':w.drew.heap[g]? =some (.cells cur 5 f):=hgc;simp[World.shape?,hg']) l h0 (by omega) (by unfold maxLen at hcm;omega) ?_
  intro j x hx
  have hg':w.drew.heap[g]? =some (.cells cur 5 f):=hgc
  have hj:j<l.length:=(List.getElem?_eq_some_iff.1 hx).1
  have e1:(cur.toList.take (l.length*1))[j]? =some (.int .u8 x.toNat):=by
   rw[ht,vr,bI,List.map_map,List.getElem?_map,hx];rfl
  rw[List.getElem?_take,if_pos (by omega)]at e1
  have ea:((⟨g,0,none⟩:Addr).add j)=⟨g,0+j,none⟩:=by simp[Addr.add];omega
  rw[ea,ba]
  unfold ac
  rw[hg',Nat.zero_add];simpa using e1
 have fz:=y5 (w:=w) (g:=g) (n:=l.length)
 have rz:=tW (w:=w) (g:=g) (n:=l.length)
 have mixed:Tryz.prog.follows .mixedOrders=true:=by kernel_rfl
 go_enter Tryz.func21,Tryz.ntmps21
 go_wp2
 go_region_o
 all_goals (go_wp2;go_ret;exact⟨rfl,rz,fz⟩)
end Go.Proofs.YtemclecmafjjfaaGreatDoor.N
namespace Go.Proofs.YtemclecmafjjfaaGreatDoor.G
def aJ (ls:List (List UInt8)):List UInt8:=ls.flatMap fun l=>l++[10]
def wr (tx:Nat->List UInt8) (d:Dc):List UInt8:=aJ (pY tx d)
theorem bO (l:List UInt8) (ls:List (List UInt8)):aJ (l::ls)=l++(10::aJ ls):=by simp[aJ]
theorem dm (a b:List (List UInt8)):aJ (a++b)=aJ a++aJ b:=by simp[aJ]
end Go.Proofs.YtemclecmafjjfaaGreatDoor.G
namespace Go.Proofs.YtemclecmafjjfaaGreatDoor.N
open Go.Proofs.YtemclecmafjjfaaGreatDoor
open Go.X
open Go.Proofs
set_option maxRecDepth 100000
theorem GD {h0 h:ab} {M:List Nat} {cs:List Ck} (Y:Sy h0 M h cs) (k:Nat) {c:Ck} (hk:cs[k]? =some c):∀x∈c.own,x<h.size:=(c.lt h (Y.ok hk)).1
section
variable {b c d:Nat} {u:Bool} {A:Option Addr} {l:List UInt8} {h:ab}
theorem JZ (H:Hp h (wC b u A c d l)):ae Tryz.prog 57 #[.pointer (some ⟨b,0,none⟩)] h fun v h'=>v= .tuple #[]/\Sq h (wC b u A c d l) h' (wC b true A c d l):=by
 intro w hw
 subst hw
 have hb:w.heap[b]? =some (.cells #[pU u b,.slice A l.length c,.int .i64 (d:Int)] 47 (0,0)):=H.ok 0 _ rfl
 cases u with
 | true=>
  have h0:w.cell? ⟨b,0,none⟩=some (.pointer (some ⟨b,0,none⟩)):=by rw[ba,bm hb];rfl
  refine(yZ b w h0).mono fun e w' r=>?_
  grind [Rest.refl,Sq.start]
 | false=>
  have h0:w.cell? ⟨b,0,none⟩=some (.pointer none):=by rw[ba,bm hb];rfl
  have hsh:w.shape? b=some (47,3):=by simp[World.shape?,hb]
  have hfz:w.frozen? ⟨b,0,none⟩=false:=by simp[World.frozen?,hb]
  refine(vX b w h0 hsh hfz).mono fun e w' r=>?_
  obtain⟨rfl,rfl⟩:=r
  refine⟨_,rfl,Rest.setCell _ _ _,rfl,?_⟩
  rw[heap_setCell]
  exact⟨(Sy.start H).stO 0 rfl 0 (.pointer (some ⟨b,0,none⟩)),fun x hx=>by simp[rds,wC,Ck.ob,Ck.sl]at hx⟩
theorem J0 {c' d':Nat} {u':Bool} {A':Option Addr} {l':List UInt8}:rds (wC b u' A' c' d' l')=[]:=rfl
theorem J3 {s:ByteArray} (H:Hp h (wC b u A c d l)) (hs:l.length+s.size<=100000000):ae Tryz.prog 38 #[.pointer (some ⟨b,0,none⟩),.string s] h fun v h'=>v= .tuple #[.int .i64 (s.size:Int),.nilIface]/\
  ∃A' c',Sq h (wC b u A c d l) h' (wC b true A' c' d (l++s.data.toList)):=by
 apply EB
 unfold S38
 refine ak (ao (wC b u A c d l)) (JZ H) (by simp) (fun _ _ r=>r.2.fr) fun v h1 r=>?_
 obtain⟨rfl,Q⟩:=r
 have Y:=Q.sy
 refine⟨rfl,b,0,rfl,A,l.length,c,Y.cellO 0 rfl 1 rfl,(eK .u8).l (bI l),(Y.ownS 1 rfl),by simp,by omega,by unfold maxLen;omega,?_⟩
 intro sA sC h2 ow f g _
 have e:Lib.strCells s=(eK .u8).l (bI s.data.toList):=(jB s).symm
 rw[e]at ow
 have Y1:=Y.appS 1 rfl (bI s.data.toList) ow f g rfl (by rw[AG];rfl)
 refine⟨b,0,rfl,⟨_,Y1.cellO 0 rfl 1 rfl⟩,Y1.freeO 0 rfl 1,rfl,sA,sC,?_,fun x hx=>by rw[J0]at hx;cases hx⟩
 have Y2:=Y1.stO 0 rfl 1 (.slice sA (l.length+s.size) sC)
 have el:(l++s.data.toList).length=l.length+s.size:=List.length_append
 unfold wC
 rw[el,rX]
 exact Y2
theorem MU {x:UInt8} (H:Hp h (wC b u A c d l)) (hs:l.length<=100000000):ae Tryz.prog 41 #[.pointer (some ⟨b,0,none⟩),.int .u8 ((x.toNat:Nat):Int)] h fun v h'=>v= .nilIface/\
  ∃A' c',Sq h (wC b u A c d l) h' (wC b true A' c' d (l++[x])):=by
 apply EC
 unfold S41
 refine ak (ao (wC b u A c d l)) (JZ H) (by simp) (fun _ _ r=>r.2.fr) fun v h1 r=>?_
 obtain⟨rfl,Q⟩:=r
 have Y:=Q.sy
 refine⟨rfl,b,0,rfl,A,l.length,c,Y.cellO 0 rfl 1 rfl,?_⟩
 intro h2
 have Y1:Sy h _ h2 (wC b true A c d l):=Y.gr (Fr.push h1 _)
 have hbl:b<h1.size:=GD Y 0 rfl b (by simp[Ck.ob])
 have hbA:∀y∈ah A,y<h1.size:=GD Y 1 rfl
 refine⟨(eK .u8).l (bI l),Y1.ownS 1 rfl,fun y hy=>?_,by omega,by unfold maxLen;omega,?_⟩
 ·grind
 intro sA sC h3 ow f g _
 have Y2:=Y1.appS 1 rfl (bI [x]) ow f g rfl rfl
 refine⟨b,0,rfl,by omega,⟨_,Y2.cellO 0 rfl 1 rfl⟩,Y2.freeO 0 rfl 1,rfl,sA,sC,?_,fun x hx=>by rw[J0]at hx;cases hx⟩
 have Y3:=Y2.stO 0 rfl 1 (.slice sA (l.length+1) sC)
 grind [wC,rX]
theorem MV (H:Hp h (wC b u A c d l)):ae Tryz.prog 20 #[.pointer (some ⟨b,0,none⟩)] h fun v h'=>v= .int .i64 (l.length:Int)/\h'=h:=by
 apply Ez
 unfold S20
 exact⟨b,0,rfl,A,l.length,c,(Sy.start H).cellO 0 rfl 1 rfl,rfl,rfl⟩
theorem MW (H:Hp h (wC b u A c d l)) (h0:l≠[]):ae Tryz.prog 21 #[.pointer (some ⟨b,0,none⟩)] h fun v h'=>v= .string (G.mkB l)/\Fr (ao (wC b u A c d l)) h h':=by
 intro w hw
 subst hw
 have hb:w.heap[b]? =some (.cells #[pU u b,.slice A l.length c,.int .i64 (d:Int)] 47 (0,0)):=H.ok 0 _ rfl
 obtain⟨⟨o1,o2⟩,_⟩:ar w.heap 5 1 A l.length c ((eK .u8).l (bI l))/\_:=H.ok 1 _ rfl
 have hl0:l.length≠0:=by simpa using h0
 rcases o2 with⟨_,q,_⟩ | ⟨g,cur,rfl,q1,q2,q3,q4,q5⟩
 ·omega
 refine(JN w h0 hb q1 q2 q3 q4 q5).mono fun e w' ⟨r1,r2,r3⟩=>⟨_,r1,r2,rfl,r3.mono fun x hx=>?_⟩
 grind [ao,wC,Ck.sl,ah]
theorem MX (n:Nat):Lib.repeatL [32,32] n=G.ind (2*n):=by
 induction n with
 | zero=>rfl
 | succ n ih=>
  have:Lib.repeatL [32,32] (n+1)=32::32::Lib.repeatL [32,32] n:=rfl
  rw[this,ih,show 2*(n+1)=2*n+1+1 by omega];rfl
def wds (ws:List ByteArray):List Value:=ws.map Value.string
def jn (ws:List ByteArray):List UInt8:=Lib.join (ws.map (·.data.toList)) [32]
def lnB (d:Nat) (ws:List ByteArray):List UInt8:=G.ind (2*d)++(jn ws++[10])
theorem Hx {p:Nat} {ws:List ByteArray} (H:Hp h (wC b u A c d l++[Ck.ob p 9 (wds ws)])) (hd:d<=100) (hl:l.length<=90000000) (hw:ws.length<=100/\(jn ws).length<=1000000):
  ae Tryz.prog 15 #[.pointer (some ⟨b,0,none⟩),.slice (some ⟨p,0,none⟩) ws.length ws.length] h fun v h'=>v= .tuple #[]/\
   ∃A' c',Sq h (wC b u A c d l++[Ck.ob p 9 (wds ws)]) h' (wC b true A' c' d (l++lnB d ws)++[Ck.ob p 9 (wds ws)]):=by
 apply EE
 unfold S15
 intro K
 have Q:=Sq.start H
 refine⟨b,0,rfl,b,0,rfl,(d:Int),Q.sy.cellO 0 rfl 2 rfl,?_⟩
 refine ak (R:=fun v h'=>v= .string (G.mkB (G.ind (2*d)))/\Fr [] h h') [] ?_ (by simp) (fun _ _ r=>r.2) ?_
 ·refine fO (fun w hw=>Go.Proofs.Tryz.strings_Repeat (⟨#[32,32]⟩:ByteArray) d w (by omega) (by show 2*d<=_;omega)) fun h' f=>⟨?_,f⟩
  show Value.string ⟨(Lib.repeatL [32,32] d).toArray⟩=_
  rw[MX];rfl
 rintro v h1 ⟨rfl,f1⟩
 refine⟨_,rfl,f1,?_⟩
 have Q1:=Q.gr f1
 refine ak (ao (wC b u A c d l)) (J3 (u:=u) (A:=A) (c:=c) (d:=d) (l:=l) (Q1.pick [0,1] rfl).hp (by show l.length+(List.replicate (2*d) (32:UInt8)).toArray.size<=_;simp;omega)) (by simp) (fun _ _ r=>r.2.choose_spec.choose_spec.fr) ?_
 rintro v h2 ⟨rfl,A2,c2,q2⟩
 have Q2:Sq h (wC b u A c d l++[Ck.ob p 9 (wds ws)]) h2 (wC b true A2 c2 d (l++G.ind (2*d))++[Ck.ob p 9 (wds ws)]):=Sq.call Q1 q2
 refine⟨_,.inl ⟨rfl,?_⟩⟩
 show K h2
 dsimp-zeta only[K]
 intro K2
 refine⟨b,0,rfl,?_⟩
 have hp2:h2[p]? =some (.cells (wds ws).toArray 9 (0,0)):=Q2.sy.ok (k:=2) (c:=Ck.ob p 9 (wds ws)) rfl
 refine ak (R:=fun v h'=>v= .string (G.mkB (jn ws))/\Fr [] h2 h') [] ?_ (by simp) (fun _ _ r=>r.2) ?_
 ·refine fO (fun w hw'=>Go.Proofs.Tryz.strings_Join p 0 ws.length ws (⟨#[32]⟩:ByteArray) w (fun j x hx=>?_) ?_ (by omega) (Nat.le_refl _) (by grind [jn])) fun h' f=>⟨rfl,f⟩
  ·subst hw'
   rw[ba,bm hp2,Nat.zero_add]
   simp[wds,hx]
  grind
 rintro v h3 ⟨rfl,f3⟩
 refine⟨_,rfl,f3,?_⟩
 have Q3:=Q2.gr f3
 have e1:(l++G.ind (2*d)).length=l.length+2*d:=by simp[G.ind]
 refine ak (ao (wC b true A2 c2 d (l++G.ind (2*d)))) (J3 (u:=true) (A:=A2) (c:=c2) (d:=d) (l:=l++G.ind (2*d)) (Q3.pick [0,1] rfl).hp (by rw[e1];show l.length+2*d+(jn ws).toArray.size<=_;grind)) (by simp) (fun _ _ r=>r.2.choose_spec.choose_spec.fr) ?_
 rintro v h4 ⟨rfl,A4,c4,q4⟩
 have Q4:Sq h (wC b u A c d l++[Ck.ob p 9 (wds ws)]) h4 (wC b true A4 c4 d (l++G.ind (2*d)++jn ws)++[Ck.ob p 9 (wds ws)]):=Sq.call Q3 q4
 refine⟨_,.inl ⟨rfl,?_⟩⟩
 show K2 h4
 dsimp-zeta only[K2]
 refine⟨b,0,rfl,?_⟩
 have e2:(l++G.ind (2*d)++jn ws).length=l.length+2*d+(jn ws).length:=by grind
 refine ak (ao (wC b true A4 c4 d (l++G.ind (2*d)++jn ws))) (MU (x:=10) (u:=true) (A:=A4) (c:=c4) (d:=d) (l:=l++G.ind (2*d)++jn ws) (Q4.pick [0,1] rfl).hp (by omega)) (by simp) (fun _ _ r=>r.2.choose_spec.choose_spec.fr) ?_
 rintro v h5 ⟨rfl,A5,c5,q5⟩
 refine .inl ⟨rfl,rfl,A5,c5,?_⟩
 grind [Sq.call,lnB]
theorem MY {k:ByteArray} (H:Hp h (wC b u A c d l)) (hd:d<=99) (hl:l.length<=90000000) (hk:k.size<=1000):ae Tryz.prog 14 #[.pointer (some ⟨b,0,none⟩),.string k] h fun v h'=>v= .tuple #[]/\
  ∃A' c',Sq h (wC b u A c d l) h' (wC b true A' c' (d+1) (l++lnB d [k,⟨#[91]⟩])):=by
 apply EF
 unfold S14
 intro h1
 have Y:Sy h (ao (wC b u A c d l)) h1 (wC b u A c d l++[Ck.ob h.size 9 (wds [k,⟨#[91]⟩])]):=Sy.newO (Sy.start H) _
 have hj:(jn [k,⟨#[91]⟩]).length<=1000000:=by
  have:k.data.toList.length=k.size:=rfl
  simp[jn,Lib.join];omega
 refine ak (ao (wC b u A c d l++[Ck.ob h.size 9 (wds [k,⟨#[91]⟩])])) (Hx (ws:=[k,⟨#[91]⟩]) Y.hp (by omega) hl ⟨by simp,hj⟩) (by simp) (fun _ _ r=>r.2.choose_spec.choose_spec.fr) ?_
 rintro v h2 ⟨rfl,A2,c2,q2⟩
 have Z:Sq h (wC b u A c d l) h1 (wC b u A c d l++[Ck.ob h.size 9 (wds [k,⟨#[91]⟩])]):=⟨Y,fun x hx=>by simp[rds,wC,Ck.ob,Ck.sl]at hx⟩
 have Q2:=Z.callT q2
 refine⟨rfl,b,0,rfl,(d:Int),Q2.sy.cellO 0 rfl 2 rfl,b,0,rfl,⟨_,Q2.sy.cellO 0 rfl 2 rfl⟩,Q2.sy.freeO 0 rfl 2,rfl,A2,c2,?_⟩
 have Y3:=Q2.sy.stO 0 rfl 2 (.int .i64 ((d+1:Nat):Int))
 rw[show i64.wrap ((d:Int)+1)=((d+1:Nat):Int) by rw[wr (by omega) (by omega)];omega]
 exact⟨Y3.pick [0,1] rfl,fun x hx=>by simp[rds,pk,wC,Ck.ob,Ck.sl]at hx⟩
theorem MZ (H:Hp h (wC b u A c (d+1) l)) (hd:d<=99) (hl:l.length<=90000000):ae Tryz.prog 19 #[.pointer (some ⟨b,0,none⟩)] h fun v h'=>v= .tuple #[]/\
  ∃A' c',Sq h (wC b u A c (d+1) l) h' (wC b true A' c' d (l++lnB d [⟨#[93]⟩])):=by
 apply EG
 unfold S19
 have Y:=Sy.start H
 refine⟨b,0,rfl,((d+1:Nat):Int),Y.cellO 0 rfl 2 rfl,b,0,rfl,⟨_,Y.cellO 0 rfl 2 rfl⟩,Y.freeO 0 rfl 2,?_⟩
 rw[show i64.wrap (((d+1:Nat):Int)-1)=(d:Int) by rw[wr (by omega) (by omega)];omega]
 intro h1 h2
 have Y1:Sy h (ao (wC b u A c (d+1) l)) h1 (wC b u A c d l):=Y.stO 0 rfl 2 (.int .i64 (d:Int))
 have Y2:Sy h (ao (wC b u A c (d+1) l)) h2 (wC b u A c d l++[Ck.ob h1.size 9 (wds [⟨#[93]⟩])]):=Sy.newO Y1 _
 refine ak (ao (wC b u A c d l++[Ck.ob h1.size 9 (wds [⟨#[93]⟩])])) (Hx (ws:=[⟨#[93]⟩]) Y2.hp (by omega) hl ⟨by simp,by simp[jn,Lib.join]⟩) (by simp) (fun _ _ r=>r.2.choose_spec.choose_spec.fr) ?_
 rintro v h3 ⟨rfl,A2,c2,q2⟩
 have Z:Sq h (wC b u A c (d+1) l) h2 (wC b u A c d l++[Ck.ob h1.size 9 (wds [⟨#[93]⟩])]):=⟨Y2,fun x hx=>by simp[rds,wC,Ck.ob,Ck.sl]at hx⟩
 have Q2:=Z.callT q2
 exact⟨rfl,rfl,A2,c2,Q2.pick [0,1] rfl⟩
end
def mc (c:UInt8) (nw:List UInt8) (x:UInt8):List UInt8:=if x=c then nw else [x]
theorem kN (c:UInt8) (nw:List UInt8):∀s:List UInt8,Lib.replaceK [c] nw (Lib.count s [c]) s=s.flatMap (mc c nw)
 | []=>by rw[Lib.count_miss (by simp[Lib.index])];rfl
 | b::l=>by
  have ih:=kN c nw l
  by_cases h:b=c
  ·subst h
   have hix:Lib.index (b::l) [b]=((0:Nat):Int):=by rw[Lib.index];simp[List.isPrefixOf]
   rw[Lib.count_cons_eq,Nat.add_comm,Lib.replaceK_hit _ _ _ _ 0 hix]
   show []++nw++Lib.replaceK [b] nw (Lib.count l [b]) l=_
   rw[ih,List.flatMap_cons]
   simp[mc]
  ·rw[Lib.count_cons_ne b c l h,List.flatMap_cons]
   have e1:mc c nw b=[b]:=by unfold mc;rw[if_neg h]
   rw[e1,<-ih]
   have hp:([c]:List UInt8).isPrefixOf (b::l)=false:=by simp[List.isPrefixOf,Ne.symm h]
   have hix:Lib.index (b::l) [c]=if Lib.index l [c]== -1 then-1 else Lib.index l [c]+1:=by rw[Lib.index,hp];simp
   cases hk:Lib.count l [c]with
   | zero=>rfl
   | succ k=>
    obtain⟨i,hi⟩:=Lib.index_of_count (s:=l) (old:=[c]) (by omega)
    have hix':Lib.index (b::l) [c]=((i+1:Nat):Int):=by
     rw[hix,if_neg (fun e=>by have:=beq_iff_eq.1 e;omega),hi];omega
    rw[Lib.replaceK_hit _ _ _ _ _ hix',Lib.replaceK_hit _ _ _ _ _ hi]
    rfl
theorem oq (c:UInt8) (nw s:List UInt8) (h: [c]≠nw):Lib.replaceAll s [c] nw=s.flatMap (mc c nw):=by
 unfold Lib.replaceAll Lib.replace
 rw[if_neg (by simpa using h)]
 have:Lib.replaceNum s [c] (-1)=Lib.count s [c]:=by unfold Lib.replaceNum;rw[if_pos (.inl (by decide))]
 rw[this,kN]
theorem D6 (l:List UInt8):(l.flatMap (mc 38 [38,97,109,112,59])).flatMap (mc 34 [38,113,117,111,116,59])=G.enc l:=by
 unfold G.enc
 rw[List.flatMap_assoc]
 congr 1
 funext x
 unfold mc G.rK
 by_cases h1:x=38
 ·subst h1;decide
 ·rw[if_neg h1,if_neg h1]
  simp only[List.flatMap_cons,List.flatMap_nil,List.append_nil]
  rfl
theorem ot (f:UInt8->List UInt8) (k:Nat) (hf:∀x,(f x).length<=k):∀l:List UInt8,(l.flatMap f).length<=k*l.length
 | []=>by simp
 | x::l=>by
  rw[List.flatMap_cons,List.length_append,List.length_cons,Nat.mul_succ]
  have:=ot f k hf l;have:=hf x;omega
theorem xz (l:List UInt8):(G.enc l).length<=6*l.length:=by
 refine ot _ 6 (fun x=>?_) l
 unfold G.rK;split
 ·simp[G.amp]
 ·split<;>simp[G.vK]
theorem D7 (l:List UInt8):(l.flatMap (mc 38 [38,97,109,112,59])).length<=5*l.length:=by
 refine ot _ 5 (fun x=>?_) l
 unfold mc;split<;>simp
theorem JU {s:ByteArray} {c:UInt8} {nw:List UInt8} {gl:GL} {h:ab} (g:Gl gl h) (hs:s.size<=1000000) (hn:nw.length<=10) (hne: [c]≠nw):
  ae Tryz.prog 61 #[.string s,.string ⟨#[c]⟩,.string (G.mkB nw)] h fun v h'=>v= .string (G.mkB (s.data.toList.flatMap (mc c nw)))/\Fr [] h h':=by
 obtain⟨m,hm⟩:=g.ml
 refine fO (fun w hw=>Go.Proofs.Tryz.strings_ReplaceAll s (⟨#[c]⟩:ByteArray) (G.mkB nw) m w (by omega) ?_ (by show 1<=1;omega) ?_) fun h' f=>⟨?_,f⟩
 ·subst hw;rw[ba];exact hm
 ·have h1:=Lib.countB_le (⟨#[c]⟩:ByteArray) (by show 1<=1;omega) s.size s (Nat.le_refl _)
  have h2:(G.mkB nw).size=nw.length:=by simp[G.mkB,ByteArray.size]
  rw[h2]
  have:=Nat.mul_le_mul h1 hn
  omega
 ·have e:(⟨#[c]⟩:ByteArray).data.toList=[c]:=rfl
  have e2:(G.mkB nw).data.toList=nw:=by simp[G.mkB]
  rw[e,e2,oq c nw _ hne];rfl
theorem MS {s:ByteArray} {gl:GL} {h:ab} (g:Gl gl h) (hs:s.size<=100000):ae Tryz.prog 42 #[.string s] h fun v h'=>v= .string (G.mkB (G.quo s.data.toList))/\Fr [] h h':=by
 apply ED
 unfold S42
 refine ak (R:=fun v h'=>v= .string (G.mkB (s.data.toList.flatMap (mc 38 [38,97,109,112,59])))/\Fr [] h h') [] (JU (c:=38) (nw:=[38,97,109,112,59]) g (by omega) (by decide) (by decide)) (by simp) (fun _ _ r=>r.2) ?_
 rintro v h1 ⟨rfl,f1⟩
 have hs0:s.data.toList.length=s.size:=rfl
 have e1:=D7 s.data.toList
 have sz:∀l:List UInt8,(G.mkB l).size=l.length:=fun l=>by simp[G.mkB,ByteArray.size]
 have dt:∀l:List UInt8,(G.mkB l).data.toList=l:=fun l=>by simp[G.mkB]
 refine⟨_,rfl,?_⟩
 refine ak [] (JU (s:=G.mkB (s.data.toList.flatMap (mc 38 [38,97,109,112,59]))) (c:=34) (nw:=[38,113,117,111,116,59]) (gl:=gl) (g.fr f1 (by simp)) (by rw[sz];omega) (by decide) (by decide)) (by simp) (fun _ _ r=>r.2) ?_
 rintro v h2 ⟨rfl,f2⟩
 rw[dt,D6]
 have e3:=xz s.data.toList
 refine⟨_,rfl,?_,?_,?_,f1.trans f2⟩
 ·rw[sz];show((1+_:Nat):Int)<=_;omega
 ·rw[ByteArray.size_append,sz];show((1+_+1:Nat):Int)<=_;omega
 ·congr 1
theorem DU (l:List (Value × Value)) (j:Nat) (k v:Value):(Ent l).modify j (fun e=>{e with key:=k,val:=v})=Ent (l.modify j fun _=>(k,v)):=by
 refine DF fun i=>?_
 rw[Array.getElem?_modify,fK,List.getElem?_modify]
 by_cases q:j=i
 ·subst q;cases l[j]? <;>simp
 ·cases l[i]? <;>simp[q]
theorem An (b:ByteArray):G.mkB b.data.toList=b:=by
 cases b;simp[G.mkB]
theorem jg {l:List UInt8} {b:ByteArray}:(Value.string (G.mkB l)=Value.string b) ↔ l=b.data.toList:=by
 constructor
 ·intro e
  injection e with e
  rw[<-e];simp[G.mkB]
 ·rintro rfl;rw[An]
theorem ma {ks:List (List UInt8)} {j:Nat} {p:Value × Value} (h:(ek ks)[j]? =some p):∃k,ks[j]? =some k/\p=(.string (G.mkB k),.int .i64 1):=by
 unfold ek at h
 rw[List.getElem?_map]at h
 cases e:ks[j]? with
 | none=>rw[e]at h;cases h
 | some k=>rw[e]at h;exact⟨k,rfl,(Option.some.inj h).symm⟩
theorem kI (ks:List (List UInt8)):eJ jW (Ent (ek ks)):=by
 intro e he
 obtain⟨j,p,h1,rfl⟩:=fL he
 obtain⟨k,_,rfl⟩:=ma h1
 rfl
theorem yV {h:ab} {m:Nat} {x:Array MapEntry × Nat} (hm:cy h m=some x) (o:Obj):cy (h.push o) m=some x:=by
 obtain⟨es,c⟩:=x
 have:=bQ hm
 have hl:=(Array.getElem?_eq_some_iff.1 this).1
 exact lD (by rw[Array.getElem?_push,if_neg (by omega)];exact this)
theorem iA {h:ab} {m:Nat} {x:Array MapEntry × Nat} (hm:cy h m=some x):m<h.size:=by
 obtain⟨es,c⟩:=x
 exact(Array.getElem?_eq_some_iff.1 (bQ hm)).1
theorem JC {t:G.Tok} {h:ab} {m:Nat} {ks:List (List UInt8)} (hm:cy h m=some (Ent (ek ks),(ek ks).length)) (hn:ks.Nodup):
  aB Tryz.prog 98 #[.map (some m),cF t] h (fun v h'=>t.l∉ks/\v= .tuple #[]/\Fr [m] h h'/\cy h' m=some (Ent (ek (ks++[t.l])),(ek (ks++[t.l])).length))
   (fun v h'=>t.l∈ks/\v=flt (t.at_,18)/\Fr [m] h h'):=by
 unfold cF
 apply Ek
 unfold S98
 intro hv K
 have ml:=iA hm
 have hm1:cy hv m=some (Ent (ek ks),(ek ks).length):=yV hm _
 have f1:Fr [m] h hv:=(Fr.push h _).nil
 have e1:hv.size=h.size+1:=by simp[hv]
 clear_value hv
 have none:∀{h1:ab},Fr [m] h h1->cy h1 m=some (Ent (ek ks),(ek ks).length)->t.l∉ks->K (cz h1 m ((Ent (ek ks)).push ⟨.string t.says,.int .i64 1,(ek ks).length⟩) ((ek ks).length+1)):=by
  intro h1 f hmm hni
  have e:(Ent (ek ks)).push ⟨.string t.says,.int .i64 1,(ek ks).length⟩=Ent (ek (ks++[t.l])):=by
   rw[tD];simp[ek,G.Tok.l,An]
  have el:(ek ks).length+1=(ek (ks++[t.l])).length:=by simp[ek]
  rw[e,el]
  have hp:=lX (iA hmm) (Ent (ek (ks++[t.l]))) (ek (ks++[t.l])).length
  refine⟨m,rfl,_,_,hp,kI _,fun ev he hk=>?_,fun q=>?_⟩
  ·obtain⟨j,p,h3,rfl⟩:=fL he
   obtain⟨k,_,rfl⟩:=ma h3
   exact⟨1,rfl,aw (fun _=>⟨rfl,hni,rfl,f.trans (nB _ _ _ _),hp⟩) fun z=>absurd z (by decide)⟩
  ·exfalso
   refine q ⟨.string (G.mkB t.l),.int .i64 1,ks.length⟩ ?_ (jg.2 rfl)
   refine Array.mem_def.1 (Array.mem_of_getElem? (i:=ks.length) ?_)
   rw[fK]
   simp[ek]
 have some:∀{h1:ab} {j:Nat},Fr [m] h h1->cy h1 m=some (Ent (ek ks),(ek ks).length)->ks[j]? =some t.l->K (cz h1 m ((Ent (ek ks)).modify j fun e=>{e with key:=.string t.says,val:=.int .i64 2}) (ek ks).length):=by
  intro h1 j f hmm hj
  rw[DU]
  have hp:=lX (iA hmm) (Ent ((ek ks).modify j fun _=>(.string t.says,.int .i64 2))) (ek ks).length
  have at_:∀{i:Nat} {p:Value × Value},((ek ks).modify j fun _=>(Value.string t.says,Value.int .i64 2))[i]? =Option.some p->(i=j/\p=(.string t.says,.int .i64 2))\/(i≠j/\∃k,ks[i]? =Option.some k/\p=(.string (G.mkB k),.int .i64 1)):=by
   intro i p hp
   rw[List.getElem?_modify]at hp
   by_cases q:j=i
   ·subst q
    cases e:(ek ks)[j]? with
    | none=>rw[e]at hp;simp at hp
    | some y=>rw[e]at hp;simp at hp;exact .inl ⟨rfl,hp.symm⟩
   ·cases e:(ek ks)[i]? with
    | none=>rw[e]at hp;simp at hp
    | some y=>
     rw[e]at hp
     simp only[if_neg q,Option.map_eq_map,Option.map_some,id_eq,Option.some.injEq]at hp
     subst hp
     obtain⟨k,h3,h4⟩:=ma e
     exact .inr ⟨fun z=>q z.symm,k,h3,h4⟩
  refine⟨m,rfl,_,_,hp,?_,fun ev he hk=>?_,fun q=>?_⟩
  ·intro e he
   obtain⟨i,p,h1,rfl⟩:=fL he
   rcases at_ h1 with⟨_,rfl⟩ | ⟨_,k,_,rfl⟩<;>rfl
  ·obtain⟨i,p,h3,rfl⟩:=fL he
   rcases at_ h3 with⟨_,rfl⟩ | ⟨q,k,h4,rfl⟩
   ·exact⟨2,rfl,aw (fun z=>absurd z (by decide)) fun _=>⟨List.mem_of_getElem? hj,rfl,f.trans (nB _ _ _ _)⟩⟩
   ·exfalso
    have:k=t.l:=jg.1 hk
    subst this
    exact q (rv hn h4 hj)
  ·exfalso
   refine q ⟨.string t.says,.int .i64 2,j⟩ (Array.mem_def.1 (Array.mem_of_getElem? (i:=j) ?_)) rfl
   rw[fK,List.getElem?_modify]
   have:(ek ks)[j]? =Option.some (.string (G.mkB t.l),.int .i64 1):=by simp[ek,hj]
   rw[this]
   simp
 refine⟨m,rfl,_,_,hm1,kI _,fun ev he hk=>?_,fun q=>?_⟩
 ·obtain⟨j,p,h3,rfl⟩:=fL he
  obtain⟨k,h4,rfl⟩:=ma h3
  have hk:k=t.l:=jg.1 hk
  subst hk
  refine⟨1,rfl,m,rfl,by omega,_,_,hm1,kI _,fun j2 ev2 h5 h6=>?_,fun q=>?_⟩
  ·rw[fK]at h5
   cases e:(ek ks)[j2]? with
   | none=>rw[e]at h5;cases h5
   | some p=>
    rw[e]at h5
    obtain⟨k2,h7,rfl⟩:=ma e
    simp only[Option.map_some,Option.some.injEq]at h5
    subst h5
    have:k2=t.l:=jg.1 h6
    subst this
    exact some f1 hm1 h7
  ·exact(q _ he (jg.2 rfl)).elim
 ·have hni:t.l∉ks:=by
   intro hin
   obtain⟨j,hj⟩:=List.mem_iff_getElem?.1 hin
   refine q ⟨.string (G.mkB t.l),.int .i64 1,j⟩ (Array.mem_def.1 (Array.mem_of_getElem? (i:=j) ?_)) (jg.2 rfl)
   rw[fK]
   simp[ek,hj]
  refine⟨m,rfl,by omega,_,_,hm1,kI _,fun j2 ev2 h5 h6=>?_,fun _=>none f1 hm1 hni⟩
  exact absurd h6 (q ev2 (Array.mem_def.1 (Array.mem_of_getElem? h5)))
end Go.Proofs.YtemclecmafjjfaaGreatDoor.N
