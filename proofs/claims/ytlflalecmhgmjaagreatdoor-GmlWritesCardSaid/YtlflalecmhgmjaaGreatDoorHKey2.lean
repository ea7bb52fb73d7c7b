/- The writer of GML: its lines. Conditions: none. -/
import Derived.Test.YtlflalecmhgmjaaGreatDoorGWr
import Derived.Lib.Replace
set_option linter.unusedVariables false
set_option linter.unusedSimpArgs false
open Go.IntKind (i64 u64 u8 i32)
namespace Go.Proofs.YtlflalecmhgmjaaGreatDoor.N
open Go.Proofs.YtlflalecmhgmjaaGreatDoor
open Go.X
open Go.Proofs
set_option maxRecDepth 100000
theorem CR {h0 h:ab} {M:List Nat} {cs:List Ck} (Y:Sy h0 M h cs) (k:Nat) {c:Ck} (hk:cs[k]? =some c):∀x∈c.own,x<h.size:=(c.lt h (Y.ok hk)).1
section
variable {b c d:Nat} {u:Bool} {A:Option Addr} {l:List UInt8} {h:ab}
theorem CS (H:Hp h (wC b u A c d l)):af Tryz.prog 128 #[.pointer (some ⟨b,0,none⟩)] h fun v h'=>v= .tuple #[]/\Sq h (wC b u A c d l) h' (wC b true A c d l):=by
 intro w hw
 subst hw
 have hb:w.heap[b]? =some (.cells #[pU u b,.slice A l.length c,.int .i64 (d:Int)] 83 (0,0)):=H.ok 0 _ rfl
 cases u with
 | true=>
  have h0:w.cell? ⟨b,0,none⟩=some (.pointer (some ⟨b,0,none⟩)):=by rw[ba,bc hb];rfl
  refine(uT b w h0).mono fun e w' r=>?_
  grind [Rest.refl,Sq.start]
 | false=>
  have h0:w.cell? ⟨b,0,none⟩=some (.pointer none):=by rw[ba,bc hb];rfl
  have hsh:w.shape? b=some (83,3):=by simp[World.shape?,hb]
  have hfz:w.frozen? ⟨b,0,none⟩=false:=by simp[World.frozen?,hb]
  refine(rT b w h0 hsh hfz).mono fun e w' r=>?_
  obtain⟨rfl,rfl⟩:=r
  refine⟨_,rfl,Rest.setCell _ _ _,rfl,?_⟩
  rw[heap_setCell]
  exact⟨(Sy.start H).stO 0 rfl 0 (.pointer (some ⟨b,0,none⟩)),fun x hx=>by simp[rds,wC,Ck.ob,Ck.sl]at hx⟩
theorem Gg {c' d':Nat} {u':Bool} {A':Option Addr} {l':List UInt8}:rds (wC b u' A' c' d' l')=[]:=rfl
theorem Gh {s:ByteArray} (H:Hp h (wC b u A c d l)) (hs:l.length+s.size<=100000000):af Tryz.prog 86 #[.pointer (some ⟨b,0,none⟩),.string s] h fun v h'=>v= .tuple #[.int .i64 (s.size:Int),.nilIface]/\
  ∃A' c',Sq h (wC b u A c d l) h' (wC b true A' c' d (l++s.data.toList)):=by
 apply A0
 unfold S86
 refine ai (ao (wC b u A c d l)) (CS H) (by simp) (fun _ _ r=>r.2.fr) fun v h1 r=>?_
 obtain⟨rfl,Q⟩:=r
 have Y:=Q.sy
 refine⟨rfl,b,0,rfl,A,l.length,c,Y.cellO 0 rfl 1 rfl,(eK .u8).l (bI l),(Y.ownS 1 rfl),by simp,by omega,by unfold maxLen;omega,?_⟩
 intro sA sC h2 ow f g _
 have e:Lib.strCells s=(eK .u8).l (bI s.data.toList):=(fv s).symm
 rw[e]at ow
 have Y1:=Y.appS 1 rfl (bI s.data.toList) ow f g rfl (by rw[lF];rfl)
 refine⟨b,0,rfl,⟨_,Y1.cellO 0 rfl 1 rfl⟩,Y1.freeO 0 rfl 1,rfl,sA,sC,?_,fun x hx=>by rw[Gg]at hx;cases hx⟩
 have Y2:=Y1.stO 0 rfl 1 (.slice sA (l.length+s.size) sC)
 have el:(l++s.data.toList).length=l.length+s.size:=List.length_append
 unfold wC
 rw[el,oP]
 exact Y2
theorem I9 {x:UInt8} (H:Hp h (wC b u A c d l)) (hs:l.length<=100000000):af Tryz.prog 88 #[.pointer (some ⟨b,0,none⟩),.int .u8 ((x.toNat:Nat):Int)] h fun v h'=>v= .nilIface/\
  ∃A' c',Sq h (wC b u A c d l) h' (wC b true A' c' d (l++[x])):=by
 apply Ba
 unfold S88
 refine ai (ao (wC b u A c d l)) (CS H) (by simp) (fun _ _ r=>r.2.fr) fun v h1 r=>?_
 obtain⟨rfl,Q⟩:=r
 have Y:=Q.sy
 refine⟨rfl,b,0,rfl,A,l.length,c,Y.cellO 0 rfl 1 rfl,?_⟩
 intro h2
 have Y1:Sy h _ h2 (wC b true A c d l):=Y.gr (Fr.push h1 _)
 have hbl:b<h1.size:=CR Y 0 rfl b (by simp[Ck.ob])
 have hbA:∀y∈am A,y<h1.size:=CR Y 1 rfl
 refine⟨(eK .u8).l (bI l),Y1.ownS 1 rfl,fun y hy=>?_,by omega,by unfold maxLen;omega,?_⟩
 ·grind
 intro sA sC h3 ow f g _
 have Y2:=Y1.appS 1 rfl (bI [x]) ow f g rfl rfl
 refine⟨b,0,rfl,by omega,⟨_,Y2.cellO 0 rfl 1 rfl⟩,Y2.freeO 0 rfl 1,rfl,sA,sC,?_,fun x hx=>by rw[Gg]at hx;cases hx⟩
 have Y3:=Y2.stO 0 rfl 1 (.slice sA (l.length+1) sC)
 grind [wC,oP]
theorem Ja (H:Hp h (wC b u A c d l)):af Tryz.prog 43 #[.pointer (some ⟨b,0,none⟩)] h fun v h'=>v= .int .i64 (l.length:Int)/\h'=h:=by
 apply AZ
 unfold S43
 exact⟨b,0,rfl,A,l.length,c,(Sy.start H).cellO 0 rfl 1 rfl,rfl,rfl⟩
theorem Jb (H:Hp h (wC b u A c d l)) (h0:l≠[]):af Tryz.prog 44 #[.pointer (some ⟨b,0,none⟩)] h fun v h'=>v= .string (G.mkB l)/\Fr (ao (wC b u A c d l)) h h':=by
 intro w hw
 subst hw
 have hb:w.heap[b]? =some (.cells #[pU u b,.slice A l.length c,.int .i64 (d:Int)] 83 (0,0)):=H.ok 0 _ rfl
 obtain⟨⟨o1,o2⟩,_⟩:bn w.heap 5 1 A l.length c ((eK .u8).l (bI l))/\_:=H.ok 1 _ rfl
 have hl0:l.length≠0:=by simpa using h0
 rcases o2 with⟨_,q,_⟩ | ⟨g,cur,rfl,q1,q2,q3,q4,q5⟩
 ·omega
 refine(FV w h0 hb q1 q2 q3 q4 q5).mono fun e w' ⟨r1,r2,r3⟩=>⟨_,r1,r2,rfl,r3.mono fun x hx=>?_⟩
 grind [ao,wC,Ck.sl,am]
theorem Jc (n:Nat):Lib.repeatL [32,32] n=G.ind (2*n):=by
 induction n with
 | zero=>rfl
 | succ n ih=>
  have:Lib.repeatL [32,32] (n+1)=32::32::Lib.repeatL [32,32] n:=rfl
  rw[this,ih,show 2*(n+1)=2*n+1+1 by omega];rfl
def wds (ws:List ByteArray):List Value:=ws.map Value.string
def jn (ws:List ByteArray):List UInt8:=Lib.join (ws.map (·.data.toList)) [32]
def lnB (d:Nat) (ws:List ByteArray):List UInt8:=G.ind (2*d)++(jn ws++[10])
theorem DE {p:Nat} {ws:List ByteArray} (H:Hp h (wC b u A c d l++[Ck.ob p 9 (wds ws)])) (hd:d<=100) (hl:l.length<=90000000) (hw:ws.length<=100/\(jn ws).length<=1000000):
  af Tryz.prog 52 #[.pointer (some ⟨b,0,none⟩),.slice (some ⟨p,0,none⟩) ws.length ws.length] h fun v h'=>v= .tuple #[]/\
   ∃A' c',Sq h (wC b u A c d l++[Ck.ob p 9 (wds ws)]) h' (wC b true A' c' d (l++lnB d ws)++[Ck.ob p 9 (wds ws)]):=by
 apply Bb
 unfold S52
 intro K
 have Q:=Sq.start H
 refine⟨b,0,rfl,b,0,rfl,(d:Int),Q.sy.cellO 0 rfl 2 rfl,?_⟩
 refine ai (R:=fun v h'=>v= .string (G.mkB (G.ind (2*d)))/\Fr [] h h') [] ?_ (by simp) (fun _ _ r=>r.2) ?_
 ·refine eG (fun w hw=>Go.Proofs.Tryz.strings_Repeat (⟨#[32,32]⟩:ByteArray) d w (by omega) (by show 2*d<=_;omega)) fun h' f=>⟨?_,f⟩
  show Value.string ⟨(Lib.repeatL [32,32] d).toArray⟩=_
  rw[Jc];rfl
 rintro v h1 ⟨rfl,f1⟩
 refine⟨_,rfl,f1,?_⟩
 have Q1:=Q.gr f1
 refine ai (ao (wC b u A c d l)) (Gh (u:=u) (A:=A) (c:=c) (d:=d) (l:=l) (Q1.pick [0,1] rfl).hp (by show l.length+(List.replicate (2*d) (32:UInt8)).toArray.size<=_;simp;omega)) (by simp) (fun _ _ r=>r.2.choose_spec.choose_spec.fr) ?_
 rintro v h2 ⟨rfl,A2,c2,q2⟩
 have Q2:Sq h (wC b u A c d l++[Ck.ob p 9 (wds ws)]) h2 (wC b true A2 c2 d (l++G.ind (2*d))++[Ck.ob p 9 (wds ws)]):=Sq.call Q1 q2
 refine⟨_,.inl ⟨rfl,?_⟩⟩
 show K h2
 dsimp-zeta only[K]
 intro K2
 refine⟨b,0,rfl,?_⟩
 have hp2:h2[p]? =some (.cells (wds ws).toArray 9 (0,0)):=Q2.sy.ok (k:=2) (c:=Ck.ob p 9 (wds ws)) rfl
 refine ai (R:=fun v h'=>v= .string (G.mkB (jn ws))/\Fr [] h2 h') [] ?_ (by simp) (fun _ _ r=>r.2) ?_
 ·refine eG (fun w hw'=>Go.Proofs.Tryz.strings_Join p 0 ws.length ws (⟨#[32]⟩:ByteArray) w (fun j x hx=>?_) ?_ (by omega) (Nat.le_refl _) (by grind [jn])) fun h' f=>⟨rfl,f⟩
  ·subst hw'
   rw[ba,bc hp2,Nat.zero_add]
   simp[wds,hx]
  grind
 rintro v h3 ⟨rfl,f3⟩
 refine⟨_,rfl,f3,?_⟩
 have Q3:=Q2.gr f3
 have e1:(l++G.ind (2*d)).length=l.length+2*d:=by simp[G.ind]
 refine ai (ao (wC b true A2 c2 d (l++G.ind (2*d)))) (Gh (u:=true) (A:=A2) (c:=c2) (d:=d) (l:=l++G.ind (2*d)) (Q3.pick [0,1] rfl).hp (by rw[e1];show l.length+2*d+(jn ws).toArray.size<=_;grind)) (by simp) (fun _ _ r=>r.2.choose_spec.choose_spec.fr) ?_
 rintro v h4 ⟨rfl,A4,c4,q4⟩
 have Q4:Sq h (wC b u A c d l++[Ck.ob p 9 (wds ws)]) h4 (wC b true A4 c4 d (l++G.ind (2*d)++jn ws)++[Ck.ob p 9 (wds ws)]):=Sq.call Q3 q4
 refine⟨_,.inl ⟨rfl,?_⟩⟩
 show K2 h4
 dsimp-zeta only[K2]
 refine⟨b,0,rfl,?_⟩
 have e2:(l++G.ind (2*d)++jn ws).length=l.length+2*d+(jn ws).length:=by grind
 refine ai (ao (wC b true A4 c4 d (l++G.ind (2*d)++jn ws))) (I9 (x:=10) (u:=true) (A:=A4) (c:=c4) (d:=d) (l:=l++G.ind (2*d)++jn ws) (Q4.pick [0,1] rfl).hp (by omega)) (by simp) (fun _ _ r=>r.2.choose_spec.choose_spec.fr) ?_
 rintro v h5 ⟨rfl,A5,c5,q5⟩
 refine .inl ⟨rfl,rfl,A5,c5,?_⟩
 grind [Sq.call,lnB]
theorem Jd {k:ByteArray} (H:Hp h (wC b u A c d l)) (hd:d<=99) (hl:l.length<=90000000) (hk:k.size<=1000):af Tryz.prog 51 #[.pointer (some ⟨b,0,none⟩),.string k] h fun v h'=>v= .tuple #[]/\
  ∃A' c',Sq h (wC b u A c d l) h' (wC b true A' c' (d+1) (l++lnB d [k,⟨#[91]⟩])):=by
 apply Bc
 unfold S51
 intro h1
 have Y:Sy h (ao (wC b u A c d l)) h1 (wC b u A c d l++[Ck.ob h.size 9 (wds [k,⟨#[91]⟩])]):=Sy.newO (Sy.start H) _
 have hj:(jn [k,⟨#[91]⟩]).length<=1000000:=by
  have:k.data.toList.length=k.size:=rfl
  simp[jn,Lib.join];omega
 refine ai (ao (wC b u A c d l++[Ck.ob h.size 9 (wds [k,⟨#[91]⟩])])) (DE (ws:=[k,⟨#[91]⟩]) Y.hp (by omega) hl ⟨by simp,hj⟩) (by simp) (fun _ _ r=>r.2.choose_spec.choose_spec.fr) ?_
 rintro v h2 ⟨rfl,A2,c2,q2⟩
 have Z:Sq h (wC b u A c d l) h1 (wC b u A c d l++[Ck.ob h.size 9 (wds [k,⟨#[91]⟩])]):=⟨Y,fun x hx=>by simp[rds,wC,Ck.ob,Ck.sl]at hx⟩
 have Q2:=Z.callT q2
 refine⟨rfl,b,0,rfl,(d:Int),Q2.sy.cellO 0 rfl 2 rfl,b,0,rfl,⟨_,Q2.sy.cellO 0 rfl 2 rfl⟩,Q2.sy.freeO 0 rfl 2,rfl,A2,c2,?_⟩
 have Y3:=Q2.sy.stO 0 rfl 2 (.int .i64 ((d+1:Nat):Int))
 rw[show i64.wrap ((d:Int)+1)=((d+1:Nat):Int) by rw[wr (by omega) (by omega)];omega]
 exact⟨Y3.pick [0,1] rfl,fun x hx=>by simp[rds,pk,wC,Ck.ob,Ck.sl]at hx⟩
theorem Je (H:Hp h (wC b u A c (d+1) l)) (hd:d<=99) (hl:l.length<=90000000):af Tryz.prog 56 #[.pointer (some ⟨b,0,none⟩)] h fun v h'=>v= .tuple #[]/\
  ∃A' c',Sq h (wC b u A c (d+1) l) h' (wC b true A' c' d (l++lnB d [⟨#[93]⟩])):=by
 apply Bd
 unfold S56
 have Y:=Sy.start H
 refine⟨b,0,rfl,((d+1:Nat):Int),Y.cellO 0 rfl 2 rfl,b,0,rfl,⟨_,Y.cellO 0 rfl 2 rfl⟩,Y.freeO 0 rfl 2,?_⟩
 rw[show i64.wrap (((d+1:Nat):Int)-1)=(d:Int) by rw[wr (by omega) (by omega)];omega]
 intro h1 h2
 have Y1:Sy h (ao (wC b u A c (d+1) l)) h1 (wC b u A c d l):=Y.stO 0 rfl 2 (.int .i64 (d:Int))
 have Y2:Sy h (ao (wC b u A c (d+1) l)) h2 (wC b u A c d l++[Ck.ob h1.size 9 (wds [⟨#[93]⟩])]):=Sy.newO Y1 _
 refine ai (ao (wC b u A c d l++[Ck.ob h1.size 9 (wds [⟨#[93]⟩])])) (DE (ws:=[⟨#[93]⟩]) Y2.hp (by omega) hl ⟨by simp,by simp[jn,Lib.join]⟩) (by simp) (fun _ _ r=>r.2.choose_spec.choose_spec.fr) ?_
 rintro v h3 ⟨rfl,A2,c2,q2⟩
 have Z:Sq h (wC b u A c (d+1) l) h2 (wC b u A c d l++[Ck.ob h1.size 9 (wds [⟨#[93]⟩])]):=⟨Y2,fun x hx=>by simp[rds,wC,Ck.ob,Ck.sl]at hx⟩
 have Q2:=Z.callT q2
 exact⟨rfl,rfl,A2,c2,Q2.pick [0,1] rfl⟩
end
def jR (c:UInt8) (nw:List UInt8) (x:UInt8):List UInt8:=if x=c then nw else [x]
theorem jh (c:UInt8) (nw:List UInt8):∀s:List UInt8,Lib.replaceK [c] nw (Lib.count s [c]) s=s.flatMap (jR c nw)
 | []=>by rw[Lib.count_miss (by simp[Lib.index])];rfl
 | b::l=>by
  have ih:=jh c nw l
  by_cases h:b=c
  ·subst h
   have hix:Lib.index (b::l) [b]=((0:Nat):Int):=by rw[Lib.index];simp[List.isPrefixOf]
   rw[Lib.count_cons_eq,Nat.add_comm,Lib.replaceK_hit _ _ _ _ 0 hix]
   show []++nw++Lib.replaceK [b] nw (Lib.count l [b]) l=_
   rw[ih,List.flatMap_cons]
   simp[jR]
  ·rw[Lib.count_cons_ne b c l h,List.flatMap_cons]
   have e1:jR c nw b=[b]:=by unfold jR;rw[if_neg h]
   rw[e1,<-ih]
   have hp:([c]:List UInt8).isPrefixOf (b::l)=false:=by simp[List.isPrefixOf,Ne.symm h]
   have hix:Lib.index (b::l) [c]=if Lib.index l [c]== -1 then-1 else Lib.index l [c]+1:=by rw[Lib.index,hp];simp
   cases hk:Lib.count l [c]with
   | zero=>rfl
   | succ k=>
    obtain⟨i,hi⟩:=Lib.index_of_count (s:=l) (old:=[c]) (by omega)
    have hix':Lib.index (b::l) [c]=((i+1:Nat):Int):=by
     rw[hix,if_neg (fun e=>by have:=beq_iff_eq.1 e;omega),hi];omega
    rw[Lib.replaceK_hit _ _ _ _ _ hix',Lib.replaceK_hit _ _ _ _ _ hi]
    rfl
theorem lG (c:UInt8) (nw s:List UInt8) (h: [c]≠nw):Lib.replaceAll s [c] nw=s.flatMap (jR c nw):=by
 unfold Lib.replaceAll Lib.replace
 rw[if_neg (by simpa using h)]
 have:Lib.replaceNum s [c] (-1)=Lib.count s [c]:=by unfold Lib.replaceNum;rw[if_pos (.inl (by decide))]
 rw[this,jh]
theorem AR (l:List UInt8):(l.flatMap (jR 38 [38,97,109,112,59])).flatMap (jR 34 [38,113,117,111,116,59])=G.enc l:=by
 unfold G.enc
 rw[List.flatMap_assoc]
 congr 1
 funext x
 unfold jR G.wk
 by_cases h1:x=38
 ·subst h1;decide
 ·rw[if_neg h1,if_neg h1]
  simp only[List.flatMap_cons,List.flatMap_nil,List.append_nil]
  rfl
theorem lH (f:UInt8->List UInt8) (k:Nat) (hf:∀x,(f x).length<=k):∀l:List UInt8,(l.flatMap f).length<=k*l.length
 | []=>by simp
 | x::l=>by
  rw[List.flatMap_cons,List.length_append,List.length_cons,Nat.mul_succ]
  have:=lH f k hf l;have:=hf x;omega
theorem oU (l:List UInt8):(G.enc l).length<=6*l.length:=by
 refine lH _ 6 (fun x=>?_) l
 unfold G.wk;split
 ·simp[G.amp]
 ·split<;>simp[G.wq]
theorem AU (l:List UInt8):(l.flatMap (jR 38 [38,97,109,112,59])).length<=5*l.length:=by
 refine lH _ 5 (fun x=>?_) l
 unfold jR;split<;>simp
theorem CQ {s:ByteArray} {c:UInt8} {nw:List UInt8} {gl:GL} {h:ab} (g:Gl gl h) (hs:s.size<=1000000) (hn:nw.length<=10) (hne: [c]≠nw):
  af Tryz.prog 144 #[.string s,.string ⟨#[c]⟩,.string (G.mkB nw)] h fun v h'=>v= .string (G.mkB (s.data.toList.flatMap (jR c nw)))/\Fr [] h h':=by
 obtain⟨m,hm⟩:=g.ml
 refine eG (fun w hw=>Go.Proofs.Tryz.strings_ReplaceAll s (⟨#[c]⟩:ByteArray) (G.mkB nw) m w (by omega) ?_ (by show 1<=1;omega) ?_) fun h' f=>⟨?_,f⟩
 ·subst hw;rw[ba];exact hm
 ·have h1:=Lib.countB_le (⟨#[c]⟩:ByteArray) (by show 1<=1;omega) s.size s (Nat.le_refl _)
  have h2:(G.mkB nw).size=nw.length:=by simp[G.mkB,ByteArray.size]
  rw[h2]
  have:=Nat.mul_le_mul h1 hn
  omega
 ·have e:(⟨#[c]⟩:ByteArray).data.toList=[c]:=rfl
  have e2:(G.mkB nw).data.toList=nw:=by simp[G.mkB]
  rw[e,e2,lG c nw _ hne];rfl
theorem Ga {s:ByteArray} {gl:GL} {h:ab} (g:Gl gl h) (hs:s.size<=100000):af Tryz.prog 104 #[.string s] h fun v h'=>v= .string (G.mkB (G.quo s.data.toList))/\Fr [] h h':=by
 apply xW
 unfold GV
 refine ai (R:=fun v h'=>v= .string (G.mkB (s.data.toList.flatMap (jR 38 [38,97,109,112,59])))/\Fr [] h h') [] (CQ (c:=38) (nw:=[38,97,109,112,59]) g (by omega) (by decide) (by decide)) (by simp) (fun _ _ r=>r.2) ?_
 rintro v h1 ⟨rfl,f1⟩
 have hs0:s.data.toList.length=s.size:=rfl
 have e1:=AU s.data.toList
 have sz:∀l:List UInt8,(G.mkB l).size=l.length:=fun l=>by simp[G.mkB,ByteArray.size]
 have dt:∀l:List UInt8,(G.mkB l).data.toList=l:=fun l=>by simp[G.mkB]
 refine⟨_,rfl,?_⟩
 refine ai [] (CQ (s:=G.mkB (s.data.toList.flatMap (jR 38 [38,97,109,112,59]))) (c:=34) (nw:=[38,113,117,111,116,59]) (gl:=gl) (g.fr f1 (by simp)) (by rw[sz];omega) (by decide) (by decide)) (by simp) (fun _ _ r=>r.2) ?_
 rintro v h2 ⟨rfl,f2⟩
 rw[dt,AR]
 have e3:=oU s.data.toList
 refine⟨_,rfl,?_,?_,?_,f1.trans f2⟩
 ·rw[sz];show((1+_:Nat):Int)<=_;omega
 ·rw[ByteArray.size_append,sz];show((1+_+1:Nat):Int)<=_;omega
 ·congr 1
theorem AJ (l:List (Value × Value)) (j:Nat) (k v:Value):(Ent l).modify j (fun e=>{e with key:=k,val:=v})=Ent (l.modify j fun _=>(k,v)):=by
 refine Av fun i=>?_
 rw[Array.getElem?_modify,eg,List.getElem?_modify]
 by_cases q:j=i
 ·subst q;cases l[j]? <;>simp
 ·cases l[i]? <;>simp[q]
theorem pY (b:ByteArray):G.mkB b.data.toList=b:=by
 cases b;simp[G.mkB]
theorem gN {l:List UInt8} {b:ByteArray}:(Value.string (G.mkB l)=Value.string b) ↔ l=b.data.toList:=by
 constructor
 ·intro e
  injection e with e
  rw[<-e];simp[G.mkB]
 ·rintro rfl;rw[pY]
theorem jO {ks:List (List UInt8)} {j:Nat} {p:Value × Value} (h:(ek ks)[j]? =some p):∃k,ks[j]? =some k/\p=(.string (G.mkB k),.int .i64 1):=by
 unfold ek at h
 rw[List.getElem?_map]at h
 cases e:ks[j]? with
 | none=>rw[e]at h;cases h
 | some k=>rw[e]at h;exact⟨k,rfl,(Option.some.inj h).symm⟩
theorem je (ks:List (List UInt8)):dn iE (Ent (ek ks)):=by
 intro e he
 obtain⟨j,p,h1,rfl⟩:=eu he
 obtain⟨k,_,rfl⟩:=jO h1
 rfl
theorem uQ {h:ab} {m:Nat} {x:Array MapEntry × Nat} (hm:ci h m=some x) (o:Obj):ci (h.push o) m=some x:=by
 obtain⟨es,c⟩:=x
 have:=bG hm
 have hl:=(Array.getElem?_eq_some_iff.1 this).1
 exact jB (by rw[Array.getElem?_push,if_neg (by omega)];exact this)
theorem gf {h:ab} {m:Nat} {x:Array MapEntry × Nat} (hm:ci h m=some x):m<h.size:=by
 obtain⟨es,c⟩:=x
 exact(Array.getElem?_eq_some_iff.1 (bG hm)).1
theorem CH {t:G.Tok} {h:ab} {m:Nat} {ks:List (List UInt8)} (hm:ci h m=some (Ent (ek ks),(ek ks).length)) (hn:ks.Nodup):
  az Tryz.prog 209 #[.map (some m),cm t] h (fun v h'=>t.l∉ks/\v= .tuple #[]/\Fr [m] h h'/\ci h' m=some (Ent (ek (ks++[t.l])),(ek (ks++[t.l])).length))
   (fun v h'=>t.l∈ks/\v=flt (t.at_,18)/\Fr [m] h h'):=by
 unfold cm
 apply xr
 unfold GA
 intro hv K
 have ml:=gf hm
 have hm1:ci hv m=some (Ent (ek ks),(ek ks).length):=uQ hm _
 have f1:Fr [m] h hv:=(Fr.push h _).nil
 have e1:hv.size=h.size+1:=by simp[hv]
 clear_value hv
 have none:∀{h1:ab},Fr [m] h h1->ci h1 m=some (Ent (ek ks),(ek ks).length)->t.l∉ks->K (cj h1 m ((Ent (ek ks)).push ⟨.string t.says,.int .i64 1,(ek ks).length⟩) ((ek ks).length+1)):=by
  intro h1 f hmm hni
  have e:(Ent (ek ks)).push ⟨.string t.says,.int .i64 1,(ek ks).length⟩=Ent (ek (ks++[t.l])):=by
   rw[pP];simp[ek,G.Tok.l,pY]
  have el:(ek ks).length+1=(ek (ks++[t.l])).length:=by simp[ek]
  rw[e,el]
  have hp:=jM (gf hmm) (Ent (ek (ks++[t.l]))) (ek (ks++[t.l])).length
  refine⟨m,rfl,_,_,hp,je _,fun ev he hk=>?_,fun q=>?_⟩
  ·obtain⟨j,p,h3,rfl⟩:=eu he
   obtain⟨k,_,rfl⟩:=jO h3
   exact⟨1,rfl,av (fun _=>⟨rfl,hni,rfl,f.trans (kT _ _ _ _),hp⟩) fun z=>absurd z (by decide)⟩
  ·exfalso
   refine q ⟨.string (G.mkB t.l),.int .i64 1,ks.length⟩ ?_ (gN.2 rfl)
   refine Array.mem_def.1 (Array.mem_of_getElem? (i:=ks.length) ?_)
   rw[eg]
   simp[ek]
 have some:∀{h1:ab} {j:Nat},Fr [m] h h1->ci h1 m=some (Ent (ek ks),(ek ks).length)->ks[j]? =some t.l->K (cj h1 m ((Ent (ek ks)).modify j fun e=>{e with key:=.string t.says,val:=.int .i64 2}) (ek ks).length):=by
  intro h1 j f hmm hj
  rw[AJ]
  have hp:=jM (gf hmm) (Ent ((ek ks).modify j fun _=>(.string t.says,.int .i64 2))) (ek ks).length
  have at_:∀{i:Nat} {p:Value × Value},((ek ks).modify j fun _=>(Value.string t.says,Value.int .i64 2))[i]? =Option.some p->(i=j/\p=(.string t.says,.int .i64 2))\/(i≠j/\∃k,ks[i]? =Option.some k/\p=(.string (G.mkB k),.int .i64 1)):=by
   intro i p hp
   rw[List.getElem?_modify]at hp
   by_cases q:j=i
   ·subst q
    cases e:(ek ks)[j]? with
    | none=>rw[e]at hp;simp at hp
    | some y=>rw[e]at hp;simp at hp;exact .inl ⟨rfl,hp.symm⟩
   ·cases e:(ek ks)[i]? with
    | none=>rw[e]at hp;simp at hp
    | some y=>
     rw[e]at hp
     simp only[if_neg q,Option.map_eq_map,Option.map_some,id_eq,Option.some.injEq]at hp
     subst hp
     obtain⟨k,h3,h4⟩:=jO e
     exact .inr ⟨fun z=>q z.symm,k,h3,h4⟩
  refine⟨m,rfl,_,_,hp,?_,fun ev he hk=>?_,fun q=>?_⟩
  ·intro e he
   obtain⟨i,p,h1,rfl⟩:=eu he
   rcases at_ h1 with⟨_,rfl⟩ | ⟨_,k,_,rfl⟩<;>rfl
  ·obtain⟨i,p,h3,rfl⟩:=eu he
   rcases at_ h3 with⟨_,rfl⟩ | ⟨q,k,h4,rfl⟩
   ·exact⟨2,rfl,av (fun z=>absurd z (by decide)) fun _=>⟨List.mem_of_getElem? hj,rfl,f.trans (kT _ _ _ _)⟩⟩
   ·exfalso
    have:k=t.l:=gN.1 hk
    subst this
    exact q (oE hn h4 hj)
  ·exfalso
   refine q ⟨.string t.says,.int .i64 2,j⟩ (Array.mem_def.1 (Array.mem_of_getElem? (i:=j) ?_)) rfl
   rw[eg,List.getElem?_modify]
   have:(ek ks)[j]? =Option.some (.string (G.mkB t.l),.int .i64 1):=by simp[ek,hj]
   rw[this]
   simp
 refine⟨m,rfl,_,_,hm1,je _,fun ev he hk=>?_,fun q=>?_⟩
 ·obtain⟨j,p,h3,rfl⟩:=eu he
  obtain⟨k,h4,rfl⟩:=jO h3
  have hk:k=t.l:=gN.1 hk
  subst hk
  refine⟨1,rfl,m,rfl,by omega,_,_,hm1,je _,fun j2 ev2 h5 h6=>?_,fun q=>?_⟩
  ·rw[eg]at h5
   cases e:(ek ks)[j2]? with
   | none=>rw[e]at h5;cases h5
   | some p=>
    rw[e]at h5
    obtain⟨k2,h7,rfl⟩:=jO e
    simp only[Option.map_some,Option.some.injEq]at h5
    subst h5
    have:k2=t.l:=gN.1 h6
    subst this
    exact some f1 hm1 h7
  ·exact(q _ he (gN.2 rfl)).elim
 ·have hni:t.l∉ks:=by
   intro hin
   obtain⟨j,hj⟩:=List.mem_iff_getElem?.1 hin
   refine q ⟨.string (G.mkB t.l),.int .i64 1,j⟩ (Array.mem_def.1 (Array.mem_of_getElem? (i:=j) ?_)) (gN.2 rfl)
   rw[eg]
   simp[ek,hj]
  refine⟨m,rfl,by omega,_,_,hm1,je _,fun j2 ev2 h5 h6=>?_,fun _=>none f1 hm1 hni⟩
  exact absurd h6 (q ev2 (Array.mem_def.1 (Array.mem_of_getElem? h5)))
end Go.Proofs.YtlflalecmhgmjaaGreatDoor.N
namespace Go.X
theorem Sy.two {h0 h:ab} {M:List Nat} {X:List Ck} {a c:Ck} (Y:Sy h0 M h (X++[a])) (Z:Sy h0 M h (X++[c])) (ho:c.own=[]) (ha:∀b∈a.own,b∉c.rd):Sy h0 M h (X++[a,c]):=by
 have last:∀{k:Nat} {d:Ck},(X++[a,c])[k]? =some d->(X++[a])[k]? =some d\/(k=X.length+1/\d=c):=by
  intro k d hk
  rcases cF hk with hk | ⟨hl,hk⟩
  ·exact .inl (dX hk)
  ·obtain⟨j,e⟩:∃j,k=X.length+j:=⟨k-X.length,by omega⟩
   subst e
   simp only[Nat.add_sub_cancel_left]at hk
   match j,hk with
   | 0,hk=>exact .inl (by simp at hk;subst hk;simp)
   | 1,hk=>exact .inr ⟨rfl,by simpa using hk.symm⟩
   | j+2,hk=>simp at hk
 have zl:(X++[c])[X.length]? =some c:=by simp
 have vs:∀{k:Nat} {d:Ck},(X++[a])[k]? =some d->Ap d c:=by
  intro k d hk b hb
  refine⟨by simp[ho],fun x=>?_⟩
  rcases cF hk with hk | ⟨hl,hk⟩
  ·exact(Z.hp.ap k X.length d c (by have:=(List.getElem?_eq_some_iff.1 hk).1;omega) (dX hk) zl b hb).2 x
  ·have e:d=a:=by
    cases q:k-X.length with
    | zero=>rw[q]at hk;simpa using hk.symm
    | succ n=>rw[q]at hk;simp at hk
   subst e
   exact ha b hb x
 refine⟨Y.fr,⟨fun k d hk=>?_,fun i j d e hij hi hj=>?_⟩,fun k d hk b hb=>?_⟩
 ·rcases last hk with hk | ⟨_,rfl⟩
  ·exact Y.hp.ok k d hk
  ·exact Z.hp.ok _ _ zl
 ·rcases last hi with hi2 | ⟨e1,e1'⟩
  ·rcases last hj with hj2 | ⟨e2,e2'⟩
   ·exact Y.hp.ap i j d e hij hi2 hj2
   ·subst e2';exact vs hi2
  ·subst e1';intro b hb;rw[ho]at hb;cases hb
 ·rcases last hk with hk | ⟨_,rfl⟩
  ·exact Y.ow k d hk b hb
  ·rw[ho]at hb;cases hb
end Go.X
namespace Go.Proofs.YtlflalecmhgmjaaGreatDoor.N
open Go.Proofs.YtlflalecmhgmjaaGreatDoor
open Go.X
set_option maxRecDepth 100000
def eT :En G.Tok:=⟨4,AI,by decide,fun _=>rfl,fun t v h=>by simp[AI]at h;rcases h with rfl | rfl | rfl | rfl<;>rfl⟩
structure AD where
 mp:Nat
 aL:Option Addr
 cL:Nat
 aS:Option Addr
 cS:Nat
 aW:Option Addr
 cW:Nat
 aE:Option Addr
 cE:Nat
def fO (l:List (Int × Nat)):List (Value × Value):=l.map fun p=>(.int .i64 p.1,.int .i64 (p.2:Int))
def rc (s:ByteArray) (A:AD) (σ:G.Rd) (d:Nat):List Value:=
 [.string s,.int .i64 (σ.i:Int),.int .i64 (d:Int),.int .i64 (σ.n:Int),.slice none 0 0,.bool σ.dir,.slice none 0 0,.slice none 0 0,.slice none 0 0,.bool σ.graph,.map (some A.mp),
  .slice A.aL σ.labels.length A.cL,.slice A.aS σ.spots.length A.cS,.slice A.aW σ.weights.length A.cW,.bool σ.h0,.bool σ.h1,.bool σ.h2,.slice A.aE σ.ends.length A.cE]
def stC (gl:GL) (b:Nat) (s:ByteArray) (A:AD) (σ:G.Rd) (d:Nat):List Ck:=
 [Ck.ob b 95 (rc s A σ d),Ck.mp A.mp (fO σ.ids),Ck.sl eS 9 A.aL σ.labels.length A.cL σ.labels,Ck.sl eFF 78 A.aS σ.spots.length A.cS σ.spots,Ck.sl eF 76 A.aW σ.weights.length A.cW σ.weights,
  Ck.sl eT 156 A.aE σ.ends.length A.cE σ.ends,Ck.glob gl]
def kts :G.Lv->List (List UInt8 × Bool)
 | .graph d=>[(G.cq,d)]
 | .node _ a b c=>[(G.kId,a),(G.eU,b),(G.bh,c)]
 | .spot _ a b=>[(G.kX,a),(G.kY,b)]
 | .edge _ a b c=>[(G.bd,a),(G.bj,b),(G.cr,c)]
 | _=>[]
def Seen (l:G.Lv) (ks:List (List UInt8)):Prop:=ks.Nodup/\∀k,k∈ks ↔ (k,true)∈kts l
abbrev pt (b:Nat):Value:=.pointer (some ⟨b,0,none⟩)
abbrev fnV (n:Nat) (c:Array Value):Value:=.func (.func n) #[] c
def LvR (b:Nat) (l:G.Lv) (kv ov:Value) (mo:Option (Nat × List (List UInt8))) (fs:Fs):Prop:=
 match l with
 | .over=>kv= .nilFunc/\mo=none/\fs=[]
 | .top=>kv= .func (.func 111) #[pt b] #[]/\mo=none/\fs=[]
 | .graph _=>∃xR xM m ks,kv=fnV 152 #[pt xR,pt xM]/\ov=fnV 151 #[]/\mo=some (m,ks)/\Seen l ks/\fs=[(xR,0,pt b),(xM,0,.map (some m))]
 | .node v _ _ _=>∃xM xR xV m ks,kv=fnV 261 #[pt xM,pt xR,pt xV]/\ov=fnV 265 #[pt xM]/\mo=some (m,ks)/\Seen l ks/\fs=[(xM,0,.map (some m)),(xR,0,pt b),(xV,0,.int .i64 (v:Int))]
 | .spot v _ _=>∃xM xR xV m ks,kv=fnV 317 #[pt xM,pt xR,pt xV]/\ov=fnV 151 #[]/\mo=some (m,ks)/\Seen l ks/\fs=[(xM,0,.map (some m)),(xR,0,pt b),(xV,0,.int .i64 (v:Int))]
 | .edge k _ _ _=>∃xM xK xR m ks,kv=fnV 266 #[pt xM,pt xK,pt xR]/\ov=fnV 270 #[pt xM]/\mo=some (m,ks)/\Seen l ks/\fs=[(xM,0,.map (some m)),(xK,0,.int .i64 (k:Int)),(xR,0,pt b)]
def TkR (b:Nat) (A:AD) (x:G.Tk) (p:Option Addr) (mo:Option (Nat × List (List UInt8))) (fs tfs:Fs):Prop:=
 match x with
 | .none=>p=none/\mo=none/\fs=[]/\tfs=[]
 | .list l=>∃t kf kc ov,p=some ⟨t,0,none⟩/\LvR b l (fnV kf kc) ov mo fs/\tfs=[(t,0,.int .i64 1),(t,2,fnV kf kc),(t,3,ov)]
 | .dir=>∃t xR,p=some ⟨t,0,none⟩/\mo=none/\fs=[]/\tfs=[(t,0,.int .i64 4),(t,1,fnV 210 #[pt xR]),(xR,0,pt b)]
 | .id v=>∃t xR xV,p=some ⟨t,0,none⟩/\mo=none/\fs=[]/\tfs=[(t,0,.int .i64 4),(t,1,fnV 262 #[pt xR,pt xV]),(xR,0,pt b),(xV,0,.int .i64 (v:Int))]
 | .label v=>∃t xR xV,p=some ⟨t,0,none⟩/\mo=none/\fs=[]/\tfs=[(t,0,.int .i64 5),(t,1,fnV 263 #[pt xR,pt xV]),(xR,0,pt b),(xV,0,.int .i64 (v:Int))]
 | .spot v y=>∃t xP xR g,p=some ⟨t,0,none⟩/\mo=none/\fs=[]/\A.aS=some ⟨g,0,none⟩/\tfs=[(t,0,.int .i64 4),(t,1,fnV 318 #[pt xP,pt xR]),(xR,0,pt b),(xP,0,.pointer (some ⟨g,v*2+y.toNat,none⟩))]
 | .fin k=>∃t xR xT,p=some ⟨t,0,none⟩/\mo=none/\fs=[]/\tfs=[(t,0,.int .i64 4),(t,1,fnV 267 #[pt xR,pt xT]),(xR,0,pt b),(xT,0,.int .i64 (k:Int))]
 | .weight k=>∃t xR xK,p=some ⟨t,0,none⟩/\mo=none/\fs=[]/\tfs=[(t,0,.int .i64 4),(t,1,fnV 268 #[pt xR,pt xK]),(xR,0,pt b),(xK,0,.int .i64 (k:Int))]
def LvB (σ:G.Rd):G.Lv->Prop
 | .node v _ _ _=>v<σ.n
 | .spot v _ _=>v<σ.n
 | .edge k _ _ _=>k+1<σ.ends.length/\k/2<σ.weights.length
 | _=>True
def TkB (σ:G.Rd):G.Tk->Prop
 | .id v=>v<σ.n
 | .label v=>v<σ.n
 | .spot v _=>v<σ.n
 | .fin k=>k<σ.ends.length
 | .weight k=>k/2<σ.weights.length
 | .list l=>LvB σ l
 | _=>True
structure Gr (σ σ':G.Rd):Prop where
 n:σ.n<=σ'.n
 e:σ.ends.length<=σ'.ends.length
 w:σ.weights.length<=σ'.weights.length
theorem Gr.refl (σ:G.Rd):Gr σ σ:=⟨Nat.le_refl _,Nat.le_refl _,Nat.le_refl _⟩
theorem Gr.trans {a b c:G.Rd} (x:Gr a b) (y:Gr b c):Gr a c:=⟨Nat.le_trans x.n y.n,Nat.le_trans x.e y.e,Nat.le_trans x.w y.w⟩
theorem LvB.gr {σ σ':G.Rd} {l:G.Lv} (h:LvB σ l) (g:Gr σ σ'):LvB σ' l:=by
 have:=g.n;have:=g.e;have:=g.w
 cases l<;>simp only[LvB]at h ⊢ <;>omega
section
variable {gl:GL} {b d:Nat} {s:ByteArray} {A:AD} {σ:G.Rd}
theorem lw {h h3:ab} {C rest:List Ck} {mo mo1:Option (Nat × List (List UInt8))} {fs fs1 tfs:Fs} (Y:Sy h (ao C) h3 (stC gl b s A σ d++Ck.fx mo fs::rest))
  (hl:∀x∈fs.map (·.1),x∈rds C\/h.size<=x) (hg:∀x∈glB gl,x∈rds C)
  (hm:∀p:Nat × List (List UInt8),mo1=some p->∃k:Nat,rest[k]? =some (Ck.mp p.1 (ek p.2)))
  (hf1:∀f∈fs1,ac h3 f.1 f.2.1=some f.2.2/\(f.1∈fs.map (·.1)\/(h.size<=f.1/\∃(k:Nat) (ty:TypeId) (vs:List Value),rest[k]? =some (Ck.ob f.1 ty vs))))
  (hf2:∀f∈tfs,ac h3 f.1 f.2.1=some f.2.2/\(f.1∈fs.map (·.1)\/(h.size<=f.1/\∃(k:Nat) (ty:TypeId) (vs:List Value),rest[k]? =some (Ck.ob f.1 ty vs)))):
  Sq h C h3 (stC gl b s A σ d++[Ck.fx mo fs,Ck.fx mo1 fs1,Ck.fx none tfs]):=by
 have hc:eM (stC gl b s A σ d++Ck.fx mo fs::rest).length [0,1,2,3,4,5,6,7]=true:=by
  simp[eM,stC]
  decide
 have at8:∀{k:Nat} {c:Ck},rest[k]? =some c->(stC gl b s A σ d++Ck.fx mo fs::rest)[k+8]? =some c:=by
  intro k c hk
  show(_::_::_::_::_::_::_::_::rest:List Ck)[k+8]? =some c
  simpa using hk
 have nin:∀k,k+8∉[0,1,2,3,4,5,6,7]:=by intro k;simp
 have conv:∀{g:Fs},(∀f∈g,ac h3 f.1 f.2.1=some f.2.2/\(f.1∈fs.map (·.1)\/(h.size<=f.1/\∃(k:Nat) (ty:TypeId) (vs:List Value),rest[k]? =some (Ck.ob f.1 ty vs))))->
   ∀f∈g,ac h3 f.1 f.2.1=some f.2.2/\∃(k:Nat) (c:Ck),(stC gl b s A σ d++Ck.fx mo fs::rest)[k]? =some c/\((f.1∈c.own/\k∉[0,1,2,3,4,5,6,7])\/(f.1∈c.rd/\∃mo fs,c=Ck.fx mo fs)):=by
  intro g hg f hf
  obtain⟨h1,h2⟩:=hg f hf
  refine⟨h1,?_⟩
  rcases h2 with h2 | ⟨_,k,ty,vs,h2⟩
  ·exact⟨7,Ck.fx mo fs,rfl,.inr ⟨h2,mo,fs,rfl⟩⟩
  ·exact⟨k+8,_,at8 h2,.inl ⟨by simp[Ck.ob],nin k⟩⟩
 have Z1:Sy h (ao C) h3 ((stC gl b s A σ d++[Ck.fx mo fs])++[Ck.fx mo1 fs1]):=Y.cutF [0,1,2,3,4,5,6,7] hc mo1 fs1 (fun p hp=>by
  obtain⟨k,h1⟩:=hm p hp
  exact⟨k+8,at8 h1,nin k⟩) (conv hf1)
 have Z2:Sy h (ao C) h3 ((stC gl b s A σ d++[Ck.fx mo fs])++[Ck.fx none tfs]):=Y.cutF [0,1,2,3,4,5,6,7] hc none tfs (fun p hp=>by cases hp) (conv hf2)
 have Z:Sy h (ao C) h3 ((stC gl b s A σ d++[Ck.fx mo fs])++[Ck.fx mo1 fs1,Ck.fx none tfs]):=Sy.two Z1 Z2 rfl (by
  intro x hx q
  cases mo1 with
  | none=>simp[Ck.fx]at hx
  | some p=>
   simp only[Ck.fx,Option.map_some,Option.toList_some,List.mem_singleton]at hx
   subst hx
   obtain⟨f,h1,h2⟩:=List.mem_map.1 (show p.1∈tfs.map (·.1)from q)
   obtain⟨k,h3⟩:=hm p rfl
   have:=Y.mapM _ (at8 h3)
   exact gP this (hf2 f h1).1 h2.symm)
 refine⟨Z,fun x hx=>?_⟩
 have inl:∀{g:Fs},(∀f∈g,ac h3 f.1 f.2.1=some f.2.2/\(f.1∈fs.map (·.1)\/(h.size<=f.1/\∃(k:Nat) (ty:TypeId) (vs:List Value),rest[k]? =some (Ck.ob f.1 ty vs))))->x∈g.map (·.1)->x∈rds C\/x∈ao C\/h.size<=x:=by
  intro g hg hx
  obtain⟨f,h1,rfl⟩:=List.mem_map.1 hx
  rcases(hg f h1).2 with q | q
  ·exact(hl _ q).imp id .inr
  ·exact .inr (.inr q.1)
 have:x∈glB gl\/x∈fs.map (·.1)\/x∈fs1.map (·.1)\/x∈tfs.map (·.1):=by
  simpa[rds,stC,Ck.ob,Ck.mp,Ck.sl,Ck.glob,Ck.fx]using hx
 rcases this with q | q | q | q
 ·exact .inl (hg x q)
 ·exact(hl x q).imp id .inr
 ·exact inl hf1 q
 ·exact inl hf2 q
end
def kR (gl:GL) (b d:Nat) (s:ByteArray) (C:List Ck) (h:ab) (l:G.Lv) (t:G.Tok) (σ:G.Rd) (kv ov:Value) (fs:Fs) (v:Value) (h':ab):Prop:=
 ∃x l' σ' A' mo' mo1 fs1 tfs p,G.key l t σ= .ok (x,l',σ')/\v= .pointer p/\Sq h C h' (stC gl b s A' σ' d++[Ck.fx mo' fs,Ck.fx mo1 fs1,Ck.fx none tfs])/\
  LvR b l' kv ov mo' fs/\TkR b A' x p mo1 fs1 tfs/\Gr σ σ'/\LvB σ' l'/\TkB σ' x
def kE (C:List Ck) (h:ab) (l:G.Lv) (t:G.Tok) (σ:G.Rd) (v:Value) (h':ab):Prop:=∃f,G.key l t σ= .no f/\v=flt f/\Fr (ao C) h h'
theorem cT {l l':G.Lv} {ks:List (List UInt8)} {k:List UInt8} (h:Seen l ks) (hk:k∉ks) (hl:∀k',(k',true)∈kts l' ↔ ((k',true)∈kts l\/k'=k)):Seen l' (ks++[k]):=by
 refine⟨?_,fun k'=>?_⟩
 ·rw[List.nodup_append]
  exact⟨h.1,by simp,fun a ha b hb=>by simp at hb;subst hb;exact fun e=>hk (e▸ha)⟩
 ·rw[hl,List.mem_append,h.2];simp
section
variable {gl:GL} {b d:Nat} {s:ByteArray} {A:AD} {σ:G.Rd}
theorem rR {mo:Option (Nat × List (List UInt8))} {fs:Fs}:(∀x∈fs.map (·.1),x∈rds (stC gl b s A σ d++[Ck.fx mo fs]))/\∀x∈glB gl,x∈rds (stC gl b s A σ d++[Ck.fx mo fs]):=by
 constructor
 ·intro x hx
  exact bW.2 ⟨7,_,rfl,hx⟩
 ·intro x hx
  exact bW.2 ⟨6,_,rfl,hx⟩
theorem uO {h h3:ab} {C:List Ck} {mo:Option (Nat × List (List UInt8))} {fs:Fs} (Y:Sy h (ao C) h3 (stC gl b s A σ d++[Ck.fx mo fs]))
  (hl:∀x∈fs.map (·.1),x∈rds C\/h.size<=x) (hg:∀x∈glB gl,x∈rds C):Sq h C h3 (stC gl b s A σ d++[Ck.fx mo fs,Ck.fx none [],Ck.fx none []]):=
 lw (rest:=[]) Y hl hg (fun p hp=>by cases hp) (fun f hf=>by cases hf) (fun f hf=>by cases hf)
theorem Dq {cl:Nat->Nat} {v:Nat} {x y:Bool} {t:G.Tok} {kv ov:Value} {mo:Option (Nat × List (List UInt8))} {fs:Fs} {h:ab} {xM xR xV m:Nat} {ks:List (List UInt8)}
  (H:Hp h (stC gl b s A σ d++[Ck.fx mo fs])) (ri:G.RI cl s σ) (hb:LvB σ (.spot v x y)) (e1:kv=fnV 317 #[pt xM,pt xR,pt xV]) (e2:ov=fnV 151 #[]) (e3:mo=some (m,ks)) (e4:Seen (.spot v x y) ks)
  (e5:fs=[(xM,0,.map (some m)),(xR,0,pt b),(xV,0,.int .i64 (v:Int))]):
  az Tryz.prog 317 #[cm t,pt xM,pt xR,pt xV] h (kR gl b d s (stC gl b s A σ d++[Ck.fx mo fs]) h (.spot v x y) t σ kv ov fs) (kE (stC gl b s A σ d++[Ck.fx mo fs]) h (.spot v x y) t σ):=by
 generalize hC:stC gl b s A σ d++[Ck.fx mo fs]=C at H ⊢
 have Y0:Sy h (ao C) h (stC gl b s A σ d++[Ck.fx mo fs]):=by rw[hC];exact Sy.start H
 obtain⟨hr1,hr2⟩:=rR (gl:=gl) (b:=b) (s:=s) (A:=A) (σ:=σ) (d:=d) (mo:=mo) (fs:=fs)
 rw[hC]at hr1 hr2
 unfold cm
 apply xJ
 unfold GQ
 have ex:(t.says.toList==(⟨#[120]⟩:ByteArray).toList)=decide (t.l=G.kX):=cn
 have ey:(t.says.toList==(⟨#[121]⟩:ByteArray).toList)=decide (t.l=G.kY):=cn
 rw[ex,ey]
 intro hv
 have Y1:Sy h (ao C) hv (stC gl b s A σ d++[Ck.fx mo fs]):=Y0.gr (Fr.push h _)
 have s1:hv.size=h.size+1:=by simp[hv]
 clear_value hv
 intro K
 have go:∀(c:Bool),t.l=(if c=true then G.kY else G.kX)->K hv:=by
  intro c hc
  subst e3
  have hn:=Y1.mapF 7 rfl
  have hml:m<h.size:=gf (Y0.mapF 7 rfl)
  have hbn:v<σ.n:=hb
  have hsl:=ri.sl
  refine⟨xM,0,rfl,some m,Y1.factF 7 rfl 0 (by rw[e5];rfl),?_⟩
  refine aH [m] (CH hn e4.1) (by simp;omega) (fun _ _ r=>r.2.2.1) (fun _ _ r=>r.2.2) (fun v2 hv3 r=>?_) fun v2 hv3 r=>?_
  ·obtain⟨r1,rfl,f3,hm3⟩:=r
   have Y3:Sy h (ao C) hv3 (stC gl b s A σ d++[Ck.fx (some (m,ks++[t.l])) fs]):=Y1.seeF 7 rfl f3 hm3
   have s3:hv.size<=hv3.size:=f3.size
   obtain⟨g,hg,-,-⟩:=Y3.atS 3 rfl (i:=(v:Int)) (by omega) (by omega)
   refine⟨rfl,xR,0,rfl,_,Y3.factF 7 rfl 1 (by rw[e5];rfl),b,0,rfl,A.aS,σ.spots.length,A.cS,Y3.cellO 0 rfl 12 rfl,xV,0,rfl,(v:Int),Y3.factF 7 rfl 2 (by rw[e5];rfl),g,0,hg,by omega,by omega,?_⟩
   intro hv4
   have Y4:Sy h (ao C) hv4 (stC gl b s A σ d++[Ck.fx (some (m,ks++[t.l])) fs,Ck.ob hv3.size 340 [.pointer none]]):=Y3.newO [.pointer none]
   have s4:hv4.size=hv3.size+1:=by simp[hv4]
   refine⟨Fr.push _ _,by omega,⟨_,Y4.cellO 8 rfl 0 rfl⟩,Y4.freeO 8 rfl 0,?_⟩
   intro hv5
   have Y5:Sy h (ao C) hv5 (stC gl b s A σ d++[Ck.fx (some (m,ks++[t.l])) fs,Ck.ob hv3.size 340 [.pointer (some ⟨g,0+(v:Int).toNat*2,none⟩)]]):=Y4.stO 8 rfl 0 _
   have s5:hv5.size=hv3.size+1:=by simp[hv5,s4]
   clear_value hv5
   clear_value hv4
   refine⟨fun _ h'=>Sy h (ao C) h' (stC gl b s A σ d++[Ck.fx (some (m,ks++[t.l])) fs,Ck.ob hv3.size 340 [.pointer (some ⟨g,v*2+c.toNat,none⟩)]]),?_,?_⟩
   ·refine ag (fun q=>?_) fun q=>?_
    ·have hc1:c=true:=by
      cases c with
      | true=>rfl
      | false=>rw[hc]at q;exact absurd q (by decide)
     subst hc1
     refine⟨xR,0,rfl,_,Y5.factF 7 rfl 1 (by rw[e5];rfl),b,0,rfl,A.aS,σ.spots.length,A.cS,Y5.cellO 0 rfl 12 rfl,xV,0,rfl,(v:Int),Y5.factF 7 rfl 2 (by rw[e5];rfl),g,0,hg,by omega,by omega,by omega,⟨_,Y5.cellO 8 rfl 0 rfl⟩,Y5.freeO 8 rfl 0,?_⟩
     have Y6:=Y5.stO 8 rfl 0 (.pointer (some ⟨g,((0+(v:Int).toNat*2)+1),none⟩))
     have eo:(0+(v:Int).toNat*2)+1=v*2+true.toNat:=by simp
     rw[eo]at Y6 ⊢
     exact Y6
    ·have hc1:c=false:=by
      cases c with
      | false=>rfl
      | true=>exact absurd hc q
     subst hc1
     have eo:0+(v:Int).toNat*2=v*2+false.toNat:=by simp
     rw[eo]at Y5
     exact Y5
   ·intro hv7 Y7 hv8
    have Y8:Sy h (ao C) hv8 (stC gl b s A σ d++[Ck.fx (some (m,ks++[t.l])) fs,Ck.ob hv3.size 340 [.pointer (some ⟨g,v*2+c.toNat,none⟩)],
      Ck.ob hv7.size 193 [.int .i64 4,fnV 318 #[pt hv3.size,pt xR],.nilFunc,.nilFunc]]):=Y7.newO [.int .i64 4,fnV 318 #[pt hv3.size,pt xR],.nilFunc,.nilFunc]
    have s7:h.size<=hv7.size:=Y7.le
    have hseen:t.l∉ks:=r1
    refine⟨.spot v c,if c=true then .spot v x true else .spot v true y,σ,A,some (m,ks++[t.l]),none,[],[(hv7.size,0,.int .i64 4),(hv7.size,1,fnV 318 #[pt hv3.size,pt xR]),(xR,0,pt b),(hv3.size,0,.pointer (some ⟨g,v*2+c.toNat,none⟩))],some ⟨hv7.size,0,none⟩,?_,rfl,?_,?_,?_,Gr.refl σ,?_,hbn⟩
    ·cases c with
     | false=>
      have hc:t.l=G.kX:=hc
      have hx:x=false:=by
       cases x with
       | false=>rfl
       | true=>exact absurd ((e4.2 _).2 (by simp[kts,hc])) r1
      subst hx
      simp[G.key,hc,G.aG]
     | true=>
      have hc:t.l=G.kY:=hc
      have hx:y=false:=by
       cases y with
       | false=>rfl
       | true=>exact absurd ((e4.2 _).2 (by simp[kts,hc])) r1
      subst hx
      have hne:G.kY≠G.kX:=by decide
      simp[G.key,hc,hne,G.aG]
    ·refine lw (rest:=[_,_]) Y8 (fun x hx=>.inl (hr1 x hx)) hr2 (fun p hp=>by cases hp) (fun f hf=>by cases hf) fun f hf=>?_
     simp only[List.mem_cons,List.not_mem_nil,or_false]at hf
     rcases hf with rfl | rfl | rfl | rfl
     ·exact⟨Y8.cellO 9 rfl 0 rfl,.inr ⟨s7,1,193,_,rfl⟩⟩
     ·exact⟨Y8.cellO 9 rfl 1 rfl,.inr ⟨s7,1,193,_,rfl⟩⟩
     ·exact⟨Y8.factF 7 rfl 1 (by rw[e5];rfl),.inl (by rw[e5];simp)⟩
     ·exact⟨Y8.cellO 8 rfl 0 rfl,.inr ⟨by show h.size<=hv3.size;omega,0,340,_,rfl⟩⟩
    ·cases c with
     | false=>
      have hc:t.l=G.kX:=hc
      exact⟨xM,xR,xV,m,ks++[t.l],e1,e2,rfl,cT e4 r1 (fun k'=>by rw[hc];simp[kts]<;>grind),e5⟩
     | true=>
      have hc:t.l=G.kY:=hc
      exact⟨xM,xR,xV,m,ks++[t.l],e1,e2,rfl,cT e4 r1 (fun k'=>by rw[hc];simp[kts]<;>grind),e5⟩
    ·exact⟨hv7.size,hv3.size,xR,g,rfl,rfl,rfl,hg,rfl⟩
    ·cases c<;>exact hbn
  ·obtain⟨r1,rfl,f3⟩:=r
   refine⟨_,?_,rfl,Y1.fr.trans ?_⟩
   ·have:=(e4.2 _).1 r1
    cases c with
    | false=>
     have hc:t.l=G.kX:=hc
     have hx:x=true:=by
      rw[hc]at this
      have hne:G.kX≠G.kY:=by decide
      simpa[kts,hne,Ne.symm hne]using this
     simp[G.key,hc,G.aG,hx]
    | true=>
     have hc:t.l=G.kY:=hc
     have hne:G.kY≠G.kX:=by decide
     have hx:y=true:=by
      rw[hc]at this
      simpa[kts,hne,Ne.symm hne]using this
     simp[G.key,hc,hne,G.aG,hx]
   ·exact f3.mono fun z hz=>by
     simp only[List.mem_singleton]at hz
     subst hz
     rw[<-hC]
     exact bm.2 ⟨7,_,rfl,by simp[Ck.fx]⟩
 refine aK (fun q=>?_) fun q=>?_
 ·refine aK (fun q2=>?_) fun q2=>?_
  ·have q:=of_decide_eq_false q
   have q2:=of_decide_eq_false q2
   refine⟨.none,.spot v x y,σ,A,mo,none,[],[],none,by simp[G.key,q,q2],rfl,uO Y1 (fun x hx=>.inl (hr1 x hx)) hr2,⟨xM,xR,xV,m,ks,e1,e2,e3,e4,e5⟩,⟨rfl,rfl,rfl,rfl⟩,Gr.refl σ,hb,trivial⟩
  ·exact go true (of_decide_eq_true q2)
 ·exact go false (of_decide_eq_true q)
end
theorem nH {h0 hv:ab} {M H:List Nat} {cs:List Ck} {m:Nat} {ks:List (List UInt8)} {fs:Fs} {t:G.Tok} {K E:Value->ab->Prop} (Y:Sy h0 M hv cs) (k:Nat) (hk:cs[k]? =some (Ck.fx (some (m,ks)) fs)) (nd:ks.Nodup) (hH:m∉H)
  (k1:t.l∉ks->∀h',Fr [m] hv h'->Sy h0 M h' (cs.set k (Ck.fx (some (m,ks++[t.l])) fs))->K (.tuple #[]) h') (k2:t.l∈ks->∀h',Fr [m] hv h'->E (flt (t.at_,18)) h'):
  aB Tryz.prog 209 #[.map (some m),cm t] hv H K E:=
 aH [m] (CH (Y.mapF k hk) nd) (fun x hx q=>hH (by simp at q;subst q;exact hx)) (fun _ _ r=>r.2.2.1) (fun _ _ r=>r.2.2)
  (fun v h' r=>by obtain⟨r1,rfl,f,hm⟩:=r;exact k1 r1 h' f (Y.seeF k hk f hm)) fun v h' r=>by obtain⟨r1,rfl,f⟩:=r;exact k2 r1 h' f
section
variable {gl:GL} {b d:Nat} {s:ByteArray} {A:AD} {σ:G.Rd}
theorem frM {h hv h':ab} {C:List Ck} {m:Nat} {ks:List (List UInt8)} {fs:Fs} (hC:stC gl b s A σ d++[Ck.fx (some (m,ks)) fs]=C) (f1:Fr (ao C) h hv) (f:Fr [m] hv h'):Fr (ao C) h h':=
 f1.trans (f.mono fun z hz=>by
  simp only[List.mem_singleton]at hz
  subst hz
  rw[<-hC]
  exact bm.2 ⟨7,_,rfl,by simp[Ck.fx]⟩)
theorem Dr {cl:Nat->Nat} {k:Nat} {x y z:Bool} {t:G.Tok} {kv ov:Value} {mo:Option (Nat × List (List UInt8))} {fs:Fs} {h:ab} {xM xR xK m:Nat} {ks:List (List UInt8)}
  (H:Hp h (stC gl b s A σ d++[Ck.fx mo fs])) (ri:G.RI cl s σ) (hb:LvB σ (.edge k x y z)) (e1:kv=fnV 266 #[pt xM,pt xK,pt xR]) (e2:ov=fnV 270 #[pt xM]) (e3:mo=some (m,ks)) (e4:Seen (.edge k x y z) ks)
  (e5:fs=[(xM,0,.map (some m)),(xK,0,.int .i64 (k:Int)),(xR,0,pt b)]):
  az Tryz.prog 266 #[cm t,pt xM,pt xK,pt xR] h (kR gl b d s (stC gl b s A σ d++[Ck.fx mo fs]) h (.edge k x y z) t σ kv ov fs) (kE (stC gl b s A σ d++[Ck.fx mo fs]) h (.edge k x y z) t σ):=by
 generalize hC:stC gl b s A σ d++[Ck.fx mo fs]=C at H ⊢
 have Y0:Sy h (ao C) h (stC gl b s A σ d++[Ck.fx mo fs]):=by rw[hC];exact Sy.start H
 obtain⟨hr1,hr2⟩:=rR (gl:=gl) (b:=b) (s:=s) (A:=A) (σ:=σ) (d:=d) (mo:=mo) (fs:=fs)
 rw[hC]at hr1 hr2
 unfold cm
 apply xF
 unfold GM
 have ex:(t.says.toList==(⟨#[115,111,117,114,99,101]⟩:ByteArray).toList)=decide (t.l=G.bd):=cn
 have ey:(t.says.toList==(⟨#[116,97,114,103,101,116]⟩:ByteArray).toList)=decide (t.l=G.bj):=cn
 have ez:(t.says.toList==(⟨#[119,101,105,103,104,116]⟩:ByteArray).toList)=decide (t.l=G.cr):=cn
 rw[ex,ey,ez]
 intro hv
 have Y1:Sy h (ao C) hv (stC gl b s A σ d++[Ck.fx mo fs]):=Y0.gr (Fr.push h _)
 have s1:hv.size=h.size+1:=by simp[hv]
 clear_value hv
 intro K
 have n1:G.bj≠G.bd:=by decide
 have n2:G.cr≠G.bd:=by decide
 have n3:G.cr≠G.bj:=by decide
 subst e3
 have hml:m<h.size:=gf (Y0.mapF 7 rfl)
 have hb1:k+1<σ.ends.length:=hb.1
 have hel:=ri.el
 have hwl:=ri.wl
 have go:∀(c:Bool),t.l=(if c=true then G.bj else G.bd)->K true hv:=by
  intro c hc
  refine aO rfl ?_
  refine⟨xM,0,rfl,some m,Y1.factF 7 rfl 0 (by rw[e5];rfl),?_⟩
  refine nH Y1 7 rfl e4.1 (by simp;omega) (fun r1 hv3 f3 Y3=>?_) fun r1 hv3 f3=>?_
  ·have Y3:Sy h (ao C) hv3 (stC gl b s A σ d++[Ck.fx (some (m,ks++[t.l])) fs]):=Y3
   have s3:hv.size<=hv3.size:=f3.size
   refine⟨rfl,xK,0,rfl,(k:Int),Y3.factF 7 rfl 1 (by rw[e5];rfl),?_⟩
   intro hv4
   have Y4:Sy h (ao C) hv4 (stC gl b s A σ d++[Ck.fx (some (m,ks++[t.l])) fs,Ck.ob hv3.size 3 [.int .i64 0]]):=Y3.newO [.int .i64 0]
   have s4:hv4.size=hv3.size+1:=by simp[hv4]
   refine⟨by omega,⟨_,Y4.cellO 8 rfl 0 rfl⟩,Y4.freeO 8 rfl 0,?_⟩
   intro hv5
   have Y5:Sy h (ao C) hv5 (stC gl b s A σ d++[Ck.fx (some (m,ks++[t.l])) fs,Ck.ob hv3.size 3 [.int .i64 (k:Int)]]):=Y4.stO 8 rfl 0 _
   clear_value hv5
   clear_value hv4
   refine⟨fun _ h'=>Sy h (ao C) h' (stC gl b s A σ d++[Ck.fx (some (m,ks++[t.l])) fs,Ck.ob hv3.size 3 [.int .i64 ((k+c.toNat:Nat):Int)]]),?_,?_⟩
   ·refine ag (fun q=>?_) fun q=>?_
    ·have hc1:c=true:=by
      cases c with
      | true=>rfl
      | false=>rw[hc]at q;exact absurd q (by decide)
     subst hc1
     refine⟨xK,0,rfl,(k:Int),Y5.factF 7 rfl 1 (by rw[e5];rfl),by omega,⟨_,Y5.cellO 8 rfl 0 rfl⟩,Y5.freeO 8 rfl 0,?_⟩
     rw[wrN (by omega)]
     exact Y5.stO 8 rfl 0 _
    ·have hc1:c=false:=by
      cases c with
      | false=>rfl
      | true=>exact absurd hc q
     subst hc1
     exact Y5
   ·intro hv7 Y7 hv8
    have Y8:Sy h (ao C) hv8 (stC gl b s A σ d++[Ck.fx (some (m,ks++[t.l])) fs,Ck.ob hv3.size 3 [.int .i64 ((k+c.toNat:Nat):Int)],
      Ck.ob hv7.size 193 [.int .i64 4,fnV 267 #[pt xR,pt hv3.size],.nilFunc,.nilFunc]]):=Y7.newO [.int .i64 4,fnV 267 #[pt xR,pt hv3.size],.nilFunc,.nilFunc]
    have s7:h.size<=hv7.size:=Y7.le
    refine⟨.fin (k+c.toNat),if c=true then .edge k x true z else .edge k true y z,σ,A,some (m,ks++[t.l]),none,[],[(hv7.size,0,.int .i64 4),(hv7.size,1,fnV 267 #[pt xR,pt hv3.size]),(xR,0,pt b),(hv3.size,0,.int .i64 ((k+c.toNat:Nat):Int))],some ⟨hv7.size,0,none⟩,?_,rfl,?_,?_,?_,Gr.refl σ,?_,?_⟩
    ·cases c with
     | false=>
      have hc:t.l=G.bd:=hc
      have hx:x=false:=by
       cases x with
       | false=>rfl
       | true=>exact absurd ((e4.2 _).2 (by simp[kts,hc])) r1
      subst hx
      simp[G.key,hc,G.aG]
     | true=>
      have hc:t.l=G.bj:=hc
      have hx:y=false:=by
       cases y with
       | false=>rfl
       | true=>exact absurd ((e4.2 _).2 (by simp[kts,hc])) r1
      subst hx
      simp[G.key,hc,n1,G.aG]
    ·refine lw (rest:=[_,_]) Y8 (fun x hx=>.inl (hr1 x hx)) hr2 (fun p hp=>by cases hp) (fun f hf=>by cases hf) fun f hf=>?_
     simp only[List.mem_cons,List.not_mem_nil,or_false]at hf
     rcases hf with rfl | rfl | rfl | rfl
     ·exact⟨Y8.cellO 9 rfl 0 rfl,.inr ⟨s7,1,193,_,rfl⟩⟩
     ·exact⟨Y8.cellO 9 rfl 1 rfl,.inr ⟨s7,1,193,_,rfl⟩⟩
     ·exact⟨Y8.factF 7 rfl 2 (by rw[e5];rfl),.inl (by rw[e5];simp)⟩
     ·exact⟨Y8.cellO 8 rfl 0 rfl,.inr ⟨by show h.size<=hv3.size;omega,0,3,_,rfl⟩⟩
    ·cases c with
     | false=>
      have hc:t.l=G.bd:=hc
      exact⟨xM,xK,xR,m,ks++[t.l],e1,e2,rfl,cT e4 r1 (fun k'=>by rw[hc];simp[kts]<;>grind),e5⟩
     | true=>
      have hc:t.l=G.bj:=hc
      exact⟨xM,xK,xR,m,ks++[t.l],e1,e2,rfl,cT e4 r1 (fun k'=>by rw[hc];simp[kts]<;>grind),e5⟩
    ·exact⟨hv7.size,xR,hv3.size,rfl,rfl,rfl,rfl⟩
    ·cases c<;>exact hb
    ·cases c
     ·show k<_;omega
     ·exact hb1
  ·refine⟨_,?_,rfl,frM hC Y1.fr f3⟩
   have:=(e4.2 _).1 r1
   cases c with
   | false=>
    have hc:t.l=G.bd:=hc
    have hx:x=true:=by
     rw[hc]at this
     simpa[kts,n1,n2,n3,Ne.symm n1,Ne.symm n2,Ne.symm n3]using this
    simp[G.key,hc,G.aG,hx]
   | true=>
    have hc:t.l=G.bj:=hc
    have hx:y=true:=by
     rw[hc]at this
     simpa[kts,n1,n2,n3,Ne.symm n1,Ne.symm n2,Ne.symm n3]using this
    simp[G.key,hc,n1,G.aG,hx]
 refine ag (fun q=>?_) fun q=>?_
 ·rw[decide_eq_true q]
  exact go false q
 ·by_cases q2:t.l=G.bj
  ·rw[decide_eq_true q2]
   exact go true q2
  ·rw[decide_eq_false q2]
   refine aM rfl ?_
   refine ag (fun q3=>?_) fun q3=>?_
   ·refine⟨xM,0,rfl,some m,Y1.factF 7 rfl 0 (by rw[e5];rfl),?_⟩
    refine nH Y1 7 rfl e4.1 (by simp;omega) (fun r1 hv3 f3 Y3=>?_) fun r1 hv3 f3=>?_
    ·refine⟨rfl,?_⟩
     intro hv8
     have Y8:Sy h (ao C) hv8 (stC gl b s A σ d++[Ck.fx (some (m,ks++[t.l])) fs,Ck.ob hv3.size 193 [.int .i64 4,fnV 268 #[pt xR,pt xK],.nilFunc,.nilFunc]]):=Sy.newO Y3 [.int .i64 4,fnV 268 #[pt xR,pt xK],.nilFunc,.nilFunc]
     have s7:h.size<=hv3.size:=Y3.le
     refine⟨.weight k,.edge k x y true,σ,A,some (m,ks++[t.l]),none,[],[(hv3.size,0,.int .i64 4),(hv3.size,1,fnV 268 #[pt xR,pt xK]),(xR,0,pt b),(xK,0,.int .i64 (k:Int))],some ⟨hv3.size,0,none⟩,?_,rfl,?_,?_,?_,Gr.refl σ,hb,hb.2⟩
     ·have hx:z=false:=by
       cases z with
       | false=>rfl
       | true=>exact absurd ((e4.2 _).2 (by simp[kts,q3])) r1
      subst hx
      simp[G.key,q3,n2,n3,G.aG]
     ·refine lw (rest:=[_]) Y8 (fun x hx=>.inl (hr1 x hx)) hr2 (fun p hp=>by cases hp) (fun f hf=>by cases hf) fun f hf=>?_
      simp only[List.mem_cons,List.not_mem_nil,or_false]at hf
      rcases hf with rfl | rfl | rfl | rfl
      ·exact⟨Y8.cellO 8 rfl 0 rfl,.inr ⟨s7,0,193,_,rfl⟩⟩
      ·exact⟨Y8.cellO 8 rfl 1 rfl,.inr ⟨s7,0,193,_,rfl⟩⟩
      ·exact⟨Y8.factF 7 rfl 2 (by rw[e5];rfl),.inl (by rw[e5];simp)⟩
      ·exact⟨Y8.factF 7 rfl 1 (by rw[e5];rfl),.inl (by rw[e5];simp)⟩
     ·exact⟨xM,xK,xR,m,ks++[t.l],e1,e2,rfl,cT e4 r1 (fun k'=>by rw[q3];simp[kts]<;>grind),e5⟩
     ·exact⟨hv3.size,xR,xK,rfl,rfl,rfl,rfl⟩
    ·refine⟨_,?_,rfl,frM hC Y1.fr f3⟩
     have:=(e4.2 _).1 r1
     have hx:z=true:=by
      rw[q3]at this
      simpa[kts,n1,n2,n3,Ne.symm n1,Ne.symm n2,Ne.symm n3]using this
     simp[G.key,q3,n2,n3,G.aG,hx]
   ·exact⟨.none,.edge k x y z,σ,A,some (m,ks),none,[],[],none,by simp[G.key,q,q2,q3],rfl,uO Y1 (fun x hx=>.inl (hr1 x hx)) hr2,⟨xM,xK,xR,m,ks,e1,e2,rfl,e4,e5⟩,⟨rfl,rfl,rfl,rfl⟩,Gr.refl σ,hb,trivial⟩
end
end Go.Proofs.YtlflalecmhgmjaaGreatDoor.N
