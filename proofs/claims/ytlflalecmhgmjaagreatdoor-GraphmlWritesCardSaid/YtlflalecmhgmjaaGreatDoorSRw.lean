/- graphml.Write. Conditions: what the texts of numbers and labels are. -/
import Derived.Test.YtlflalecmhgmjaaGreatDoorQGr2
import Derived.Test.YtlflalecmhgmjaaGreatDoorTEdg
import Derived.Test.YtlflalecmhgmjaaGreatDoorTLib
import Derived.Test.YtlflalecmhgmjaaGreatDoorMSpec
import Derived.Test.YtlflalecmhgmjaaGreatDoorQTag
import Derived.Test.YtlflalecmhgmjaaGreatDoorWEnv
import Derived.Test.YtlflalecmhgmjaaGreatDoorSWr
import Derived.Test.YtlflalecmhgmjaaGreatDoorTGw
set_option linter.unusedVariables false
set_option linter.unusedSimpArgs false
namespace Go.Proofs.YtlflalecmhgmjaaGreatDoor.N
open Go.Proofs.YtlflalecmhgmjaaGreatDoor
open Go.X
open Go.Proofs
set_option maxRecDepth 100000
def lN :ByteArray:=⟨#[60,63,120,109,108,32,118,101,114,115,105,111,110,61,34,49,46,48,34,32,101,110,99,111,100,105,110,103,61,34,85,84,70,45,56,34,63,62]⟩
def lO :ByteArray:=⟨#[60,103,114,97,112,104,109,108,32,120,109,108,110,115,61,34,104,116,116,112,58,47,47,103,114,97,112,104,109,108,46,103,114,97,112,104,100,114,97,119,105,110,103,46,111,114,103,47,120,109,108,110,115,34,62]⟩
def jd (dir:Bool):ByteArray:=if dir=true then⟨#[100,105,114,101,99,116,101,100]⟩else⟨#[117,110,100,105,114,101,99,116,101,100]⟩
def dJ (dir:Bool) (nL nS nW:Nat):List UInt8:=lnX 0 [lN]++lnX 0 [lO]++kP nL nS nW++lnX 1 [⟨#[60,103,114,97,112,104,32,101,100,103,101,100,101,102,97,117,108,116,61,34]⟩,jd dir,⟨#[34,62]⟩]
def wrX (tx:Nat->List UInt8) (esc:ByteArray->List UInt8) (n:Nat) (dir:Bool) (es:List (Nat × Nat)) (ls:List ByteArray) (ss:List (Nat × Nat)) (ws:List Nat):List UInt8:=
 dJ dir ls.length ss.length ws.length++(bX tx esc ls ss n 0++ci tx es ws)++lnX 1 [⟨#[60,47,103,114,97,112,104,62]⟩]++lnX 0 [⟨#[60,47,103,114,97,112,104,109,108,62]⟩]
def kZ (tx:Nat->List UInt8) (esc:ByteArray->List UInt8) (n:Int) (dir:Bool) (es:Es) (ls:List ByteArray) (ss:List (Nat × Nat)) (ws:List Nat):List UInt8 × Int:=
 if du n es ls ss ws=false then([],1)else if 262144<(wrX tx esc n.toNat dir (ndE es) ls ss ws).length then([],23)else(wrX tx esc n.toNat dir (ndE es) ls ss ws,0)
section
variable {gl:GL} {h:ab} {tx:Nat->List UInt8} {esc:ByteArray->List UInt8} {aE aL aS aW:Option Addr} {nE cE nL cL nS cS nW cW:Nat} {n:Int} {es:Es} {ls:List ByteArray} {ss:List (Nat × Nat)} {ws:List Nat} {dir:Bool}
set_option maxHeartbeats 4000000 in
theorem C4 (Hm:Hp h (dV gl aE nE cE es aL nL cL ls aS nS cS ss aW nW cW ws)) (hsz:∀s∈ls,s.size<=9223372036854775807) (hll:ls.length<=9223372036854775807) (hesc:du n es ls ss ws=true->∀x∈ls,uX gl esc x) (ht:∀p∈ss,qS gl tx p.1/\qS gl tx p.2) (htw:∀x∈ws,qS gl tx x):
  ae Tryz.prog 18 #[.agg #[.int .i64 n,.slice aE nE cE,.bool dir,.slice aL nL cL,.slice aS nS cS,.slice aW nW cW]] h fun w h'=>w= .tuple #[.string (G.mkB (kZ tx esc n dir es ls ss ws).1),.int .i64 (kZ tx esc n dir es ls ss ws).2]/\Fr [] h h':=by
 apply yQ
 unfold S18
 obtain⟨C,hC⟩:∃C,C=dV gl aE nE cE es aL nL cL ls aS nS cS ss aW nW cW ws:=⟨_,rfl⟩
 have oC:aA C=[]:=by rw[hC];rfl
 intro h1
 obtain⟨B,hB⟩:∃B,B=dV gl aE nE cE es aL nL cL ls aS nS cS ss aW nW cW ws++[Ck.junk h.size]:=⟨_,rfl⟩
 have Q1:Sq h C h1 B:=by
  rw[hC,hB]
  exact⟨(Sy.start Hm).junk _,fun x hx=>.inl (by simpa[rds,Ck.junk]using hx)⟩
 have fin:∀{cs:List Ck} {h':ab},Sq h C h' cs->Fr [] h h':=fun Q=>by have:=Q.fr;rw[oC]at this;exact this
 have lL:=Q1.sy.lenV (k:=2) (by rw[hB];rfl)
 have lS:=Q1.sy.lenV (k:=3) (by rw[hB];rfl)
 have lW:=Q1.sy.lenV (k:=4) (by rw[hB];rfl)
 refine ak (R:=fun v h'=>v= .bool (du n es ls ss ws)/\Fr [] h1 h') [] ?_ (by simp) (fun _ _ r=>r.2) ?_
 ·refine(Cn (n:=n) (es:=es) (dr:=dir) (ls:=ls) (ss:=ss) (ws:=ws) (R:=fun r=>r=du n es ls ss ws) hsz hll rfl h1 aE nE cE aL nL cL aS nS cS aW nW cW (by rw[hB]at Q1;exact(Q1.pick [1,2,3,4] rfl).hp)).mono ?_
  rintro v h' ⟨r,Y,rfl,rfl⟩
  exact⟨rfl,Y.fr⟩
 rintro v h2 ⟨rfl,f2⟩
 have Q2:=Q1.gr f2
 refine⟨_,rfl,bw (fun q=>⟨?_,fin Q2⟩) fun q=>?_⟩
 ·unfold kZ;rw[if_pos q];rfl
 have hm:=q
 unfold du at hm
 simp only[Bool.and_eq_true]at hm
 obtain⟨m1,m2,m3,m4,m5⟩:=hm
 obtain⟨g0,g1,gm,ge⟩:=Ci m1
 obtain⟨N,rfl⟩:∃N:Nat,n=(N:Int):=⟨n.toNat,by omega⟩
 have hN:N<=1024:=by omega
 have non:∀{a b:Nat},aU (a:Int) (b:Int)=true->a=0\/a=b:=fun{a b} h=>by unfold aU at h;grind
 have hL:ls=[]\/ls.length=N:=(non m2).imp List.eq_nil_of_length_eq_zero id
 have hS:ss=[]\/ss.length=N:=(non m3).imp List.eq_nil_of_length_eq_zero id
 have hW:ws=[]\/ws.length=es.length:=(non m4).imp List.eq_nil_of_length_eq_zero id
 have hends:∀e∈es,(0<=e.1/\e.1<=1024)/\0<=e.2/\e.2<=1024:=fun e he=>by
  obtain⟨i,hi⟩:=List.mem_iff_getElem?.1 he
  have:=ge i e hi
  omega
 have hd:Hd [h.size] B:=by
  intro x hx
  simp only[List.mem_singleton]at hx
  subst hx
  exact⟨5,by rw[hB];rfl⟩
 intro h3
 have Q3:Sq h C h3 (wX h2.size false none 0 0 []++B):=by
  rw[hB]at Q2 ⊢
  have Y:=((Q2.sy.newO (ty:=58) [.pointer none,.slice none 0 0,.int .i64 0]).nilS (eK .u8) 5).pick [6,7,0,1,2,3,4,5] rfl
  exact⟨Y,fun x hx=>Q2.ri x (by simpa[rds,wX,dV,Ck.ob,Ck.sl,Ck.junk,pk]using hx)⟩
 have bh:h2.size≠h.size:=by
  have:h1.size=h.size+1:=by simp[h1]
  have:=f2.size
  omega
 clear_value h3
 generalize h2.size=b at*
 refine nl (ws:=[lN]) Q3 hd (by omega) (by decide) (by decide) fun A5 c5 h5 Q5=>⟨rfl,?_⟩
 refine nl (ws:=[lO]) Q5 hd (by omega) (by decide) (by decide) fun A7 c7 h7 Q7=>⟨rfl,?_⟩
 have w2:∀{A:Option Addr} {c d:Nat} {l:List UInt8} {hx:ab},Sq h C hx (wX b true A c d l++B)->ac hx b (0+2)=some (.int .i64 (d:Int))/\aq hx b (0+2)=true:=fun Q=>⟨Q.sy.cellO 0 rfl 2 rfl,Q.sy.freeO 0 rfl 2⟩
 have w3:∀{A:Option Addr} {c d:Nat} {l:List UInt8} {hx:ab} (d':Nat),Sq h C hx (wX b true A c d l++B)->Sq h C (am hx b (0+2) (.int .i64 (d':Int))) (wX b true A c d' l++B):=fun d' Q=>⟨Q.sy.stO 0 rfl 2 _,Q.ri⟩
 refine⟨_,(w2 Q7).1,bh,⟨_,(w2 Q7).1⟩,(w2 Q7).2,?_⟩
 intro h8
 have Q8:Sq h C h8 _:=w3 1 Q7
 clear_value h8
 refine pQ (Cv (m:=(N:Int)) (aE:=aE) (nE:=nE) (cE:=cE) (dir:=dir) (aL:=aL) (nL:=nL) (cL:=cL) (aS:=aS) (nS:=nS) (cS:=cS) (aW:=aW) (nW:=nW) (cW:=cW) (iW Q8) (by decide)) Q8 hd fun A9 c9 h9 Q9=>⟨rfl,?_⟩
 refine⟨fun lz h'=>lz=[.string (jd dir)]/\h'=h9,cm (fun e=>⟨by rw[e];rfl,rfl⟩) fun e=>⟨by rw[e];rfl,rfl⟩,?_⟩
 rintro kd h10 ⟨hkd,rfl⟩
 obtain rfl:kd=jd dir:=by simpa using hkd
 have kl:(jd dir).size<=10:=by unfold jd;split<;>decide
 have kx:(kP nL nS nW).length<=2000:=by
  unfold kP
  simp only[List.length_append]
  split<;>split<;>split<;>simp[iu,ByteArray.size]
 have z20:(⟨#[60,103,114,97,112,104,32,101,100,103,101,100,101,102,97,117,108,116,61,34]⟩:ByteArray).size=20:=rfl
 have z2:(⟨#[34,62]⟩:ByteArray).size=2:=rfl
 have l0:([]++lnX 0 [lN]++lnX 0 [lO]).length<=200:=by decide
 refine nl (ws:=[⟨#[60,103,114,97,112,104,32,101,100,103,101,100,101,102,97,117,108,116,61,34]⟩,jd dir,⟨#[34,62]⟩]) Q9 hd (by omega) (by rw[List.length_append];simp only[cK,cM];omega) (by simp) fun A12 c12 h12 Q12=>⟨rfl,?_⟩
 have ef: []++lnX 0 [lN]++lnX 0 [lO]++kP nL nS nW++lnX 1 [⟨#[60,103,114,97,112,104,32,101,100,103,101,100,101,102,97,117,108,116,61,34]⟩,jd dir,⟨#[34,62]⟩]=dJ dir ls.length ss.length ws.length:=by
  rw[<-lL,<-lS,<-lW];rfl
 have lf:(dJ dir ls.length ss.length ws.length).length<=5000:=by
  rw[<-ef,List.length_append,List.length_append,cp]
  simp only[cK,cM]
  omega
 rw[ef]at Q12
 refine⟨_,(w2 Q12).1,bh,⟨_,(w2 Q12).1⟩,(w2 Q12).2,?_⟩
 intro h13
 have Q13:Sq h C h13 (wX b true A12 c12 2 (dJ dir ls.length ss.length ws.length)++B):=w3 2 Q12
 clear_value h13
 have hd1:Hd [h.size] [Ck.junk h.size]:=by
  intro x hx
  simp only[List.mem_singleton]at hx
  subst hx
  exact⟨0,rfl⟩
 have Q13':Sq h C h13 ((wX b true A12 c12 2 (dJ dir ls.length ss.length ws.length)++dV gl aE nE cE es aL nL cL ls aS nS cS ss aW nW cW ws)++[Ck.junk h.size]):=by rw[hB,<-List.append_assoc]at Q13;exact Q13
 refine ak (aA (wX b true A12 c12 2 (dJ dir ls.length ss.length ws.length)++dV gl aE nE cE es aL nL cL ls aS nS cS ss aW nW cW ws)) (Cx (tx:=tx) (esc:=esc) (n:=N) (dir:=dir) (Q13'.pick [0,1,2,3,4,5,6] rfl).hp hN gm hends hL hS hW (hesc q) ht htw (by omega)) (fun x hx=>(hd1.apart Q13' x hx).2) (fun _ _ r=>r.2.1.choose_spec.choose_spec.fr) ?_
 rintro v h14 ⟨rfl,⟨A14,c14,q14⟩,b14⟩
 have Q14:Sq h C h14 (wX b true A14 c14 2 (dJ dir ls.length ss.length ws.length++(bX tx esc ls ss N 0++ci tx (ndE es) ws))++B):=by
  have:=Sq.call Q13' q14
  rw[List.append_assoc,<-hB]at this
  exact this
 generalize hl14:dJ dir ls.length ss.length ws.length++(bX tx esc ls ss N 0++ci tx (ndE es) ws)=l14 at Q14 b14
 refine⟨rfl,_,(w2 Q14).1,bh,⟨_,(w2 Q14).1⟩,(w2 Q14).2,?_⟩
 intro h15
 have Q15:Sq h C h15 (wX b true A14 c14 1 l14++B):=w3 1 Q14
 clear_value h15
 refine nl (ws:=[⟨#[60,47,103,114,97,112,104,62]⟩]) Q15 hd (by omega) (by show l14.length+8<=_;omega) (by decide) fun A17 c17 h17 Q17=>⟨rfl,?_⟩
 refine⟨_,(w2 Q17).1,bh,⟨_,(w2 Q17).1⟩,(w2 Q17).2,?_⟩
 intro h18
 have Q18:Sq h C h18 (wX b true A17 c17 0 (l14++lnX 1 [⟨#[60,47,103,114,97,112,104,62]⟩])++B):=w3 0 Q17
 clear_value h18
 refine nl (ws:=[⟨#[60,47,103,114,97,112,104,109,108,62]⟩]) Q18 hd (by omega) (by rw[List.length_append];show l14.length+11+10<=_;omega) (by decide) fun A20 c20 h20 Q20=>⟨rfl,?_⟩
 have ew:l14++lnX 1 [⟨#[60,47,103,114,97,112,104,62]⟩]++lnX 0 [⟨#[60,47,103,114,97,112,104,109,108,62]⟩]=wrX tx esc N dir (ndE es) ls ss ws:=by rw[<-hl14];rfl
 rw[ew]at Q20
 have hv:kZ tx esc (N:Int) dir es ls ss ws=if 262144<(wrX tx esc N dir (ndE es) ls ss ws).length then([],23)else(wrX tx esc N dir (ndE es) ls ss ws,0):=by
  unfold kZ
  rw[if_neg (by rw[q];decide),Int.toNat_natCast]
 have hne:wrX tx esc N dir (ndE es) ls ss ws≠[]:=by
  rw[<-ew]
  intro z
  have:=congrArg List.length z
  rw[List.length_append,cp]at this
  simp at this
 have H20:=iW Q20
 refine ak [] (Cr H20) (by simp) (fun _ _ r=>Fr.of_eq r.2) ?_
 rintro v h21 ⟨rfl,rfl⟩
 refine⟨_,rfl,af (fun q3=>?_) fun q3=>?_⟩
 ·rw[hv,if_pos (by omega)]
  exact⟨rfl,fin Q20⟩
 ·rw[hv,if_neg (by omega)]
  refine ak (aA (wX b true A20 c20 0 (wrX tx esc N dir (ndE es) ls ss ws))) (Cs H20 hne) (fun x hx=>(hd.apart Q20 x hx).2) (fun _ _ r=>r.2) ?_
  rintro v h22 ⟨rfl,f22⟩
  exact⟨_,rfl,rfl,by have:=Sq.frA Q20 f22;rw[oC]at this;exact this⟩
end
def uN :ByteArray:=⟨#[60,103,114,97,112,104,109,108,62,60,103,114,97,112,104,32,101,100,103,101,100,101,102,97,117,108,116,61,39,100,105,114,101,99,116,101,100,39,62,60,110,111,100,101,32,105,100,61,34,97,34,47,62,60,47,103,114,97,112,104,62,60,47,103,114,97,112,104,109,108,62]⟩
def uO :ByteArray:=⟨#[60,103,114,97,112,104,109,108,47,62]⟩
def dc1 :G.Dc:=⟨1,true,[],[],[],[]⟩
theorem qW :G.fJ uO (fun _=>none) id= .no (10,14):=by kernel_rfl
theorem qX :G.fJ uN (fun _=>none) id= .ok dc1:=by kernel_rfl
def oL :ByteArray->List UInt8:=fun _=>[]
theorem Cp :100<(wrX tx0 oL 1 true [] [] [] []).length/\(wrX tx0 oL 1 true [] [] [] []).length<=262144:=by
 unfold wrX dJ
 simp only[List.length_append,cp,cK,cM,kP]
 refine⟨?_,?_⟩
 ·have:lN.size=38:=rfl
  have:lO.size=55:=rfl
  have:(jd true).size=8:=rfl
  omega
 ·have e1:(bX tx0 oL [] [] 1 0).length<=25000:=by
   rw[bX,bX,List.append_nil]
   exact sr ⟨by rw[bsz,bsz,aB,ET];decide,by decide⟩ (by decide) (by simp[bU])
  have e2:(ci tx0 [] []).length=0:=rfl
  have:lN.size=38:=rfl
  have:lO.size=55:=rfl
  have:(jd true).size=8:=rfl
  have z1:(⟨#[60,47,103,114,97,112,104,62]⟩:ByteArray).size=8:=rfl
  have z2:(⟨#[60,47,103,114,97,112,104,109,108,62]⟩:ByteArray).size=10:=rfl
  have z20:(⟨#[60,103,114,97,112,104,32,101,100,103,101,100,101,102,97,117,108,116,61,34]⟩:ByteArray).size=20:=rfl
  have z3:(⟨#[34,62]⟩:ByteArray).size=2:=rfl
  simp only[List.length_nil,Nat.lt_irrefl,if_false]
  omega
theorem hdX {gl:GL} {h:ab} (g:Gl gl h):ae Tryz.prog 16 #[] h fun v h'=>v= .bool true/\Fr [] h h':=by
 apply yR
 unfold S16
 refine ak (R:=rdX gl uN (fun _=>none) id h) [] (CP (s:=uN) nQ g (by decide) (by rw[qX];simp)) (by simp) ?_ ?_
 ·rintro v h' (⟨dc,aD,aL,aS,aW,nD,cD,nL,cL,nS,cS,nW,cW,_,_,q⟩ | ⟨f,_,_,q⟩)
  ·exact q.fr
  ·exact q
 rintro v h1 (⟨dc,aD,aL,aS,aW,nD,cD,nL,cL,nS,cS,nW,cW,e,rfl,q⟩ | ⟨f,e,_,q⟩)
 rotate_left
 ·rw[qX]at e;cases e
 rw[qX]at e
 obtain rfl:dc1=dc:=by injection e
 refine⟨1,aD,nD,cD,true,aL,nL,cL,aS,nS,cS,aW,nW,cW,0,0,rfl,?_⟩
 intro h2 h3
 have f3:Fr [] h1 h3:=((((((Fr.push h1 _).hsetL (Nat.le_refl _)).hsetL (Nat.le_refl _)).hsetL (Nat.le_refl _)).hsetL (Nat.le_refl _)).hsetL (Nat.le_refl _)).hsetL (Nat.le_refl _)
 have s3:h1.size<h3.size:=by simp[h3,h2]
 clear_value h3
 have Q3:Sq h [Ck.glob gl] h3 (dcX gl dc1 aD aL aS aW nD cD nL cL nS cS nW cW):=q.gr f3
 have g3:Gl gl h3:=Q3.sy.ok (k:=4) (c:=Ck.glob gl) rfl
 refine ak (R:=rdX gl uO (fun _=>none) id h3) [] (CP (s:=uO) nQ g3 (by decide) (by rw[qW];simp)) (by simp) ?_ ?_
 ·rintro v h' (⟨dc,aD,aL,aS,aW,nD,cD,nL,cL,nS,cS,nW,cW,_,_,q⟩ | ⟨f,_,_,q⟩)
  ·exact q.fr
  ·exact q
 rintro v h4 (⟨dc,_,_,_,_,_,_,_,_,_,_,_,_,e,rfl,q⟩ | ⟨f,e,rfl,f4⟩)
 ·rw[qW]at e;cases e
 rw[qW]at e
 obtain rfl:((10,14):G.F)=f:=by injection e
 refine⟨0,none,0,0,false,none,0,0,none,0,0,none,0,0,10,14,rfl,?_⟩
 intro h5 h6
 have f6:Fr [] h4 h6:=((((((Fr.push h4 _).hsetL (Nat.le_refl _)).hsetL (Nat.le_refl _)).hsetL (Nat.le_refl _)).hsetL (Nat.le_refl _)).hsetL (Nat.le_refl _)).hsetL (Nat.le_refl _)
 clear_value h6
 have Q6:=(Q3.gr f4).gr f6
 have Q7:Sq h [Ck.glob gl] h6 (dV gl aD nD cD (dc1.edges.map prX) aL nL cL dc1.labels aS nS cS dc1.spots aW nW cW dc1.weights):=by
  have Y:=((((Q6.sy.turn 0 rfl To.slvw).turn 1 rfl To.slvw).turn 2 rfl To.slvw).turn 3 rfl To.slvw).pick [4,0,1,2,3] rfl
  refine⟨Y,fun x hx=>?_⟩
  have hx:x∈glB gl++(ij aD nD++(ij aL nL++(ij aS nS++ij aW nW))):=by simpa[rds,dV,Ck.vw,Ck.glob]using hx
  simp only[List.mem_append]at hx
  rcases hx with hx | hx | hx | hx | hx
  ·exact .inl (by simpa[rds,Ck.glob]using hx)
  ·exact .inr (Q6.sy.ow 0 _ rfl x (iR hx))
  ·exact .inr (Q6.sy.ow 1 _ rfl x (iR hx))
  ·exact .inr (Q6.sy.ow 2 _ rfl x (iR hx))
  ·exact .inr (Q6.sy.ow 3 _ rfl x (iR hx))
 have eB:du 1 (dc1.edges.map prX) dc1.labels dc1.spots dc1.weights=true:=by decide
 have eW:kZ tx0 oL 1 true (dc1.edges.map prX) dc1.labels dc1.spots dc1.weights=(wrX tx0 oL 1 true [] [] [] [],0):=by
  have e0:(wrX tx0 oL (1:Int).toNat true (ndE (dc1.edges.map prX)) dc1.labels dc1.spots dc1.weights)=wrX tx0 oL 1 true [] [] [] []:=rfl
  unfold kZ
  rw[eB,if_neg (by decide),e0,if_neg (by have:=Cp.2;omega)]
 refine ak (R:=fun v h'=>v= .tuple #[.string (G.mkB (wrX tx0 oL 1 true [] [] [] [])),.int .i64 0]/\Fr [] h6 h') [] ?_ (by simp) (fun _ _ r=>r.2) ?_
 ·have:=C4 (tx:=tx0) (esc:=oL) (n:=1) (dir:=true) Q7.hp (by simp[dc1]) (by decide) (fun _=>by simp[dc1]) (by simp[dc1]) (by simp[dc1])
  rw[eW]at this;exact this
 rintro v h7 ⟨rfl,f7⟩
 refine⟨_,0,rfl,?_⟩
 exact bG rfl (bG rfl (bG rfl (bG rfl (bG rfl (bG rfl (bG (by rw[aB,decide_eq_true_eq];have:=Cp.1;omega) ⟨rfl,Q7.fr.trans f7⟩))))))
section
variable {h:ab}
end
abbrev byC (A:Option Addr) (c:Nat) (l:List UInt8):Ck:=Ck.sl (eK .u8) 5 A l.length c (bI l)
section
variable {h0 hv:ab} {M:List Nat} {cs:List Ck} {A:Option Addr} {c:Nat} {l:List UInt8} {H:List Nat} {K:Option Addr->Nat->ab->Prop}
theorem AM (w:ByteArray) (k:Nat) (Y:Sy h0 M hv cs) (hk:cs[k]? =some (byC A c l)) (hH:∀b∈H,b∉ag A) (hl:l.length+w.size<=100000000) (K1:∀sA sC h',Sy h0 M h' (cs.set k (byC sA sC (l++w.data.toList)))->Fr (ag A) hv h'->K sA sC h'):
  ∃old,aC hv 5 1 A l.length c old/\(∀b∈H,b∉ag A)/\(l.length+w.size)*1<=140737488355328/\(l.length+w.size)<=maxLen/\
   ∀sA sC h',aC h' 5 1 sA (l.length+w.size) sC (old++Lib.strCells w)->Fr (ag A) hv h'->((sA=A/\sC=c)\/∃g,sA=some ⟨g,0,none⟩/\hv.size<=g)->(c<(l.length+w.size)->Fr [] hv h')->K sA sC h':=by
 refine⟨_,Y.ownS k hk,hH,by omega,by unfold maxLen;omega,fun sA sC h' ow f g _=>K1 sA sC h' ?_ f⟩
 have e:Lib.strCells w=(eK .u8).l (bI w.data.toList):=(fC w).symm
 rw[e]at ow
 have Y1:=Y.appS k hk (bI w.data.toList) ow f g rfl (by rw[fQ];rfl)
 have el:(l++w.data.toList).length=l.length+w.size:=List.length_append
 unfold byC
 rw[el,kj]
 exact Y1
theorem EZ (x:UInt8) (k:Nat) (Y:Sy h0 M hv cs) (hk:cs[k]? =some (byC A c l)) (hl:l.length<=100000000) (o:Obj) (K1:∀sA sC h',Sy h0 M h' (cs.set k (byC sA sC (l++[x])))->K sA sC h'):
  ∃old,aC (hv.push o) 5 1 A l.length c old/\(∀b∈([hv.size]:List Nat),b∉ag A)/\(l.length+1)*1<=140737488355328/\(l.length+1)<=maxLen/\
   ∀sA sC h',aC h' 5 1 sA (l.length+1) sC (old++[.int .u8 ((x.toNat:Nat):Int)])->Fr (ag A) (hv.push o) h'->((sA=A/\sC=c)\/∃g,sA=some ⟨g,0,none⟩/\(hv.push o).size<=g)->(c<(l.length+1)->Fr [] (hv.push o) h')->K sA sC h':=by
 have Y2:=Y.gr (Fr.push hv o)
 refine⟨_,Y2.ownS k hk,fun b hb q=>?_,by omega,by unfold maxLen;omega,fun sA sC h' ow f g _=>K1 sA sC h' ?_⟩
 ·simp only[List.mem_singleton]at hb
  subst hb
  have:=kY Y k hk _ q
  omega
 have Y1:=Y2.appS k hk (bI [x]) ow f g rfl rfl
 have el:(l++[x]).length=l.length+1:=List.length_append
 unfold byC
 rw[el,kj]
 exact Y1
end
def aZ (c:UInt8):List UInt8:=if c=38 then [38,97,109,112,59]else if c=60 then [38,108,116,59]else if c=62 then [38,103,116,59]else [c]
def aJ (l:List UInt8):List UInt8:=l.flatMap aZ
theorem jE (a b:List UInt8):aJ (a++b)=aJ a++aJ b:=List.flatMap_append
theorem iT (c:UInt8) (b:List UInt8):aJ (c::b)=aZ c++aJ b:=rfl
theorem eY (c:UInt8):1<=(aZ c).length/\(aZ c).length<=5:=by
 unfold aZ
 split
 ·exact⟨by decide,by decide⟩
 split
 ·exact⟨by decide,by decide⟩
 split
 ·exact⟨by decide,by decide⟩
 ·exact⟨by simp,by simp⟩
theorem pO {c:UInt8} (h:(aZ c).length=1):aZ c=[c]:=by
 unfold aZ at h ⊢
 split at h
 ·cases h
 split at h
 ·cases h
 split at h
 ·cases h
 ·grind
theorem iU (l:List UInt8):l.length<=(aJ l).length/\(aJ l).length<=5*l.length:=by
 induction l with
 | nil=>simp[aJ]
 | cons c l ih=>
  have:=eY c
  rw[iT,List.length_append,List.length_cons];omega
theorem tA (l:List UInt8) (h:(aJ l).length=l.length):aJ l=l:=by
 induction l with
 | nil=>rfl
 | cons c l ih=>
  have h1:=eY c
  have h2:=iU l
  rw[iT,List.length_append,List.length_cons]at h
  rw[iT,pO (by omega),ih (by omega)];rfl
theorem uV (l:List UInt8):(aJ l).length=l.length+3*Lib.countByte l 62+3*Lib.countByte l 60+4*Lib.countByte l 38:=by
 unfold Lib.countByte
 induction l with
 | nil=>rfl
 | cons c l ih=>
  rw[iT,List.length_append,List.length_cons,ih,List.count_cons,List.count_cons,List.count_cons]
  unfold aZ
  by_cases h1:c=38
  ·subst h1;simp;omega
  by_cases h2:c=60
  ·subst h2;simp;omega
  by_cases h3:c=62
  ·subst h3;simp;omega
  simp[h1,h2,h3];omega
theorem nN (l:List UInt8) (k:Nat):aJ l=aJ (l.take k)++aJ (l.drop k):=by
 rw[<-jE,List.take_append_drop]
def gj :List UInt8:=[62,60,38]
def nsE (l:List UInt8) (k:Nat):Nat:=l.length+((gj.take k).map fun c=>Lib.countByte l c*((aZ c).length-1)).sum
theorem lB (l:List UInt8):nsE l 0=l.length:=rfl
theorem eZ (l:List UInt8) {k:Nat} {c:UInt8} (h:gj[k]? =some c):nsE l (k+1)=nsE l k+Lib.countByte l c*((aZ c).length-1):=by
 unfold nsE;rw[dj h];simp;omega
theorem AE (l:List UInt8) (k:Nat):l.length<=nsE l k:=by unfold nsE;omega
theorem x9 (l:List UInt8):nsE l 3=(aJ l).length:=by
 rw[uV,eZ l (k:=2) (c:=38) rfl,eZ l (k:=1) (c:=60) rfl,eZ l (k:=0) (c:=62) rfl,lB]
 have h1:(aZ 62).length=4:=rfl
 have h2:(aZ 60).length=4:=rfl
 have h3:(aZ 38).length=5:=rfl
 rw[h1,h2,h3]
 omega
def jk (N:Nat) (l:List UInt8):List Int:=bI l++List.replicate (N-l.length) 0
theorem uW {N:Nat} {l:List UInt8} (y:UInt8) (h:l.length<N):(jk N l).set l.length ((y.toNat:Nat):Int)=jk N (l++[y]):=by
 unfold jk
 rw[List.set_append_right _ _ (by rw[fQ];omega),fQ,Nat.sub_self,kj,List.append_assoc,List.length_append]
 obtain⟨m,hm⟩:∃m,N-l.length=m+1:=⟨N-l.length-1,by omega⟩
 rw[hm,List.replicate_succ,List.set_cons_zero,show N-(l.length+ [y].length)=m by simp;omega];rfl
theorem AF {h0:ab} {M:List Nat} {b N:Nat}:∀(ys l:List UInt8) (h:ab),Sy h0 M h [Ck.sl (eK .u8) 5 (some ⟨b,0,none⟩) N N (jk N l)]->l.length+ys.length<=N->
  Sy h0 M (gz h b l.length ((bI ys).map (Value.int .u8))) [Ck.sl (eK .u8) 5 (some ⟨b,0,none⟩) N N (jk N (l++ys))]
 | [],l,h,Y,_=>by rw[List.append_nil];exact Y
 | y::r,l,h,Y,hn=>by
  rw[List.length_cons]at hn
  have Y1:=Y.st1 0 rfl rfl (i:=l.length) ((y.toNat:Nat):Int) (v:=.int .u8 ((y.toNat:Nat):Int)) (by omega) rfl
  rw[show 0+l.length*(eK .u8).sz=l.length by show 0+l.length*1=_;omega,uW y (by omega)]at Y1
  have Y2:=AF r (l++[y]) _ Y1 (by rw[List.length_append];simp;omega)
  rw[List.append_assoc,List.length_append]at Y2
  exact Y2
set_option maxHeartbeats 2000000
end Go.Proofs.YtlflalecmhgmjaaGreatDoor.N
