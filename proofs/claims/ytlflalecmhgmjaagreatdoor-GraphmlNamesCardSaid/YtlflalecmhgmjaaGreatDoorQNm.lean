/- graphml.Write. Conditions: what the texts of numbers and labels are. -/
import Derived.Test.YtlflalecmhgmjaaGreatDoorQGr2
import Derived.Test.YtlflalecmhgmjaaGreatDoorKEdg
import Derived.Test.YtlflalecmhgmjaaGreatDoorSRd
import Derived.Test.YtlflalecmhgmjaaGreatDoorMSpec
set_option linter.unusedVariables false
set_option linter.unusedSimpArgs false
open Go.IntKind (i64 u64 u8 i32)
namespace Go.Proofs.YtlflalecmhgmjaaGreatDoor.N
open Go.Proofs.YtlflalecmhgmjaaGreatDoor
open Go.X
open Go.Proofs
set_option maxRecDepth 100000
def ny :ByteArray:=⟨#[60,63,120,109,108,32,118,101,114,115,105,111,110,61,34,49,46,48,34,32,101,110,99,111,100,105,110,103,61,34,85,84,70,45,56,34,63,62]⟩
def nz :ByteArray:=⟨#[60,103,114,97,112,104,109,108,32,120,109,108,110,115,61,34,104,116,116,112,58,47,47,103,114,97,112,104,109,108,46,103,114,97,112,104,100,114,97,119,105,110,103,46,111,114,103,47,120,109,108,110,115,34,62]⟩
def jy (dir:Bool):ByteArray:=if dir=true then⟨#[100,105,114,101,99,116,101,100]⟩else⟨#[117,110,100,105,114,101,99,116,101,100]⟩
def fq (dir:Bool) (nL nS nW:Nat):List UInt8:=lnX 0 [ny]++lnX 0 [nz]++lA nL nS nW++lnX 1 [⟨#[60,103,114,97,112,104,32,101,100,103,101,100,101,102,97,117,108,116,61,34]⟩,jy dir,⟨#[34,62]⟩]
def wrX (tx:Nat->List UInt8) (esc:ByteArray->List UInt8) (n:Nat) (dir:Bool) (es:List (Nat × Nat)) (ls:List ByteArray) (ss:List (Nat × Nat)) (ws:List Nat):List UInt8:=
 fq dir ls.length ss.length ws.length++(eG tx esc ls ss n 0++eI tx es ws)++lnX 1 [⟨#[60,47,103,114,97,112,104,62]⟩]++lnX 0 [⟨#[60,47,103,114,97,112,104,109,108,62]⟩]
def qM (tx:Nat->List UInt8) (esc:ByteArray->List UInt8) (n:Int) (dir:Bool) (es:Es) (ls:List ByteArray) (ss:List (Nat × Nat)) (ws:List Nat):List UInt8 × Int:=
 if ec n es ls ss ws=false then([],1)else if 262144<(wrX tx esc n.toNat dir (ndE es) ls ss ws).length then([],23)else(wrX tx esc n.toNat dir (ndE es) ls ss ws,0)
section
variable {gl:GL} {h:ab} {tx:Nat->List UInt8} {esc:ByteArray->List UInt8} {aE aL aS aW:Option Addr} {nE cE nL cL nS cS nW cW:Nat} {n:Int} {es:Es} {ls:List ByteArray} {ss:List (Nat × Nat)} {ws:List Nat} {dir:Bool}
set_option maxHeartbeats 4000000 in
theorem Bw (Hm:Hp h (dV gl aE nE cE es aL nL cL ls aS nS cS ss aW nW cW ws)) (hsz:∀s∈ls,s.size<=9223372036854775807) (hll:ls.length<=9223372036854775807) (hesc:ec n es ls ss ws=true->∀x∈ls,yo gl esc x) (ht:∀p∈ss,sI gl tx p.1/\sI gl tx p.2) (htw:∀x∈ws,sI gl tx x):
  af Tryz.prog 18 #[.agg #[.int .i64 n,.slice aE nE cE,.bool dir,.slice aL nL cL,.slice aS nS cS,.slice aW nW cW]] h fun w h'=>w= .tuple #[.string (G.mkB (qM tx esc n dir es ls ss ws).1),.int .i64 (qM tx esc n dir es ls ss ws).2]/\Fr [] h h':=by
 apply xl
 unfold S18
 obtain⟨C,hC⟩:∃C,C=dV gl aE nE cE es aL nL cL ls aS nS cS ss aW nW cW ws:=⟨_,rfl⟩
 have oC:az C=[]:=by rw[hC];rfl
 intro h1
 obtain⟨B,hB⟩:∃B,B=dV gl aE nE cE es aL nL cL ls aS nS cS ss aW nW cW ws++[Ck.junk h.size]:=⟨_,rfl⟩
 have Q1:Sq h C h1 B:=by
  rw[hC,hB]
  exact⟨(Sy.start Hm).junk _,fun x hx=>.inl (by simpa[rds,Ck.junk]using hx)⟩
 have fin:∀{cs:List Ck} {h':ab},Sq h C h' cs->Fr [] h h':=fun Q=>by have:=Q.fr;rw[oC]at this;exact this
 have lL:=Q1.sy.lenV (k:=2) (by rw[hB];rfl)
 have lS:=Q1.sy.lenV (k:=3) (by rw[hB];rfl)
 have lW:=Q1.sy.lenV (k:=4) (by rw[hB];rfl)
 refine al (R:=fun v h'=>v= .bool (ec n es ls ss ws)/\Fr [] h1 h') [] ?_ (by simp) (fun _ _ r=>r.2) ?_
 ·refine(zN (n:=n) (es:=es) (dr:=dir) (ls:=ls) (ss:=ss) (ws:=ws) (R:=fun r=>r=ec n es ls ss ws) hsz hll rfl h1 aE nE cE aL nL cL aS nS cS aW nW cW (by rw[hB]at Q1;exact(Q1.pick [1,2,3,4] rfl).hp)).mono ?_
  rintro v h' ⟨r,Y,rfl,rfl⟩
  exact⟨rfl,Y.fr⟩
 rintro v h2 ⟨rfl,f2⟩
 have Q2:=Q1.gr f2
 refine⟨_,rfl,bd (fun q=>⟨?_,fin Q2⟩) fun q=>?_⟩
 ·unfold qM;rw[if_pos q];rfl
 have hm:=q
 unfold ec at hm
 simp only[Bool.and_eq_true]at hm
 obtain⟨m1,m2,m3,m4,m5⟩:=hm
 obtain⟨g0,g1,gm,ge⟩:=yK m1
 obtain⟨N,rfl⟩:∃N:Nat,n=(N:Int):=⟨n.toNat,by omega⟩
 have hN:N<=1024:=by omega
 have non:∀{a b:Nat},aO (a:Int) (b:Int)=true->a=0\/a=b:=fun{a b} h=>by unfold aO at h;grind
 have hL:ls=[]\/ls.length=N:=(non m2).imp List.eq_nil_of_length_eq_zero id
 have hS:ss=[]\/ss.length=N:=(non m3).imp List.eq_nil_of_length_eq_zero id
 have hW:ws=[]\/ws.length=es.length:=(non m4).imp List.eq_nil_of_length_eq_zero id
 have hends:∀e∈es,(0<=e.1/\e.1<=1024)/\0<=e.2/\e.2<=1024:=fun e he=>by
  obtain⟨i,hi⟩:=List.mem_iff_getElem?.1 he
  have:=ge i e hi
  omega
 have hd:Hd [h.size] B:=by
  intro x hx
  simp only[List.mem_singleton]at hx
  subst hx
  exact⟨5,by rw[hB];rfl⟩
 intro h3
 have Q3:Sq h C h3 (wX h2.size false none 0 0 []++B):=by
  rw[hB]at Q2 ⊢
  have Y:=((Q2.sy.newO (ty:=58) [.pointer none,.slice none 0 0,.int .i64 0]).nilS (eK .u8) 5).pick [6,7,0,1,2,3,4,5] rfl
  exact⟨Y,fun x hx=>Q2.ri x (by simpa[rds,wX,dV,Ck.ob,Ck.sl,Ck.junk,pk]using hx)⟩
 have bh:h2.size≠h.size:=by
  have:h1.size=h.size+1:=by simp[h1]
  have:=f2.size
  omega
 clear_value h3
 generalize h2.size=b at*
 refine mT (ws:=[ny]) Q3 hd (by omega) (by decide) (by decide) fun A5 c5 h5 Q5=>⟨rfl,?_⟩
 refine mT (ws:=[nz]) Q5 hd (by omega) (by decide) (by decide) fun A7 c7 h7 Q7=>⟨rfl,?_⟩
 have w2:∀{A:Option Addr} {c d:Nat} {l:List UInt8} {hx:ab},Sq h C hx (wX b true A c d l++B)->ac hx b (0+2)=some (.int .i64 (d:Int))/\aq hx b (0+2)=true:=fun Q=>⟨Q.sy.cellO 0 rfl 2 rfl,Q.sy.freeO 0 rfl 2⟩
 have w3:∀{A:Option Addr} {c d:Nat} {l:List UInt8} {hx:ab} (d':Nat),Sq h C hx (wX b true A c d l++B)->Sq h C (ag hx b (0+2) (.int .i64 (d':Int))) (wX b true A c d' l++B):=fun d' Q=>⟨Q.sy.stO 0 rfl 2 _,Q.ri⟩
 refine⟨_,(w2 Q7).1,bh,⟨_,(w2 Q7).1⟩,(w2 Q7).2,?_⟩
 intro h8
 have Q8:Sq h C h8 _:=w3 1 Q7
 clear_value h8
 refine py (zT (m:=(N:Int)) (aE:=aE) (nE:=nE) (cE:=cE) (dir:=dir) (aL:=aL) (nL:=nL) (cL:=cL) (aS:=aS) (nS:=nS) (cS:=cS) (aW:=aW) (nW:=nW) (cW:=cW) (iJ Q8) (by decide)) Q8 hd fun A9 c9 h9 Q9=>⟨rfl,?_⟩
 refine⟨fun lz h'=>lz=[.string (jy dir)]/\h'=h9,fm (fun e=>⟨by rw[e];rfl,rfl⟩) fun e=>⟨by rw[e];rfl,rfl⟩,?_⟩
 rintro kd h10 ⟨hkd,rfl⟩
 obtain rfl:kd=jy dir:=by simpa using hkd
 have kl:(jy dir).size<=10:=by unfold jy;split<;>decide
 have kx:(lA nL nS nW).length<=2000:=by
  unfold lA
  simp only[List.length_append]
  split<;>split<;>split<;>simp[jt,ByteArray.size]
 have z20:(⟨#[60,103,114,97,112,104,32,101,100,103,101,100,101,102,97,117,108,116,61,34]⟩:ByteArray).size=20:=rfl
 have z2:(⟨#[34,62]⟩:ByteArray).size=2:=rfl
 have l0:([]++lnX 0 [ny]++lnX 0 [nz]).length<=200:=by decide
 refine mT (ws:=[⟨#[60,103,114,97,112,104,32,101,100,103,101,100,101,102,97,117,108,116,61,34]⟩,jy dir,⟨#[34,62]⟩]) Q9 hd (by omega) (by rw[List.length_append];simp only[dw,dx];omega) (by simp) fun A12 c12 h12 Q12=>⟨rfl,?_⟩
 have ef: []++lnX 0 [ny]++lnX 0 [nz]++lA nL nS nW++lnX 1 [⟨#[60,103,114,97,112,104,32,101,100,103,101,100,101,102,97,117,108,116,61,34]⟩,jy dir,⟨#[34,62]⟩]=fq dir ls.length ss.length ws.length:=by
  rw[<-lL,<-lS,<-lW];rfl
 have lf:(fq dir ls.length ss.length ws.length).length<=5000:=by
  rw[<-ef,List.length_append,List.length_append,db]
  simp only[dw,dx]
  omega
 rw[ef]at Q12
 refine⟨_,(w2 Q12).1,bh,⟨_,(w2 Q12).1⟩,(w2 Q12).2,?_⟩
 intro h13
 have Q13:Sq h C h13 (wX b true A12 c12 2 (fq dir ls.length ss.length ws.length)++B):=w3 2 Q12
 clear_value h13
 have hd1:Hd [h.size] [Ck.junk h.size]:=by
  intro x hx
  simp only[List.mem_singleton]at hx
  subst hx
  exact⟨0,rfl⟩
 have Q13':Sq h C h13 ((wX b true A12 c12 2 (fq dir ls.length ss.length ws.length)++dV gl aE nE cE es aL nL cL ls aS nS cS ss aW nW cW ws)++[Ck.junk h.size]):=by rw[hB,<-List.append_assoc]at Q13;exact Q13
 refine al (az (wX b true A12 c12 2 (fq dir ls.length ss.length ws.length)++dV gl aE nE cE es aL nL cL ls aS nS cS ss aW nW cW ws)) (zV (tx:=tx) (esc:=esc) (n:=N) (dir:=dir) (Q13'.pick [0,1,2,3,4,5,6] rfl).hp hN gm hends hL hS hW (hesc q) ht htw (by omega)) (fun x hx=>(hd1.apart Q13' x hx).2) (fun _ _ r=>r.2.1.choose_spec.choose_spec.fr) ?_
 rintro v h14 ⟨rfl,⟨A14,c14,q14⟩,b14⟩
 have Q14:Sq h C h14 (wX b true A14 c14 2 (fq dir ls.length ss.length ws.length++(eG tx esc ls ss N 0++eI tx (ndE es) ws))++B):=by
  have:=Sq.call Q13' q14
  rw[List.append_assoc,<-hB]at this
  exact this
 generalize hl14:fq dir ls.length ss.length ws.length++(eG tx esc ls ss N 0++eI tx (ndE es) ws)=l14 at Q14 b14
 refine⟨rfl,_,(w2 Q14).1,bh,⟨_,(w2 Q14).1⟩,(w2 Q14).2,?_⟩
 intro h15
 have Q15:Sq h C h15 (wX b true A14 c14 1 l14++B):=w3 1 Q14
 clear_value h15
 refine mT (ws:=[⟨#[60,47,103,114,97,112,104,62]⟩]) Q15 hd (by omega) (by show l14.length+8<=_;omega) (by decide) fun A17 c17 h17 Q17=>⟨rfl,?_⟩
 refine⟨_,(w2 Q17).1,bh,⟨_,(w2 Q17).1⟩,(w2 Q17).2,?_⟩
 intro h18
 have Q18:Sq h C h18 (wX b true A17 c17 0 (l14++lnX 1 [⟨#[60,47,103,114,97,112,104,62]⟩])++B):=w3 0 Q17
 clear_value h18
 refine mT (ws:=[⟨#[60,47,103,114,97,112,104,109,108,62]⟩]) Q18 hd (by omega) (by rw[List.length_append];show l14.length+11+10<=_;omega) (by decide) fun A20 c20 h20 Q20=>⟨rfl,?_⟩
 have ew:l14++lnX 1 [⟨#[60,47,103,114,97,112,104,62]⟩]++lnX 0 [⟨#[60,47,103,114,97,112,104,109,108,62]⟩]=wrX tx esc N dir (ndE es) ls ss ws:=by rw[<-hl14];rfl
 rw[ew]at Q20
 have hv:qM tx esc (N:Int) dir es ls ss ws=if 262144<(wrX tx esc N dir (ndE es) ls ss ws).length then([],23)else(wrX tx esc N dir (ndE es) ls ss ws,0):=by
  unfold qM
  rw[if_neg (by rw[q];decide),Int.toNat_natCast]
 have hne:wrX tx esc N dir (ndE es) ls ss ws≠[]:=by
  rw[<-ew]
  intro z
  have:=congrArg List.length z
  rw[List.length_append,db]at this
  simp at this
 have H20:=iJ Q20
 refine al [] (zR H20) (by simp) (fun _ _ r=>Fr.of_eq r.2) ?_
 rintro v h21 ⟨rfl,rfl⟩
 refine⟨_,rfl,ae (fun q3=>?_) fun q3=>?_⟩
 ·rw[hv,if_pos (by omega)]
  exact⟨rfl,fin Q20⟩
 ·rw[hv,if_neg (by omega)]
  refine al (az (wX b true A20 c20 0 (wrX tx esc N dir (ndE es) ls ss ws))) (zS H20 hne) (fun x hx=>(hd.apart Q20 x hx).2) (fun _ _ r=>r.2) ?_
  rintro v h22 ⟨rfl,f22⟩
  exact⟨_,rfl,rfl,by have:=Sq.frA Q20 f22;rw[oC]at this;exact this⟩
end
def uj :ByteArray:=⟨#[60,103,114,97,112,104,109,108,62,60,103,114,97,112,104,32,101,100,103,101,100,101,102,97,117,108,116,61,39,100,105,114,101,99,116,101,100,39,62,60,110,111,100,101,32,105,100,61,34,97,34,47,62,60,47,103,114,97,112,104,62,60,47,103,114,97,112,104,109,108,62]⟩
def uk :ByteArray:=⟨#[60,103,114,97,112,104,109,108,47,62]⟩
def dc1 :G.Dc:=⟨1,true,[],[],[],[]⟩
theorem qH :G.eV uk (fun _=>none) id= .no (10,14):=by kernel_rfl
theorem qI :G.eV uj (fun _=>none) id= .ok dc1:=by kernel_rfl
def oq :ByteArray->List UInt8:=fun _=>[]
theorem zP :100<(wrX tx0 oq 1 true [] [] [] []).length/\(wrX tx0 oq 1 true [] [] [] []).length<=262144:=by
 unfold wrX fq
 simp only[List.length_append,db,dw,dx,lA]
 refine⟨?_,?_⟩
 ·have:ny.size=38:=rfl
  have:nz.size=55:=rfl
  have:(jy true).size=8:=rfl
  omega
 ·have e1:(eG tx0 oq [] [] 1 0).length<=25000:=by
   rw[eG,eG,List.append_nil]
   exact rQ ⟨by rw[bsz,bsz,aF,Bo];decide,by decide⟩ (by decide) (by simp[cI])
  have e2:(eI tx0 [] []).length=0:=rfl
  have:ny.size=38:=rfl
  have:nz.size=55:=rfl
  have:(jy true).size=8:=rfl
  have z1:(⟨#[60,47,103,114,97,112,104,62]⟩:ByteArray).size=8:=rfl
  have z2:(⟨#[60,47,103,114,97,112,104,109,108,62]⟩:ByteArray).size=10:=rfl
  have z20:(⟨#[60,103,114,97,112,104,32,101,100,103,101,100,101,102,97,117,108,116,61,34]⟩:ByteArray).size=20:=rfl
  have z3:(⟨#[34,62]⟩:ByteArray).size=2:=rfl
  simp only[List.length_nil,Nat.lt_irrefl,if_false]
  omega
theorem hdX {gl:GL} {h:ab} (g:Gl gl h):af Tryz.prog 16 #[] h fun v h'=>v= .bool true/\Fr [] h h':=by
 apply xm
 unfold S16
 refine al (R:=rdX gl uj (fun _=>none) id h) [] (zb (s:=uj) j8 g (by decide) (by rw[qI];simp)) (by simp) ?_ ?_
 ·rintro v h' (⟨dc,aD,aL,aS,aW,nD,cD,nL,cL,nS,cS,nW,cW,_,_,q⟩ | ⟨f,_,_,q⟩)
  ·exact q.fr
  ·exact q
 rintro v h1 (⟨dc,aD,aL,aS,aW,nD,cD,nL,cL,nS,cS,nW,cW,e,rfl,q⟩ | ⟨f,e,_,q⟩)
 rotate_left
 ·rw[qI]at e;cases e
 rw[qI]at e
 obtain rfl:dc1=dc:=by injection e
 refine⟨1,aD,nD,cD,true,aL,nL,cL,aS,nS,cS,aW,nW,cW,0,0,rfl,?_⟩
 intro h2 h3
 have f3:Fr [] h1 h3:=((((((Fr.push h1 _).hsetL (Nat.le_refl _)).hsetL (Nat.le_refl _)).hsetL (Nat.le_refl _)).hsetL (Nat.le_refl _)).hsetL (Nat.le_refl _)).hsetL (Nat.le_refl _)
 have s3:h1.size<h3.size:=by simp[h3,h2]
 clear_value h3
 have Q3:Sq h [Ck.glob gl] h3 (dcX gl dc1 aD aL aS aW nD cD nL cL nS cS nW cW):=q.gr f3
 have g3:Gl gl h3:=Q3.sy.ok (k:=4) (c:=Ck.glob gl) rfl
 refine al (R:=rdX gl uk (fun _=>none) id h3) [] (zb (s:=uk) j8 g3 (by decide) (by rw[qH];simp)) (by simp) ?_ ?_
 ·rintro v h' (⟨dc,aD,aL,aS,aW,nD,cD,nL,cL,nS,cS,nW,cW,_,_,q⟩ | ⟨f,_,_,q⟩)
  ·exact q.fr
  ·exact q
 rintro v h4 (⟨dc,_,_,_,_,_,_,_,_,_,_,_,_,e,rfl,q⟩ | ⟨f,e,rfl,f4⟩)
 ·rw[qH]at e;cases e
 rw[qH]at e
 obtain rfl:((10,14):G.F)=f:=by injection e
 refine⟨0,none,0,0,false,none,0,0,none,0,0,none,0,0,10,14,rfl,?_⟩
 intro h5 h6
 have f6:Fr [] h4 h6:=((((((Fr.push h4 _).hsetL (Nat.le_refl _)).hsetL (Nat.le_refl _)).hsetL (Nat.le_refl _)).hsetL (Nat.le_refl _)).hsetL (Nat.le_refl _)).hsetL (Nat.le_refl _)
 clear_value h6
 have Q6:=(Q3.gr f4).gr f6
 have Q7:Sq h [Ck.glob gl] h6 (dV gl aD nD cD (dc1.edges.map prX) aL nL cL dc1.labels aS nS cS dc1.spots aW nW cW dc1.weights):=by
  have Y:=((((Q6.sy.turn 0 rfl To.slvw).turn 1 rfl To.slvw).turn 2 rfl To.slvw).turn 3 rfl To.slvw).pick [4,0,1,2,3] rfl
  refine⟨Y,fun x hx=>?_⟩
  have hx:x∈glB gl++(jP aD nD++(jP aL nL++(jP aS nS++jP aW nW))):=by simpa[rds,dV,Ck.vw,Ck.glob]using hx
  simp only[List.mem_append]at hx
  rcases hx with hx | hx | hx | hx | hx
  ·exact .inl (by simpa[rds,Ck.glob]using hx)
  ·exact .inr (Q6.sy.ow 0 _ rfl x (iG hx))
  ·exact .inr (Q6.sy.ow 1 _ rfl x (iG hx))
  ·exact .inr (Q6.sy.ow 2 _ rfl x (iG hx))
  ·exact .inr (Q6.sy.ow 3 _ rfl x (iG hx))
 have eB:ec 1 (dc1.edges.map prX) dc1.labels dc1.spots dc1.weights=true:=by decide
 have eW:qM tx0 oq 1 true (dc1.edges.map prX) dc1.labels dc1.spots dc1.weights=(wrX tx0 oq 1 true [] [] [] [],0):=by
  have e0:(wrX tx0 oq (1:Int).toNat true (ndE (dc1.edges.map prX)) dc1.labels dc1.spots dc1.weights)=wrX tx0 oq 1 true [] [] [] []:=rfl
  unfold qM
  rw[eB,if_neg (by decide),e0,if_neg (by have:=zP.2;omega)]
 refine al (R:=fun v h'=>v= .tuple #[.string (G.mkB (wrX tx0 oq 1 true [] [] [] [])),.int .i64 0]/\Fr [] h6 h') [] ?_ (by simp) (fun _ _ r=>r.2) ?_
 ·have:=Bw (tx:=tx0) (esc:=oq) (n:=1) (dir:=true) Q7.hp (by simp[dc1]) (by decide) (fun _=>by simp[dc1]) (by simp[dc1]) (by simp[dc1])
  rw[eW]at this;exact this
 rintro v h7 ⟨rfl,f7⟩
 refine⟨_,0,rfl,?_⟩
 exact iD rfl (iD rfl (iD rfl (iD rfl (iD rfl (iD rfl (iD (by rw[aF,decide_eq_true_eq];have:=zP.1;omega) ⟨rfl,Q7.fr.trans f7⟩))))))
section
variable {h:ab}
theorem wo {a b:MD} {aE aL aS aW bE bL bS bW:Option Addr} {kE cE kL cL kS cS kW cW nE dE nL dL nS dS nW dW:Nat}
  (Hm:Hp h [Ck.vw eP aE kE cE a.es,Ck.vw eS aL kL cL a.ls,Ck.vw eFF aS kS cS a.ss,Ck.vw eF aW kW cW a.ws,Ck.vw eP bE nE dE b.es,Ck.vw eS bL nL dL b.ls,Ck.vw eFF bS nS dS b.ss,Ck.vw eF bW nW dW b.ws]) (hl:a.es.length<=9223372036854775806/\a.ls.length<=9223372036854775806) (h1:a.ss=[]) (h2:a.ws=[]):
  af Tryz.prog 20 #[.agg #[.int .i64 a.n,.slice aE kE cE,.bool a.dir,.slice aL kL cL,.slice aS kS cS,.slice aW kW cW],.agg #[.int .i64 b.n,.slice bE nE dE,.bool b.dir,.slice bL nL dL,.slice bS nS dS,.slice bW nW dW]] h fun v h'=>v= .bool (fE a b)/\Fr [] h h':=by
 apply wO
 unfold S20
 intro hv hv2
 have f2:Fr [] h hv2:=(Fr.push h _).trans (Fr.push _ _)
 have Y:=(Sy.start Hm).gr f2
 have l1:=Y.lenV 2 rfl
 have l2:=Y.lenV 3 rfl
 rw[h1]at l1
 rw[h2]at l2
 simp only[List.length_nil]at l1 l2
 refine al (R:=fun v h'=>v= .bool (fE a b)/\Fr [] hv2 h') [] ?_ (by simp) (fun _ _ r=>r.2) ?_
 ·refine(zG (a:=a) (b:=b) (R:=fun r=>r=fE a b) ⟨hl.1,hl.2,by simp[h1],by simp[h2]⟩ rfl hv2 _ _ _ _ _ _ _ _ _ _ _ _ _ _ _ _ _ _ _ _ _ _ _ _ Y.hp).mono ?_
  rintro v h' ⟨r,Y,rfl,rfl⟩
  exact⟨rfl,Y.fr⟩
 rintro v h3 ⟨rfl,f3⟩
 refine⟨_,rfl,bd (fun q=>⟨by rw[q],f2.trans f3⟩) fun q=>?_⟩
 refine⟨fun l h'=>l=[.int .i64 0]/\h'=h3,fun _ _=>0,⟨rfl,rfl⟩,?_⟩
 rintro i h4 ⟨e,rfl⟩
 cases e
 refine ae (fun q2=>absurd q2 (by omega)) fun _=>⟨fun l h'=>l=[.int .i64 0]/\h'=h4,fun _ _=>0,⟨rfl,rfl⟩,?_⟩
 rintro i h5 ⟨e,rfl⟩
 cases e
 exact ae (fun q2=>absurd q2 (by omega)) fun _=>⟨by rw[q],f2.trans f3⟩
end
def plB (c:UInt8):List UInt8:=if(97<=c.toNat/\c.toNat<=122)\/(48<=c.toNat/\c.toNat<=57)then [c]else 38::35::(G.dec c.toNat++[59])
theorem r6 {u:Nat} (hu:u<=1000000000) {h:ab}:af Tryz.prog 38 #[.int .i64 (u:Int)] h fun w h'=>w= .string (G.mkB (G.dec u))/\Fr [] h h':=
 (zH u (by omega) (R:=fun s=>s.data.toList=G.dec u) (fun s hs=>hs) h (Hp.nil _)).mono fun w h' ⟨s,Y,e,q⟩=>⟨by rw[e,<-q,rF],Y.fr⟩
abbrev byC (A:Option Addr) (c:Nat) (l:List UInt8):Ck:=Ck.sl (eK .u8) 5 A l.length c (bI l)
section
variable {h0 hv:ab} {M:List Nat} {cs:List Ck} {A:Option Addr} {c:Nat} {l:List UInt8} {H:List Nat} {K:Option Addr->Nat->ab->Prop}
theorem Ac (w:ByteArray) (k:Nat) (Y:Sy h0 M hv cs) (hk:cs[k]? =some (byC A c l)) (hH:∀b∈H,b∉ai A) (hl:l.length+w.size<=100000000) (K1:∀sA sC h',Sy h0 M h' (cs.set k (byC sA sC (l++w.data.toList)))->Fr (ai A) hv h'->K sA sC h'):
  ∃old,ba hv 5 1 A l.length c old/\(∀b∈H,b∉ai A)/\(l.length+w.size)*1<=140737488355328/\(l.length+w.size)<=maxLen/\
   ∀sA sC h',ba h' 5 1 sA (l.length+w.size) sC (old++Lib.strCells w)->Fr (ai A) hv h'->((sA=A/\sC=c)\/∃g,sA=some ⟨g,0,none⟩/\hv.size<=g)->(c<(l.length+w.size)->Fr [] hv h')->K sA sC h':=by
 refine⟨_,Y.ownS k hk,hH,by omega,by unfold maxLen;omega,fun sA sC h' ow f g _=>K1 sA sC h' ?_ f⟩
 have e:Lib.strCells w=(eK .u8).l (bI w.data.toList):=(mP w).symm
 rw[e]at ow
 have Y1:=Y.appS k hk (bI w.data.toList) ow f g rfl (by rw[qC];rfl)
 have el:(l++w.data.toList).length=l.length+w.size:=List.length_append
 unfold byC
 rw[el,oe]
 exact Y1
theorem za (x:UInt8) (k:Nat) (Y:Sy h0 M hv cs) (hk:cs[k]? =some (byC A c l)) (hl:l.length<=100000000) (o:Obj) (K1:∀sA sC h',Sy h0 M h' (cs.set k (byC sA sC (l++[x])))->K sA sC h'):
  ∃old,ba (hv.push o) 5 1 A l.length c old/\(∀b∈([hv.size]:List Nat),b∉ai A)/\(l.length+1)*1<=140737488355328/\(l.length+1)<=maxLen/\
   ∀sA sC h',ba h' 5 1 sA (l.length+1) sC (old++[.int .u8 ((x.toNat:Nat):Int)])->Fr (ai A) (hv.push o) h'->((sA=A/\sC=c)\/∃g,sA=some ⟨g,0,none⟩/\(hv.push o).size<=g)->(c<(l.length+1)->Fr [] (hv.push o) h')->K sA sC h':=by
 have Y2:=Y.gr (Fr.push hv o)
 refine⟨_,Y2.ownS k hk,fun b hb q=>?_,by omega,by unfold maxLen;omega,fun sA sC h' ow f g _=>K1 sA sC h' ?_⟩
 ·simp only[List.mem_singleton]at hb
  subst hb
  have:=mR Y k hk _ q
  omega
 have Y1:=Y2.appS k hk (bI [x]) ow f g rfl rfl
 have el:(l++[x]).length=l.length+1:=List.length_append
 unfold byC
 rw[el,oe]
 exact Y1
end
theorem wJ (c:UInt8):(plB c).length<=20:=by
 unfold plB
 split
 ·simp
 ·have:=cM (n:=c.toNat) (by have:=c.toNat_lt;omega)
  simp;omega
theorem jZ (l:List UInt8):(l.flatMap plB).length<=20*l.length:=by
 induction l with
 | nil=>simp
 | cons c l ih=>
  have:=wJ c
  rw[List.flatMap_cons,List.length_append,List.length_cons];omega
theorem wK {s:ByteArray} (hs:s.size<=1000) {h:ab}:af Tryz.prog 39 #[.string s] h fun v h'=>v= .string (G.mkB (s.data.toList.flatMap plB))/\Fr [] h h':=by
 apply wQ
 unfold S39
 have Y0:Sy h [] h [byC none 0 []]:=Sy.nilS (sy0 (Fr.refl [] h)) (eK .u8) 5
 refine⟨fun l h'=>∃(k:Nat) (A:Option Addr) (c:Nat),l=[.slice A ((s.data.toList.take k).flatMap plB).length c,.int .i64 (k:Int)]/\k<=s.size/\Sy h [] h' [byC A c ((s.data.toList.take k).flatMap plB)],fun l _=>match l with
  | [_,.int _ i]=>s.size-i.toNat
  | _=>0,⟨0,none,0,rfl,Nat.zero_le _,Y0⟩,?_⟩
 rintro bA bL bC i hv ⟨k,A,c,e,hk,Y⟩
 cases e
 have hl:((s.data.toList.take k).flatMap plB).length<=20000:=by
  have:=jZ (s.data.toList.take k)
  rw[List.length_take]at this
  have:s.data.toList.length=s.size:=rfl
  omega
 refine ae (fun q=>?_) fun q=>?_
 ·have hlt:k<s.size:=by omega
  obtain⟨x,hx,-⟩:=get_at hlt
  have hxl:s.data.toList[k]? =some x:=by rw[Array.getElem?_toList];exact hx
  have ek:(s.data.toList.take (k+1)).flatMap plB=(s.data.toList.take k).flatMap plB++plB x:=by
   rw[gz hxl,List.flatMap_append];simp
  intro K
  have nx:∀(sA:Option Addr) (sC n:Nat) (h':ab),n=((s.data.toList.take k).flatMap plB++plB x).length->Sy h [] h' [byC sA sC ((s.data.toList.take k).flatMap plB++plB x)]->K sA n sC h':=by
   intro sA sC n h' hn Y'
   dsimp-zeta only[K]
   rw[wrN (by omega),hn,<-ek]
   rw[<-ek]at Y'
   exact⟨⟨k+1,sA,sC,rfl,hlt,Y'⟩,by show s.size-((k+1:Nat):Int).toNat<s.size-(k:Int).toNat;omega⟩
  have one:(97<=x.toNat/\x.toNat<=122)\/(48<=x.toNat/\x.toNat<=57)->plB x=[x]:=fun hx=>by unfold plB;rw[if_pos hx]
  have oth:¬((97<=x.toNat/\x.toNat<=122)\/(48<=x.toNat/\x.toNat<=57))->plB x=(((⟨#[38,35]⟩:ByteArray)++G.mkB (G.dec x.toNat))++(⟨#[59]⟩:ByteArray)).data.toList:=fun hx=>by
   unfold plB;rw[if_neg hx];simp[G.mkB]
  have xlt:=x.toNat_lt
  have wx:i64.wrap ((x.toNat:Nat):Int)=((x.toNat:Nat):Int):=wr (by omega) (by omega)
  have dl:=cM (n:=x.toNat) (by omega)
  have s2:(⟨#[38,35]⟩:ByteArray).size=2:=rfl
  have s1:(⟨#[59]⟩:ByteArray).size=1:=rfl
  refine⟨by omega,q,x,by rw[Int.toNat_natCast];exact hx,?_⟩
  rw[wx]
  have txt:∀{K':ByteArray->Option Addr->Nat->ab->Prop},¬((97<=x.toNat/\x.toNat<=122)\/(48<=x.toNat/\x.toNat<=57))->(∀sA sC h' r,((s.data.toList.take k).flatMap plB).length+(((⟨#[38,35]⟩:ByteArray)++r)++(⟨#[59]⟩:ByteArray)).size=((s.data.toList.take k).flatMap plB++plB x).length->Sy h [] h' [byC sA sC ((s.data.toList.take k).flatMap plB++plB x)]->K' r sA sC h')->
    aj Tryz.prog 38 #[.int .i64 ((x.toNat:Nat):Int)] hv [] fun v h9=>∃r:ByteArray,v= .string r/\((((⟨#[38,35]⟩:ByteArray).size+r.size:Nat)):Int)<=9223372036854775807/\(((((⟨#[38,35]⟩:ByteArray)++r).size+(⟨#[59]⟩:ByteArray).size:Nat)):Int)<=9223372036854775807/\
     ∃old,ba h9 5 1 bA ((s.data.toList.take k).flatMap plB).length bC old/\(∀b∈([]:List Nat),b∉ai bA)/\(((s.data.toList.take k).flatMap plB).length+(((⟨#[38,35]⟩:ByteArray)++r)++(⟨#[59]⟩:ByteArray)).size)*1<=140737488355328/\(((s.data.toList.take k).flatMap plB).length+(((⟨#[38,35]⟩:ByteArray)++r)++(⟨#[59]⟩:ByteArray)).size)<=maxLen/\
     ∀sA sC h',ba h' 5 1 sA (((s.data.toList.take k).flatMap plB).length+(((⟨#[38,35]⟩:ByteArray)++r)++(⟨#[59]⟩:ByteArray)).size) sC (old++(Lib.strCells (((⟨#[38,35]⟩:ByteArray)++r)++(⟨#[59]⟩:ByteArray))))->Fr (ai bA) h9 h'->((sA=bA/\sC=bC)\/∃g,sA=some ⟨g,0,none⟩/\h9.size<=g)->(bC<(((s.data.toList.take k).flatMap plB).length+(((⟨#[38,35]⟩:ByteArray)++r)++(⟨#[59]⟩:ByteArray)).size)->Fr [] h9 h')->K' r sA sC h':=by
   intro K' hno k1
   refine al [] (r6 (by omega)) (by simp) (fun _ _ r=>r.2) ?_
   rintro v h9 ⟨rfl,f9⟩
   have ez:=oth hno
   have es:(((⟨#[38,35]⟩:ByteArray)++G.mkB (G.dec x.toNat))++(⟨#[59]⟩:ByteArray)).size<=20:=by rw[bsz,bsz,aF];omega
   refine⟨_,rfl,by rw[aF];omega,by rw[bsz,aF];omega,?_⟩
   refine Ac (H:=[]) _ 0 (Y.gr f9) rfl (by simp) (by omega) fun sA sC h' Y' _=>k1 sA sC h' _ ?_ ?_
   ·rw[ez,List.length_append];rfl
   ·rw[ez];exact Y'
  refine ae (fun q1=>ae (fun q2=>?_) fun q2=>ae (fun q3=>?_) fun q3=>?_) fun q1=>ae (fun q3=>?_) fun q3=>?_
  ·intro h2
   refine za x 0 Y rfl (by omega) _ fun sA sC h' Y'=>?_
   have Y':Sy h [] h' [byC sA sC ((s.data.toList.take k).flatMap plB++plB x)]:=by rw[one (.inl ⟨by omega,by omega⟩)];exact Y'
   exact nx sA sC _ h' (by rw[one (.inl ⟨by omega,by omega⟩),List.length_append];rfl) Y'
  ·refine⟨fun l h'=>∃(sA:Option Addr) (sC n:Nat),l=[.slice sA n sC]/\n=((s.data.toList.take k).flatMap plB++plB x).length/\Sy h [] h' [byC sA sC ((s.data.toList.take k).flatMap plB++plB x)],ae (fun q4=>?_) fun q4=>?_,?_⟩
   ·intro h4
    refine za x 0 Y rfl (by omega) _ fun sA sC h' Y'=>⟨sA,sC,_,rfl,by rw[one (.inr ⟨by omega,by omega⟩),List.length_append];rfl,?_⟩
    rw[one (.inr ⟨by omega,by omega⟩)];exact Y'
   ·exact txt (by omega) fun sA sC h' r hn Y'=>⟨sA,sC,_,rfl,hn,Y'⟩
   ·rintro bA2 bL2 bC2 h8 ⟨sA,sC,n,e,hn,Y'⟩
    cases e
    exact nx _ _ _ _ hn Y'
  ·exact absurd q1 (by omega)
  ·refine⟨fun l h'=>∃(sA:Option Addr) (sC n:Nat),l=[.slice sA n sC]/\n=((s.data.toList.take k).flatMap plB++plB x).length/\Sy h [] h' [byC sA sC ((s.data.toList.take k).flatMap plB++plB x)],ae (fun q4=>?_) fun q4=>?_,?_⟩
   ·intro h4
    refine za x 0 Y rfl (by omega) _ fun sA sC h' Y'=>⟨sA,sC,_,rfl,by rw[one (.inr ⟨by omega,by omega⟩),List.length_append];rfl,?_⟩
    rw[one (.inr ⟨by omega,by omega⟩)];exact Y'
   ·exact txt (by omega) fun sA sC h' r hn Y'=>⟨sA,sC,_,rfl,hn,Y'⟩
   ·rintro bA2 bL2 bC2 h8 ⟨sA,sC,n,e,hn,Y'⟩
    cases e
    exact nx _ _ _ _ hn Y'
  ·exact txt (by omega) fun sA sC h' r hn Y'=>nx sA sC _ h' hn Y'
 ·have hke:k=s.data.toList.length:=by show k=s.size;omega
  subst hke
  rw[List.take_length]at Y ⊢
  exact⟨bI (s.data.toList.flatMap plB),by have:=Y.readsS 0 rfl;rw[qs]at this;exact this,by rw[pd],Y.fr⟩
def m1 :ByteArray:=⟨#[60,103,114,97,112,104,109,108,32,97,61,39,49,39,62,60,107,101,121,32,97,116,116,114,46,110,97,109,101,61,39,119,101,105,103,104,116,39,32,105,100,61,39]⟩
def m2 :ByteArray:=⟨#[119,39,32,102,111,114,61,34,101,100,103,101,34,47,62,60,33,45,45,32,110,111,110,101,32,45,45,62,60,107,101,121,32,102,111,114,61,39,110,111,100,101,39,32,97,116,116,114,46,110,97,109,101,61,39,108,97,98,101,108,39,32,105,100,61,39]⟩
def m3 :ByteArray:=⟨#[108,39,47,62,10,60,103,114,97,112,104,9,101,100,103,101,100,101,102,97,117,108,116,61,39,117,110,100,105,114,101,99,116,101,100,39,62]⟩
def cf (mark:ByteArray):ByteArray:=(((m1++mark)++m2)++mark)++m3
def jx (mark:ByteArray) (e:Nat × Nat):ByteArray:=
 ((((((⟨#[60,101,100,103,101,32,116,97,114,103,101,116,61,39]⟩:ByteArray)++mark)++G.mkB (G.dec e.2))++(⟨#[39,32,115,111,117,114,99,101,61,34]⟩:ByteArray))++mark)++G.mkB (G.dec e.1))++(⟨#[34,32,122,61,39,38,108,116,59,39,47,62]⟩:ByteArray)
def dY (mark:ByteArray) (v:Nat):ByteArray:=(((⟨#[60,110,111,100,101,32,105,100,61,39]⟩:ByteArray)++mark)++G.mkB (G.dec v))++(⟨#[39,62]⟩:ByteArray)
def jX (mark:ByteArray) (x:ByteArray):ByteArray:=((((⟨#[60,100,97,116,97,32,107,101,121,61,39]⟩:ByteArray)++mark)++(⟨#[108,39,62]⟩:ByteArray))++G.mkB (x.data.toList.flatMap plB))++(⟨#[60,47,100,97,116,97,62]⟩:ByteArray)
def fp :ByteArray:=⟨#[60,47,110,111,100,101,32,62]⟩
def qK :ByteArray:=⟨#[60,47,103,114,97,112,104,62,60,47,103,114,97,112,104,109,108,62]⟩
def fk (mark:ByteArray) (x:Option ByteArray):List UInt8:=match x with | some x=>(jX mark x).data.toList | none=>[]
def jb (mark:ByteArray) (ls:List ByteArray) (v:Nat):List UInt8:=(dY mark v).data.toList++(fk mark ls[v]? ++fp.data.toList)
def ig (mark:ByteArray) (es:List (Nat × Nat)):List UInt8:=es.flatMap fun e=>(jx mark e).data.toList
def ii (mark:ByteArray) (ls:List ByteArray) (n:Nat):List UInt8:=(List.range n).flatMap fun v=>jb mark ls v
def dy (mark:ByteArray) (es:List (Nat × Nat)) (ls:List ByteArray) (n:Nat):List UInt8:=(cf mark).data.toList++(ig mark es++(ii mark ls n++qK.data.toList))
theorem addN {h0 hv:ab} {M:List Nat} {cs:List Ck} {A:Option Addr} {c:Nat} {l:List UInt8} {H:List Nat} {K:Option Addr->Nat->ab->Prop} (w:ByteArray) (k:Nat) (Y:Sy h0 M hv cs) (hk:cs[k]? =some (byC A c l)) (n:Nat) (hn:n=l.length) (hH:∀b∈H,b∉ai A) (hl:l.length+w.size<=100000000) (K1:∀sA sC h',Sy h0 M h' (cs.set k (byC sA sC (l++w.data.toList)))->Fr (ai A) hv h'->K sA sC h'):
  ∃old,ba hv 5 1 A n c old/\(∀b∈H,b∉ai A)/\(n+w.size)*1<=140737488355328/\(n+w.size)<=maxLen/\
   ∀sA sC h',ba h' 5 1 sA (n+w.size) sC (old++Lib.strCells w)->Fr (ai A) hv h'->((sA=A/\sC=c)\/∃g,sA=some ⟨g,0,none⟩/\hv.size<=g)->(c<(n+w.size)->Fr [] hv h')->K sA sC h':=by
 subst hn
 exact Ac w k Y hk hH hl K1
def uC (mark:ByteArray):Prop:=mark.size<=5/\∀c∈mark.data.toList,97<=c.toNat/\c.toNat<=122
theorem pC {mark:ByteArray} {e:Nat × Nat} (hm:mark.size<=5) (h1:e.1<=1000) (h2:e.2<=1000):(jx mark e).size<=80:=by
 have d1:=cM (n:=e.1) (by omega)
 have d2:=cM (n:=e.2) (by omega)
 have z1:(⟨#[60,101,100,103,101,32,116,97,114,103,101,116,61,39]⟩:ByteArray).size=14:=rfl
 have z2:(⟨#[39,32,115,111,117,114,99,101,61,34]⟩:ByteArray).size=10:=rfl
 have z3:(⟨#[34,32,122,61,39,38,108,116,59,39,47,62]⟩:ByteArray).size=12:=rfl
 unfold jx
 simp only[bsz,aF];omega
theorem pD {mark:ByteArray} {v:Nat} (hm:mark.size<=5) (h1:v<=1000):(dY mark v).size<=40:=by
 have d1:=cM (n:=v) (by omega)
 have z1:(⟨#[60,110,111,100,101,32,105,100,61,39]⟩:ByteArray).size=10:=rfl
 have z2:(⟨#[39,62]⟩:ByteArray).size=2:=rfl
 unfold dY
 simp only[bsz,aF];omega
theorem pE {mark x:ByteArray} (hm:mark.size<=5) (hx:x.size<=256):(jX mark x).size<=5200:=by
 have d1:=jZ x.data.toList
 have d2:x.data.toList.length=x.size:=rfl
 have z1:(⟨#[60,100,97,116,97,32,107,101,121,61,39]⟩:ByteArray).size=11:=rfl
 have z2:(⟨#[108,39,62]⟩:ByteArray).size=3:=rfl
 have z3:(⟨#[60,47,100,97,116,97,62]⟩:ByteArray).size=7:=rfl
 unfold jX
 simp only[bsz,aF];omega
theorem nv {mark:ByteArray} (hm:mark.size<=5):(cf mark).size<=300:=by
 have z1:m1.size=43:=rfl
 have z2:m2.size=66:=rfl
 have z3:m3.size=37:=rfl
 unfold cf
 simp only[bsz];omega
theorem pF (mark:ByteArray) (ls:List ByteArray) (n:Nat):ii mark ls (n+1)=ii mark ls n++jb mark ls n:=by
 unfold ii
 rw[List.range_succ,List.flatMap_append];simp
def mdX (dc:G.Dc):MD:=⟨(dc.n:Int),dc.dir,dc.edges.map prX,dc.labels,dc.spots,dc.weights⟩
section
variable {gl:GL} {h:ab} {aE aL aS aW:Option Addr} {nE cE nL cL nS cS nW cW:Nat} {n:Int} {es:Es} {ls:List ByteArray} {ss:List (Nat × Nat)} {ws:List Nat} {dir:Bool} {mark:ByteArray}
set_option maxHeartbeats 4000000 in
theorem wH (Hm:Hp h (dV gl aE nE cE es aL nL cL ls aS nS cS ss aW nW cW ws)) (hll:ls.length<=9223372036854775807) (hmk:mark.size<=9223372036854775807)
  (hr:ec n es ls ss ws=true->n<=30->es.length<=30->uC mark->G.eV (G.mkB (dy mark (ndE es) ls n.toNat)) (fun _=>none) id= .ok ⟨n.toNat,false,ndE es,ls,[],[]⟩):
  af Tryz.prog 15 #[.agg #[.int .i64 n,.slice aE nE cE,.bool dir,.slice aL nL cL,.slice aS nS cS,.slice aW nW cW],.string mark] h fun v h'=>v= .bool true/\Fr [] h h':=by
 apply wR
 unfold S15
 obtain⟨C,hC⟩:∃C,C=dV gl aE nE cE es aL nL cL ls aS nS cS ss aW nW cW ws:=⟨_,rfl⟩
 have oC:az C=[]:=by rw[hC];rfl
 intro h1
 have Q1:Sq h C h1 (dV gl aE nE cE es aL nL cL ls aS nS cS ss aW nW cW ws++[Ck.junk h.size]):=by
  rw[hC]
  exact⟨(Sy.start Hm).junk _,fun x hx=>.inl (by simpa[rds,Ck.junk]using hx)⟩
 clear_value h1
 have fin:∀{cs:List Ck} {h':ab},Sq h C h' cs->Fr [] h h':=fun Q=>by have:=Q.fr;rw[oC]at this;exact this
 have lE:=Q1.sy.lenV 1 rfl
 have lL:=Q1.sy.lenV 2 rfl
 refine al [] (hdX (Q1.sy.glo 0 rfl)) (by simp) (fun _ _ r=>r.2) ?_
 rintro v h2 ⟨rfl,f2⟩
 have Q2:=Q1.gr f2
 refine⟨_,rfl,vY rfl ?_⟩
 intro K
 refine al (R:=fun v h'=>v= .bool (ec n es ls ss ws)/\Fr [] h2 h') [] ?_ (by simp) (fun _ _ r=>r.2) ?_
 ·exact(zF (n:=n) (es:=es) (dr:=dir) (ls:=ls) (ss:=ss) (ws:=ws) (R:=fun r=>r=ec n es ls ss ws) hll rfl h2 _ _ _ _ _ _ _ _ _ _ _ _ (Q2.pick [1,2,3,4] rfl).hp).mono fun v h' ⟨r,Y,e,q⟩=>⟨by rw[e,q],Y.fr⟩
 rintro v h3 ⟨rfl,f3⟩
 have Q3:=Q2.gr f3
 have yes:∀{cs:List Ck} {h':ab},Sq h C h' cs->Value.bool true= .bool true/\Fr [] h h':=fun Q=>⟨rfl,fin Q⟩
 refine⟨_,rfl,bd (fun q=>yes Q3) fun q=>ae (fun q1=>yes Q3) fun q1=>ae (fun q2=>yes Q3) fun q2=>ae (fun q3=>yes Q3) fun q3=>?_⟩
 refine⟨fun l h'=>∃k:Nat,l=[.int .i64 (k:Int)]/\k<=mark.size/\h'=h3/\∀c∈mark.data.toList.take k,97<=c.toNat/\c.toNat<=122,mI mark.size,⟨0,rfl,Nat.zero_le _,rfl,by simp⟩,?_⟩
 rintro i h5 ⟨k,e,hk,rfl,hc⟩
 cases e
 refine ae (fun q4=>?_) fun q4=>?_
 ·have hlt:k<mark.size:=by omega
  obtain⟨c,hx,-⟩:=get_at hlt
  have hxl:mark.data.toList[k]? =some c:=by rw[Array.getElem?_toList];exact hx
  refine⟨by omega,q4,c,by rw[Int.toNat_natCast];exact hx,ae (fun q5=>yes Q3) fun q5=>⟨by omega,q4,c,by rw[Int.toNat_natCast];exact hx,ae (fun q6=>yes Q3) fun q6=>?_⟩⟩
  rw[wrN (by omega)]
  refine⟨⟨k+1,rfl,hlt,rfl,?_⟩,by simp only[mI];omega⟩
  rw[gz hxl]
  intro y hy
  rcases List.mem_append.1 hy with hy | hy
  ·exact hc y hy
  ·simp only[List.mem_singleton]at hy
   subst hy
   exact⟨by omega,by omega⟩
 have hms:mark.size<=5:=by omega
 have mk:uC mark:=by
  refine⟨hms,?_⟩
  rw[List.take_of_length_le (by show mark.size<=k;omega)]at hc
  exact hc
 have hm:=q
 unfold ec at hm
 simp only[Bool.and_eq_true]at hm
 obtain⟨b1,b2,b3,b4,b5⟩:=hm
 obtain⟨g0,g1,gm,ge⟩:=yK b1
 obtain⟨N,rfl⟩:∃N:Nat,n=(N:Int):=⟨n.toNat,by omega⟩
 have non:∀{a b:Nat},aO (a:Int) (b:Int)=true->a=0\/a=b:=fun{a b} h=>by unfold aO at h;grind
 have hL:ls=[]\/ls.length=N:=(non b2).imp List.eq_nil_of_length_eq_zero id
 have hls:∀x∈ls,x.size<=256:=fun x hx=>by
  have:=List.all_eq_true.1 b5 x hx
  unfold iZ at this
  simp only[Bool.and_eq_true,decide_eq_true_eq]at this
  exact this.2
 have rd:=hr q (by omega) (by omega) mk
 rw[Int.toNat_natCast]at rd
 have fz:=nv hms
 have z1:m1.size=43:=rfl
 have z2:m2.size=66:=rfl
 have z3:m3.size=37:=rfl
 refine⟨by show((43+mark.size:Nat):Int)<=_;omega,by rw[bsz];show((43+mark.size+m2.size:Nat):Int)<=_;omega,by simp only[bsz];show((43+mark.size+m2.size+mark.size:Nat):Int)<=_;omega,by simp only[bsz];show((43+mark.size+m2.size+mark.size+m3.size:Nat):Int)<=_;omega,by show(cf mark).size<=maxLen;unfold maxLen;omega,fun rC h6 ow f6=>?_⟩
 have hW:(⟨#[60,103,114,97,112,104,109,108,32,97,61,39,49,39,62,60,107,101,121,32,97,116,116,114,46,110,97,109,101,61,39,119,101,105,103,104,116,39,32,105,100,61,39]⟩:ByteArray)=m1:=rfl
 have ow:ba h6 5 1 (some ⟨h5.size,0,none⟩) (cf mark).size rC ((eK .u8).l (bI (cf mark).data.toList)):=by
  have e:Lib.strCells (cf mark)=(eK .u8).l (bI (cf mark).data.toList):=(mP _).symm
  rw[<-e];exact ow
 have Q6:Sq h C h6 (dV gl aE nE cE es aL nL cL ls aS nS cS ss aW nW cW ws++[Ck.junk h.size,byC (some ⟨h5.size,0,none⟩) rC (cf mark).data.toList]):=by
  refine Q3.add1 (Q3.sy.add f6 (byC (some ⟨h5.size,0,none⟩) rC (cf mark).data.toList) ⟨ow,by rw[qC]⟩ (fun b hb=>?_) (fun b hb=>by simp[byC,Ck.sl]at hb)) rfl
  have:b=h5.size:=by simpa[byC,Ck.sl,ai]using hb
  omega
 refine⟨fun l h'=>∃(j:Nat) (A:Option Addr) (c:Nat) (out:List UInt8),l=[.slice A out.length c,.int .i64 (j:Int)]/\j<=es.length/\out=(cf mark).data.toList++ig mark ((ndE es).take j)/\out.length<=300+80*j/\Sq h C h' (dV gl aE nE cE es aL nL cL ls aS nS cS ss aW nW cW ws++[Ck.junk h.size,byC A c out]),fun l _=>match l with
  | [_,.int _ i]=>es.length-i.toNat
  | _=>0,⟨0,_,rC,(cf mark).data.toList,rfl,Nat.zero_le _,by simp[ig],by show(cf mark).size<=_;omega,Q6⟩,?_⟩
 rintro bA bL bC ev h7 ⟨j,A7,c7,out,e,hj,ho,hol,Q7⟩
 cases e
 refine ae (fun q5=>?_) fun q5=>?_
 ·have hjl:j<es.length:=by omega
  have he:es[j]? =some es[j]:=List.getElem?_eq_getElem hjl
  obtain⟨g,o,hg,hgr,-⟩:=Q7.sy.atV 1 rfl (i:=(j:Int)) (by omega) (by omega)
  have cx:=Q7.sy.cellV 1 rfl hg (i:=j) (t:=1) he rfl
  have cy:=Q7.sy.cellV 1 rfl hg (i:=j) (t:=0) he rfl
  have hge:=ge j _ he
  have hm:(ndE es)[j]? =some (es[j].1.toNat,es[j].2.toNat):=by unfold ndE;rw[List.getElem?_map,he];rfl
  generalize es[j]=y at*
  obtain⟨y1,y2⟩:=y
  simp only at hge hm
  obtain⟨p1,rfl⟩:∃p1:Nat,y1=(p1:Int):=⟨y1.toNat,by omega⟩
  obtain⟨p2,rfl⟩:∃p2:Nat,y2=(p2:Int):=⟨y2.toNat,by omega⟩
  simp only[Int.toNat_natCast]at hm
  have hv7:∀b∈([h.size]:List Nat),b∉ai bA:=by
   intro z hz w
   simp only[List.mem_singleton]at hz
   subst hz
   exact Q7.sy.nJ 6 5 rfl rfl rfl w
  have gn:g∉ai bA:=fun w=>(Q7.sy.hp.ap 6 1 _ _ (by decide) rfl rfl g w).2 hgr
  have y1:(⟨#[60,101,100,103,101,32,116,97,114,103,101,116,61,39]⟩:ByteArray).size=14:=rfl
  have y2:(⟨#[39,32,115,111,117,114,99,101,61,34]⟩:ByteArray).size=10:=rfl
  have y3:(⟨#[34,32,122,61,39,38,108,116,59,39,47,62]⟩:ByteArray).size=12:=rfl
  have d1:=cM (n:=p1) (by omega)
  have d2:=cM (n:=p2) (by omega)
  have esz:=pC (mark:=mark) (e:=(p1,p2)) hms (by show p1<=1000;omega) (by show p2<=1000;omega)
  refine⟨ai bA,hv7,by omega,g,o,hg,by omega,by omega,gn,(p2:Int),by rw[Int.toNat_natCast];exact cx,g,o,hg,by omega,by omega,gn,(p1:Int),by rw[Int.toNat_natCast];exact cy,?_⟩
  refine al [] (r6 (by omega)) (by simp) (fun _ _ r=>r.2) ?_
  rintro v h8 ⟨rfl,f8⟩
  refine⟨_,rfl,f8.nil,by simp only[bsz,aF];omega,by simp only[bsz,aF];omega,by simp only[bsz,aF];omega,?_⟩
  refine al [] (r6 (by omega)) (by simp) (fun _ _ r=>r.2) ?_
  rintro v h9 ⟨rfl,f9⟩
  have Q9:=(Q7.gr f8).gr f9
  refine⟨_,rfl,(f8.trans f9).nil,by simp only[bsz,aF];omega,by simp only[bsz,aF];omega,?_⟩
  refine addN (jx mark (p1,p2)) 6 Q9.sy rfl _ rfl hv7 (by omega) fun sA sC h10 Y10 f10=>⟨((f8.trans f9).nil).trans f10,?_⟩
  rw[wrN (by omega)]
  refine⟨⟨j+1,sA,sC,out++(jx mark (p1,p2)).data.toList,by rw[List.length_append];rfl,hjl,?_,?_,⟨Y10,Q9.ri⟩⟩,by show es.length-((j+1:Nat):Int).toNat<es.length-(j:Int).toNat;omega⟩
  ·rw[ho,gz hm]
   unfold ig
   rw[List.flatMap_append]
   simp
  ·rw[List.length_append]
   have:(jx mark (p1,p2)).data.toList.length=(jx mark (p1,p2)).size:=rfl
   omega
 ·have hjl:j=es.length:=by omega
  have ho2:out=(cf mark).data.toList++ig mark (ndE es):=by
   rw[ho,List.take_of_length_le (by unfold ndE;rw[List.length_map];omega)]
  clear ho
  refine⟨fun l h'=>∃(v:Nat) (A:Option Addr) (c:Nat) (o3:List UInt8),l=[.slice A o3.length c,.int .i64 (v:Int)]/\v<=N/\o3=out++ii mark ls v/\o3.length<=2700+5300*v/\Sq h C h' (dV gl aE nE cE es aL nL cL ls aS nS cS ss aW nW cW ws++[Ck.junk h.size,byC A c o3]),fun l _=>match l with
   | [_,.int _ i]=>N-i.toNat
   | _=>0,⟨0,_,_,out,rfl,Nat.zero_le _,by simp[ii],by omega,Q7⟩,?_⟩
  rintro cA cL2 cC v5 h11 ⟨v,A8,c8,o3,e,hv,ho3,hol3,Q11⟩
  cases e
  have nb:∀{A:Option Addr} {c:Nat} {l:List UInt8} {hx:ab},Sq h C hx (dV gl aE nE cE es aL nL cL ls aS nS cS ss aW nW cW ws++[Ck.junk h.size,byC A c l])->∀b∈([h.size]:List Nat),b∉ai A:=by
   intro A c l hx Q z hz w
   simp only[List.mem_singleton]at hz
   subst hz
   exact Q.sy.nJ 6 5 rfl rfl rfl w
  refine ae (fun q6=>?_) fun q6=>?_
  ·have hvl:v<N:=by omega
   have y1:(⟨#[60,110,111,100,101,32,105,100,61,39]⟩:ByteArray).size=10:=rfl
   have y2:(⟨#[39,62]⟩:ByteArray).size=2:=rfl
   have y3:(⟨#[60,100,97,116,97,32,107,101,121,61,39]⟩:ByteArray).size=11:=rfl
   have y4:(⟨#[108,39,62]⟩:ByteArray).size=3:=rfl
   have y5:(⟨#[60,47,100,97,116,97,62]⟩:ByteArray).size=7:=rfl
   have y6:fp.size=8:=rfl
   have d1:=cM (n:=v) (by omega)
   have nsz:=pD (mark:=mark) (v:=v) hms (by omega)
   refine⟨by omega,?_⟩
   refine al [] (r6 (by omega)) (by simp) (fun _ _ r=>r.2) ?_
   rintro w h12 ⟨rfl,f12⟩
   have Q12:=Q11.gr f12
   refine⟨_,rfl,by simp only[bsz,aF];omega,by simp only[bsz,aF];omega,?_⟩
   refine addN (dY mark v) 6 Q12.sy rfl _ rfl (nb Q12) (by omega) fun sA sC h13 Y13 f13=>?_
   have Q13:Sq h C h13 (dV gl aE nE cE es aL nL cL ls aS nS cS ss aW nW cW ws++[Ck.junk h.size,byC sA sC (o3++(dY mark v).data.toList)]):=⟨Y13,Q12.ri⟩
   have l13:(o3++(dY mark v).data.toList).length=o3.length+(dY mark v).size:=List.length_append
   refine⟨fun lz h'=>∃(dA:Option Addr) (dC:Nat) (m:Nat),lz=[.slice dA m dC]/\m=(o3++(dY mark v).data.toList++fk mark ls[v]?).length/\m<=o3.length+5250/\Sq h C h' (dV gl aE nE cE es aL nL cL ls aS nS cS ss aW nW cW ws++[Ck.junk h.size,byC dA dC (o3++(dY mark v).data.toList++fk mark ls[v]?)]),ae (fun q7=>?_) fun q7=>?_,?_⟩
   ·have hlen:v<ls.length:=by rcases hL with rfl | e<;>simp at* <;>omega
    have hx:ls[v]? =some ls[v]:=List.getElem?_eq_getElem hlen
    have hxs:=hls _ (List.getElem_mem hlen)
    obtain⟨g,o,hg,-⟩:=Q13.sy.atV 2 rfl (i:=(v:Int)) (by omega) (by omega)
    have cx:=Q13.sy.cellV 2 rfl hg (i:=v) (t:=0) hx rfl
    rw[hx]
    generalize ls[v]=x at*
    have dsz:=pE (mark:=mark) (x:=x) hms hxs
    have pl:=jZ x.data.toList
    have x0:x.data.toList.length=x.size:=rfl
    refine⟨by omega,by simp only[bsz];omega,g,o,hg,by omega,by omega,x,by rw[Int.toNat_natCast];exact cx,?_⟩
    refine al [] (wK (by omega)) (by simp) (fun _ _ r=>r.2) ?_
    rintro w h14 ⟨rfl,f14⟩
    have Q14:=Q13.gr f14
    refine⟨_,rfl,by simp only[bsz,aF];omega,by simp only[bsz,aF];omega,?_⟩
    refine addN (jX mark x) 6 Q14.sy rfl _ l13.symm (nb Q14) (by omega) fun tA tC h15 Y15 f15=>⟨tA,tC,_,rfl,?_,?_,⟨Y15,Q14.ri⟩⟩
    ·rw[List.length_append,l13];rfl
    ·show o3.length+(dY mark v).size+(jX mark x).size<=_;omega
   ·have hx:ls[v]? =none:=by rw[List.getElem?_eq_none];omega
    rw[hx]
    refine⟨sA,sC,_,rfl,?_,?_,?_⟩
    ·show _=(o3++(dY mark v).data.toList++[]).length
     rw[List.append_nil,l13];rfl
    ·show o3.length+(dY mark v).size<=_;omega
    ·show Sq h C h13 (dV gl aE nE cE es aL nL cL ls aS nS cS ss aW nW cW ws++[Ck.junk h.size,byC sA sC (o3++(dY mark v).data.toList++[])])
     rw[List.append_nil];exact Q13
   rintro eA eL eC h16 ⟨dA,dC,m,e,hm,hml,Q16⟩
   cases e
   refine addN fp 6 Q16.sy rfl _ hm (nb Q16) (by omega) fun tA tC h17 Y17 f17=>?_
   rw[wrN (by omega)]
   have l17:(o3++(dY mark v).data.toList++fk mark ls[v]? ++fp.data.toList).length=eL+fp.size:=by rw[hm];exact List.length_append
   refine⟨⟨v+1,tA,tC,o3++(dY mark v).data.toList++fk mark ls[v]? ++fp.data.toList,by rw[l17];rfl,hvl,?_,?_,⟨Y17,Q16.ri⟩⟩,by show N-((v+1:Nat):Int).toNat<N-(v:Int).toNat;omega⟩
   ·rw[ho3,pF]
    unfold jb
    simp only[List.append_assoc]
   ·rw[l17];omega
  ·have hvN:v=N:=by omega
   subst hvN
   have y6:qK.size=18:=rfl
   refine addN qK 6 Q11.sy rfl _ rfl (nb Q11) (by omega) fun tA tC h18 Y18 f18=>?_
   have eT:o3++qK.data.toList=dy mark (ndE es) ls v:=by
    rw[ho3,ho2]
    unfold dy
    simp only[List.append_assoc]
   have Q18:Sq h C h18 (dV gl aE nE cE es aL nL cL ls aS nS cS ss aW nW cW ws++[Ck.junk h.size,byC tA tC (dy mark (ndE es) ls v)]):=by rw[<-eT];exact⟨Y18,Q11.ri⟩
   have lT:(dy mark (ndE es) ls v).length=o3.length+qK.size:=by rw[<-eT];exact List.length_append
   refine⟨bI (dy mark (ndE es) ls v),?_,?_⟩
   ·have:=Q18.sy.readsS 6 rfl
    rw[qs,lT]at this
    exact this
   rw[pd]
   refine al (R:=rdX gl (G.mkB (dy mark (ndE es) ls v)) (fun _=>none) id h18) [] (zb (s:=G.mkB (dy mark (ndE es) ls v)) j8 (Q18.sy.glo 0 rfl) (by rw[aF,lT];omega) (by rw[rd];simp)) (by simp) ?_ ?_
   ·rintro w h' (⟨dc,aD,aL,aS,aW,nD,cD,nL,cL,nS,cS,nW,cW,_,_,q⟩ | ⟨f,_,_,q⟩)
    ·exact q.fr
    ·exact q
   rintro w h19 (⟨dc,rA,rL,rS,rW,nD,cD,mL,dL,mS,dS,mW,dW,e,rfl,q19⟩ | ⟨f,e,_,_⟩)
   rotate_left
   ·rw[rd]at e;cases e
   rw[rd]at e
   obtain rfl:(⟨v,false,ndE es,ls,[],[]⟩:G.Dc)=dc:=by injection e
   refine⟨(v:Int),rA,nD,cD,false,rL,mL,dL,rS,mS,dS,rW,mW,dW,0,0,rfl,?_⟩
   intro h20 h21 h22 h23
   have f21:Fr [] h19 h21:=((((((Fr.push h19 _).hsetL (Nat.le_refl _)).hsetL (Nat.le_refl _)).hsetL (Nat.le_refl _)).hsetL (Nat.le_refl _)).hsetL (Nat.le_refl _)).hsetL (Nat.le_refl _)
   have f23:Fr [] h21 h23:=((((((Fr.push h21 _).hsetL (Nat.le_refl _)).hsetL (Nat.le_refl _)).hsetL (Nat.le_refl _)).hsetL (Nat.le_refl _)).hsetL (Nat.le_refl _)).hsetL (Nat.le_refl _)
   have f:=f21.trans f23
   clear_value h23 h21
   refine iD rfl (iD rfl ?_)
   have P:=q19.gr f
   have Qz:Sq h C h23 (dV gl aE nE cE es aL nL cL ls aS nS cS ss aW nW cW ws++[Ck.junk h.size,byC tA tC (dy mark (ndE es) ls v)]):=(Q18.gr q19.fr).gr f
   have em:(ndE es).map prX=es:=by
    unfold ndE
    rw[List.map_map]
    refine(List.map_congr_left (g:=id) fun e he=>?_).trans (List.map_id es)
    obtain⟨i,hi⟩:=List.mem_iff_getElem?.1 he
    have:=ge i e hi
    obtain⟨e1,e2⟩:=e
    simp only[prX,Function.comp,id,Prod.mk.injEq]
    omega
   have Z:=Qz.sy.nilS eFF 78
   have Z2:=Qz.sy.nilS eF 76
   have Hb:Hp h23 [Ck.vw eP rA nD cD (mdX ⟨v,false,ndE es,ls,[],[]⟩).es,Ck.vw eS rL mL dL (mdX ⟨v,false,ndE es,ls,[],[]⟩).ls,Ck.vw eFF rS mS dS (mdX ⟨v,false,ndE es,ls,[],[]⟩).ss,Ck.vw eF rW mW dW (mdX ⟨v,false,ndE es,ls,[],[]⟩).ws,Ck.vw eP aE nE cE es,Ck.vw eS aL nL cL ls,Ck.vw eFF none 0 0 [],Ck.vw eF none 0 0 []]:=by
    refine⟨fun k c hk=>?_,fun i j c d _ hi hj x hx=>?_⟩
    ·match k,hk with
     | 0,hk=>cases hk;exact(P.sy.turn 0 rfl To.slvw).ok (k:=0) rfl
     | 1,hk=>cases hk;exact(P.sy.turn 1 rfl To.slvw).ok (k:=1) rfl
     | 2,hk=>cases hk;exact(P.sy.turn 2 rfl To.slvw).ok (k:=2) rfl
     | 3,hk=>cases hk;exact(P.sy.turn 3 rfl To.slvw).ok (k:=3) rfl
     | 4,hk=>cases hk;exact Qz.sy.ok (k:=1) rfl
     | 5,hk=>cases hk;exact Qz.sy.ok (k:=2) rfl
     | 6,hk=>cases hk;exact(Z.turn 7 rfl To.slvw).ok (k:=7) rfl
     | 7,hk=>cases hk;exact(Z2.turn 7 rfl To.slvw).ok (k:=7) rfl
    ·have:c.own=[]:=by
      have hm:=List.mem_of_getElem? hi
      simp only[List.mem_cons,List.not_mem_nil,or_false]at hm
      rcases hm with rfl | rfl | rfl | rfl | rfl | rfl | rfl | rfl<;>rfl
     rw[this]at hx;cases hx
   have sm:fE (mdX ⟨v,false,ndE es,ls,[],[]⟩) ⟨(v:Int),false,es,ls,[],[]⟩=true:=by
    unfold mdX fE
    rw[em]
    simp only[decide_true,Bool.true_and,beq_self_eq_true]
    decide
   have hle:(mdX ⟨v,false,ndE es,ls,[],[]⟩).es.length<=9223372036854775806:=by
    show((ndE es).map prX).length<=_
    rw[em];omega
   refine al [] (wo (a:=mdX ⟨v,false,ndE es,ls,[],[]⟩) (b:=⟨(v:Int),false,es,ls,[],[]⟩) Hb ⟨hle,(show ls.length<=9223372036854775806 from hL.elim (fun e=>by rw[e];simp) fun e=>by omega)⟩ rfl rfl) (by simp) (fun _ _ r=>r.2) ?_
   rintro w h24 ⟨rfl,f24⟩
   exact⟨_,rfl,by rw[sm],(fin Qz).trans f24⟩
end
end Go.Proofs.YtlflalecmhgmjaaGreatDoor.N
