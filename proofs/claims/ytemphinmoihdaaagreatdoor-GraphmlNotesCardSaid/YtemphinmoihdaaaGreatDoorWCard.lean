/- tracerylaw31.GraphmlNotes: the walk. Conditions: what comes in is as the model has it (numbers of 64 bits, lengths below 2^63). -/
import Derived.Test.YtemphinmoihdaaaGreatDoorSGn
import Derived.Test.YtemphinmoihdaaaGreatDoorQEscL
import Derived.Test.YtemphinmoihdaaaGreatDoorRows
import Derived.Test.YtemphinmoihdaaaGreatDoorGTell
import Derived.WalkKit
import Derived.ProofKit
import Derived.OpenShut
import Derived.Lib.LaidU8
import Derived.MakeChecks
import Derived.Lay
import Derived.Shelf.Vars
import Derived.Handed
import Derived.Test.YtemphinmoihdaaaGreatDoorMLex
import Derived.Below
import Derived.Deep.Slices
import Derived.ChangeOld
import Derived.Carry
import Derived.JoinedCond
import Derived.Deep.DeepHandedRow
import Derived.Test.YtemphinmoihdaaaGreatDoorCards
import Derived.SevenTiedAt
set_option linter.unusedVariables false
set_option linter.unusedSimpArgs false
namespace Go.Proofs.YtemphinmoihdaaaGreatDoor.N
open Go.Proofs.YtemphinmoihdaaaGreatDoor
open Go.X
open Go.Proofs
set_option maxRecDepth 100000
section
variable {gl:GL} {h:ab} {a:MD} {s:MDs}
theorem Cp {n:Int} {es:Es} {ls:List ByteArray} {ss:List (Nat × Nat)} {ws:List Nat} (q:gv n es ls ss ws=true):(es.map fun e=>(e.1.toNat,e.2.toNat)).map prX=es:=(zT q).2
theorem PC (g:Gl gl h) {x:ByteArray} (q:gv a.n a.es a.ls a.ss a.ws=true) (hx:x.size<=262144) (rd:G.fL x rdG bF= .ok (sN a.n a.dir a.es a.ls (clD a).ss (clD a).ws)):
  QH 7 #[.string x] h fun v h'=>∃u:MDs,v= .tuple #[(clD a).v u,QM 0,QM 0]/\Sy h [] h' [Ck.sl eP 71 u.aE u.nE u.cE (clD a).es,Ck.sl eS 9 u.aL u.nL u.cL (clD a).ls,Ck.sl eFF 68 u.aS u.nS u.cS (clD a).ss,Ck.sl eF 66 u.aW u.nW u.cW (clD a).ws]:=by
 refine(ok7 (wO gl) g Qz (by rw[rd];simp)).mono ?_
 rintro v h8 (⟨dc,aD,aL2,aS,aW,nD,cD,nL2,cL2,nS,cS,nW,cW,e,rfl,q8⟩ | ⟨f,e,_,q8⟩)
 rotate_left
 ·rw[rd]at e;cases e
 rw[rd]at e
 obtain rfl:sN a.n a.dir a.es a.ls (clD a).ss (clD a).ws=dc:=by injection e
 obtain⟨n0,-⟩:=zT q
 have eE:=Cp q
 have en:(((sN a.n a.dir a.es a.ls (clD a).ss (clD a).ws).n:Nat):Int)=(clD a).n:=Int.toNat_of_nonneg n0
 rw[en]
 refine⟨⟨aD,nD,cD,aL2,nL2,cL2,aS,nS,cS,aW,nW,cW⟩,rfl,?_⟩
 have Y:Sy h [] h8 [Ck.sl eP 71 aD nD cD ((sN a.n a.dir a.es a.ls (clD a).ss (clD a).ws).edges.map prX),Ck.sl eS 9 aL2 nL2 cL2 a.ls,Ck.sl eFF 68 aS nS cS (clD a).ss,Ck.sl eF 66 aW nW cW (clD a).ws]:=q8.sy.pick [0,1,2,3] rfl
 have eE':(sN a.n a.dir a.es a.ls (clD a).ss (clD a).ws).edges.map prX=a.es:=eE
 rw[eE']at Y
 exact Y
end
section
variable {gl:GL} {h:ab} {a:MD} {s:MDs} {mA:QR} {mL mC:Nat} {ms:List ByteArray}
def FV (l:QS):Prop:=∀c∈l,c≠45
set_option maxHeartbeats 4000000 in
theorem FW (Hm:Hp h (Ck.glob gl::(a.vw s++[Ck.vw eS mA mL mC ms]))) (hls:∀x∈a.ls,x.size<=9223372036854775807) (hss:∀p∈a.ss,p.1<18446744073709551616/\p.2<18446744073709551616) (hws:∀x∈a.ws,x<18446744073709551616):
  QH 3 #[a.v s,.slice mA mL mC] h fun v h'=>v= .bool true/\Fr [] h h':=by
 apply JW
 unfold S3
 intro h1
 have Y1:Sy h [] h1 (Ck.glob gl::(a.vw s++[Ck.vw eS mA mL mC ms])++[Ck.junk h.size]):=(Sy.startM Hm rfl).junk _
 clear_value h1
 refine ao [] (hdX (Y1.ok (k:=0) (c:=Ck.glob gl) rfl)) QB (fun _ _ r=>r.2) ?_
 rintro v h2 ⟨rfl,f2⟩
 have Y2:=Y1.gr f2
 refine⟨_,rfl,aV rfl ?_⟩
 intro K
 refine ao (R:=fun v h'=>(∃r,v= .bool r/\(r=true->a.es.length<=300/\a.ls.length<=2000/\a.ss.length<=2000/\a.ws.length<=4000))/\Fr [] h2 h') [] ?_ QB (fun _ _ r=>r.2) ?_
 ·exact(PA (n:=a.n) (es:=a.es) (dr:=a.dir) (ls:=a.ls) (ss:=a.ss) (ws:=a.ws) (R:=fun r=>r=true->a.es.length<=300/\a.ls.length<=2000/\a.ss.length<=2000/\a.ws.length<=4000) (fun _ hb=>hb) h2 _ _ _ _ _ _ _ _ _ _ _ _ (Y2.pick [1,2,3,4] rfl).hp).mono fun v h' ⟨r,Y,e,q⟩=>⟨⟨r,e,q⟩,Y.fr⟩
 rintro v h3 ⟨⟨r,rfl,ha⟩,f3⟩
 have Y3:=Y2.gr f3
 have done:∀{h':ab},Fr [] h3 h'->(Value.bool true=Value.bool true/\Fr [] h h'):=fun f=>⟨rfl,Y3.fr.trans f⟩
 refine⟨_,rfl,bo (fun q=>done (Fr.refl _ _)) fun q=>af (fun _=>done (Fr.refl _ _)) fun _=>af (fun _=>done (Fr.refl _ _)) fun _=>aH (fun _=>done (Fr.refl _ _)) fun hm0=>?_⟩
 obtain⟨a1,a2,a3,a4⟩:=ha q
 have htx:(∀p∈a.ss,sM gl txM p.1/\sM gl txM p.2)/\∀x∈a.ws,sM gl txM x:=
  ⟨fun p hp=>⟨yI (hss p hp).1,yI (hss p hp).2⟩,fun x hx=>yI (hws x hx)⟩
 refine ao [] (ok6 (tx:=txM) (esc:=pQ) (n:=a.n) (dir:=a.dir) (Y3.pick [0,1,2,3,4] rfl).hp hls Qz (fun q2 x hx=>MR (CS q2 hx)) htx.1 htx.2) QB (fun _ _ r=>r.2) ?_
 rintro v h4 ⟨rfl,f4⟩
 have Y4:=Y3.gr f4
 refine⟨_,_,rfl,?_⟩
 by_cases qd:gv a.n a.es a.ls a.ss a.ws=false
 ·have ew:oS txM pQ a.n a.dir a.es a.ls a.ss a.ws=([],1):=by unfold oS;rw[if_pos qd]
  rw[ew]
  exact br rfl ⟨congrArg Value.bool (by rw[yJ];decide),Y4.fr⟩
 have qd:gv a.n a.es a.ls a.ss a.ws=true:=by simpa using qd
 by_cases hl:262144<(wrX txM pQ a.n.toNat a.dir (ndE a.es) a.ls a.ss a.ws).length
 ·have ew:oS txM pQ a.n a.dir a.es a.ls a.ss a.ws=([],23):=by unfold oS;rw[if_neg (by rw[qd];decide),if_pos hl]
  rw[ew]
  exact br rfl ⟨congrArg Value.bool (by rw[yJ];decide),Y4.fr⟩
 have ew:oS txM pQ a.n a.dir a.es a.ls a.ss a.ws=(wrX txM pQ a.n.toNat a.dir (ndE a.es) a.ls a.ss a.ws,0):=by unfold oS;rw[if_neg (by rw[qd];decide),if_neg hl]
 rw[ew]
 refine aV rfl ?_
 have eT:wrX txM pQ a.n.toNat a.dir (ndE a.es) a.ls a.ss a.ws=G.cf (G.ny bc txM (sN a.n a.dir a.es a.ls a.ss a.ws)):=Ju _ _ _ _ _ _ _
 have nd:=FU (zS (dir:=a.dir) qd) (fun p hp=>⟨Cj (hss p hp).1,Cj (hss p hp).2⟩) fun x hx=>Cj (hws x hx)
 generalize hls2:G.ny bc txM (sN a.n a.dir a.es a.ls a.ss a.ws)=LS at*
 generalize hT:wrX txM pQ a.n.toNat a.dir (ndE a.es) a.ls a.ss a.ws=T at*
 have hTs:(G.mkB T).size=T.length:=bu T
 have lM:=Y4.lenV 5 rfl
 have hmp:0<ms.length:=by
  have:¬((mL:Nat):Int)=0:=hm0
  omega
 show ∃Iv m,_
 rw[hTs]
 refine⟨fun lz h'=>∃(i:Nat) (A:QR) (c:Nat),lz=[.slice A (gf (msF ms) (T.take i) 0).length c,QM (((T.take i).count 10:Nat):Int),QM (i:Int)]/\i<=T.length/\(∀j,j<(T.take i).count 10->FV (msF ms j))/\Sy h [] h' (Ck.glob gl::(a.vw s++[Ck.vw eS mA mL mC ms])++[Ck.junk h.size]++[byB A c (gf (msF ms) (T.take i) 0)]),
  fun lz _=>match lz with | [_,_,.int _ i]=>((T.length:Int)-i).toNat | _=>0,⟨0,none,0,rfl,Qz,(fun j hj=>by simp at hj),Y4.nilS (eK .u8) 5⟩,?_⟩
 rintro bA bL bC n i h6 ⟨i,A,c,e,hi,hnn,Y6⟩
 cases e
 have len6:=qw (msF ms) (FI ms) (T.take i) 0
 rw[List.length_take,Nat.min_eq_left hi]at len6
 have f36:Fr [] h h6:=Y6.fr
 refine af (fun hlt=>?_) fun hlt=>?_
 ·have hil:i<T.length:=by omega
  have hx:T[i]? =some T[i]:=List.getElem?_eq_getElem hil
  generalize T[i]=x at hx
  have hxb:(G.mkB T)[Int.toNat ((i:Nat):Int)]? =some x:=by
   rw[Int.toNat_natCast];show(G.mkB T).data[i]? =some x
   rw[<-Array.getElem?_toList,sK];exact hx
  have tk:T.take (i+1)=T.take i++[x]:=by rw[List.take_add_one,hx];rfl
  have cnt:(T.take i).count 10<=T.length:=Nat.le_trans List.count_le_length (by rw[List.length_take];omega)
  have sn:=oI (msF ms) x (T.take i) 0
  rw[<-tk,Nat.zero_add]at sn
  have hH:∀{h':ab} {A':QR} {c':Nat} {l':QS},Sy h [] h' (Ck.glob gl::(a.vw s++[Ck.vw eS mA mL mC ms])++[Ck.junk h.size]++[byB A' c' l'])->∀b∈([h.size]:List Nat),b∉ai A':=fun Y b hb=>by
   rw[List.mem_singleton.1 hb];exact Y.nJ 7 6 rfl rfl rfl
  refine⟨fun lz h'=>∃(A:QR) (c:Nat),lz=[.slice A (gf (msF ms) (T.take (i+1)) 0).length c,QM (((T.take (i+1)).count 10:Nat):Int)]/\(∀j,j<(T.take (i+1)).count 10->FV (msF ms j))/\Sy h [] h' (Ck.glob gl::(a.vw s++[Ck.vw eS mA mL mC ms])++[Ck.junk h.size]++[byB A c (gf (msF ms) (T.take (i+1)) 0)]),⟨Qz,hlt,x,hxb,?_⟩,?_⟩
  ·intro h7
   have Y7j:=Y6.junk (.cells #[QP ((x.toNat:Nat):Int)] 5)
   have Y7:Sy h [] h7 _:=Y6.gr (Fr.push h6 _)
   refine⟨_,Y7.ownS 7 rfl,?_,Qz,by unfold maxLen;omega,fun sA sC h8 ow f g _=>?_⟩
   ·intro b hb
    rcases List.mem_cons.1 hb with rfl | hb
    ·exact Y7j.nJ 7 8 rfl rfl rfl
    ·rw[List.mem_singleton.1 hb];exact Y7j.nJ 7 6 rfl rfl rfl
   have Y8:=Y7.appS 7 rfl (bI [x]) ow f g rfl rfl
   have el8:(gf (msF ms) (T.take i) 0).length+1=(gf (msF ms) (T.take i) 0++[x]).length:=by rw[List.length_append];rfl
   rw[<-qs,el8]at Y8
   rw[el8]
   refine⟨Qz,hlt,x,hxb,?_⟩
   have fin:∀{h':ab} {A':QR} {c' k:Nat} {l':QS},l'=(if x=10 then [10]++[9,60,33,45,45]++msF ms ((T.take i).count 10)++[45,45,62,13,10]else [x])->k=(if x=10 then 1 else 0)->(x=10->FV (msF ms ((T.take i).count 10)))->Sy h [] h' (Ck.glob gl::(a.vw s++[Ck.vw eS mA mL mC ms])++[Ck.junk h.size]++[byB A' c' (gf (msF ms) (T.take i) 0++l')])->
     ∃(A:QR) (c:Nat),([.slice A' (gf (msF ms) (T.take i) 0++l').length c',QM (((T.take i).count 10+k:Nat):Int)]:List Value)=[.slice A (gf (msF ms) (T.take (i+1)) 0).length c,QM (((T.take (i+1)).count 10:Nat):Int)]/\(∀j,j<(T.take (i+1)).count 10->FV (msF ms j))/\Sy h [] h' (Ck.glob gl::(a.vw s++[Ck.vw eS mA mL mC ms])++[Ck.junk h.size]++[byB A c (gf (msF ms) (T.take (i+1)) 0)]):=by
    intro h' A' c' k l' e1 e2 e3 Y
    have ec:(T.take i).count 10+k=(T.take (i+1)).count 10:=by
     rw[tk,List.count_append,e2]
     congr 1
     by_cases hx10:x=10
     ·subst hx10;rfl
     ·rw[if_neg hx10,List.count_cons_of_ne (by simpa using hx10)];rfl
    rw[<-e1]at sn
    rw[sn,<-ec]
    refine⟨A',c',rfl,fun j hj=>?_,Y⟩
    by_cases hjc:j<(T.take i).count 10
    ·exact hnn j hjc
    ·have:x=10:=by
      by_cases hx10:x=10
      ·exact hx10
      ·rw[if_neg hx10]at e2;omega
     have e4:j=(T.take i).count 10:=by rw[if_pos this]at e2;omega
     rw[e4];exact e3 this
   refine⟨fun hx10=>?_,fun hx10=>?_⟩
   ·have hx10:x≠10:=by rintro rfl;simp at hx10
    exact fin (k:=0) (by rw[if_neg hx10]) (by rw[if_neg hx10]) (fun z=>absurd z hx10) Y8
   ·have hx10:x=10:=UInt8.toNat_inj.1 (Int.ofNat.inj (by simpa using hx10))
    subst hx10
    generalize hN:(T.take i).count 10=N at*
    have hmod:Int.tmod ((N:Nat):Int) ((mL:Nat):Int)=((N % ms.length:Nat):Int):=by
     rw[lM,Int.tmod_eq_emod_of_nonneg Qz];rfl
    have hk:=Nat.mod_lt N hmp
    have hxm:ms[N % ms.length]? =some ms[N % ms.length]:=List.getElem?_eq_getElem hk
    generalize ms[N % ms.length]=w at hxm
    have hmf:msF ms N=(nr w).data.toList:=by unfold msF;rw[hxm]
    obtain⟨b,o,ea,_⟩:=Y8.atV 5 rfl (i:=((N % ms.length:Nat):Int)) Qz Qz
    rw[hmod]
    refine⟨hm0,b,o,ea,Qz,Qz,w,Y8.cellV 5 rfl ea (i:=N % ms.length) (t:=0) hxm rfl,fun lz h'=>lz=[.string (nr w)]/\h'=h8,af (fun q=>⟨Qz,Qz,?_,rfl⟩) fun q=>⟨?_,rfl⟩,?_⟩
    ·unfold nr;rw[if_pos Qz];rfl
    ·unfold nr;rw[if_neg Qz]
    rintro x2 h9 ⟨e,rfl⟩
    obtain rfl:x2=nr w:=by simpa using e
    have s20:=vZ w
    generalize nr w=y at*
    refine⟨fun lz h'=>∃k:Nat,lz=[QM (k:Int)]/\k<=y.size/\(∀c∈y.data.toList.take k,c≠45)/\h'=h9,fun lz _=>match lz with | [.int _ k]=>((y.size:Int)-k).toNat | _=>0,⟨0,rfl,Qz,(fun c hc=>by simp at hc),rfl⟩,?_⟩
    rintro kk h10 ⟨k,e,hk2,hnk,rfl⟩
    cases e
    refine af (fun q=>?_) fun q=>?_
    ·have hky:k<y.size:=by omega
     obtain⟨z,hz,-⟩:=get_at hky
     have hzl:y.data.toList[k]? =some z:=by rw[Array.getElem?_toList];exact hz
     have hzk:y[Int.toNat ((k:Nat):Int)]? =some z:=by rw[Int.toNat_natCast];exact hz
     refine⟨Qz,q,z,hzk,⟨fun hz10=>⟨rfl,Y8.fr⟩,fun hz10=>⟨Qz,q,z,hzk,⟨fun _=>⟨rfl,Y8.fr⟩,fun _=>?_⟩⟩⟩⟩
     rw[wrN Qz]
     refine⟨⟨k+1,rfl,Qz,?_,rfl⟩,by dsimp only;omega⟩
     intro c hc
     rw[List.take_add_one,hzl]at hc
     rcases List.mem_append.1 hc with hc | hc
     ·exact hnk c hc
     ·rw[List.mem_singleton.1 hc]
      rintro rfl
      exact absurd hz10 QA
    ·have hke:k=y.data.toList.length:=by show k=y.size;omega
     subst hke
     rw[List.take_length]at hnk
     have ysz:y.data.toList.length=y.size:=rfl
     refine Jq (⟨#[9,60,33,45,45]⟩:ByteArray) 7 Y8 rfl (hH Y8) (by rw[List.length_append];show _+1+5<=_;omega) rfl fun A1 c1 h11 Y11=>?_
     refine Jq y 7 Y11 rfl (hH Y11) (by rw[List.length_append,List.length_append];show _+1+5+_<=_;omega) (by rw[List.length_append (bs:=(⟨#[9,60,33,45,45]⟩:ByteArray).data.toList)];rfl) fun A2 c2 h12 Y12=>?_
     refine Jq (⟨#[45,45,62,13,10]⟩:ByteArray) 7 Y12 rfl (hH Y12) (by rw[List.length_append,List.length_append,List.length_append];show _+1+5+_+5<=_;omega) (by rw[List.length_append (bs:=y.data.toList),List.length_append (bs:=(⟨#[9,60,33,45,45]⟩:ByteArray).data.toList)];rfl) fun A3 c3 h13 Y13=>?_
     have el:((((gf (msF ms) (T.take i) 0++[10]).length+(⟨#[9,60,33,45,45]⟩:ByteArray).size)+y.size)+(⟨#[45,45,62,13,10]⟩:ByteArray).size)=(gf (msF ms) (T.take i) 0++([10]++[9,60,33,45,45]++y.data.toList++[45,45,62,13,10])).length:=by
      simp only[List.length_append,ysz]
      show _+1+5+_+5=_+(1+5+_+5);omega
     rw[el,wrN Qz]
     refine fin (k:=1) (by rw[if_pos rfl,hmf]) (by rw[if_pos rfl]) (fun _=>by rw[hmf];exact hnk) ?_
     have:=Y13
     simp only[List.append_assoc]at this ⊢
     exact this
  ·rintro A2 L2 C2 n2 h14 ⟨A3,c3,e,hno,Y14⟩
   cases e
   rw[wrN Qz]
   exact⟨⟨i+1,_,_,rfl,hil,hno,Y14⟩,by dsimp only;omega⟩
 ·have hie:i=T.length:=by omega
  subst hie
  rw[List.take_length]at Y6 hnn len6 ⊢
  generalize hb:gf (msF ms) T 0=b at*
  refine⟨bI b,vR (Y6.readsS 7 rfl),?_⟩
  rw[qu]
  by_cases hbig:262144<b.length
  ·have rd:G.fL (G.mkB b) rdG bF= .no (0,23):=by
    unfold G.fL;rw[decide_eq_false (by rw[bu];omega)];rfl
   refine ao (R:=rdX gl (G.mkB b) rdG bF h6) [] (ok7 (wO gl) (Y6.ok (k:=0) (c:=Ck.glob gl) rfl) (by rw[bu];omega) (by rw[rd];simp)) QB ?_ ?_
   ·rintro v h' (⟨dc,aD,aL,aS,aW,nD,cD,nL,cL,nS,cS,nW,cW,_,_,q⟩ | ⟨f,_,_,q⟩)
    ·exact q.fr
    ·exact q
   rintro v h7 (⟨dc,aD,aL,aS,aW,nD,cD,nL,cL,nS,cS,nW,cW,e,_,_⟩ | ⟨f,e,rfl,f7⟩)
   ·rw[rd]at e;cases e
   rw[rd]at e
   obtain rfl:((0,23):G.F)=f:=by injection e
   refine⟨_,_,_,_,_,_,_,_,_,_,_,_,_,_,_,_,rfl,?_⟩
   intro h8 h9
   have f9:Fr [] h7 h9:=((((((Fr.push h7 _).hsetL (Nat.le_refl _)).hsetL (Nat.le_refl _)).hsetL (Nat.le_refl _)).hsetL (Nat.le_refl _)).hsetL (Nat.le_refl _)).hsetL (Nat.le_refl _)
   exact af (fun _=>⟨rfl,(f36.trans f7).trans f9⟩) fun q=>absurd Qz q
  have rd:=Bf (a:=a) (x:=G.mkB b) qd (by
   rw[sK,hls2,<-hb,eT]
   exact zX (msF ms) LS 0 (fun l hl=>nd l hl) fun j hj=>hnn j (by rw[eT,tp LS nd];omega)) (by rw[bu];omega) hss hws
  refine ao [] (PC (Y6.ok (k:=0) (c:=Ck.glob gl) rfl) qd (by rw[bu];omega) rd) QB (fun _ _ ⟨_,_,r⟩=>r.fr) ?_
  rintro v h7 ⟨u,rfl,Z7⟩
  have Y7:Sy h [] h7 _:=((((Y6.callV Z7 ⟨rfl,rfl,rfl,rfl,trivial⟩).turn 8 rfl To.slvw).turn 9 rfl To.slvw).turn 10 rfl To.slvw).turn 11 rfl To.slvw
  refine⟨(clD a).n,u.aE,u.nE,u.cE,(clD a).dir,u.aL,u.nL,u.cL,u.aS,u.nS,u.cS,u.aW,u.nW,u.cW,0,0,rfl,?_⟩
  intro h8 h9
  have f9:Fr [] h7 h9:=((((((Fr.push h7 _).hsetL (Nat.le_refl _)).hsetL (Nat.le_refl _)).hsetL (Nat.le_refl _)).hsetL (Nat.le_refl _)).hsetL (Nat.le_refl _)).hsetL (Nat.le_refl _)
  have Y9:=Y7.gr f9
  clear_value h9
  refine af (fun q=>absurd q Qz) fun _=>?_
  intro K2
  refine br rfl (br rfl ?_)
  refine ao (R:=fun v h'=>∃t:MDs,v=(clD a).v t/\Sy h9 [] h' [Ck.sl eP 71 t.aE t.nE t.cE (clD a).es,Ck.sl eS 9 t.aL t.nL t.cL (clD a).ls,Ck.sl eFF 68 t.aS t.nS t.cS (clD a).ss,Ck.sl eF 66 t.aW t.nW t.cW (clD a).ws]) [] ?_ QB (fun _ _ ⟨_,_,r⟩=>r.fr) ?_
  ·refine(PB (n:=a.n) (es:=a.es) (dr:=a.dir) (ls:=a.ls) (ss:=a.ss) (ws:=a.ws) (R:=fun n es dr ls ss ws=>n=(clD a).n/\es=(clD a).es/\dr=(clD a).dir/\ls=(clD a).ls/\ss=(clD a).ss/\ws=(clD a).ws) a1 a2 a3 a4 ⟨rfl,rfl,rfl,rfl,rfl,rfl⟩ h9 _ _ _ _ _ _ _ _ _ _ _ _ (Y9.pick [1,2,3,4] rfl).hp).mono ?_
   rintro v h' ⟨n,eA,eL,eC,es,dr,lA,lL,lC,ls,sA,sL,sC,ss,wA,wL,wC,ws,Y,rfl,rfl,rfl,rfl,rfl,rfl,rfl⟩
   exact⟨⟨eA,eL,eC,lA,lL,lC,sA,sL,sC,wA,wL,wC⟩,rfl,Y⟩
  rintro v h10 ⟨t,rfl,Z10⟩
  have Y10:=((((Y9.callV Z10 ⟨rfl,rfl,rfl,rfl,trivial⟩).turn 12 rfl To.slvw).turn 13 rfl To.slvw).turn 14 rfl To.slvw).turn 15 rfl To.slvw
  refine⟨(clD a).n,t.aE,t.nE,t.cE,(clD a).dir,t.aL,t.nL,t.cL,t.aS,t.nS,t.cS,t.aW,t.nW,t.cW,rfl,Z10.fr,?_⟩
  have lc:(clD a).es.length<=9223372036854775806/\(clD a).ls.length<=9223372036854775806/\(clD a).ss.length<=9223372036854775806/\(clD a).ws.length<=9223372036854775806:=by
   unfold clD;simp only[List.length_map];exact⟨Qz,Qz,Qz,Qz⟩
  refine ao [] (FH (a:=clD a) (s:=u) (t:=t) (Y10.pick [8,9,10,11,12,13,14,15] rfl).hp lc) QB (fun _ _ r=>r.2) ?_
  rintro v h11 ⟨rfl,f11⟩
  exact⟨_,rfl,Z10.fr.trans f11,rfl,(Y10.gr f11).fr⟩
end
end Go.Proofs.YtemphinmoihdaaaGreatDoor.N
namespace Go.X
open Go.ChangeShapes Go.WideShapes Go.ChangeAt Go.RowKit
theorem vo {w:World} {b o:Nat} {s:Option Nat} {v:Value} (h:w.cell? ⟨b,o,s⟩=some v):ac w.heap b o=some v:=by
 grind [Go.Proofs.cell_spot,bq]
section
variable {H:Type} {enc:TypeId × Value->H} {P:Program} {w:World} {base:Nat} {spare:Nat->Bool}
theorem rh {α:Type} (E:En α) (D:α->DataW H) {t e:TypeId} {fuel:Nat} {cs:List Value} {p:List MemPlace} {l:List α} (ht:P.underlying t=some (.slice e)) (hc:P.cellsOf e=E.sz)
  (hel:∀(n:Nat) (cs:List Value) (x:α) (p:List MemPlace),DataW.trod enc P w base spare false n e cs=some (D x,p)->cs=E.enc x)
  (hl:0<l.length) (h:DataW.trod enc P w base spare false fuel t cs=some (.slice (l.map D) [],p)):
  ∃b o c,cs=[.slice (some ⟨b,o,none⟩) l.length c]/\∀(i:Nat) (x:α),l[i]? =some x->∀(j:Nat) (v:Value),(E.enc x)[j]? =some v->ac w.heap b (o+i*E.sz+j)=some v:=by
 rcases DataW.trod_slice ht h with⟨_,hx⟩ | ⟨a,len,cap,el,rs,m,rfl,hcs,hx,_,hlc,_,hel',helem,_,_⟩
 ·cases hx
 have e0:=congrArg Prod.fst hx
 simp only[DataW.slice.injEq]at e0
 obtain⟨eE,_⟩:=e0
 have hlen:len=l.length:=by
  have:=congrArg List.length eE
  grind
 have ac:∀(i:Nat) (x:α),l[i]? =some x->∀(j:Nat) (v:Value),(E.enc x)[j]? =some v->w.cell? ((a.add (i*E.sz)).add j)=some v:=by
  intro i x hi j v hv
  have hil:i<l.length:=(List.getElem?_eq_some_iff.1 hi).1
  have h1:=helem i Qz
  rw[hc]at h1
  obtain⟨b,hb⟩:∃b,el[i]? =some b:=⟨el[i]' Qz,List.getElem?_eq_getElem Qz⟩
  rw[hb]at h1
  obtain⟨ce,hce,hte⟩:=Option.bind_eq_some_iff.1 h1
  have hb1:b.1=D x:=by
   have:=congrArg (·[i]?) eE
   grind
  obtain⟨b1,b2⟩:=b
  simp only at hb1;subst hb1
  have:=hel _ _ _ _ hte
  subst this
  have hj:j<E.sz:=by
   have:=(List.getElem?_eq_some_iff.1 hv).1
   rwa[E.len]at this
  rw[<-hv]
  exact(World.cells?_some hce).2.2 j hj
 obtain⟨R,o,sR⟩:=a
 have hs:sR=none:=by
  obtain⟨x,hx0⟩:∃x,l[0]? =some x:=⟨l[0]'hl,List.getElem?_eq_getElem hl⟩
  have hp:0<(E.enc x).length:=by rw[E.len];exact E.pos
  have h00:=ac 0 x hx0 0 _ (List.getElem?_eq_getElem hp)
  grind [Addr.add,Go.Proofs.cell_spot]
 subst hs
 refine⟨R,o,cap,by rw[hcs,hlen],fun i x hi j v hv=>?_⟩
 grind [dh,vo]
theorem rj {α:Type} (E:En α) (D:α->DataW H) {t e:TypeId} {n fuel:Nat} {cs:List Value} {p:List MemPlace} {l:List α} (ht:P.underlying t=some (.array n e)) (hc:P.cellsOf e=E.sz)
  (hel:∀(n:Nat) (cs:List Value) (x:α) (p:List MemPlace),DataW.trod enc P w base spare false n e cs=some (D x,p)->cs=E.enc x)
  (h:DataW.trod enc P w base spare false fuel t cs=some (.agg (l.map D),p)):
  ∀(i:Nat) (x:α),l[i]? =some x->∀(j:Nat) (v:Value),(E.enc x)[j]? =some v->cs[i*E.sz+j]? =some v:=by
 intro i x hi j v hv
 obtain⟨xs,m,rfl,hx,hl,hxl,hall⟩:=DataW.trod_array ht h
 have e0:=congrArg Prod.fst hx
 simp only[DataW.agg.injEq]at e0
 have hn:n=l.length:=by
  have:=congrArg List.length e0
  grind
 have hil:i<l.length:=(List.getElem?_eq_some_iff.1 hi).1
 have h1:=hall i Qz
 obtain⟨b,hb⟩:∃b,xs[i]? =some b:=⟨xs[i]' Qz,List.getElem?_eq_getElem Qz⟩
 rw[hb,hc]at h1
 have hb1:b.1=D x:=by
  have:=congrArg (·[i]?) e0
  grind
 grind
theorem jZ {k:IntKind} {e:TypeId} (he:P.underlying e=some (.int k)) (n:Nat) (cs:List Value) (x:Int) (p:List MemPlace) (h:DataW.trod enc P w base spare false n e cs=some (.lit (.int k x),p)):cs=(eK k).enc x:=by
 obtain⟨m,rfl,hm,_⟩:=DataW.trod_int he h
 cases hm;rfl
theorem BF {k:FloatKind} {e:TypeId} (he:P.underlying e=some (.float k)) (n:Nat) (cs:List Value) (x:Nat) (p:List MemPlace) (h:DataW.trod enc P w base spare false n e cs=some (.lit (.float k x),p)):cs=[.float k x]:=by
 cases n with
 | zero=>simp[DataW.trod]at h
 | succ m=>
  unfold DataW.trod at h
  rw[he]at h
  split at h<;>simp_all
theorem H6 {e:TypeId} (he:P.underlying e=some .string) (n:Nat) (cs:List Value) (x:QS) (p:List MemPlace) (h:DataW.trod enc P w base spare false n e cs=some (.lit (.string x),p)):cs=[.string ⟨x.toArray⟩]:=by
 obtain⟨m,rfl,hm,_⟩:=DataW.trod_string he h
 cases hm;rfl
theorem Ez {e:TypeId} (he:P.underlying e=some .bool) (n:Nat) (cs:List Value) (x:Bool) (p:List MemPlace) (h:DataW.trod enc P w base spare false n e cs=some (.lit (.bool x),p)):cs=[.bool x]:=by
 grind [DataW.trod_bool]
theorem oX {t:TypeId} {fs:Array Field} {ds:List (DataW H)} {n:Nat} {cs:List Value} {p:List MemPlace} (ht:P.underlying t=some (.struct fs)) (h:DataW.trod enc P w base spare false n t cs=some (.agg ds,p)):
  cs.length=P.cellsOf t/\∀(i:Nat) (f:Field),fs[i]? =some f->f.offset=i->P.cellsOf f.type=1->∃m d q,ds[i]? =some d/\DataW.trod enc P w base spare false m f.type ((cs.drop i).take 1)=some (d,q):=by
 obtain⟨xs,m,rfl,hx,hl,hxl,hall⟩:=DataW.trod_struct ht h
 grind
end
theorem at_one {l:List Value} {i:Nat} {v:Value} (h:(l.drop i).take 1=[v]):l[i]? =some v:=by
 have:=congrArg (·[0]?) h
 grind
theorem EA {l:List Value} {a b:Value} (hl:l.length=2) (h0:l[0]? =some a) (h1:l[1]? =some b):l=[a,b]:=by
 match l,hl with
 | [x,y],_=>grind
theorem kB {H:Type} {enc:TypeId × Value->H} {a:Assume} {C:Checked} {os:Os} {f:FuncId} {fn:Func} {s:ChangeSpec} {conds:List PathCond} {apart fresh handsOn again:Bool} {X:World->Array Value->Prop}
  (hX:∀(w w':World) (args:Array Value),w.heap=w'.heap->X w args->X w' args)
  (own:ownKnob C.prog.godebug=none) (started:os.Started) (noInit:C.prog.inits.idxOf? f=none) (hfn:C.prog.funcs[f]? =some fn)
  (witness:∃(w:World) (tape:Tape) (i:Input),w.os=os/\(w.forCall tape i).Shaped C.prog/\i.vars=[]/\Input.okWide C.prog (w.forCall tape i) .any w.heap.size f i/\
   ((s.pre enc C.prog fn conds apart (w.forCall tape i).memory i.args/\X (w.forCall tape i).memory i.args)/\sizedMet enc C.prog fn (OpenSpec.ofChange s) apart (w.forCall tape i).memory i.args)/\a.holds C.prog (lone (Frame.enter C.prog f i.args .normal) [] (w.forCall tape i)))
  (contract:∀(W:World) (base:Nat) (args:Array Value) (ds gs:List (DataW H)) (before:List MemPlace),
   (∀(j:Nat) t v,fn.params[j]? =some t->args[j]? =some v->Value.okWide C.prog W .any base t v)->
   DataW.Whole enc C.prog fn.params.toList s.vars apart W args.toList ds gs before->
   X W args->W.ShapedOpen C.prog->
   Calls C.prog f args W fun e W'=>∃v,e= .returned v/\s.post enc C.prog fn apart fresh handsOn again W args v W'):
  ReturnsInHanded a C os f .any (fun w args=>(s.pre enc C.prog fn conds apart w args/\X w args)/\sizedMet enc C.prog fn (OpenSpec.ofChange s) apart w args) (s.post enc C.prog fn apart fresh handsOn again):=by
 refine returnsInHanded_of_calls own started noInit witness ?_
 intro w tape i _ hsh _ hok hpre hholds
 obtain⟨_,_,_,fn',hfn',_,_,_,_,hval⟩:=hok
 have e:fn'=fn:=Option.some.inj (hfn'.symm.trans hfn)
 subst e
 obtain⟨⟨⟨ds,gs,before,hw,hc⟩,hx⟩,hz⟩:=hpre
 have hw':=DataW.Whole.of_heap (w':=w.forCall tape i) QE hw
 refine(contract (w.forCall tape i) w.heap.size i.args ds gs before hval hw' (hX _ _ _ QE hx) hsh).mono fun e W' ⟨v,he,hp⟩=>?_
 grind [ChangeSpec.post_blind]
end Go.X
namespace Go.Proofs.YtemphinmoihdaaaGreatDoor.N
open Go.X Go.Lib
set_option maxRecDepth 100000
def dF (x:Nat):DataW Unit:=.lit (.float .f64 x)
def dU (x:Int):DataW Unit:=.lit (.int .u64 x)
def dI (x:Int):DataW Unit:=.lit (.int .i64 x)
def dR (x:Nat × Nat):DataW Unit:=.agg [.lit (.int .u64 x.1),.lit (.int .u64 x.2)]
def O1 (x:Nat × QS):DataW Unit:=.agg [.lit (.int .i64 x.1),.lit (.string x.2)]
def eR2 :En (Nat × Nat):=⟨2,fun x=>[.int .u64 x.1,.int .u64 x.2],QA,fun _=>rfl,fun x v h=>by simp at h;rcases h with rfl | rfl<;>rfl⟩
def eC2 :En (Nat × QS):=⟨2,fun x=>[.int .i64 x.1,.string ⟨x.2.toArray⟩],QA,fun _=>rfl,fun x v h=>by simp at h;rcases h with rfl | rfl<;>rfl⟩
theorem isU :(Rows.laid_internal_strconv_uint64pow10:DataW Unit)= .agg (tU.map dU):=by kernel_rfl
theorem isP :(Rows.laid_internal_strconv_powtab:DataW Unit)= .slice (tP.map dI) []:=by kernel_rfl
theorem isF :(Rows.laid_internal_strconv_float64pow10:DataW Unit)= .slice (tF.map dF) []:=by kernel_rfl
theorem isT :Rows.laid_internal_strconv_pow10Tab= .agg (Go.Pinned.pow10Rows.map dR):=rfl
theorem isL :Rows.laid_internal_strconv_leftcheats= .slice (Go.Pinned.cheatRows.map O1) []:=rfl
theorem Qr :0<Go.Pinned.cheatRows.length:=by decide+kernel
theorem Jf :∀(l:List (Nat × Nat)) (i:Nat) (v:Int),(l.flatMap fun x=>[(x.1:Int),(x.2:Int)])[i]? =some v->∃x,l[i/2]? =some x/\(eR2.enc x)[i % 2]? =some (.int .u64 v)
 | [],i,v,h=>by simp at h
 | x::l,0,v,h=>by simp at h;subst h;exact⟨x,rfl,rfl⟩
 | x::l,1,v,h=>by simp at h;subst h;exact⟨x,rfl,rfl⟩
 | x::l,i+2,v,h=>by
  simp only[List.flatMap_cons,List.cons_append,List.nil_append,List.getElem?_cons_succ]at h
  obtain⟨y,h1,h2⟩:=Jf l i v h
  grind
section
variable {W:World}
theorem iq {n:String} {g:Nat} {t:TypeId} {d:DataW Unit} (hn:Tryz.prog.globalNamed n=some g) (ht:(Tryz.prog.globals[g]?).map (·.type)=some t) (h:VarReads Tryz.prog W n d):
  ∃cs fuel p,DataW.trod (fun _=>()) Tryz.prog W 0 (fun _=>true) false fuel t cs=some (d,p)/\∀(i:Nat) (v:Value),cs[i]? =some v->ac W.heap g i=some v:=by
 obtain⟨g',t',cs,fuel,p,h1,h2,h3,h4⟩:=h
 obtain rfl:=Option.some.inj (hn.symm.trans h1)
 obtain rfl:=Option.some.inj (ht.symm.trans h2)
 refine⟨cs.toList,fuel,p,h4,fun i v hi=>vo (s:=none) ?_⟩
 rw[World.var?_cell hn h3 i,<-Array.getElem?_toList];exact hi
theorem O2 (h:VarReads Tryz.prog W "internal/strconv.uint64pow10" (.agg (tU.map dU))):∃e f,W.heap[3]? =some (.cells (tU.map fun z=>Value.int .u64 z).toArray e f):=by
 obtain⟨g',t',cs,fuel,p,h1,h2,h3,h4⟩:=h
 obtain rfl:=Option.some.inj ((show Tryz.prog.globalNamed "internal/strconv.uint64pow10" =some 3 by kernel_rfl).symm.trans h1)
 obtain rfl:=Option.some.inj ((show(Tryz.prog.globals[3]?).map (·.type)=some 208 by kernel_rfl).symm.trans h2)
 have u6:=rj (eK .u64) dU Tryz.underlying208 QC (jZ QC) h4
 obtain⟨xs,m,_,_,hl,_⟩:=DataW.trod_array Tryz.underlying208 h4
 have hl:cs.toList.length=20:=hl.trans QC
 have e:cs.toList=tU.map fun z=>Value.int .u64 z:=by
  apply List.ext_getElem?
  intro i
  by_cases hi:i<20
  ·obtain⟨z,hz⟩:∃z,tU[i]? =some z:=⟨tU[i]'hi,List.getElem?_eq_getElem _⟩
   have:=u6 i z hz 0 _ rfl
   rw[show i*(eK IntKind.u64).sz+0=i from Nat.mul_one i]at this
   grind
  grind [List.length_map]
 unfold World.var? at h3
 rw[h1,Option.bind_some]at h3
 split at h3
 ·rename_i c el fr hh
  obtain rfl:=Option.some.inj h3
  refine⟨el,fr,hh.trans ?_⟩
  have e2:c=(tU.map fun z=>Value.int .u64 z).toArray:=by rw[<-e]
  rw[e2]
 ·cases h3
theorem Qt (h:laidMetH Tryz.prog Rows.graphmlNotesRow.laid W) (hS:W.ShapedOpen Tryz.prog):∃gl,Gl gl W.heap:=by
 rw[MakeChecks.laidMetH_plain _ _ _ QC]at h
 have r:∀{n d},(n,d)∈Rows.graphmlNotesRow.laid->VarReads Tryz.prog W n d:=fun hm=>laidMet.reads h hm
 obtain⟨c3,f3,p3,t3,k3⟩:=iq (g:=2) (t:=4) QC QC (r (n:= "internal/strconv.optimize") (d:=Rows.laid_internal_strconv_optimize) (by simp[Rows.graphmlNotesRow]))
 obtain⟨c5,f5,p5,t5,k5⟩:=iq (g:=13) (t:=303) QC QC (r (n:= "internal/strconv.float64info") (d:=Rows.laid_internal_strconv_float64info) (by simp[Rows.graphmlNotesRow]))
 obtain⟨c6,f6,p6,t6,k6⟩:=iq (g:=3) (t:=208) QC QC (r (n:= "internal/strconv.uint64pow10") (d:=Rows.laid_internal_strconv_uint64pow10) (by simp[Rows.graphmlNotesRow]))
 obtain⟨c9,f9,p9,t9,k9⟩:=iq (g:=15) (t:=260) QC QC (r (n:= "internal/strconv.powtab") (d:=Rows.laid_internal_strconv_powtab) (by simp[Rows.graphmlNotesRow]))
 obtain⟨c10,f10,p10,t10,k10⟩:=iq (g:=16) (t:=27) QC QC (r (n:= "internal/strconv.float64pow10") (d:=Rows.laid_internal_strconv_float64pow10) (by simp[Rows.graphmlNotesRow]))
 obtain⟨c11,f11,p11,t11,k11⟩:=iq (g:=4) (t:=266) QC QC (r (n:= "internal/strconv.pow10Tab") (d:=Rows.laid_internal_strconv_pow10Tab) (by simp[Rows.graphmlNotesRow]))
 obtain⟨c12,f12,p12,t12,k12⟩:=iq (g:=5) (t:=271) QC QC (r (n:= "internal/strconv.leftcheats") (d:=Rows.laid_internal_strconv_leftcheats) (by simp[Rows.graphmlNotesRow]))
 obtain⟨c1,f1,p1,t1,k1⟩:=iq (g:=8) (t:=75) QC QC (r (n:= "strconv.ErrSyntax") (d:=Rows.laid_strconv_ErrSyntax) (by simp[Rows.graphmlNotesRow]))
 obtain⟨c2,f2,p2,t2,k2⟩:=iq (g:=9) (t:=75) QC QC (r (n:= "strconv.ErrRange") (d:=Rows.laid_strconv_ErrRange) (by simp[Rows.graphmlNotesRow]))
 have uu:=O2 (by have:=r (n:= "internal/strconv.uint64pow10") (d:=Rows.laid_internal_strconv_uint64pow10) (by simp[Rows.graphmlNotesRow]);rwa[isU]at this)
 obtain⟨m1,hm1⟩:=cell_of_shapedOpen_int (g:=1) (t:=3) (k:=.i64) hS (of_decide_eq_true QC) (zero:=#[.int .i64 0]) QC rfl QC QC QC
 clear h r
 rw[isU]at t6
 rw[isP]at t9
 rw[isF]at t10
 rw[isT]at t11
 rw[isL]at t12
 have u6:=rj (eK .u64) dU Tryz.underlying208 QC (jZ QC) t6
 obtain⟨pb,po,pc,rfl,u9⟩:=rh (eK .i64) dI Tryz.underlying260 QC (jZ QC) QA t9
 obtain⟨fb,fo,fc,rfl,u10⟩:=rh (⟨1,fun x=>[.float .f64 x],QA,fun _=>rfl,fun x v h=>by simp at h;subst h;rfl⟩:En Nat) dF Tryz.underlying27 QC (BF QC) QA t10
 have u11:=rj eR2 dR Tryz.underlying266 QC (fun n cs x p q=>by
  obtain⟨hl,ha⟩:=oX Tryz.underlying265 q
  obtain⟨m0,d0,q0,e0,h0⟩:=ha 0 _ rfl rfl QC
  obtain⟨m1,d1,q1,e1,h1⟩:=ha 1 _ rfl rfl QC
  cases e0;cases e1
  exact EA hl (at_one (jZ Tryz.underlying93 _ _ _ _ h0)) (at_one (jZ Tryz.underlying93 _ _ _ _ h1))) t11
 obtain⟨lb,lo,lc,rfl,u12⟩:=rh eC2 O1 Tryz.underlying271 QC (fun n cs x p q=>by
  obtain⟨hl,ha⟩:=oX Tryz.underlying270 q
  obtain⟨m0,d0,q0,e0,h0⟩:=ha 0 _ rfl rfl QC
  obtain⟨m1,d1,q1,e1,h1⟩:=ha 1 _ rfl rfl QC
  cases e0;cases e1
  exact EA hl (at_one (jZ Tryz.underlying3 _ _ _ _ h0)) (at_one (H6 Tryz.underlying9 _ _ _ _ h1))) Qr t12
 obtain⟨_,ha⟩:=oX Tryz.underlying303 t5
 have s5:∀(i:Nat) (f:Field) (k:IntKind) (x:Int),#[{name:= "mantbits",type:=97,offset:=0,embedded:=false,tag:= "",pkgPath:= "internal/strconv",byteOffset:=0},{name:= "expbits",type:=97,offset:=1,embedded:=false,tag:= "",pkgPath:= "internal/strconv",byteOffset:=8},{name:= "bias",type:=3,offset:=2,embedded:=false,tag:= "",pkgPath:= "internal/strconv",byteOffset:=16}][i]? =some f->f.offset=i->Tryz.prog.cellsOf f.type=1->
   Tryz.prog.underlying f.type=some (.int k)->([.lit (.int .u64 52),.lit (.int .u64 11),.lit (.int .i64 (-1023))]:List (DataW Unit))[i]? =some (.lit (.int k x))->ac W.heap 13 i=some (.int k x):=fun i f k x hf ho hc hu hx=>by
  obtain⟨m,d,q,e,h⟩:=ha i f hf ho hc
  obtain rfl:=Option.some.inj (hx.symm.trans e)
  exact k5 i _ (at_one (jZ hu _ _ _ _ h))
 have ifc:∀{g f p cs} {d:DataW Unit} {s:String},DataW.trod (fun _=>()) Tryz.prog W 0 (fun _=>true) false f 75 cs=some (.iface s d,p)->(∀(i:Nat) (v:Value),cs[i]? =some v->ac W.heap g i=some v)->∃t v,ac W.heap g 0=some (.iface t v):=by
  intro g f p cs d s h k
  cases f with
  | zero=>simp[DataW.trod]at h
  | succ m=>
   unfold DataW.trod at h
   rw[Tryz.underlying75]at h
   split at h<;>simp_all
 refine⟨⟨pb,po,pc,fb,fo,fc,lb,lo,lc⟩,?_⟩
 exact{
  opt:=k3 0 _ (by rw[Ez Tryz.underlying4 _ _ _ _ t3];rfl)
  i0:=s5 0 _ _ _ rfl rfl QC Tryz.underlying97 rfl
  i1:=s5 1 _ _ _ rfl rfl QC Tryz.underlying97 rfl
  i2:=s5 2 _ _ _ rfl rfl QC Tryz.underlying3 rfl
  u:=fun i v hv=>by rw[Nat.zero_add];exact k6 i _ (by have:=u6 i v hv 0 _ rfl;rwa[show i*(eK IntKind.u64).sz+0=i from Nat.mul_one i]at this)
  t:=fun i v hv=>by
   rw[Nat.zero_add]
   obtain⟨x,hx,hv2⟩:=Jf _ _ _ hv
   have:=u11 _ _ hx _ _ hv2
   rw[show i/2*eR2.sz+i % 2=i from Nat.div_add_mod' i 2]at this
   exact k11 i _ this
  p0:=k9 0 _ rfl
  p:=fun i v hv=>by have:=u9 i v hv 0 _ rfl;rwa[show po+i*(eK IntKind.i64).sz+0=po+i by show po+i*1+0=po+i;omega]at this
  f0:=k10 0 _ rfl
  f:=fun i v hv=>by have:=u10 i v hv 0 _ rfl;rwa[show fo+i*1+0=fo+i by omega]at this
  l0:=k12 0 _ rfl
  l:=fun i v hv=>by
   obtain⟨x,hx,rfl⟩:∃x,Go.Pinned.cheatRows[i]? =some x/\v=((x.1:Int),(⟨x.2.toArray⟩:ByteArray)):=by
    unfold tL at hv
    rw[List.getElem?_map]at hv
    obtain⟨x,h1,h2⟩:=Option.map_eq_some_iff.1 hv
    exact⟨x,h1,h2.symm⟩
   have a0:=u12 i x hx 0 _ rfl
   have a1:=u12 i x hx 1 _ rfl
   exact⟨a0,a1⟩
  uu:=uu
  ml:=⟨m1,vo hm1⟩
  e1:=ifc t1 k1
  e2:=ifc t2 k2}
theorem met (os:Os) (args:Array Value):laidMetH Tryz.prog Rows.graphmlNotesRow.laid ((World.laidAll Tryz.prog os Rows.graphmlNotesRow.laid).forCall (fun _ _=>0) ⟨#[],args,[]⟩).memory:=by
 rw[MakeChecks.laidMetH_plain _ _ _ QC]
 exact laidMet_laidAll _ QC QC
end
end Go.Proofs.YtemphinmoihdaaaGreatDoor.N
namespace Go.X
open Go.ChangeShapes Go.WideShapes Go.ChangeAt Go.RowKit
open Go.Deep
theorem ym {P:Program} {f:FuncId} {args:Array Value} {v:Value} {W:World} (c:ae P f args W.heap fun v' h'=>Fr [] W.heap h'/\v'=v):
  Calls P f args W fun e w'=>e= .returned v/\Below W.heap.size W w':=
 (c W rfl).mono fun e w' ⟨u,h1,h2,h3,h4⟩=>⟨by rw[h1,h4],⟨h2.os,h2.tape,h2.output,h3.size,fun k hk=>h3.blk k hk QB⟩⟩
theorem AX {P:Program} {w:World} {r:Reach} {base:Nat} {t e:TypeId} {a:Addr} {len cap:Nat} (ht:P.underlying t=some (.slice e)) (h:Cell.okWide P w r base t (.slice (some a) len cap)):a.spot=none:=by
 simp only[Cell.okWide,ht,Cell.ok]at h
 exact h.2.2.2.1
theorem B4 {P:Program} {w:World} {r:Reach} {base:Nat} {t e:TypeId} {a:Addr} {len cap:Nat} (ht:P.underlying t=some (.slice e)) (h:Value.okWide P w r base t (.slice (some a) len cap)):a.spot=none:=by
 simp only[Value.okWide,ht]at h
 exact AX ht h
section
variable {H:Type} {enc:TypeId × Value->H} {P:Program} {W:World} {base:Nat}
theorem IB {α:Type} [Inhabited α] (E:En α) {t e:TypeId} {a:QR} {len cap:Nat} {d:DataW H} {p:List MemPlace} (ht:P.underlying t=some (.slice e)) (hc:P.cellsOf e=E.sz)
  (hs:∀x,a=some x->x.spot=none)
  (hel:∀(n:Nat) (cs:List Value) (y:DataW H × List MemPlace),DataW.trod enc P W base (fun _=>true) true n e cs=some y->∃x:α,cs=E.enc x)
  (h:DataW.Trod enc P W base (fun _=>true) true t (.slice a len cap) d p):∃xs:List α,(Ck.vw E a len cap xs).ok W.heap/\(xs.length=0\/∃el sp,d= .slice el sp/\el.length=xs.length):=by
 obtain⟨fuel,hf⟩:=h
 have hcs0:(Value.slice a len cap).cells.toList=[.slice a len cap]:=rfl
 rw[hcs0]at hf
 rcases open_slice ht hf with⟨hcs,_⟩ | ⟨x,l,c,m,n,D,Pl,hcs,_,hl,hm,hmm,hd,hx⟩
 ·simp at hcs
  obtain⟨rfl,rfl,rfl⟩:=hcs
  exact⟨[],⟨⟨by simp[En.l],.inl ⟨rfl,rfl⟩⟩,rfl,Nat.le_refl _,fun _=>rfl⟩,.inl rfl⟩
 ·simp at hcs
  obtain⟨rfl,rfl,rfl⟩:=hcs
  simp only[if_true]at hmm
  subst hmm
  have hsp:=hs x rfl
  obtain⟨b,o,sp⟩:=x
  simp only at hsp
  subst hsp
  obtain⟨V,hV⟩:=choose_lt (α:=α) (p:=fun i v=>W.cells? base ((⟨b,o,none⟩:Addr).add (i*P.cellsOf e)) (P.cellsOf e)=some (E.enc v)) (fun i hi=>by
   obtain⟨cs',h1,h2⟩:=hx i hi
   obtain⟨v,rfl⟩:=hel _ _ _ h2
   exact⟨v,h1⟩)
  refine⟨(List.range len).map V,⟨⟨by rw[En.l_len];simp,.inr ⟨b,o,rfl,fun j v hj=>?_⟩⟩,QB,hl,fun q=>by cases q⟩,.inr ⟨_,_,congrArg Prod.fst hd,QB⟩⟩
  have hjl:j<len*E.sz:=by
   have:=(List.getElem?_eq_some_iff.1 hj).1
   rw[En.l_len]at this;simpa using this
  have hi:j/E.sz<len:=Nat.div_lt_of_lt_mul (by rw[Nat.mul_comm];exact hjl)
  have ht2:j % E.sz<E.sz:=Nat.mod_lt _ E.pos
  have ej:j/E.sz*E.sz+j % E.sz=j:=Nat.div_add_mod' j E.sz
  have g1:((List.range len).map V)[j/E.sz]? =some (V (j/E.sz)):=by simp[hi]
  have hlen:j % E.sz<(E.enc (V (j/E.sz))).length:=by rw[E.len];exact ht2
  have g2:=En.l_get g1 (List.getElem?_eq_getElem hlen)
  rw[ej,hj]at g2
  obtain rfl:=Option.some.inj g2
  have g3:=(World.cells?_some (hV (j/E.sz) Qz)).2.2 (j % E.sz) (by rw[hc];exact ht2)
  rw[Go.Deep.add_add,hc,ej,List.getElem?_eq_getElem hlen]at g3
  rw[<-g3]
  rw[show(⟨b,o,none⟩:Addr).add j=⟨b,o+j,none⟩from dh _ _ _,bq]
theorem IC {n:Nat} {t e:TypeId} {cs:List Value} {y:DataW H × List MemPlace} (ht:P.underlying t=some (.array 2 e)) (he:P.underlying e=some (.int .i64)) (h1:P.cellsOf t=2) (h2:P.cellsOf e=1) (h:DataW.trod enc P W base (fun _=>true) true n t cs=some y):∃x:Int × Int,cs=eP.enc x:=by
 obtain⟨xs,m,_,_,hl,hxl,hx⟩:=DataW.trod_array ht h
 rw[h1]at hl
 match cs,hl with
 | [c0,c1],_=>
  match xs,hxl with
  | [y0,y1],_=>
   have q0:=hx 0 Qz
   have q1:=hx 1 Qz
   rw[h2]at q0 q1
   simp at q0 q1
   obtain⟨a,ha,_⟩:=DataW.trod_int he q0
   obtain⟨b,hb,_⟩:=DataW.trod_int he q1
   simp at ha hb
   exact⟨(a,b),by simp[eP,ha,hb]⟩
end
theorem Fq {cs:List Ck} (h:aF cs=[]) {k:Nat} {d:Ck} (hd:cs[k]? =some d):∀b,b∉d.own:=fun b hb=>by
 have:b∈aF cs:=List.mem_flatMap.2 ⟨d,List.mem_of_getElem? hd,hb⟩
 rw[h]at this;simp at this
theorem Hp.vw {h:ab} {c:Ck} {cs:List Ck} (hc:c.ok h) (ho:c.own=[]) (H:Hp h cs) (hn:aF cs=[]):Hp h (c::cs):=
 Hp.view hc ho H fun _ _ hd b hb=>absurd hb (Fq hn hd b)
section
variable {H:Type} {enc:TypeId × Value->H} {P:Program} {W:World} {base:Nat}
end
end Go.X
namespace Go.Proofs.YtemphinmoihdaaaGreatDoor
end Go.Proofs.YtemphinmoihdaaaGreatDoor
namespace Go.X
open Go.ChangeShapes Go.WideShapes Go.ChangeAt Go.RowKit Go.Deep
section
variable {H:Type} {enc:TypeId × Value->H} {P:Program} {W:World} {base:Nat}
theorem rB {α:Type} [Inhabited α] (Q:α->DataW H->Prop) (E:En α) {t e:TypeId} {a:QR} {len cap:Nat} {d:DataW H} {p:List MemPlace} (ht:P.underlying t=some (.slice e)) (hc:P.cellsOf e=E.sz)
  (hs:∀x,a=some x->x.spot=none)
  (hel:∀(n:Nat) (cs:List Value) (y:DataW H × List MemPlace),DataW.trod enc P W base (fun _=>true) true n e cs=some y->∃x:α,cs=E.enc x/\Q x y.1)
  (h:DataW.Trod enc P W base (fun _=>true) true t (.slice a len cap) d p):∃xs:List α,(Ck.vw E a len cap xs).ok W.heap/\(xs.length=0\/∃el sp,d= .slice el sp/\el.length=xs.length/\∀(i:Nat) (x:α),xs[i]? =some x->∃dd,el[i]? =some dd/\Q x dd):=by
 obtain⟨fuel,hf⟩:=h
 have hcs0:(Value.slice a len cap).cells.toList=[.slice a len cap]:=rfl
 rw[hcs0]at hf
 rcases open_slice ht hf with⟨hcs,_⟩ | ⟨x,l,c,m,n,D,Pl,hcs,_,hl,hm,hmm,hd,hx⟩
 ·simp at hcs
  obtain⟨rfl,rfl,rfl⟩:=hcs
  exact⟨[],⟨⟨by simp[En.l],.inl ⟨rfl,rfl⟩⟩,rfl,Nat.le_refl _,fun _=>rfl⟩,.inl rfl⟩
 ·simp at hcs
  obtain⟨rfl,rfl,rfl⟩:=hcs
  simp only[if_true]at hmm
  subst hmm
  have hsp:=hs x rfl
  obtain⟨b,o,sp⟩:=x
  simp only at hsp
  subst hsp
  obtain⟨V,hV⟩:=choose_lt (α:=α) (p:=fun i v=>W.cells? base ((⟨b,o,none⟩:Addr).add (i*P.cellsOf e)) (P.cellsOf e)=some (E.enc v)/\Q v (D i)) (fun i hi=>by
   obtain⟨cs',h1,h2⟩:=hx i hi
   obtain⟨v,rfl,hq⟩:=hel _ _ _ h2
   exact⟨v,h1,hq⟩)
  refine⟨(List.range len).map V,⟨⟨by rw[En.l_len];simp,.inr ⟨b,o,rfl,fun j v hj=>?_⟩⟩,QB,hl,fun q=>by cases q⟩,.inr ⟨_,_,congrArg Prod.fst hd,QB,fun i x hi=>?_⟩⟩
  rotate_left
  ·have hil:i<len:=by have:=(List.getElem?_eq_some_iff.1 hi).1;simpa using this
   have e1:x=V i:=by simp[hil]at hi;exact hi.symm
   subst e1
   exact⟨D i,by simp[hil],(hV i Qz).2⟩
  have hjl:j<len*E.sz:=by
   have:=(List.getElem?_eq_some_iff.1 hj).1
   rw[En.l_len]at this;simpa using this
  have hi:j/E.sz<len:=Nat.div_lt_of_lt_mul (by rw[Nat.mul_comm];exact hjl)
  have ht2:j % E.sz<E.sz:=Nat.mod_lt _ E.pos
  have ej:j/E.sz*E.sz+j % E.sz=j:=Nat.div_add_mod' j E.sz
  have g1:((List.range len).map V)[j/E.sz]? =some (V (j/E.sz)):=by simp[hi]
  have hlen:j % E.sz<(E.enc (V (j/E.sz))).length:=by rw[E.len];exact ht2
  have g2:=En.l_get g1 (List.getElem?_eq_getElem hlen)
  rw[ej,hj]at g2
  obtain rfl:=Option.some.inj g2
  have g3:=(World.cells?_some (hV (j/E.sz) Qz).1).2.2 (j % E.sz) (by rw[hc];exact ht2)
  rw[Go.Deep.add_add,hc,ej,List.getElem?_eq_getElem hlen]at g3
  rw[<-g3]
  rw[show(⟨b,o,none⟩:Addr).add j=⟨b,o+j,none⟩from dh _ _ _,bq]
theorem rE {t e:TypeId} {a:QR} {len cap:Nat} {d:DataW H} {p:List MemPlace} (ht:P.underlying t=some (.slice e)) (he:P.underlying e=some .string) (hc:P.cellsOf e=1)
  (hs:∀x,a=some x->x.spot=none) (h:DataW.Trod enc P W base (fun _=>true) true t (.slice a len cap) d p):
  ∃xs:List ByteArray,(Ck.vw eS a len cap xs).ok W.heap/\∀x∈xs,x.size<=9223372036854775807:=by
 obtain⟨xs,h1,h2⟩:=rB (fun x dd=>x.size<=9223372036854775807) eS (enc:=enc) (base:=base) ht hc hs (fun n cs y q=>by
  obtain⟨m,rfl,h1,h2⟩:=DataW.trod_string he q
  exact⟨m,rfl,h2⟩) h
 refine⟨xs,h1,fun x hx=>?_⟩
 rcases h2 with h2 | ⟨el,sp,_,_,h3⟩
 ·rw[List.eq_nil_of_length_eq_zero h2]at hx;cases hx
 ·obtain⟨i,hi,rfl⟩:=List.mem_iff_getElem.1 hx
  obtain⟨dd,_,h4⟩:=h3 i xs[i] (List.getElem?_eq_getElem hi)
  exact h4
end
end Go.X
namespace Go.Proofs.YtemphinmoihdaaaGreatDoor
set_option maxRecDepth 100000
def blank :Char:=Char.ofNat 32
theorem Et (r:List Char):wordsSigns (blank::r)=[]::wordsSigns r:=rfl
theorem HU {c:Char} (hc:c≠blank) {r w:List Char} {ws:List (List Char)} (h:wordsSigns r=w::ws):wordsSigns (c::r)=(c::w)::ws:=by
 rw[wordsSigns]
 ·rw[h]
 ·exact hc
theorem qj :∀(w r:List Char),w.all (fun c=>c != blank)=true->wordsSigns (w++blank::r)=w::wordsSigns r
 | [],r,_=>Et r
 | c::w,r,h=>by
  simp only[List.all_cons,Bool.and_eq_true]at h
  exact HU (by simpa using h.1) (qj w r h.2)
def ue :List Char:=[Char.ofNat 104,Char.ofNat 97,Char.ofNat 114,Char.ofNat 110,Char.ofNat 101,Char.ofNat 115,Char.ofNat 115]
def uf :List Char:=[Char.ofNat 55,Char.ofNat 53,Char.ofNat 51,Char.ofNat 97,Char.ofNat 97,Char.ofNat 100,Char.ofNat 99,Char.ofNat 54,Char.ofNat 53,Char.ofNat 50,Char.ofNat 101,Char.ofNat 51,Char.ofNat 55,Char.ofNat 53,Char.ofNat 53,Char.ofNat 49,Char.ofNat 48,Char.ofNat 52,Char.ofNat 55,Char.ofNat 101,Char.ofNat 51,Char.ofNat 99,Char.ofNat 102,Char.ofNat 52,Char.ofNat 97,Char.ofNat 99,Char.ofNat 99,Char.ofNat 52,Char.ofNat 55,Char.ofNat 100,Char.ofNat 51,Char.ofNat 97,Char.ofNat 55,Char.ofNat 56,Char.ofNat 97,Char.ofNat 53,Char.ofNat 51,Char.ofNat 102,Char.ofNat 100,Char.ofNat 97,Char.ofNat 53,Char.ofNat 56,Char.ofNat 53,Char.ofNat 100,Char.ofNat 53,Char.ofNat 52,Char.ofNat 51,Char.ofNat 101,Char.ofNat 99,Char.ofNat 54,Char.ofNat 97,Char.ofNat 48,Char.ofNat 51,Char.ofNat 56,Char.ofNat 100,Char.ofNat 97,Char.ofNat 52,Char.ofNat 53,Char.ofNat 57,Char.ofNat 48,Char.ofNat 97,Char.ofNat 54,Char.ofNat 100,Char.ofNat 51]
def iH :List Char:=[Char.ofNat 99,Char.ofNat 117,Char.ofNat 116]
def Jc :List Char:=[Char.ofNat 97,Char.ofNat 116,Char.ofNat 32,Char.ofNat 116,Char.ofNat 114,Char.ofNat 97,Char.ofNat 99,Char.ofNat 101,Char.ofNat 114,Char.ofNat 121,Char.ofNat 47,Char.ofNat 116,Char.ofNat 114,Char.ofNat 97,Char.ofNat 99,Char.ofNat 101,Char.ofNat 114,Char.ofNat 121,Char.ofNat 108,Char.ofNat 97,Char.ofNat 119,Char.ofNat 51,Char.ofNat 49,Char.ofNat 46,Char.ofNat 71,Char.ofNat 114,Char.ofNat 97,Char.ofNat 112,Char.ofNat 104,Char.ofNat 109,Char.ofNat 108,Char.ofNat 78,Char.ofNat 111,Char.ofNat 116,Char.ofNat 101,Char.ofNat 115]
theorem HV :Tryz.pinned.checked.prog.initOrder=String.ofList (ue++blank::(uf++blank::(iH++blank::Jc))):=by kernel_rfl
theorem oV :∃tl,wordsSigns Tryz.pinned.checked.prog.initOrder.toList=ue::uf::iH::tl:=by
 refine⟨wordsSigns Jc,?_⟩
 rw[HV,String.toList_ofList,qj _ _ (by kernel_rfl),qj _ _ (by kernel_rfl),qj _ _ (by kernel_rfl)]
theorem behind (tl:List (List Char)):behindMainWord (ue::uf::iH::tl)=iH::tl:=by kernel_rfl
theorem Jd (tl:List (List Char)):stripLifts liftWords (iH::tl)=([],iH::tl):=by kernel_rfl
theorem K7 :Tryz.pinned.checked.prog.doorFits []=true:=by kernel_rfl
theorem later :Tryz.pinned.checked.prog.laysLater=false:=by kernel_rfl
theorem K8 :Tryz.pinned.checked.prog.bearsReflect=false:=by kernel_rfl
theorem isC :(iH== "cut".toList)=true:=by kernel_rfl
theorem OU :(iH== "gc".toList)=false:=by kernel_rfl
theorem OV :(iH== "spec".toList)=false:=by kernel_rfl
theorem OW :(iH== "carried".toList)=false:=by kernel_rfl
theorem Je (tl:List (List Char)):((iH::tl).head? ==some "cut".toList)=true:=by
 rw[List.head?_cons,Option.some_beq_some];exact isC
theorem xb {P:Program} {tl:List (List Char)} (h:wordsSigns P.initOrder.toList=ue::uf::iH::tl) (K7:P.doorFits []=true) (later:P.laysLater=false) (hrefl:P.bearsReflect=false):P.mayEnter=true:=by
 unfold Program.mayEnter
 rw[h,behind]
 simp only[Jd,K7,later,hrefl,OU,OV,OW,Je,Bool.false_or,Bool.or_false,Bool.false_and,Bool.not_false,Bool.or_true,Bool.and_true,Bool.and_self]
 rfl
theorem Eu {P:Program} {tl:List (List Char)} (h:wordsSigns P.initOrder.toList=ue::uf::iH::tl):P.liftsFinal=false:=by
 unfold Program.liftsFinal Program.headLifts
 rw[h,behind]
 have hk:((iH::tl).head? ==some "carried".toList)=false:=by rw[List.head?_cons,Option.some_beq_some];exact OW
 simp only[Jd,hk,Je,Bool.false_and,Bool.false_or,if_true,List.contains_nil]
theorem HW {P:Program} {tl:List (List Char)} (h:wordsSigns P.initOrder.toList=ue::uf::iH::tl):P.make=some .cut:=by
 unfold Program.make Program.headLifts
 rw[h,behind]
 simp only[isC,OU,OV,Bool.or_false,Bool.true_or,if_true,Bool.false_eq_true,if_false]
theorem BA :Tryz.pinned.checked.prog.mayEnter=true:=oV.elim fun _ h=>xb h K7 later K8
theorem BB :Tryz.pinned.checked.prog.liftsFinal=false:=oV.elim fun _ h=>Eu h
theorem HX :Tryz.pinned.checked.prog.make=some .cut:=oV.elim fun _ h=>HW h
end Go.Proofs.YtemphinmoihdaaaGreatDoor
/- A row's closed facts, one by one. Conditions: none. -/
namespace Go.X
theorem an {a b:Bool} (x:a=true) (y:b=true):(a&&b)=true:=by rw[x,y];rfl
theorem qT {P:Program} {f:FuncId} {fn:Func} {s:ChangeSpec} {c:OpenClaim}
  (h0:(c.wf (OpenSpec.ofChange s))=true)
  (h1:(laidOutB P)=true)
  (h2:(mapsRowed P)=true)
  (h3:(fn.params.all (P.readableRec ·))=true)
  (h4:(namedTie P c.named s.vars)=true)
  (h5:((c.stops==[]))=true)
  (h6:((P.stops==[]))=true)
  (h7:((c.knobs==[]))=true)
  (h8:((P.stopKnobs==[]))=true)
  (h9:((c.inPlace==P.inPlace f))=true)
  (h10:((c.unfollowed==P.unfollowed f))=true)
  (h11:((c.recurses==P.recurses f))=true)
  (h12:((c.named==P.varsNamed f))=true)
  (h13:((c.maps==(fn.params.toList++s.plain.varTypes P).any (P.mapsRec ·)))=true)
  (h14:((c.ifaces==(fn.params.toList++s.plain.varTypes P).any (P.ifacesRec ·)))=true)
  (h15:((c.mapsOut==P.mapsAmong fn.resultTypes.toList))=true)
  (h16:((c.loops==(fn.params.toList++s.plain.varTypes P).any (P.loopsFrom ·)))=true)
  (h17:((c.wideKeys==(fn.params.toList++s.plain.varTypes P++fn.resultTypes.toList).any (P.wideKeysFrom ·)))=true)
  (h18:(s.vars.all (P.varReadable ·))=true)
  (h19:(fn.resultTypes.all (fun t=>P.readableRec t&&decide (t<P.types.size)))=true)
  (h20:((c.ifacesOut==fn.resultTypes.toList.any (P.ifacesRec ·)))=true)
  (h21:((c.loopsOut==fn.resultTypes.toList.any (P.loopsFrom ·)))=true)
  (h22:((c.plainKeys==P.plainKeys))=true)
  (h23:(c.shortTexts.isNone)=true)
  (h24:(P.stopsHeard)=true)
  (h25:(P.mayEnter)=true)
  (l1:P.liftsFinal=false) (l2:c.lifted=false)
  (m1:P.make=some .cut) (m2:c.make= .cut)
  (h28:((c.kinds==(if c.domain.isEmpty then []else fn.params.toList.map fun t=>match P.underlying t with | some (.int k)=>some k | _=>none)))=true)
  (h29:((c.pinned==c.pinnedBy))=true)
  (h30:((c.veiled==(fn.params.toList++s.plain.varTypes P++fn.resultTypes.toList).any (P.veiledRec ·)))=true)
  (h31:(c.veiledFits P fn.params.toList (fn.params.toList++s.plain.varTypes P++fn.resultTypes.toList))=true):joinedFacts P f fn s c=true:=by
 unfold joinedFacts
 exact an (an (an (an (an (an (an (an (an (an (an (an (an (an (an (an (an (an (an (an (an (an (an (an (an (an (an (an (an (an (an h0 h1) h2) h3) h4) h5) h6) h7) h8) h9) h10) h11) h12) h13) h14) h15) h16) h17) h18) h19) h20) h21) h22) h23) h24) h25) (by rw[l1,l2];rfl)) (by rw[m1,m2];rfl)) h28) h29) h30) h31
end Go.X
namespace Go.Proofs.YtemphinmoihdaaaGreatDoor
set_option maxRecDepth 100000
theorem OX :(laidOutB Tryz.pinned.checked.prog)=true:=by kernel_rfl
theorem OY :(mapsRowed Tryz.pinned.checked.prog)=true:=by kernel_rfl
theorem OZ :((Tryz.pinned.checked.prog.stops==[]))=true:=by kernel_rfl
theorem O0 :((Tryz.pinned.checked.prog.stopKnobs==[]))=true:=by kernel_rfl
theorem K9 :(Tryz.pinned.checked.prog.stopsHeard)=true:=by kernel_rfl
theorem El :true=Tryz.pinned.checked.prog.looks []:=by kernel_rfl
theorem HP :Tryz.pinned.checked.prog.mainIs=some ((true,"753aadc652e37551047e3cf4acc47d3a78a53fda585d543ec6a038da4590a6d3").1,(true,"753aadc652e37551047e3cf4acc47d3a78a53fda585d543ec6a038da4590a6d3").2.toList):=by kernel_rfl
end Go.Proofs.YtemphinmoihdaaaGreatDoor
