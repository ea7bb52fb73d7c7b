/- What a text reads as, if its digits are not cut; a number's own text leads back to it. Conditions: none. -/
import Derived.Test.YtemphinmoihdaaaGreatDoorWBack2
import Derived.Test.YtemphinmoihdaaaGreatDoorQEscL
import Derived.Test.YtemphinmoihdaaaGreatDoorWMono
import Derived.Test.YtemphinmoihdaaaGreatDoorWEnv
import Derived.Test.YtemphinmoihdaaaGreatDoorQWrite
import Derived.Test.YtemphinmoihdaaaGreatDoorQOnce
import Derived.Test.YtemphinmoihdaaaGreatDoorGTell
import Derived.Test.YtemphinmoihdaaaGreatDoorSXb
import Derived.Test.YtemphinmoihdaaaGreatDoorQData
import Derived.Test.YtemphinmoihdaaaGreatDoorWPre
import Derived.Shelf.Strings.SlTrimAscii
import Derived.Test.YtemphinmoihdaaaGreatDoorSXw
set_option linter.unusedVariables false
set_option linter.unusedSimpArgs false
open Go.IntKind (i64 u64 u8 i32)
namespace Go.Proofs.YtemphinmoihdaaaGreatDoor.N
open Go.X Go.Proofs.YtemphinmoihdaaaGreatDoor
set_option maxRecDepth 100000
set_option maxHeartbeats 1000000
def atV (b:ByteArray):Nat:=(iD (scB b).1.m (jd (scB b).1 (scB b).2) (dG b.data.toList).1).1
open Classical in
noncomputable def rdG (b : ByteArray) : Option (Nat × Nat) :=
 if b.size<=262144/\(jJ b.data.toList=true->b.size<=64->Txt b (scB b).1 (scB b).2/\(scB b).1.tr=false)then some ((fU b.data.toList (atV b)).1,(fU b.data.toList (atV b)).2.toNat)else none
theorem Lq (gl:GL):Me rdG gl:=by
 intro t x e ht h g
 unfold rdG at ht
 split at ht
 ·grind [Int.toNat_of_nonneg,EP,Lp,atV,P37.of]
 ·cases ht
def vr (x:Nat):Nat:=if isNaN x then 9221120237041090561 else x
theorem EO {x:Nat} (hx:x<18446744073709551616):rdG (cp x)=some (vr x,0):=by
 have lit:∀{b:ByteArray} {v:Nat},cp x=b->b.size<=5->jJ b.data.toList=false->fU b.data.toList (atV b)=(v,0)->vr x=v->rdG (cp x)=some (vr x,0):=by
  intro b v e h1 h2 h3 h4
  rw[e,h4]
  unfold rdG
  grind
 cases hn:isNaN x with
 | true=>exact lit (b:=⟨#[78,97,78]⟩) (by unfold cp;rw[hn];rfl) QA QA rfl (by unfold vr;rw[hn];rfl)
 | false=>
 have hcan:vr x=x:=by unfold vr;rw[hn];rfl
 cases h1:isInf x with
 | true=>exact lit (b:=⟨#[73,78,70]⟩) (by unfold cp;grind) QA QA rfl (by rw[hcan];exact Ja hx hn h1)
 | false=>
 cases h2:isInf (gz x)with
 | true=>
  refine lit (b:=⟨#[45,73,78,70]⟩) (by unfold cp;grind) QA QA rfl ?_
  have hnn:isNaN (gz x)=false:=by rw[vn];exact hn
  rw[hcan,<-HO x,Ja (KR hx) hnn h2];decide
 | false=>
  obtain⟨⟨st,rest,hT,htr,hv⟩,b2,b3,-⟩:=FA hx hn h1 h2
  have hsc:scB (cp x)=(st,rest):=hT.sc
  have hV:atV (cp x)=x:=by unfold atV;grind
  have hfin:isInf (qV x)=false:=by
   have hab:qV x=x\/qV x=gz x:=by
    rw[HZ]
    have hN:gz x=x ^^^ 2^63:=rfl
    by_cases hh:x<2^63
    ·omega
    ·right
     rw[hN]
     have e1:(x ^^^ 2^63) % 2^63=x % 2^63:=by rw[Nat.xor_mod_two_pow,Nat.mod_self,Nat.xor_zero]
     have e2:(x ^^^ 2^63)/2^63=0:=by
      rw[Nat.xor_div_two_pow]
      grind
     omega
   grind
  have nn:∀l:QS,jJ l=false->(cp x).data.toList≠l:=fun l hl e=>by grind
  have hr:fU (cp x).data.toList x=(x,0):=by
   unfold fU
   rw[if_neg (nn _ QA),if_neg (nn _ QA),if_neg (nn _ QA),if_neg (by rw[b2];decide),if_neg (by show ¬ 64<(cp x).size;omega),if_neg QD]
  unfold rdG
  grind
theorem EH {c:UInt8} (h:isD c=true):G.jg c.toNat=true:=by
 have:=fl.1 h
 simp[G.jg,G.me];omega
theorem za (l:QS):∀c∈l.take (dgN l),G.jg c.toNat=true:=by
 intro c hc
 have e:l.take (dgN l)=l.takeWhile isD:=by
  unfold dgN
  exact(List.prefix_iff_eq_take.1 (List.takeWhile_prefix isD)).symm
 grind [EH,List.all_takeWhile]
theorem rn {l:QS} (k:Nat) (h1:∀c∈l.take k,G.jg c.toNat=true) (h2:∀c∈l.drop k,G.jg c.toNat=true):∀c∈l,G.jg c.toNat=true:=by
 grind [List.take_append_drop]
theorem xn {l:QS} (h:∀c∈aK l,G.jg c.toNat=true):∀c∈l,G.jg c.toNat=true:=by
 cases l with
 | nil=>simp
 | cons a r=>
  rw[show aK (a::r)=if a=43\/a=45 then r else a::r from rfl]at h
  split at h
  ·rename_i ha
   intro c hc
   rcases List.mem_cons.1 hc with rfl | hc
   ·rcases ha with rfl | rfl<;>decide
   ·exact h c hc
  ·exact h
theorem xo {l:QS} (h:zd (some l)=true):∀c∈l,G.jg c.toNat=true:=by
 cases l with
 | nil=>simp
 | cons a t=>
  unfold zd at h
  split at h
  ·grind
  ·grind
  rename_i c t' e
  cases e
  split at h
  ·rename_i ha
   simp only[Bool.and_eq_true,decide_eq_true_eq]at h
   have:=za (aK t)
   rw[h.2.2,List.take_length]at this
   have ht:=xn this
   intro c hc
   rcases List.mem_cons.1 hc with rfl | hc
   ·rcases ha with rfl | rfl<;>decide
   grind
  ·cases h
theorem EI {l:QS} (h:jJ l=true):∀c∈l,G.jg c.toNat=true:=by
 unfold jJ at h
 split at h
 ·cases h
 refine xn (rn _ (za _) ?_)
 generalize (aK l).drop (dgN (aK l))=q at h
 cases q with
 | nil=>simp
 | cons a y=>
  unfold nQ at h
  split at h
  ·grind
  rename_i c y' e
  cases e
  split at h
  ·rename_i ha
   split at h
   ·cases h
   ·intro c hc
    rcases List.mem_cons.1 hc with rfl | hc
    ·rw[ha];decide
    ·exact rn _ (za _) (xo h) c hc
  ·exact xo h
theorem Ic {l:QS} (h:jJ l=true):∃c r,l=c::r/\(G.me c.toNat=true\/c.toNat=43\/c.toNat=45\/c.toNat=46):=by
 unfold jJ at h
 split at h
 ·cases h
 rename_i hn
 cases l with
 | nil=>exact absurd rfl hn
 | cons a r=>
  refine⟨a,r,rfl,?_⟩
  rw[show aK (a::r)=if a=43\/a=45 then r else a::r from rfl]at hn
  split at hn
  ·rename_i ha;rcases ha with rfl | rfl
   ·grind
   grind
  ·left
   by_cases hd:isD a=true
   ·have:=fl.1 hd;simp[G.me];omega
   ·exfalso;apply hn;unfold dgN;simp_all
theorem qk {x:Nat} (hx:x<18446744073709551616):G.Pu rdG (txM x) (vr x):=by
 refine⟨?_,fun b hb=>?_⟩
 ·unfold txM
  cases hn:isNaN x with
  | true=>exact .inr (.inl (by unfold cp;rw[hn];rfl))
  | false=>
  cases h1:isInf x with
  | true=>exact .inr (.inr (by unfold cp;rw[hn,h1];rfl))
  | false=>
  cases h2:isInf (gz x)with
  | true=>
   have e:cp x=⟨#[45,73,78,70]⟩:=by unfold cp;grind
   rw[e]
   exact .inl ⟨⟨45,[73,78,70],rfl,QA⟩,QA⟩
  | false=>
   have:=(FA hx hn h1 h2).2.1
   exact .inl ⟨Ic this,EI this⟩
 ·have:b=cp x:=by
   apply ByteArray.ext;apply Array.ext';exact hb
  rw[this];exact EO hx
theorem BG (x:Nat):bF (vr x)=bF x:=by
 unfold vr
 split
 ·rename_i h
  unfold bF
  rw[if_pos h,if_pos (by decide+kernel)]
 ·rfl
open Go.Proofs
theorem Ba (a:MD):jw a a=true:=by
 have e1:∀x,fe x x=true:=fun x=>by unfold fe;grind
 unfold jw
 have g:∀{α:Type} (f:α->α->Bool),(∀x,f x x=true)->∀l,eqL f l l=true:=by
  intro α f hf l
  unfold eqL
  rw[decide_eq_true rfl,Bool.true_and]
  induction l with
  | nil=>rfl
  | cons x l ih=>rw[List.zip_cons_cons,List.all_cons,hf,ih];rfl
 rw[g fe e1,g fe2 fun x=>by unfold fe2;rw[e1,e1];rfl]
 simp
section
variable {h:ab} {a:MD} {s t:MDs}
set_option maxHeartbeats 2000000 in
theorem FH (Hm:Hp h (a.vw s++a.vw t)) (hl:a.es.length<=9223372036854775806/\a.ls.length<=9223372036854775806/\a.ss.length<=9223372036854775806/\a.ws.length<=9223372036854775806):
  QH 8 #[a.v s,a.v t] h fun v h'=>v= .bool true/\Fr [] h h':=by
 apply JV
 unfold S8
 intro hv hv2
 have f2:Fr [] h hv2:=(Fr.push h _).trans (Fr.push _ _)
 have Y:=(Sy.start Hm).gr f2
 have oC:aF (a.vw s++a.vw t)=[]:=rfl
 clear_value hv2
 refine ao (R:=fun v h'=>v= .bool true/\Fr [] hv2 h') [] ?_ QB (fun _ _ r=>r.2) ?_
 ·exact(Mi (a:=a) (b:=a) (R:=fun r=>r=jw a a) hl rfl hv2 _ _ _ _ _ _ _ _ _ _ _ _ _ _ _ _ _ _ _ _ _ _ _ _ Y.hp).mono fun v h' ⟨r,Y,e,q⟩=>⟨by rw[e,q,Ba],Y.fr⟩
 rintro v h3 ⟨rfl,f3⟩
 have Y3:=Y.gr f3
 have ls:=Y3.lenV 2 rfl
 have lt:=Y3.lenV 6 rfl
 have lw:=Y3.lenV 3 rfl
 have lx:=Y3.lenV 7 rfl
 have b48:∀{x:Nat} {h:ab},QH 21 #[QQ x,QQ x] h fun v h'=>v= .bool true/\Fr [] h h':=fun{x h}=>
  (Cl (x:=x) (y:=x) (R:=fun r=>r=true) (beq_self_eq_true x) h (Hp.nil _)).mono fun v h' ⟨r,Y,e,q⟩=>⟨by rw[e,q],Y.fr⟩
 refine⟨_,rfl,aV rfl ⟨fun l h'=>∃k:Nat,l=[QM (k:Int)]/\k<=a.ss.length/\Fr [] h3 h',fun l _=>match l with | [.int _ i]=>((a.ss.length:Int)-i).toNat | _=>0,⟨0,rfl,Qz,Fr.refl _ _⟩,?_⟩⟩
 rintro i h4 ⟨k,e,hk,f4⟩
 cases e
 have Y4:=Y3.gr f4
 have hw:∀k:Nat,k<=9223372036854775806->i64.wrap ((k:Int)+1)=((k+1:Nat):Int):=fun k hk=>by rw[wr Qz Qz];omega
 refine af (fun q=>?_) fun q=>?_
 ·have hkl:k<a.ss.length:=by omega
  have hx:a.ss[k]? =some a.ss[k]:=List.getElem?_eq_getElem hkl
  generalize a.ss[k]=x at hx
  obtain⟨b1,o1,e1,_⟩:=Y4.atV 2 rfl (i:=(k:Int)) Qz Qz
  obtain⟨b2,o2,e2,_⟩:=Y4.atV 6 rfl (i:=(k:Int)) Qz Qz
  refine⟨b1,o1,e1,Qz,Qz,x.1,Y4.cellV 2 rfl e1 (i:=k) (t:=0) hx rfl,b2,o2,e2,Qz,Qz,x.1,Y4.cellV 6 rfl e2 (i:=k) (t:=0) hx rfl,?_⟩
  refine ao [] b48 QB (fun _ _ r=>r.2) ?_
  rintro v h5 ⟨rfl,f5⟩
  have Y5:=Y4.gr f5
  refine⟨_,rfl,f5,aV rfl ⟨b1,o1,e1,Qz,Qz,x.2,Y4.cellV 2 rfl e1 (i:=k) (t:=1) hx rfl,b2,o2,e2,Qz,Qz,x.2,Y4.cellV 6 rfl e2 (i:=k) (t:=1) hx rfl,?_⟩⟩
  refine ao [] b48 QB (fun _ _ r=>r.2) ?_
  rintro v h6 ⟨rfl,f6⟩
  refine⟨_,rfl,f5.trans f6,aV rfl ?_⟩
  rw[hw k Qz]
  exact⟨⟨k+1,rfl,Qz,(f4.trans f5).trans f6⟩,by dsimp only;omega⟩
 ·refine⟨fun l h'=>∃k:Nat,l=[QM (k:Int)]/\k<=a.ws.length/\Fr [] h3 h',fun l _=>match l with | [.int _ i]=>((a.ws.length:Int)-i).toNat | _=>0,⟨0,rfl,Qz,f4⟩,?_⟩
  rintro i h7 ⟨j,e,hj,f7⟩
  cases e
  have Y7:=Y3.gr f7
  refine af (fun q2=>?_) fun q2=>⟨rfl,f2.trans (f3.trans f7)⟩
  have hjl:j<a.ws.length:=by omega
  have hx:a.ws[j]? =some a.ws[j]:=List.getElem?_eq_getElem hjl
  generalize a.ws[j]=x at hx
  obtain⟨b1,o1,e1,_⟩:=Y7.atV 3 rfl (i:=(j:Int)) Qz Qz
  obtain⟨b2,o2,e2,_⟩:=Y7.atV 7 rfl (i:=(j:Int)) Qz Qz
  refine⟨b1,o1,e1,Qz,Qz,x,Y7.cellV 3 rfl e1 (i:=j) (t:=0) hx rfl,b2,o2,e2,Qz,Qz,x,Y7.cellV 7 rfl e2 (i:=j) (t:=0) hx rfl,?_⟩
  refine ao [] b48 QB (fun _ _ r=>r.2) ?_
  rintro v h8 ⟨rfl,f8⟩
  refine⟨_,rfl,f8,aV rfl ?_⟩
  rw[hw j Qz]
  exact⟨⟨j+1,rfl,Qz,f7.trans f8⟩,by dsimp only;omega⟩
end
theorem zS {n:Int} {dir:Bool} {es:Es} {ls:List ByteArray} {ss:List (Nat × Nat)} {ws:List Nat} (q:gv n es ls ss ws=true):G.Ok (sN n dir es ls ss ws):=by
 unfold gv at q
 simp only[Bool.and_eq_true]at q
 obtain⟨m1,m2,m3,m4,m5⟩:=q
 obtain⟨g0,g1,gm,ge⟩:=Jr m1
 obtain⟨N,rfl⟩:∃N:Nat,n=(N:Int):=⟨n.toNat,Qz⟩
 have non:∀{a b:Nat},nt (a:Int) (b:Int)=true->a=0\/a=b:=fun{a b} h=>by unfold nt at h;grind
 refine⟨by show(N:Int).toNat<=1024;omega,by show(es.map _).length<=3072;grind,?_,?_,fun l hl=>?_,?_,?_⟩
 ·intro e he
  obtain⟨x,hx,rfl⟩:=List.mem_map.1 he
  obtain⟨i,hi⟩:=List.mem_iff_getElem?.1 hx
  have:=ge i x hi
  exact⟨by show x.1.toNat<(N:Int).toNat;omega,by show x.2.toNat<(N:Int).toNat;omega⟩
 ·exact(non m2).imp List.eq_nil_of_length_eq_zero fun h=>by show ls.length=(N:Int).toNat;omega
 ·have:=List.all_eq_true.1 m5 l hl
  unfold Bd at this
  grind
 ·exact(non m3).imp List.eq_nil_of_length_eq_zero fun h=>by show ss.length=(N:Int).toNat;omega
 ·exact(non m4).imp List.eq_nil_of_length_eq_zero fun h=>by show ws.length=(es.map _).length;grind
theorem zT {n:Int} {es:Es} {ls:List ByteArray} {ss:List (Nat × Nat)} {ws:List Nat} (q:gv n es ls ss ws=true):0<=n/\(es.map fun e=>(e.1.toNat,e.2.toNat)).map pr=es:=by
 unfold gv at q
 simp only[Bool.and_eq_true]at q
 obtain⟨g0,g1,gm,ge⟩:=Jr q.1
 refine⟨Qz,?_⟩
 rw[List.map_map]
 refine List.ext_getElem? fun i=>?_
 rw[List.getElem?_map]
 cases hx:es[i]? with
 | none=>rfl
 | some x=>
  have:=ge i x hx
  show some ((x.1.toNat:Int),(x.2.toNat:Int))=some x
  grind
def clD (a:MD):MD:=⟨a.n,a.dir,a.es,a.ls,a.ss.map fun p=>(bF p.1,bF p.2),a.ws.map bF⟩
section
variable {gl:GL} {h:ab} {a:MD} {s:MDs}
end
def bN (l:QS):Prop:=∀c∈l,c≠10
theorem cU {a b:QS} (ha:bN a) (hb:bN b):bN (a++b):=fun c hc=>(List.mem_append.1 hc).elim (ha c) (hb c)
theorem Jp (n:Nat):bN (G.dec n):=fun c hc e=>by
 have:=G.zP n c hc
 rw[e]at this;revert this;decide
theorem Cj {x:Nat} (hx:x<18446744073709551616):bN (txM x):=by
 have h:=(qk hx).1
 intro c hc e
 rcases h with h | h | h
 ·have:=h.all c hc
  rw[e]at this;revert this;decide
 ·rw[h]at hc;subst e;revert hc;decide
 ·rw[h]at hc;subst e;revert hc;decide
theorem yE :∀n,bN (G.ind n)
 | n=>fun c hc e=>by
  have:c=32:=List.eq_of_mem_replicate hc
  grind
def AN (ls:List QS):Prop:=∀l∈ls,bN l
theorem nq :AN []:=fun l hl=>by cases hl
theorem oH {l:QS} {ls:List QS} (h:bN l) (k:AN ls):AN (l::ls):=fun x hx=>(List.mem_cons.1 hx).elim (fun e=>e▸h) (k x)
theorem uO {x y:List QS} (h:AN x) (k:AN y):AN (x++y):=fun l hl=>(List.mem_append.1 hl).elim (h l) (k l)
def nr (x:ByteArray):ByteArray:=if 20<x.size then x.extract 0 20 else x
theorem vZ (x:ByteArray):(nr x).size<=20:=by
 unfold nr
 split
 ·rw[ByteArray.size_extract];omega
 ·omega
def msF (ms:List ByteArray) (n:Nat):QS:=
 match ms[n % ms.length]? with
 | some x=>(nr x).data.toList
 | none=>[]
theorem FI (ms:List ByteArray) (n:Nat):(msF ms n).length<=20:=by
 unfold msF
 split
 ·exact vZ _
 ·simp
abbrev byB (A:QR) (c:Nat) (l:QS):Ck:=Ck.sl (eK .u8) 5 A l.length c (bI l)
section
variable {h0 hv:ab} {M:List Nat} {cs:List Ck} {A:QR} {c:Nat} {l:QS} {H:List Nat} {K:QR->Nat->ab->Prop}
theorem Jq (w:ByteArray) (k:Nat) (Y:Sy h0 M hv cs) (hk:cs[k]? =some (byB A c l)) (hH:∀b∈H,b∉ai A) (hl:l.length+w.size<=100000000) {n:Nat} (hn:n=l.length) (K1:∀sA sC h',Sy h0 M h' (cs.set k (byB sA sC (l++w.data.toList)))->K sA sC h'):
  ∃old,ar hv 5 1 A n c old/\(∀b∈H,b∉ai A)/\(n+w.size)*1<=140737488355328/\(n+w.size)<=maxLen/\
   ∀sA sC h',ar h' 5 1 sA (n+w.size) sC (old++Lib.strCells w)->Fr (ai A) hv h'->((sA=A/\sC=c)\/∃g,sA=some ⟨g,0,none⟩/\hv.size<=g)->(c<(n+w.size)->Fr [] hv h')->K sA sC h':=by
 subst hn
 refine⟨_,Y.ownS k hk,hH,Qz,by unfold maxLen;omega,fun sA sC h' ow f g _=>K1 sA sC h' ?_⟩
 have e:Lib.strCells w=(eK .u8).l (bI w.data.toList):=(jP w).symm
 rw[e]at ow
 have Y1:=Y.appS k hk (bI w.data.toList) ow f g rfl (by rw[kL];rfl)
 have el:(l++w.data.toList).length=l.length+w.size:=List.length_append
 unfold byB
 rw[el,qs]
 exact Y1
end
theorem tp :∀LS:List QS,AN LS->(G.cf LS).count 10=LS.length
 | [],_=>rfl
 | l::ls,nd=>by
  rw[G.kG,List.count_append,List.count_cons_self,tp ls (fun x hx=>nd x (by simp[hx])),List.count_eq_zero_of_not_mem fun hm=>nd l QB 10 hm rfl,List.length_cons]
  omega
section
variable {gl:GL} {h:ab} {a:MD} {s:MDs} {mA:QR} {mL mC:Nat} {ms:List ByteArray}
end
theorem wi (l:QS) (ls:List QS):G.cf (l::ls)=(l++[10])++G.cf ls:=by rw[G.kG];simp
theorem uQ (q:G.QK):kY (G.mkB q.1) (G.mkB q.2.1) (G.mkB q.2.2.1) (G.mkB q.2.2.2)=G.jz q++[10]:=by
 unfold kY lnX G.jz dE
 simp[G.fO,G.oJ,G.py,sK,G.hO,G.xId,G.fN,G.di,G.yP]
theorem FK (nL nS nW:Nat):nz nL nS nW=G.cf ((G.kX nL nS nW).map G.jz):=by
 unfold nz G.kX
 have e1:kY ⟨#[100,48]⟩ ⟨#[110,111,100,101]⟩ ⟨#[108,97,98,101,108]⟩ ⟨#[115,116,114,105,110,103]⟩=G.jz ([100,48],G.aR,G.ey,[115,116,114,105,110,103])++[10]:=uQ ([100,48],G.aR,G.ey,[115,116,114,105,110,103])
 have e2:kY ⟨#[100,49]⟩ ⟨#[110,111,100,101]⟩ ⟨#[120]⟩ ⟨#[100,111,117,98,108,101]⟩=G.jz ([100,49],G.aR,G.xX,[100,111,117,98,108,101])++[10]:=uQ ([100,49],G.aR,G.xX,[100,111,117,98,108,101])
 have e3:kY ⟨#[100,50]⟩ ⟨#[110,111,100,101]⟩ ⟨#[121]⟩ ⟨#[100,111,117,98,108,101]⟩=G.jz ([100,50],G.aR,G.xY,[100,111,117,98,108,101])++[10]:=uQ ([100,50],G.aR,G.xY,[100,111,117,98,108,101])
 have e4:kY ⟨#[100,51]⟩ ⟨#[101,100,103,101]⟩ ⟨#[119,101,105,103,104,116]⟩ ⟨#[100,111,117,98,108,101]⟩=G.jz ([100,51],G.cN,G.dX,[100,111,117,98,108,101])++[10]:=uQ ([100,51],G.cN,G.dX,[100,111,117,98,108,101])
 rw[e1,e2,e3,e4]
 split<;>split<;>split<;>simp[wi,show G.cf []=[]from rfl]
theorem IK (a b:ByteArray):(a++b).data.toList=a.data.toList++b.data.toList:=by simp
theorem Co (dir:Bool):lnX 1 [⟨#[60,103,114,97,112,104,32,101,100,103,101,100,101,102,97,117,108,116,61,34]⟩,mq dir,⟨#[34,62]⟩]=G.uX dir++[10]:=by
 cases dir<;>rfl
theorem zU {k y:QS}:lnX 3 [⟨#[60,100,97,116,97,32,107,101,121,61,34]⟩,G.mkB k,⟨#[34,62]⟩,G.mkB y,⟨#[60,47,100,97,116,97,62]⟩]=G.dT k y++[10]:=by
 unfold lnX G.dT dE
 simp[G.fO,G.oJ,G.py,sK,G.fK,G.hO]
theorem zV (v:Nat) (w:Bool):lnX 2 [((⟨#[60,110,111,100,101,32,105,100,61,34,110]⟩:ByteArray)++G.mkB (G.dec v))++(⟨#[34]⟩:ByteArray),G.mkB (G.jA w)]=G.uV v w++[10]:=by
 unfold lnX G.uV dE
 simp only[List.flatMap_cons,List.flatMap_nil,IK,sK]
 simp[G.fO,G.oJ,G.py,G.aR,G.xId]
theorem zW (e:Nat × Nat) (w:Bool):lnX 2 [((((⟨#[60,101,100,103,101,32,115,111,117,114,99,101,61,34,110]⟩:ByteArray)++G.mkB (G.dec e.1))++(⟨#[34,32,116,97,114,103,101,116,61,34,110]⟩:ByteArray))++G.mkB (G.dec e.2))++(⟨#[34]⟩:ByteArray),G.mkB (G.jA w)]=G.uW e w++[10]:=by
 unfold lnX G.uW dE
 simp only[List.flatMap_cons,List.flatMap_nil,IK,sK]
 simp[G.fO,G.oJ,G.py,G.cN,G.bS,G.bT]
theorem FL (tx:Nat->QS) (x:Option ByteArray) (p:Option (Nat × Nat)) (v:Nat):jx tx pQ x p v=G.cf (G.my bc tx x p v):=by
 have h1:=zV v true
 have h2:=zV v false
 unfold jx G.my elX dD
 have t1:G.mkB (G.jA true)=⟨#[47,62]⟩:=rfl
 have t2:G.mkB (G.jA false)=⟨#[62]⟩:=rfl
 have t3:lnX 2 [⟨#[60,47]⟩,⟨#[110,111,100,101]⟩,⟨#[62]⟩]=G.gN 4 G.aR++[10]:=rfl
 rw[t1]at h1
 rw[t2]at h2
 have t4:∀k:ByteArray,∀y:QS,lnX 3 [⟨#[60,100,97,116,97,32,107,101,121,61,34]⟩,k,⟨#[34,62]⟩,G.mkB y,⟨#[60,47,100,97,116,97,62]⟩]=G.dT k.data.toList y++[10]:=fun k y=>zU (k:=k.data.toList)
 have t5:pQ=fun x:ByteArray=>x.data.toList.flatMap bc:=rfl
 cases x with
 | none=>
  cases p with
  | none=>
   simp only[List.append_nil]
   rw[if_pos trivial,h1];simp[wi,G.kT,G.kU];rfl
  | some p=>
   simp only[List.nil_append]
   rw[if_neg QB,h2,t3]
   simp only[jW,t4]
   simp[wi,G.kT,G.kU,show G.cf []=[]from rfl]
 | some x=>
  cases p with
  | none=>
   simp only[List.append_nil]
   rw[if_neg QB,h2,t3]
   simp only[jW,t4,t5]
   simp[wi,G.kT,G.kU,show G.cf []=[]from rfl]
  | some p=>
   simp only[List.cons_append,List.nil_append]
   rw[if_neg QB,h2,t3]
   simp only[jW,t4,t5]
   simp[wi,G.kT,G.kU,show G.cf []=[]from rfl]
theorem wj (tx:Nat->QS) (ls:List ByteArray) (ss:List (Nat × Nat)):∀n k:Nat,fp tx pQ ls ss n k=G.cf (G.fh bc tx (fun v=>ls[v]?) (fun v=>ss[v]?) n k)
 | 0,_=>rfl
 | n+1,k=>by rw[fp,G.fh,G.mw,FL,wj tx ls ss n (k+1)]
theorem FN (tx:Nat->QS) (w:Option Nat) (e:Nat × Nat):ji tx w e=G.cf (G.oM tx e w):=by
 have h1:=zW e true
 have h2:=zW e false
 unfold ji G.oM elX ku
 have t1:G.mkB (G.jA true)=⟨#[47,62]⟩:=rfl
 have t2:G.mkB (G.jA false)=⟨#[62]⟩:=rfl
 have t3:lnX 2 [⟨#[60,47]⟩,⟨#[101,100,103,101]⟩,⟨#[62]⟩]=G.gN 4 G.cN++[10]:=rfl
 rw[t1]at h1
 rw[t2]at h2
 have t4:∀k:ByteArray,∀y:QS,lnX 3 [⟨#[60,100,97,116,97,32,107,101,121,61,34]⟩,k,⟨#[34,62]⟩,G.mkB y,⟨#[60,47,100,97,116,97,62]⟩]=G.dT k.data.toList y++[10]:=fun k y=>zU (k:=k.data.toList)
 cases w with
 | none=>
  simp only[]
  rw[if_pos trivial,h1];simp[wi,G.oK];rfl
 | some w=>
  rw[if_neg QB,h2,t3]
  simp only[jW,t4]
  simp[wi,G.oK,show G.cf []=[]from rfl]
theorem wk (tx:Nat->QS):∀(es:List (Nat × Nat)) (ws:List Nat),fq tx es ws=G.cf (G.fj tx es ws)
 | [],_=>rfl
 | e::es,ws=>by rw[fq,G.fj,G.mw,FN,wk tx es ws.tail]
theorem Ju (tx:Nat->QS) (n:Nat) (dir:Bool) (es:List (Nat × Nat)) (ls:List ByteArray) (ss:List (Nat × Nat)) (ws:List Nat):wrX tx pQ n dir es ls ss ws=G.cf (G.ny bc tx ⟨n,dir,es,ls,ss,ws⟩):=by
 have h0:lnX 0 [qL]=(G.kW++[63,62])++[10]:=rfl
 have h1:lnX 0 [qM]=G.uZ++[10]:=rfl
 have h2:lnX 1 [⟨#[60,47,103,114,97,112,104,62]⟩]=G.gN 2 G.gw++[10]:=rfl
 have h3:lnX 0 [⟨#[60,47,103,114,97,112,104,109,108,62]⟩]=G.gN 0 G.cZ++[10]:=rfl
 unfold wrX gH G.ny G.jV
 rw[h0,h1,h2,h3,Co,FK,wj,wk]
 simp[wi,G.mw,show G.cf []=[]from rfl]
theorem uN {s:ByteArray} {i:Nat} {l:QS} (a:G.At s i (G.ltB++l)):G.part s i=some (60,4):=by
 have no:∀k:QS,(∀r,G.ltB++l≠k++r)->G.preB s i k=false:=fun k hk=>G.nh a hk
 unfold G.part
 rw[no G.amp (by simp[G.amp,G.ltB]),no G.yB (by simp[G.yB,G.ltB]),G.jQ a]
 rfl
theorem FO {s:ByteArray} {i:Nat} {l:QS} (a:G.At s i (G.gtB++l)):G.part s i=some (62,4):=by
 have no:∀k:QS,(∀r,G.gtB++l≠k++r)->G.preB s i k=false:=fun k hk=>G.nh a hk
 unfold G.part
 rw[no G.amp (by simp[G.amp,G.gtB]),no G.yB (by simp[G.yB,G.gtB]),no G.ltB (by simp[G.ltB,G.gtB]),G.jQ a]
 rfl
theorem FQ {c:UInt8} (hc:G.bO c.toNat=true):G.wx bc c:=by
 by_cases h1:c=38
 ·subst h1;exact .inr ⟨QA,⟨_,rfl⟩,fun s i l a=>G.B9 a⟩
 by_cases h2:c=60
 ·subst h2;exact .inr ⟨QA,⟨_,rfl⟩,fun s i l a=>uN a⟩
 by_cases h3:c=62
 ·subst h3;exact .inr ⟨QA,⟨_,rfl⟩,fun s i l a=>FO a⟩
 refine .inl ⟨by unfold bc;rw[if_neg h1,if_neg h2,if_neg h3],?_,fun e=>h1 (UInt8.toNat_inj.1 e),by show(G.bO c.toNat||G.cj c.toNat)=true;rw[hc];rfl⟩
 rw[decide_eq_false_iff_not];exact fun e=>h2 (UInt8.toNat_inj.1 e)
theorem FR {l:QS} (h:∀c∈l,G.cj c.toNat=false):G.trimB l=l:=by
 have t:∀{l:QS},(∀c∈l,G.cj c.toNat=false)->G.qz l=l:=fun{l} h=>by
  cases l with
  | nil=>rfl
  | cons c l=>rw[G.qz,if_neg (by rw[h c QB];decide)]
 unfold G.trimB
 rw[t h,t (fun c hc=>h c (List.mem_reverse.1 hc)),List.reverse_reverse]
theorem FS {c:UInt8} (h:G.jg c.toNat=true):G.bO c.toNat=true/\c≠60/\c≠38:=by
 have:(97<=c.toNat/\c.toNat<=122\/65<=c.toNat/\c.toNat<=90)\/(48<=c.toNat/\c.toNat<=57)\/c.toNat=43\/c.toNat=45\/c.toNat=46:=by simpa[G.jg,G.qp,G.me,or_assoc]using h
 refine⟨by simp[G.bO];omega,?_,?_⟩<;>(rintro rfl;revert this;decide)
theorem Jw {x:Nat} (hx:x<18446744073709551616):∀c∈txM x,G.bO c.toNat=true/\c≠60/\c≠38:=by
 rcases(qk hx).1 with h | h | h
 ·exact fun c hc=>FS (h.all c hc)
 ·rw[h];decide
 ·rw[h];decide
theorem yG {x:Nat} (hx:x<18446744073709551616):G.ig rdG bF txM bF x:=by
 refine⟨fun at_=>?_,Jw hx⟩
 have nb:∀c∈txM x,G.cj c.toNat=false:=by
  rcases(qk hx).1 with h | h | h
  ·intro c hc
   have:=h.all c hc
   have:(97<=c.toNat/\c.toNat<=122\/65<=c.toNat/\c.toNat<=90)\/(48<=c.toNat/\c.toNat<=57)\/c.toNat=43\/c.toNat=45\/c.toNat=46:=by simpa[G.jg,G.qp,G.me,or_assoc]using this
   simp[G.cj];omega
  ·rw[h];decide
  ·rw[h];decide
 unfold G.pO
 rw[sK,FR nb,(qk hx).2 (G.mkB (txM x)) (sK _)]
 show G.Er.ok _=_
 rw[BG]
theorem Bf {a:MD} {x:ByteArray} (q:gv a.n a.es a.ls a.ss a.ws=true) (hx:G.Spx (G.ny bc txM (sN a.n a.dir a.es a.ls a.ss a.ws)) x.data.toList) (hl:x.size<=262144) (hss:∀p∈a.ss,p.1<18446744073709551616/\p.2<18446744073709551616) (hws:∀x∈a.ws,x<18446744073709551616):
  G.fL x rdG bF= .ok (sN a.n a.dir a.es a.ls (clD a).ss (clD a).ws):=
 G.Bj (s:=x) (g:=bF) (fun c hc=>FQ hc) (zS q) (fun p hp=>⟨yG (hss p hp).1,yG (hss p hp).2⟩) (fun x hx=>yG (hws x hx)) hl hx
def gf (ms:Nat->QS):QS->Nat->QS
 | [],_=>[]
 | c::r,n=>if c=10 then 10::([9,60,33,45,45]++(ms n++([45,45,62,13,10]++gf ms r (n+1))))else c::gf ms r n
theorem oI (ms:Nat->QS) (c:UInt8):∀(l:QS) (n:Nat),gf ms (l++[c]) n=gf ms l n++(if c=10 then [10]++[9,60,33,45,45]++ms (n+l.count 10)++[45,45,62,13,10]else [c])
 | [],n=>by simp only[List.nil_append,gf,List.count_nil,Nat.add_zero];split<;>simp
 | a::l,n=>by
  rw[List.cons_append,gf,gf]
  by_cases ha:a=10
  ·subst ha
   rw[if_pos rfl,if_pos rfl,oI ms c l (n+1),List.count_cons_self,show n+1+List.count 10 l=n+(List.count 10 l+1) by omega]
   simp[List.append_assoc]
  ·rw[if_neg ha,if_neg ha,oI ms c l n,List.count_cons_of_ne (by simpa using ha)];rfl
theorem tt (ms:Nat->QS) (r:QS):∀(l:QS) (n:Nat),(∀c∈l,c≠10)->gf ms (l++10::r) n=l++((10::9::60::33::45::45::(ms n++(G.cC++[13,10])))++gf ms r (n+1))
 | [],n,_=>by rw[List.nil_append,gf,if_pos rfl];simp[G.cC]
 | a::l,n,h=>by
  rw[List.cons_append,gf,if_neg (h a QB),tt ms r l n fun c hc=>h c (by simp[hc])];rfl
theorem zX (ms:Nat->QS):∀(ls:List QS) (n:Nat),(∀l∈ls,∀c∈l,c≠10)->(∀j,j<n+ls.length->∀c∈ms j,c≠45)->G.Spx ls (gf ms (G.cf ls) n)
 | [],n,_,_=>.nil
 | l::ls,n,h,hm=>by
  rw[G.kG,tt ms _ l n (h l QB)]
  exact .cons (.inr ⟨ms n,hm n QB,rfl⟩) (zX ms ls (n+1) (fun l' hl=>h l' (by simp[hl])) fun j hj=>hm j (by simp only[List.length_cons];omega))
theorem qw (ms:Nat->QS) (hm:∀j,(ms j).length<=20):∀(l:QS) (n:Nat),(gf ms l n).length<=40*l.length
 | [],n=>by simp[gf]
 | c::r,n=>by
  rw[gf]
  have h1:=hm n
  split
  ·have:=qw ms hm r (n+1)
   simp only[List.length_append,List.length_cons,List.length_nil];omega
  ·have:=qw ms hm r n
   simp only[List.length_cons];omega
theorem uR :∀L:List (QS × QS),(∀p∈L,bN p.1/\bN p.2)->bN (G.fO L)
 | [],_=>fun c hc=>by cases hc
 | p::L,h=>by
  have ih:=uR L fun q hq=>h q (by simp[hq])
  have e:G.fO (p::L)=[32]++(p.1++([61,34]++(p.2++([34]++G.fO L)))):=by simp[G.fO,G.oJ,G.py]
  rw[e]
  exact cU (by unfold bN;decide) (cU (h p QB).1 (cU (by unfold bN;decide) (cU (h p QB).2 (cU (by unfold bN;decide) ih))))
theorem FT {l:QS} (h:∀c∈l,G.bO c.toNat=true):bN (l.flatMap bc):=by
 intro c hc e
 obtain⟨x,hx,hcx⟩:=List.mem_flatMap.1 hc
 have hp:=h x hx
 unfold bc at hcx
 split at hcx
 ·subst e;revert hcx;decide
 split at hcx
 ·subst e;revert hcx;decide
 split at hcx
 ·subst e;revert hcx;decide
 ·rw[List.mem_singleton]at hcx
  rw[<-hcx,e]at hp;revert hp;decide
theorem pY {k y:QS} (hk:bN k) (hy:bN y):bN (G.dT k y):=by
 have e:G.dT k y=G.ind 6++([60]++(G.fK++(G.fO [(G.hO,k)]++([62]++(y++([60,47]++(G.fK++[62]))))))):=by simp[G.dT]
 rw[e]
 exact cU (yE 6) (cU (by unfold bN;decide) (cU (by unfold bN;decide) (cU (uR _ (by simpa using⟨by unfold bN;decide,hk⟩)) (cU (by unfold bN;decide) (cU hy (by unfold bN;decide))))))
theorem yH (v:Nat):bN (110::G.dec v):=cU (a:=[110]) (by unfold bN;decide) (Jp v)
theorem FU {D:G.Dc} (ok:G.Ok D) (ht:∀p∈D.spots,bN (txM p.1)/\bN (txM p.2)) (hw:∀x∈D.weights,bN (txM x)):AN (G.ny bc txM D):=by
 have tl:∀w:Bool,bN (G.jA w):=fun w=>by cases w<;>(unfold bN;decide)
 have ks:AN ((G.kX D.labels.length D.spots.length D.weights.length).map G.jz):=by
  unfold G.kX AN bN
  split<;>split<;>split<;>decide
 have gr:∀d,bN (G.uX d):=fun d=>by cases d<;>(unfold bN;decide)
 have node:∀(lo:Option ByteArray) (po:Option (Nat × Nat)) (v:Nat),(∀x,lo=some x->x∈D.labels)->(∀p,po=some p->p∈D.spots)->AN (G.my bc txM lo po v):=by
  intro lo po v h1 h2
  have e:∀w,bN (G.uV v w):=fun w=>cU (yE 4) (cU (a:=[60]) (by unfold bN;decide) (cU (a:=G.aR) (by unfold bN;decide) (cU (uR [(G.xId,110::G.dec v)] (by simpa using⟨by unfold bN;decide,yH v⟩)) (tl w))))
  refine oH (e _) (uO ?_ (uO ?_ ?_))
  ·cases lo with
   | none=>exact nq
   | some x=>exact oH (pY (by unfold bN;decide) (FT (ok.p x (h1 x rfl)).2)) nq
  ·cases po with
   | none=>exact nq
   | some p=>
    have:=ht p (h2 p rfl)
    exact oH (pY (by unfold bN;decide) this.1) (oH (pY (by unfold bN;decide) this.2) nq)
  ·split
   ·exact nq
   ·exact oH (by unfold bN;decide) nq
 have nodes:∀k v,AN (G.fh bc txM (fun v=>D.labels[v]?) (fun v=>D.spots[v]?) k v):=by
  intro k
  induction k with
  | zero=>exact fun v=>nq
  | succ k ih=>exact fun v=>uO (node _ _ v (fun x hx=>List.mem_of_getElem? hx) fun p hp=>List.mem_of_getElem? hp) (ih (v+1))
 have edges:∀(es:List (Nat × Nat)) (ws:List Nat),(∀x∈ws,bN (txM x))->AN (G.fj txM es ws):=by
  intro es
  induction es with
  | nil=>exact fun ws _=>nq
  | cons e es ih=>
   intro ws h
   have e1:∀w,bN (G.uW e w):=fun w=>cU (yE 4) (cU (a:=[60]) (by unfold bN;decide) (cU (a:=G.cN) (by unfold bN;decide) (cU (uR [(G.bS,110::G.dec e.1),(G.bT,110::G.dec e.2)] (by simpa using⟨⟨by unfold bN;decide,yH e.1⟩,by unfold bN;decide,yH e.2⟩)) (tl w))))
   refine uO (oH (e1 _) (uO ?_ ?_)) (ih ws.tail fun x hx=>h x (List.mem_of_mem_tail hx))
   ·cases ws with
    | nil=>exact nq
    | cons w ws=>exact oH (pY (by unfold bN;decide) (h w QB)) nq
   ·split
    ·exact nq
    ·exact oH (by unfold bN;decide) nq
 exact oH (by unfold bN;decide) (oH (by unfold bN;decide) (uO ks (uO (oH (gr _) (uO (nodes _ _) (uO (edges _ _ hw) (oH (by unfold bN;decide) nq)))) (oH (by unfold bN;decide) nq))))
set_option maxHeartbeats 2000000
def Nb (says:ByteArray) (atv:Int) (h:ab) (R Rp:VP):Prop:=QG 150 #[.string says,.string ⟨#[32,9,10,13]⟩] h [] fun j e=>∃b:ByteArray,j= .string b/\QG 149 #[.string b] e [] fun k f=>∃d:Nat,∃a:Int,k= .tuple #[QQ d,QM a]/\QI 18 #[.bool (a==0),QM atv,QM a] f [] (fun l g=>l= .tuple #[]/\QG 151 #[QQ d] g [] fun m i=>∃c:Nat,m= QQ c/\R (QQ c) i) Rp
theorem C1 {h:ab} {R Rp:VP} (says:ByteArray) (atv:Int) (H:Nb says atv h R Rp):QJ 115 #[.string says,QM atv] h R Rp:=fS [] 20 [] [] [] [] Tryz.func115 QC QC H
theorem IT (p:UInt8->Bool) (c:UInt8) (l:QS):((c::l).reverse.dropWhile p).reverse=if((l.reverse.dropWhile p).reverse).isEmpty=true then(if p c=true then []else [c])else c::(l.reverse.dropWhile p).reverse:=by
 rw[List.reverse_cons,List.dropWhile_append]
 by_cases h:(l.reverse.dropWhile p).isEmpty=true
 ·rw[if_pos h,if_pos (by simpa using h)]
  by_cases hc:p c=true<;>simp[hc]
 ·rw[if_neg h,if_neg (by simpa using h)]
  simp
theorem tN (p:UInt8->Bool):∀l:QS,((l.dropWhile p).reverse.dropWhile p).reverse=((l.reverse.dropWhile p).reverse).dropWhile p
 | []=>rfl
 | c::l=>by
  have ih:=tN p l
  rw[IT]
  by_cases hc:p c=true
  ·rw[List.dropWhile_cons_of_pos hc,ih]
   by_cases h:((l.reverse.dropWhile p).reverse).isEmpty=true
   ·rw[if_pos h,if_pos hc,List.isEmpty_iff.1 h]
   ·rw[if_neg h,List.dropWhile_cons_of_pos hc]
  ·rw[List.dropWhile_cons_of_neg hc,IT]
   by_cases h:((l.reverse.dropWhile p).reverse).isEmpty=true
   ·rw[if_pos h,if_neg hc,List.dropWhile_cons_of_neg hc]
   ·rw[if_neg h,List.dropWhile_cons_of_neg hc]
theorem qK :∀l:QS,G.qz l=l.dropWhile fun c=>G.cj c.toNat
 | []=>rfl
 | c::l=>by
  rw[G.qz]
  by_cases h:G.cj c.toNat=true
  ·rw[if_pos h,qK l,List.dropWhile_cons_of_pos (p:=fun c:UInt8=>G.cj c.toNat) h]
  ·rw[if_neg h,List.dropWhile_cons_of_neg (p:=fun c:UInt8=>G.cj c.toNat) h]
theorem Bo (l:QS):G.trimB l=Lib.trimS l [32,9,10,13]:=by
 have e:(fun c:UInt8=>G.cj c.toNat)=fun c=>[32,9,10,13].contains c:=by
  funext c
  have h:∀n:UInt8,(c.toNat=n.toNat)=(c=n):=fun n=>propext ⟨UInt8.toNat_inj.1,fun e=>by rw[e]⟩
  have h1:=h 32
  have h2:=h 9
  have h3:=h 10
  have h4:=h 13
  simp only[G.cj,List.contains_cons,List.contains_nil,Bool.or_false]
  rw[Bool.eq_iff_iff]
  simp only[decide_eq_true_eq,Bool.or_eq_true,beq_iff_eq]
  show c.toNat=(32:UInt8).toNat\/c.toNat=(9:UInt8).toNat\/c.toNat=(10:UInt8).toNat\/c.toNat=(13:UInt8).toNat ↔ _
  rw[h1,h2,h3,h4]
 unfold G.trimB Lib.trimS Lib.trimLeftS Lib.trimRightS
 rw[qK,qK,e,tN]
theorem MO {s:ByteArray} (hs:s.size<=9223372036854775807) {h:ab}:QH 150 #[.string s,.string (⟨#[32,9,10,13]⟩:ByteArray)] h fun v h'=>v= .string (G.mkB (G.trimB s.data.toList))/\Fr [] h h':=
 jR (fun w hw=>Any.strings_Trim_laid Tryz.lays160 QC s ⟨#[32,9,10,13]⟩ w hs QA (ascii_of_all QA)) fun h' f=>⟨by rw[Bo];rfl,f⟩
theorem Gj {gl:GL} {rd:ByteArray->Option (Nat × Nat)} {cl:Nat->Nat} (hr:Me rd gl) (hc:Mg cl):oQ gl rd cl:=by
 intro says a h g hs hu
 apply C1
 unfold Nb
 refine ao [] (MO Qz) QB (fun _ _ r=>r.2) ?_
 rintro v h1 ⟨rfl,f1⟩
 refine⟨_,rfl,?_⟩
 unfold G.pO at hu ⊢
 cases hq:rd (G.mkB (G.trimB says.data.toList))with
 | none=>rw[hq]at hu;exact absurd rfl hu
 | some p=>
  obtain⟨x,e⟩:=p
  have g1:=g.fr f1 QB
  refine ao [] (hr _ x e hq h1 g1) QB (fun _ _ r=>r.2) ?_
  rintro v h2 ⟨rfl,f2⟩
  refine⟨_,_,rfl,?_⟩
  refine aq (fun q=>⟨rfl,?_⟩) fun q=>?_
  ·have e0:e=0:=by simpa using q
   subst e0
   refine ao [] (hc x h2) QB (fun _ _ r=>r.2) ?_
   rintro v h3 ⟨rfl,f3⟩
   exact⟨_,rfl,cl x,rfl,rfl,(f1.trans f2).trans f3⟩
  ·have e0:e≠0:=by rintro rfl;simp at q
   obtain⟨e,rfl⟩:=Nat.exists_eq_succ_of_ne_zero e0
   exact⟨(a,e+1),rfl,rfl,f1.trans f2⟩
theorem wO (gl:GL):oQ gl rdG bF:=Gj (Lq gl) Md
def S3 (d:Int) (dA:QR) (dL dC:Nat) (d2:Bool) (dA2:QR) (dL2 dC2:Nat) (dA3:QR) (dL3 dC3:Nat) (dA4:QR) (dL4 dC4:Nat) (moreA:QR) (moreL moreC:Nat) (h:ab) (R:VP):Prop:=let d0:ab:=h.push (.cells #[QM d,.slice dA dL dC,.bool d2,.slice dA2 dL2 dC2,.slice dA3 dL3 dC3,.slice dA4 dL4 dC4] 29);QG 4 #[] d0 [h.size] fun d5 Y=>∃a7:Bool,d5= .bool a7/\cnd (!a7) (R (.bool false) Y) (let y:=fun(d4:ab)=>(R (.bool true) d4);QG 5 #[.agg #[QM d,.slice dA dL dC,.bool d2,.slice dA2 dL2 dC2,.slice dA3 dL3 dC3,.slice dA4 dL4 dC4]] Y [h.size] fun d6 r=>∃a8:Bool,d6= .bool a8/\cnd (!a8) (y r) (cnd (decide (d>40)) (y r) (cnd (decide ((dL:Int)>(40:Int))) (y r) (cnd ((moreL:Int)==(0:Int)) (R (.bool true) r) (QG 6 #[.agg #[QM d,.slice dA dL dC,.bool d2,.slice dA2 dL2 dC2,.slice dA3 dL3 dC3,.slice dA4 dL4 dC4]] r [h.size] fun d7 Z=>∃n:ByteArray,∃c4:Int,d7= .tuple #[.string n,QM c4]/\cnd (c4 != (0:Int)) (R (.bool (n.toList==(⟨#[]⟩:ByteArray).toList)) Z) (∃(u:LP) (a1:List Value->ab->Nat),u [.slice none 0 0,QM 0,QM 0] Z/\∀(l:QR) (a q:Nat),∀m:Int,∀g:Int,∀p,u [.slice l a q,QM m,QM g] p->cnd (decide (g<(n.size:Int))) (∃w:LP,(0<=g/\g<(n.size:Int)/\∃U:UInt8,n[Int.toNat g]? =some U/\let t:ab:=p.push (.cells #[QP (UInt8.toNat U:Int)] 5);∃a3,ar t 5 1 l a q a3/\(∀b'∈([p.size,h.size]:List Nat),b'∉ai l)/\(a+1)*1<=140737488355328/\(a+1)<=maxLen/\∀sA sC hv8,ar hv8 5 1 sA (a+1) sC (a3++[QP (UInt8.toNat U:Int)])->Fr (ai l) t hv8->((sA=l/\sC=q)\/∃f,sA=some ⟨f,0,none⟩/\t.size<=f)->(q<(a+1)->Fr [] t hv8)->0<=g/\g<(n.size:Int)/\∃c6:UInt8,n[Int.toNat g]? =some c6/\cnd ((UInt8.toNat c6:Int) != (10:Int)) (w [.slice sA (a+1) sC,QM m] hv8) ((moreL:Int)≠0/\∃b o,moreA=some ⟨b,o,none⟩/\0<=(Int.tmod m (moreL:Int))/\(Int.tmod m (moreL:Int))<(moreL:Nat)/\∃s:ByteArray,ac hv8 b (o+(Int.toNat (Int.tmod m (moreL:Int)))*1)=some (.string s)/\∃x:LP,(cnd (decide ((s.size:Int)>(20:Int))) (0<=(20:Int)/\(20:Int)<=(s.size:Int)/\x [.string (s.extract 0 (Int.toNat (20:Int)))] hv8) (x [.string s] hv8))/\∀c:ByteArray,∀a0,x [.string c] a0->∃(v:LP) (a2:List Value->ab->Nat),v [QM 0] a0/\∀i:Int,∀j,v [QM i] j->cnd (decide (i<(c.size:Int))) (0<=i/\i<(c.size:Int)/\∃c7:UInt8,c[Int.toNat i]? =some c7/\cnd ((UInt8.toNat c7:Int)==(45:Int)) (R (.bool true) j) (0<=i/\i<(c.size:Int)/\∃c8:UInt8,c[Int.toNat i]? =some c8/\cnd ((UInt8.toNat c8:Int)==(62:Int)) (R (.bool true) j) (v [QM (i64.wrap (i+1))] j/\a2 [QM (i64.wrap (i+1))] j<a2 [QM i] j))) (∃a4,ar j 5 1 sA (a+1) sC a4/\(∀b'∈([h.size]:List Nat),b'∉ai sA)/\((a+1)+(⟨#[9,60,33,45,45]⟩:ByteArray).size)*1<=140737488355328/\((a+1)+(⟨#[9,60,33,45,45]⟩:ByteArray).size)<=maxLen/\∀sA2 sC2 hv11,ar hv11 5 1 sA2 ((a+1)+(⟨#[9,60,33,45,45]⟩:ByteArray).size) sC2 (a4++(Lib.strCells (⟨#[9,60,33,45,45]⟩:ByteArray)))->Fr (ai sA) j hv11->((sA2=sA/\sC2=sC)\/∃f,sA2=some ⟨f,0,none⟩/\j.size<=f)->(sC<((a+1)+(⟨#[9,60,33,45,45]⟩:ByteArray).size)->Fr [] j hv11)->∃a5,ar hv11 5 1 sA2 ((a+1)+(⟨#[9,60,33,45,45]⟩:ByteArray).size) sC2 a5/\(∀b'∈([h.size]:List Nat),b'∉ai sA2)/\(((a+1)+(⟨#[9,60,33,45,45]⟩:ByteArray).size)+c.size)*1<=140737488355328/\(((a+1)+(⟨#[9,60,33,45,45]⟩:ByteArray).size)+c.size)<=maxLen/\∀sA3 sC3 hv12,ar hv12 5 1 sA3 (((a+1)+(⟨#[9,60,33,45,45]⟩:ByteArray).size)+c.size) sC3 (a5++(Lib.strCells c))->Fr (ai sA2) hv11 hv12->((sA3=sA2/\sC3=sC2)\/∃f,sA3=some ⟨f,0,none⟩/\hv11.size<=f)->(sC2<(((a+1)+(⟨#[9,60,33,45,45]⟩:ByteArray).size)+c.size)->Fr [] hv11 hv12)->∃a6,ar hv12 5 1 sA3 (((a+1)+(⟨#[9,60,33,45,45]⟩:ByteArray).size)+c.size) sC3 a6/\(∀b'∈([h.size]:List Nat),b'∉ai sA3)/\((((a+1)+(⟨#[9,60,33,45,45]⟩:ByteArray).size)+c.size)+(⟨#[45,45,62,13,10]⟩:ByteArray).size)*1<=140737488355328/\((((a+1)+(⟨#[9,60,33,45,45]⟩:ByteArray).size)+c.size)+(⟨#[45,45,62,13,10]⟩:ByteArray).size)<=maxLen/\∀sA4 sC4 hv13,ar hv13 5 1 sA4 ((((a+1)+(⟨#[9,60,33,45,45]⟩:ByteArray).size)+c.size)+(⟨#[45,45,62,13,10]⟩:ByteArray).size) sC4 (a6++(Lib.strCells (⟨#[45,45,62,13,10]⟩:ByteArray)))->Fr (ai sA3) hv12 hv13->((sA4=sA3/\sC4=sC3)\/∃f,sA4=some ⟨f,0,none⟩/\hv12.size<=f)->(sC3<((((a+1)+(⟨#[9,60,33,45,45]⟩:ByteArray).size)+c.size)+(⟨#[45,45,62,13,10]⟩:ByteArray).size)->Fr [] hv12 hv13)->w [.slice sA4 ((((a+1)+(⟨#[9,60,33,45,45]⟩:ByteArray).size)+c.size)+(⟨#[45,45,62,13,10]⟩:ByteArray).size) sC4,QM (i64.wrap (m+1))] hv13)))/\∀(z:QR) (B A:Nat),∀D:Int,∀C,w [.slice z B A,QM D] C->u [.slice z B A,QM D,QM (i64.wrap (g+1))] C/\a1 [.slice z B A,QM D,QM (i64.wrap (g+1))] C<a1 [.slice l a q,QM m,QM g] p) (∃c9:List Int,Reads p 1 l a (List.map (Value.int IntKind.u8) c9)/\QG 7 #[.string (strOf c9)] p [h.size] fun d8 k=>∃E:Int,∃(G:QR) (O K:Nat),∃F:Bool,∃(H:QR) (P L:Nat),∃(I:QR) (Q M:Nat),∃(J:QR) (S N:Nat),∃c5:Int,∃T:Int,d8= .tuple #[.agg #[QM E,.slice G O K,.bool F,.slice H P L,.slice I Q M,.slice J S N],QM c5,QM T]/\let d1:ab:=k.push (.cells #[QM 0,.slice none 0 0,.bool false,.slice none 0 0,.slice none 0 0,.slice none 0 0] 29);let e:ab:=am (am (am (am (am (am d1 k.size 0 (QM E)) k.size (0+1) (.slice G O K)) k.size ((0+1)+1) (.bool F)) k.size (((0+1)+1)+1) (.slice H P L)) k.size ((((0+1)+1)+1)+1) (.slice I Q M)) k.size (((((0+1)+1)+1)+1)+1) (.slice J S N);cnd (decide ((a:Int)>(262144:Int))) (R (.bool (T==23)) e) (let V:=fun(d3:ab)=>(R (.bool false) d3);cnd (c5==(0:Int)) (cnd (T==0) (QG 9 #[.agg #[QM d,.slice dA dL dC,.bool d2,.slice dA2 dL2 dC2,.slice dA3 dL3 dC3,.slice dA4 dL4 dC4]] e [k.size,h.size] fun d9 W=>∃a9:Int,∃(b2:QR) (c0 b6:Nat),∃b0:Bool,∃(b3:QR) (c1 b7:Nat),∃(b4:QR) (c2 b8:Nat),∃(b5:QR) (c3 b9:Nat),d9= .agg #[QM a9,.slice b2 c0 b6,.bool b0,.slice b3 c1 b7,.slice b4 c2 b8,.slice b5 c3 b9]/\Fr [] e W/\QG 8 #[.agg #[QM E,.slice G O K,.bool F,.slice H P L,.slice I Q M,.slice J S N],.agg #[QM a9,.slice b2 c0 b6,.bool b0,.slice b3 c1 b7,.slice b4 c2 b8,.slice b5 c3 b9]] W [k.size,h.size] fun e0 X=>∃b1:Bool,e0= .bool b1/\Fr [] e X/\R (.bool b1) X) (Fr [] e e/\Fr [] e e/\V e)) (Fr [] e e/\Fr [] e e/\V e)))))))))
theorem JW {h:ab} {R:VP} (d:Int) (dA:QR) (dL dC:Nat) (d2:Bool) (dA2:QR) (dL2 dC2:Nat) (dA3:QR) (dL3 dC3:Nat) (dA4:QR) (dL4 dC4:Nat) (moreA:QR) (moreL moreC:Nat) (H:S3 d dA dL dC d2 dA2 dL2 dC2 dA3 dL3 dC3 dA4 dL4 dC4 moreA moreL moreC h R):QH 3 #[.agg #[QM d,.slice dA dL dC,.bool d2,.slice dA2 dL2 dC2,.slice dA3 dL3 dC3,.slice dA4 dL4 dC4],.slice moreA moreL moreC] h R:=aN [2,12,57] 124 [(0,⟨[1,2,5],[7,8,9],[2],[]⟩),(2,⟨[1,2,5,7,8,9,10],[11],[2],[]⟩)] [(74,⟨[1,2,5,7,8,9],[10],[2],[]⟩)] [(1,⟨[1,2,5,9],[7,8],[2],[]⟩)] [(30,⟨13,false⟩)] Tryz.func3 QC QC H
end Go.Proofs.YtemphinmoihdaaaGreatDoor.N
