/- What a text reads as, if its digits are not cut; a number's own text leads back to it. Conditions: none. -/
import Derived.Test.YtemclecmafjjfaaGreatDoorWBack2
import Derived.Test.YtemclecmafjjfaaGreatDoorKDoc
import Derived.Test.YtemclecmafjjfaaGreatDoorWMono
import Derived.Test.YtemclecmafjjfaaGreatDoorSBk
import Derived.Test.YtemclecmafjjfaaGreatDoorXU
set_option linter.unusedVariables false
set_option linter.unusedSimpArgs false
open Go.IntKind (i64 u64 u8 i32)
namespace Go.Proofs.YtemclecmafjjfaaGreatDoor.N
open Go.X Go.Proofs.YtemclecmafjjfaaGreatDoor
set_option maxRecDepth 100000
set_option maxHeartbeats 1000000
def atV (b:ByteArray):Nat:=(fI (scB b).1.m (cf (scB b).1 (scB b).2) (bz b.data.toList).1).1
open Classical in
noncomputable def rdG (b : ByteArray) : Option (Nat × Nat) :=
 if b.size<=262144/\(fG b.data.toList=true->b.size<=64->Txt b (scB b).1 (scB b).2/\(scB b).1.tr=false)then some ((bX b.data.toList (atV b)).1,(bX b.data.toList (atV b)).2.toNat)else none
theorem CK (gl:GL):rR rdG gl:=by
 intro t x e ht h g
 unfold rdG at ht
 split at ht
 ·grind [Int.toNat_of_nonneg,uE,CJ,atV,P37.of]
 ·cases ht
def qc (x:Nat):Nat:=if isNaN x then 9221120237041090561 else x
theorem CL {x:Nat} (hx:x<18446744073709551616):rdG (bR x)=some (qc x,0):=by
 have lit:∀{b:ByteArray} {v:Nat},bR x=b->b.size<=5->fG b.data.toList=false->bX b.data.toList (atV b)=(v,0)->qc x=v->rdG (bR x)=some (qc x,0):=by
  intro b v e h1 h2 h3 h4
  rw[e,h4]
  unfold rdG
  grind
 cases hn:isNaN x with
 | true=>exact lit (b:=⟨#[78,97,78]⟩) (by unfold bR;rw[hn];rfl) (by decide) (by decide) rfl (by unfold qc;rw[hn];rfl)
 | false=>
 have hcan:qc x=x:=by unfold qc;rw[hn];rfl
 cases h1:isInf x with
 | true=>exact lit (b:=⟨#[73,78,70]⟩) (by unfold bR;grind) (by decide) (by decide) rfl (by rw[hcan];exact GS hx hn h1)
 | false=>
 cases h2:isInf (eG x)with
 | true=>
  refine lit (b:=⟨#[45,73,78,70]⟩) (by unfold bR;grind) (by decide) (by decide) rfl ?_
  have hnn:isNaN (eG x)=false:=by rw[nu];exact hn
  rw[hcan,<-FB x,GS (Iu hx) hnn h2];decide
 | false=>
  obtain⟨⟨st,rest,hT,htr,hv⟩,b2,b3,-⟩:=zW hx hn h1 h2
  have hsc:scB (bR x)=(st,rest):=hT.sc
  have hV:atV (bR x)=x:=by unfold atV;grind
  have hfin:isInf (iU x)=false:=by
   have hab:iU x=x\/iU x=eG x:=by
    rw[ye]
    have hN:eG x=x ^^^ 2^63:=rfl
    by_cases hh:x<2^63
    ·omega
    ·right
     rw[hN]
     have e1:(x ^^^ 2^63) % 2^63=x % 2^63:=by rw[Nat.xor_mod_two_pow,Nat.mod_self,Nat.xor_zero]
     have e2:(x ^^^ 2^63)/2^63=0:=by
      rw[Nat.xor_div_two_pow]
      grind
     omega
   grind
  have nn:∀l:List UInt8,fG l=false->(bR x).data.toList≠l:=fun l hl e=>by grind
  have hr:bX (bR x).data.toList x=(x,0):=by
   unfold bX
   rw[if_neg (nn _ (by decide)),if_neg (nn _ (by decide)),if_neg (nn _ (by decide)),if_neg (by rw[b2];decide),if_neg (by show ¬ 64<(bR x).size;omega),if_neg (by grind)]
  unfold rdG
  grind
theorem CB {c:UInt8} (h:isD c=true):G.bx c.toNat=true:=by
 have:=cg.1 h
 simp[G.bx,G.cQ];omega
theorem wm (l:List UInt8):∀c∈l.take (dgN l),G.bx c.toNat=true:=by
 intro c hc
 have e:l.take (dgN l)=l.takeWhile isD:=by
  unfold dgN
  exact(List.prefix_iff_eq_take.1 (List.takeWhile_prefix isD)).symm
 grind [CB,List.all_takeWhile]
theorem oP {l:List UInt8} (k:Nat) (h1:∀c∈l.take k,G.bx c.toNat=true) (h2:∀c∈l.drop k,G.bx c.toNat=true):∀c∈l,G.bx c.toNat=true:=by
 grind [List.take_append_drop]
theorem uw {l:List UInt8} (h:∀c∈aI l,G.bx c.toNat=true):∀c∈l,G.bx c.toNat=true:=by
 cases l with
 | nil=>simp
 | cons a r=>
  rw[show aI (a::r)=if a=43\/a=45 then r else a::r from rfl]at h
  split at h
  ·rename_i ha
   intro c hc
   rcases List.mem_cons.1 hc with rfl | hc
   ·rcases ha with rfl | rfl<;>decide
   ·exact h c hc
  ·exact h
theorem uz {l:List UInt8} (h:wo (some l)=true):∀c∈l,G.bx c.toNat=true:=by
 cases l with
 | nil=>simp
 | cons a t=>
  unfold wo at h
  split at h
  ·grind
  ·grind
  rename_i c t' e
  cases e
  split at h
  ·rename_i ha
   simp only[Bool.and_eq_true,decide_eq_true_eq]at h
   have:=wm (aI t)
   rw[h.2.2,List.take_length]at this
   have ht:=uw this
   intro c hc
   rcases List.mem_cons.1 hc with rfl | hc
   ·rcases ha with rfl | rfl<;>decide
   grind
  ·cases h
theorem CC {l:List UInt8} (h:fG l=true):∀c∈l,G.bx c.toNat=true:=by
 unfold fG at h
 split at h
 ·cases h
 refine uw (oP _ (wm _) ?_)
 generalize (aI l).drop (dgN (aI l))=q at h
 cases q with
 | nil=>simp
 | cons a y=>
  unfold kW at h
  split at h
  ·grind
  rename_i c y' e
  cases e
  split at h
  ·rename_i ha
   split at h
   ·cases h
   ·intro c hc
    rcases List.mem_cons.1 hc with rfl | hc
    ·rw[ha];decide
    ·exact oP _ (wm _) (uz h) c hc
  ·exact uz h
theorem FW {l:List UInt8} (h:fG l=true):∃c r,l=c::r/\(G.cQ c.toNat=true\/c.toNat=43\/c.toNat=45\/c.toNat=46):=by
 unfold fG at h
 split at h
 ·cases h
 rename_i hn
 cases l with
 | nil=>exact absurd rfl hn
 | cons a r=>
  refine⟨a,r,rfl,?_⟩
  rw[show aI (a::r)=if a=43\/a=45 then r else a::r from rfl]at hn
  split at hn
  ·rename_i ha;rcases ha with rfl | rfl
   ·grind
   grind
  ·left
   by_cases hd:isD a=true
   ·have:=cg.1 hd;simp[G.cQ];omega
   ·exfalso;apply hn;unfold dgN;simp_all
theorem ny {x:Nat} (hx:x<18446744073709551616):G.iT rdG (txM x) (qc x):=by
 refine⟨?_,fun b hb=>?_⟩
 ·unfold txM
  cases hn:isNaN x with
  | true=>exact .inr (.inl (by unfold bR;rw[hn];rfl))
  | false=>
  cases h1:isInf x with
  | true=>exact .inr (.inr (by unfold bR;rw[hn,h1];rfl))
  | false=>
  cases h2:isInf (eG x)with
  | true=>
   have e:bR x=⟨#[45,73,78,70]⟩:=by unfold bR;grind
   rw[e]
   exact .inl ⟨⟨45,[73,78,70],rfl,by decide⟩,by decide⟩
  | false=>
   have:=(zW hx hn h1 h2).2.1
   exact .inl ⟨FW this,CC this⟩
 ·have:b=bR x:=by
   apply ByteArray.ext;apply Array.ext';exact hb
  rw[this];exact CL hx
theorem L0 {b:ByteArray} {y:Nat × Nat} (h:rdF b=some y):rdG b=some y:=by
 unfold rdF at h
 split at h
 ·rename_i hc
  obtain⟨h1,h2⟩:=hc
  have hp:b.size<=262144/\(fG b.data.toList=true->b.size<=64->Txt b (scB b).1 (scB b).2/\(scB b).1.tr=false):=⟨h1,fun a c=>⟨(h2 a c).t,(h2 a c).tr⟩⟩
  unfold rdG
  rw[if_pos hp,<-h]
  have e:bX b.data.toList (atV b)=bX b.data.toList (fsV b):=by
   by_cases a:fG b.data.toList=true
   ·by_cases c:b.size<=64
    ·have F:=h2 a c
     congr 1
     unfold atV fsV fI oB
     split
     ·rfl
     rename_i hm
     rw[if_neg (by have:=F.e2;omega),if_neg (by have:=F.e1;omega),if_pos (F.x hm)]
    ·have hl:64<b.data.toList.length:=by simp_all
     unfold bX
     grind
   grind [bX]
  rw[e]
 ·cases h
theorem IK {k:List UInt8} {v:Nat} (h:G.iT rdF k v):G.iT rdG k v:=⟨h.1,fun b hb=>L0 (h.2 b hb)⟩
theorem zk :G.RdW rdG:=fun n hn=>(uF n hn).imp fun _ h=>IK h
theorem zm (x:Nat):bg (qc x)=bg x:=by
 unfold qc
 split
 ·rename_i h
  unfold bg
  rw[if_pos h,if_pos (by decide+kernel)]
 ·rfl
open Go.Proofs
theorem yY (a:MD):dJ a a=true:=by
 have e1:∀x,fe x x=true:=fun x=>by unfold fe;grind
 unfold dJ
 have g:∀{α:Type} (f:α->α->Bool),(∀x,f x x=true)->∀l,eqL f l l=true:=by
  intro α f hf l
  unfold eqL
  rw[decide_eq_true rfl,Bool.true_and]
  induction l with
  | nil=>rfl
  | cons x l ih=>rw[List.zip_cons_cons,List.all_cons,hf,ih];rfl
 rw[g fe e1,g fe2 fun x=>by unfold fe2;rw[e1,e1];rfl]
 simp
section
variable {h:ab} {a:MD} {s t:MDs}
set_option maxHeartbeats 2000000 in
theorem D1 (Hm:Hp h (a.vw s++a.vw t)) (hl:a.es.length<=9223372036854775806/\a.ls.length<=9223372036854775806/\a.ss.length<=9223372036854775806/\a.ws.length<=9223372036854775806):
  ae Tryz.prog 9 #[a.v s,a.v t] h fun v h'=>v= .bool true/\Fr [] h h':=by
 apply Hy
 unfold S9
 intro hv hv2
 have f2:Fr [] h hv2:=(Fr.push h _).trans (Fr.push _ _)
 have Y:=(Sy.start Hm).gr f2
 have oC:ao (a.vw s++a.vw t)=[]:=rfl
 clear_value hv2
 refine ak (R:=fun v h'=>v= .bool true/\Fr [] hv2 h') [] ?_ (by simp) (fun _ _ r=>r.2) ?_
 ·exact(JQ (a:=a) (b:=a) (R:=fun r=>r=dJ a a) hl rfl hv2 _ _ _ _ _ _ _ _ _ _ _ _ _ _ _ _ _ _ _ _ _ _ _ _ Y.hp).mono fun v h' ⟨r,Y,e,q⟩=>⟨by rw[e,q,yY],Y.fr⟩
 rintro v h3 ⟨rfl,f3⟩
 have Y3:=Y.gr f3
 have ls:=Y3.lenV 2 rfl
 have lt:=Y3.lenV 6 rfl
 have lw:=Y3.lenV 3 rfl
 have lx:=Y3.lenV 7 rfl
 have b48:∀{x:Nat} {h:ab},ae Tryz.prog 26 #[.float .f64 x,.float .f64 x] h fun v h'=>v= .bool true/\Fr [] h h':=fun{x h}=>
  (AH (x:=x) (y:=x) (R:=fun r=>r=true) (beq_self_eq_true x) h (Hp.nil _)).mono fun v h' ⟨r,Y,e,q⟩=>⟨by rw[e,q],Y.fr⟩
 refine⟨_,rfl,aG rfl ⟨fun l h'=>∃k:Nat,l=[.int .i64 (k:Int)]/\k<=a.ss.length/\Fr [] h3 h',fun l _=>match l with | [.int _ i]=>((a.ss.length:Int)-i).toNat | _=>0,⟨0,rfl,by omega,Fr.refl _ _⟩,?_⟩⟩
 rintro i h4 ⟨k,e,hk,f4⟩
 cases e
 have Y4:=Y3.gr f4
 have hw:∀k:Nat,k<=9223372036854775806->i64.wrap ((k:Int)+1)=((k+1:Nat):Int):=fun k hk=>by rw[wr (by omega) (by omega)];omega
 refine ag (fun q=>?_) fun q=>?_
 ·have hkl:k<a.ss.length:=by omega
  have hx:a.ss[k]? =some a.ss[k]:=List.getElem?_eq_getElem hkl
  generalize a.ss[k]=x at hx
  obtain⟨b1,o1,e1,_⟩:=Y4.atV 2 rfl (i:=(k:Int)) (by omega) (by omega)
  obtain⟨b2,o2,e2,_⟩:=Y4.atV 6 rfl (i:=(k:Int)) (by omega) (by omega)
  refine⟨b1,o1,e1,by omega,by omega,x.1,Y4.cellV 2 rfl e1 (i:=k) (t:=0) hx rfl,b2,o2,e2,by omega,by omega,x.1,Y4.cellV 6 rfl e2 (i:=k) (t:=0) hx rfl,?_⟩
  refine ak [] b48 (by simp) (fun _ _ r=>r.2) ?_
  rintro v h5 ⟨rfl,f5⟩
  have Y5:=Y4.gr f5
  refine⟨_,rfl,f5,aG rfl ⟨b1,o1,e1,by omega,by omega,x.2,Y4.cellV 2 rfl e1 (i:=k) (t:=1) hx rfl,b2,o2,e2,by omega,by omega,x.2,Y4.cellV 6 rfl e2 (i:=k) (t:=1) hx rfl,?_⟩⟩
  refine ak [] b48 (by simp) (fun _ _ r=>r.2) ?_
  rintro v h6 ⟨rfl,f6⟩
  refine⟨_,rfl,f5.trans f6,aG rfl ?_⟩
  rw[hw k (by omega)]
  exact⟨⟨k+1,rfl,by omega,(f4.trans f5).trans f6⟩,by dsimp only;omega⟩
 ·refine⟨fun l h'=>∃k:Nat,l=[.int .i64 (k:Int)]/\k<=a.ws.length/\Fr [] h3 h',fun l _=>match l with | [.int _ i]=>((a.ws.length:Int)-i).toNat | _=>0,⟨0,rfl,by omega,f4⟩,?_⟩
  rintro i h7 ⟨j,e,hj,f7⟩
  cases e
  have Y7:=Y3.gr f7
  refine ag (fun q2=>?_) fun q2=>⟨rfl,f2.trans (f3.trans f7)⟩
  have hjl:j<a.ws.length:=by omega
  have hx:a.ws[j]? =some a.ws[j]:=List.getElem?_eq_getElem hjl
  generalize a.ws[j]=x at hx
  obtain⟨b1,o1,e1,_⟩:=Y7.atV 3 rfl (i:=(j:Int)) (by omega) (by omega)
  obtain⟨b2,o2,e2,_⟩:=Y7.atV 7 rfl (i:=(j:Int)) (by omega) (by omega)
  refine⟨b1,o1,e1,by omega,by omega,x,Y7.cellV 3 rfl e1 (i:=j) (t:=0) hx rfl,b2,o2,e2,by omega,by omega,x,Y7.cellV 7 rfl e2 (i:=j) (t:=0) hx rfl,?_⟩
  refine ak [] b48 (by simp) (fun _ _ r=>r.2) ?_
  rintro v h8 ⟨rfl,f8⟩
  refine⟨_,rfl,f8,aG rfl ?_⟩
  rw[hw j (by omega)]
  exact⟨⟨j+1,rfl,by omega,f7.trans f8⟩,by dsimp only;omega⟩
end
theorem xx {n:Int} {dir:Bool} {es:Es} {ls:List ByteArray} {ss:List (Nat × Nat)} {ws:List Nat} (q:gk n es ls ss ws=true):G.Ok (iC n dir es ls ss ws):=by
 unfold gk at q
 simp only[Bool.and_eq_true]at q
 obtain⟨m1,m2,m3,m4,m5⟩:=q
 obtain⟨g0,g1,gm,ge⟩:=Ht m1
 obtain⟨N,rfl⟩:∃N:Nat,n=(N:Int):=⟨n.toNat,by omega⟩
 have non:∀{a b:Nat},kL (a:Int) (b:Int)=true->a=0\/a=b:=fun{a b} h=>by unfold kL at h;grind
 refine⟨by show(N:Int).toNat<=1024;omega,by show(es.map _).length<=3072;grind,?_,?_,fun l hl=>?_,?_,?_⟩
 ·intro e he
  obtain⟨x,hx,rfl⟩:=List.mem_map.1 he
  obtain⟨i,hi⟩:=List.mem_iff_getElem?.1 hx
  have:=ge i x hi
  exact⟨by show x.1.toNat<(N:Int).toNat;omega,by show x.2.toNat<(N:Int).toNat;omega⟩
 ·exact(non m2).imp List.eq_nil_of_length_eq_zero fun h=>by show ls.length=(N:Int).toNat;omega
 ·have:=List.all_eq_true.1 m5 l hl
  unfold y7 at this
  grind
 ·exact(non m3).imp List.eq_nil_of_length_eq_zero fun h=>by show ss.length=(N:Int).toNat;omega
 ·exact(non m4).imp List.eq_nil_of_length_eq_zero fun h=>by show ws.length=(es.map _).length;grind
theorem D3 {n:Int} {es:Es} {ls:List ByteArray} {ss:List (Nat × Nat)} {ws:List Nat} (q:gk n es ls ss ws=true):0<=n/\(es.map fun e=>(e.1.toNat,e.2.toNat)).map pr=es:=by
 unfold gk at q
 simp only[Bool.and_eq_true]at q
 obtain⟨g0,g1,gm,ge⟩:=Ht q.1
 refine⟨by omega,?_⟩
 rw[List.map_map]
 refine List.ext_getElem? fun i=>?_
 rw[List.getElem?_map]
 cases hx:es[i]? with
 | none=>rfl
 | some x=>
  have:=ge i x hx
  show some ((x.1.toNat:Int),(x.2.toNat:Int))=some x
  grind
def clD (a:MD):MD:=⟨a.n,a.dir,a.es,a.ls,a.ss.map fun p=>(bg p.1,bg p.2),a.ws.map bg⟩
theorem AL {a:MD} {x:ByteArray} (q:gk a.n a.es a.ls a.ss a.ws=true) (hx:G.Sp (G.pY txM (iC a.n a.dir a.es a.ls a.ss a.ws)) x.data.toList) (hl:x.size<=262144) (hss:∀p∈a.ss,p.1<18446744073709551616/\p.2<18446744073709551616) (hws:∀x∈a.ws,x<18446744073709551616):
  G.read rdG bg x= .ok (iC a.n a.dir a.es a.ls (clD a).ss (clD a).ws):=by
 have:=G.yG (s:=x) (rd:=rdG) (cl:=bg) (f:=qc) (xx q) zk (tx:=txM)
  ⟨fun p hp=>⟨ny (hss p hp).1,ny (hss p hp).2⟩,fun x hx=>ny (hws x hx)⟩ hx hl
 rw[this]
 congr 1
 unfold G.zW iC clD
 simp only[zm]
section
variable {gl:GL} {h:ab} {a:MD} {s:MDs}
theorem MP (g:Gl gl h) {x:ByteArray} (q:gk a.n a.es a.ls a.ss a.ws=true) (hx:x.size<=262144) (rd:G.read rdG bg x= .ok (iC a.n a.dir a.es a.ls (clD a).ss (clD a).ws)):
  ae Tryz.prog 8 #[.string x] h fun v h'=>∃u:MDs,v= .tuple #[(clD a).v u,.int .i64 0,.int .i64 0]/\Sy h [] h' [Ck.sl eP 51 u.aE u.nE u.cE (clD a).es,Ck.sl eS 9 u.aL u.nL u.cL (clD a).ls,Ck.sl eFF 71 u.aS u.nS u.cS (clD a).ss,Ck.sl eF 54 u.aW u.nW u.cW (clD a).ws]:=by
 refine(ok8 (CK gl) kH xp g (by omega) (by rw[rd];simp)).mono ?_
 rintro v h8 (⟨dc,aD,aL2,aS,aW,nD,cD,nL2,cL2,nS,cS,nW,cW,e,rfl,q8⟩ | ⟨f,e,_,q8⟩)
 rotate_left
 ·grind
 rw[rd]at e
 obtain rfl:iC a.n a.dir a.es a.ls (clD a).ss (clD a).ws=dc:=by injection e
 obtain⟨n0,eE⟩:=D3 q
 have en:(((iC a.n a.dir a.es a.ls (clD a).ss (clD a).ws).n:Nat):Int)=(clD a).n:=Int.toNat_of_nonneg n0
 rw[en]
 refine⟨⟨aD,nD,cD,aL2,nL2,cL2,aS,nS,cS,aW,nW,cW⟩,rfl,?_⟩
 have Y:Sy h [] h8 [Ck.sl eP 51 aD nD cD ((iC a.n a.dir a.es a.ls (clD a).ss (clD a).ws).edges.map pr),Ck.sl eS 9 aL2 nL2 cL2 a.ls,Ck.sl eFF 71 aS nS cS (clD a).ss,Ck.sl eF 54 aW nW cW (clD a).ws]:=q8.sy.pick [0,1,2,3] rfl
 grind [iC,clD]
end
set_option maxHeartbeats 2000000
def S4 (d:Int) (dA:Option Addr) (dL dC:Nat) (d2:Bool) (dA2:Option Addr) (dL2 dC2:Nat) (dA3:Option Addr) (dL3 dC3:Nat) (dA4:Option Addr) (dL4 dC4:Nat) (moreA:Option Addr) (moreL moreC:Nat) (h:ab) (R:VP):Prop:=let c9:ab:=h.push (.cells #[.int .i64 d,.slice dA dL dC,.bool d2,.slice dA2 dL2 dC2,.slice dA3 dL3 dC3,.slice dA4 dL4 dC4] 29);ai Tryz.prog 5 #[] c9 [h.size] fun d4 Y=>∃a7:Bool,d4= .bool a7/\cnd (!a7) (R (.bool false) Y) (let B:=fun(d3:ab)=>(R (.bool true) d3);ai Tryz.prog 6 #[.agg #[.int .i64 d,.slice dA dL dC,.bool d2,.slice dA2 dL2 dC2,.slice dA3 dL3 dC3,.slice dA4 dL4 dC4]] Y [h.size] fun d5 t=>∃a8:Bool,d5= .bool a8/\cnd (!a8) (B t) (cnd (decide (d>60)) (B t) (cnd (decide ((dL:Int)>(60:Int))) (B t) (cnd ((moreL:Int)==(0:Int)) (R (.bool true) t) (ai Tryz.prog 7 #[.agg #[.int .i64 d,.slice dA dL dC,.bool d2,.slice dA2 dL2 dC2,.slice dA3 dL3 dC3,.slice dA4 dL4 dC4]] t [h.size] fun d6 Z=>∃q:ByteArray,∃c4:Int,d6= .tuple #[.string q,.int .i64 c4]/\cnd (c4 != (0:Int)) (R (.bool (q.toList==(⟨#[]⟩:ByteArray).toList)) Z) (∃(x:LP) (a1:List Value->ab->Nat),x [.slice none 0 0,.int .i64 0,.int .i64 0] Z/\∀(k:Option Addr) (a r:Nat),∀p:Int,∀g:Int,∀m,x [.slice k a r,.int .i64 p,.int .i64 g] m->cnd (decide (g<(q.size:Int))) (0<=g/\g<(q.size:Int)/\∃c6:UInt8,q[Int.toNat g]? =some c6/\∃z:LP,(cnd ((UInt8.toNat c6:Int)==(10:Int)) ((moreL:Int)≠0/\∃b o,moreA=some ⟨b,o,none⟩/\0<=(Int.tmod p (moreL:Int))/\(Int.tmod p (moreL:Int))<(moreL:Nat)/\∃u:ByteArray,ac m b (o+(Int.toNat (Int.tmod p (moreL:Int)))*1)=some (.string u)/\∃A:LP,(cnd (decide ((u.size:Int)>(20:Int))) (0<=(20:Int)/\(20:Int)<=(u.size:Int)/\A [.string (u.extract 0 (Int.toNat (20:Int)))] m) (A [.string u] m))/\∀c:ByteArray,∀a0,A [.string c] a0->∃(y:LP) (a2:List Value->ab->Nat),y [.int .i64 0] a0/\∀n:Int,∀j,y [.int .i64 n] j->cnd (decide (n<(c.size:Int))) (0<=n/\n<(c.size:Int)/\∃c7:UInt8,c[Int.toNat n]? =some c7/\cnd ((UInt8.toNat c7:Int)==(10:Int)) (R (.bool true) j) (y [.int .i64 (i64.wrap (n+1))] j/\a2 [.int .i64 (i64.wrap (n+1))] j<a2 [.int .i64 n] j)) (∃a3,ar j 5 1 k a r a3/\(∀b'∈([h.size]:List Nat),b'∉ah k)/\(a+(⟨#[32,9,35]⟩:ByteArray).size)*1<=140737488355328/\(a+(⟨#[32,9,35]⟩:ByteArray).size)<=maxLen/\∀sA sC hv9,ar hv9 5 1 sA (a+(⟨#[32,9,35]⟩:ByteArray).size) sC (a3++(Lib.strCells (⟨#[32,9,35]⟩:ByteArray)))->Fr (ah k) j hv9->((sA=k/\sC=r)\/∃f,sA=some ⟨f,0,none⟩/\j.size<=f)->(r<(a+(⟨#[32,9,35]⟩:ByteArray).size)->Fr [] j hv9)->∃a4,ar hv9 5 1 sA (a+(⟨#[32,9,35]⟩:ByteArray).size) sC a4/\(∀b'∈([h.size]:List Nat),b'∉ah sA)/\((a+(⟨#[32,9,35]⟩:ByteArray).size)+c.size)*1<=140737488355328/\((a+(⟨#[32,9,35]⟩:ByteArray).size)+c.size)<=maxLen/\∀sA2 sC2 hv10,ar hv10 5 1 sA2 ((a+(⟨#[32,9,35]⟩:ByteArray).size)+c.size) sC2 (a4++(Lib.strCells c))->Fr (ah sA) hv9 hv10->((sA2=sA/\sC2=sC)\/∃f,sA2=some ⟨f,0,none⟩/\hv9.size<=f)->(sC<((a+(⟨#[32,9,35]⟩:ByteArray).size)+c.size)->Fr [] hv9 hv10)->∃a5,ar hv10 5 1 sA2 ((a+(⟨#[32,9,35]⟩:ByteArray).size)+c.size) sC2 a5/\(∀b'∈([h.size]:List Nat),b'∉ah sA2)/\(((a+(⟨#[32,9,35]⟩:ByteArray).size)+c.size)+(⟨#[10,13,10]⟩:ByteArray).size)*1<=140737488355328/\(((a+(⟨#[32,9,35]⟩:ByteArray).size)+c.size)+(⟨#[10,13,10]⟩:ByteArray).size)<=maxLen/\∀sA3 sC3 hv11,ar hv11 5 1 sA3 (((a+(⟨#[32,9,35]⟩:ByteArray).size)+c.size)+(⟨#[10,13,10]⟩:ByteArray).size) sC3 (a5++(Lib.strCells (⟨#[10,13,10]⟩:ByteArray)))->Fr (ah sA2) hv10 hv11->((sA3=sA2/\sC3=sC2)\/∃f,sA3=some ⟨f,0,none⟩/\hv10.size<=f)->(sC2<(((a+(⟨#[32,9,35]⟩:ByteArray).size)+c.size)+(⟨#[10,13,10]⟩:ByteArray).size)->Fr [] hv10 hv11)->z [.slice sA3 (((a+(⟨#[32,9,35]⟩:ByteArray).size)+c.size)+(⟨#[10,13,10]⟩:ByteArray).size) sC3,.int .i64 (i64.wrap (p+1))] hv11)) (z [.slice k a r,.int .i64 p] m))/\∀(s:Option Addr) (l v:Nat),∀D:Int,∀C,z [.slice s l v,.int .i64 D] C->0<=g/\g<(q.size:Int)/\∃U:UInt8,q[Int.toNat g]? =some U/\let w:ab:=C.push (.cells #[.int .u8 (UInt8.toNat U:Int)] 5);∃a6,ar w 5 1 s l v a6/\(∀b'∈([C.size,h.size]:List Nat),b'∉ah s)/\(l+1)*1<=140737488355328/\(l+1)<=maxLen/\∀sA4 sC4 hv14,ar hv14 5 1 sA4 (l+1) sC4 (a6++[.int .u8 (UInt8.toNat U:Int)])->Fr (ah s) w hv14->((sA4=s/\sC4=v)\/∃f,sA4=some ⟨f,0,none⟩/\w.size<=f)->(v<(l+1)->Fr [] w hv14)->x [.slice sA4 (l+1) sC4,.int .i64 D,.int .i64 (i64.wrap (g+1))] hv14/\a1 [.slice sA4 (l+1) sC4,.int .i64 D,.int .i64 (i64.wrap (g+1))] hv14<a1 [.slice k a r,.int .i64 p,.int .i64 g] m) (∃c8:List Int,Reads m 1 k a (List.map (Value.int IntKind.u8) c8)/\ai Tryz.prog 8 #[.string (strOf c8)] m [h.size] fun d7 i=>∃E:Int,∃(G:Option Addr) (O K:Nat),∃F:Bool,∃(H:Option Addr) (P L:Nat),∃(I:Option Addr) (Q M:Nat),∃(J:Option Addr) (S N:Nat),∃c5:Int,∃T:Int,d7= .tuple #[.agg #[.int .i64 E,.slice G O K,.bool F,.slice H P L,.slice I Q M,.slice J S N],.int .i64 c5,.int .i64 T]/\let d0:ab:=i.push (.cells #[.int .i64 0,.slice none 0 0,.bool false,.slice none 0 0,.slice none 0 0,.slice none 0 0] 29);let e:ab:=am (am (am (am (am (am d0 i.size 0 (.int .i64 E)) i.size (0+1) (.slice G O K)) i.size ((0+1)+1) (.bool F)) i.size (((0+1)+1)+1) (.slice H P L)) i.size ((((0+1)+1)+1)+1) (.slice I Q M)) i.size (((((0+1)+1)+1)+1)+1) (.slice J S N);cnd (decide ((a:Int)>(262144:Int))) (R (.bool (T==23)) e) (let V:=fun(d1:ab)=>(R (.bool false) d1);cnd (c5==(0:Int)) (cnd (T==0) (ai Tryz.prog 10 #[.agg #[.int .i64 d,.slice dA dL dC,.bool d2,.slice dA2 dL2 dC2,.slice dA3 dL3 dC3,.slice dA4 dL4 dC4]] e [i.size,h.size] fun d8 W=>∃a9:Int,∃(b2:Option Addr) (c0 b6:Nat),∃b0:Bool,∃(b3:Option Addr) (c1 b7:Nat),∃(b4:Option Addr) (c2 b8:Nat),∃(b5:Option Addr) (c3 b9:Nat),d8= .agg #[.int .i64 a9,.slice b2 c0 b6,.bool b0,.slice b3 c1 b7,.slice b4 c2 b8,.slice b5 c3 b9]/\Fr [] e W/\ai Tryz.prog 9 #[.agg #[.int .i64 E,.slice G O K,.bool F,.slice H P L,.slice I Q M,.slice J S N],.agg #[.int .i64 a9,.slice b2 c0 b6,.bool b0,.slice b3 c1 b7,.slice b4 c2 b8,.slice b5 c3 b9]] W [i.size,h.size] fun d9 X=>∃b1:Bool,d9= .bool b1/\Fr [] e X/\R (.bool b1) X) (Fr [] e e/\Fr [] e e/\V e)) (Fr [] e e/\Fr [] e e/\V e)))))))))
theorem Hz {h:ab} {R:VP} (d:Int) (dA:Option Addr) (dL dC:Nat) (d2:Bool) (dA2:Option Addr) (dL2 dC2:Nat) (dA3:Option Addr) (dL3 dC3:Nat) (dA4:Option Addr) (dL4 dC4:Nat) (moreA:Option Addr) (moreL moreC:Nat) (H:S4 d dA dL dC d2 dA2 dL2 dC2 dA3 dL3 dC3 dA4 dL4 dC4 moreA moreL moreC h R):ae Tryz.prog 4 #[.agg #[.int .i64 d,.slice dA dL dC,.bool d2,.slice dA2 dL2 dC2,.slice dA3 dL3 dC3,.slice dA4 dL4 dC4],.slice moreA moreL moreC] h R:=aN [2,12,92] 118 [(0,⟨[1,2,5],[7,8,9],[2],[]⟩),(2,⟨[1,2,5,7,8,9,10],[11],[2],[]⟩)] [(56,⟨[1,2,5,9],[7,8],[2],[]⟩),(68,⟨[1,2,5,7,8,9],[10],[2],[]⟩)] [] [(30,⟨13,false⟩)] Tryz.func4 (by kernel_rfl) (by kernel_rfl) H
def ins (ms:Nat->List UInt8):List UInt8->Nat->List UInt8
 | [],_=>[]
 | c::r,n=>if c=10 then [32,9,35]++(ms n++([10,13,10]++10::ins ms r (n+1)))else c::ins ms r n
theorem ol (ms:Nat->List UInt8) (c:UInt8):∀(l:List UInt8) (n:Nat),ins ms (l++[c]) n=ins ms l n++(if c=10 then [32,9,35]++ms (n+l.count 10)++[10,13,10]++[10]else [c])
 | [],n=>by simp only[List.nil_append,ins,List.count_nil,Nat.add_zero];split<;>simp
 | a::l,n=>by
  rw[List.cons_append,ins,ins]
  by_cases ha:a=10
  ·subst ha
   rw[if_pos rfl,if_pos rfl,ol ms c l (n+1),List.count_cons_self,show n+1+List.count 10 l=n+(List.count 10 l+1) by omega]
   grind
  ·rw[if_neg ha,if_neg ha,ol ms c l n,List.count_cons_of_ne (by simpa using ha)];rfl
theorem tS (ms:Nat->List UInt8) (r:List UInt8):∀(l:List UInt8) (n:Nat),(∀c∈l,c≠10)->ins ms (l++10::r) n=l++(([32,9,35]++(ms n++[10,13,10,10]))++ins ms r (n+1))
 | [],n,_=>by rw[List.nil_append,ins,if_pos rfl];simp
 | a::l,n,h=>by
  rw[List.cons_append,ins,if_neg (h a (by simp)),tS ms r l n fun c hc=>h c (by simp[hc])];rfl
theorem AB (ms:Nat->List UInt8):∀(ls:List (List UInt8)) (n:Nat),(∀l∈ls,∀c∈l,c≠10)->(∀j,j<n+ls.length->∀c∈ms j,c≠10)->G.Sp ls (ins ms (G.aJ ls) n)
 | [],n,_,_=>.nil
 | l::ls,n,h,hm=>by
  rw[G.bO,tS ms _ l n (h l (by simp))]
  refine .cons ?_ ⟨32,_,rfl,by decide⟩ (AB ms ls (n+1) (fun l' hl=>h l' (by simp[hl])) fun j hj=>hm j (by simp only[List.length_cons];omega))
  have:=G.Bl.note (n:=ms n) (w:=[13,10,10]) (hm n (by simp)) (.blank (by decide) (.blank (by decide) (.blank (by decide) .nil)))
  exact .blank (by decide) (.blank (by decide) this)
theorem rT (ms:Nat->List UInt8) (hm:∀j,(ms j).length<=20):∀(l:List UInt8) (n:Nat),(ins ms l n).length<=30*l.length
 | [],n=>by simp[ins]
 | c::r,n=>by
  rw[ins]
  have h1:=hm n
  split
  ·have:=rT ms hm r (n+1)
   simp only[List.length_append,List.length_cons,List.length_nil];omega
  ·have:=rT ms hm r n
   simp only[List.length_cons];omega
def cw (l:List UInt8):Prop:=∀c∈l,c≠10
theorem vU {a b:List UInt8} (ha:cw a) (hb:cw b):cw (a++b):=fun c hc=>(List.mem_append.1 hc).elim (ha c) (hb c)
theorem vV (n:Nat):cw (G.dec n):=fun c hc e=>by
 have:=G.jH n c hc
 rw[e]at this;revert this;decide
theorem AC {x:Nat} (hx:x<18446744073709551616):cw (txM x):=by
 have h:=(ny hx).1
 intro c hc e
 rcases h with h | h | h
 ·have:=h.all c hc
  rw[e]at this;revert this;decide
 ·rw[h]at hc;subst e;revert hc;decide
 ·rw[h]at hc;subst e;revert hc;decide
theorem AE :∀n,cw (G.ind n)
 | n=>fun c hc e=>by
  have:c=32:=List.eq_of_mem_replicate hc
  grind
theorem iP {n:Nat} {k v:List UInt8} (hk:cw k) (hv:cw v):cw (G.kv n k v):=vU (AE n) (vU hk fun c hc=>(List.mem_cons.1 hc).elim (fun e=>by rw[e];decide) (hv c))
theorem rU (n:Nat):cw (G.cls n):=vU (AE n) (by unfold cw;decide)
theorem Hq {l:List UInt8} (h:∀c∈l,G.fN c.toNat=true):cw (G.quo l):=by
 have he:cw (G.enc l):=by
  intro c hc e
  obtain⟨x,hx,hcx⟩:=List.mem_flatMap.1 hc
  have hp:=h x hx
  unfold G.rK at hcx
  split at hcx
  ·subst e;revert hcx;decide
  split at hcx
  ·subst e;revert hcx;decide
  ·rw[List.mem_singleton]at hcx
   rw[<-hcx,e]at hp;revert hp;decide
 intro c hc e
 rcases List.mem_cons.1 hc with rfl | hc
 ·grind
 ·rcases List.mem_append.1 hc with hc | hc
  ·exact he c hc e
  grind
def AN (ls:List (List UInt8)):Prop:=∀l∈ls,cw l
theorem qa :AN []:=fun l hl=>by cases hl
theorem jQ {l:List UInt8} {ls:List (List UInt8)} (h:cw l) (k:AN ls):AN (l::ls):=fun x hx=>(List.mem_cons.1 hx).elim (fun e=>e▸h) (k x)
theorem vW {x y:List (List UInt8)} (h:AN x) (k:AN y):AN (x++y):=fun l hl=>(List.mem_append.1 hl).elim (h l) (k l)
theorem Hr {D:G.Dc} (ok:G.Ok D) (ht:∀p∈D.spots,cw (txM p.1)/\cw (txM p.2)) (hw:∀x∈D.weights,cw (txM x)):AN (G.pY txM D):=by
 have kw:cw G.gf/\cw G.cr/\cw G.gh/\cw G.kId/\cw G.dj/\cw G.aZ/\cw G.kX/\cw G.kY/\cw G.eH/\cw G.bc/\cw G.bi/\cw G.cb/\cw [91]/\cw [49]/\cw [48]:=by
  refine⟨?_,?_,?_,?_,?_,?_,?_,?_,?_,?_,?_,?_,?_,?_,?_⟩<;>(unfold cw;decide)
 obtain⟨k1,k2,k3,k4,k5,k6,k7,k8,k9,k10,k11,k12,k13,k14,k15⟩:=kw
 have node:∀(lab:Option ByteArray) (sp:Option (Nat × Nat)) (v:Nat),(∀x,lab=some x->x∈D.labels)->(∀p,sp=some p->p∈D.spots)->AN (G.kB txM lab sp v):=by
  intro lab sp v h1 h2
  refine jQ (iP k3 k13) (jQ (iP k4 (vV v)) (vW ?_ (vW ?_ (jQ (rU 2) qa))))
  ·cases lab with
   | none=>exact qa
   | some x=>exact jQ (iP k5 (Hq (ok.p x (h1 x rfl)).2)) qa
  ·cases sp with
   | none=>exact qa
   | some p=>
    have:=ht p (h2 p rfl)
    exact jQ (iP k6 k13) (jQ (iP k7 this.1) (jQ (iP k8 this.2) (jQ (rU 4) qa)))
 have nodes:∀k v,AN (G.fV txM D k v):=by
  intro k
  induction k with
  | zero=>exact fun v=>qa
  | succ k ih=>exact fun v=>vW (node _ _ v (fun x hx=>List.mem_of_getElem? hx) fun p hp=>List.mem_of_getElem? hp) (ih (v+1))
 have edges:∀(es:List (Nat × Nat)) (ws:List Nat),(∀x∈ws,cw (txM x))->AN (G.eM txM es ws):=by
  intro es
  induction es with
  | nil=>exact fun ws _=>qa
  | cons e es ih=>
   intro ws h
   refine vW (jQ (iP k9 k13) (jQ (iP k10 (vV _)) (jQ (iP k11 (vV _)) (vW ?_ (jQ (rU 2) qa))))) (ih ws.tail fun x hx=>h x (List.mem_of_mem_tail hx))
   cases ws<;>grind [qa,jQ,iP]
 exact jQ (iP k1 k13) (jQ (iP k2 (by grind)) (vW (nodes _ _) (vW (edges _ _ hw) (jQ (rU 0) qa))))
def kK (x:ByteArray):ByteArray:=if 20<x.size then x.extract 0 20 else x
theorem tV (x:ByteArray):(kK x).size<=20:=by
 unfold kK
 split
 ·rw[ByteArray.size_extract];omega
 ·omega
def msF (ms:List ByteArray) (n:Nat):List UInt8:=
 match ms[n % ms.length]? with
 | some x=>(kK x).data.toList
 | none=>[]
theorem xw (ms:List ByteArray) (n:Nat):(msF ms n).length<=20:=by
 unfold msF
 split
 ·exact tV _
 ·simp
abbrev byB (A:Option Addr) (c:Nat) (l:List UInt8):Ck:=Ck.sl (eK .u8) 5 A l.length c (bI l)
section
variable {h0 hv:ab} {M:List Nat} {cs:List Ck} {A:Option Addr} {c:Nat} {l:List UInt8} {H:List Nat} {K:Option Addr->Nat->ab->Prop}
theorem Hs (w:ByteArray) (k:Nat) (Y:Sy h0 M hv cs) (hk:cs[k]? =some (byB A c l)) (hH:∀b∈H,b∉ah A) (hl:l.length+w.size<=100000000) {n:Nat} (hn:n=l.length) (K1:∀sA sC h',Sy h0 M h' (cs.set k (byB sA sC (l++w.data.toList)))->K sA sC h'):
  ∃old,ar hv 5 1 A n c old/\(∀b∈H,b∉ah A)/\(n+w.size)*1<=140737488355328/\(n+w.size)<=maxLen/\
   ∀sA sC h',ar h' 5 1 sA (n+w.size) sC (old++Lib.strCells w)->Fr (ah A) hv h'->((sA=A/\sC=c)\/∃g,sA=some ⟨g,0,none⟩/\hv.size<=g)->(c<(n+w.size)->Fr [] hv h')->K sA sC h':=by
 subst hn
 refine⟨_,Y.ownS k hk,hH,by omega,by unfold maxLen;omega,fun sA sC h' ow f g _=>K1 sA sC h' ?_⟩
 have e:Lib.strCells w=(eK .u8).l (bI w.data.toList):=(jB w).symm
 rw[e]at ow
 have Y1:=Y.appS k hk (bI w.data.toList) ow f g rfl (by rw[AG];rfl)
 have el:(l++w.data.toList).length=l.length+w.size:=List.length_append
 unfold byB
 rw[el,rX]
 exact Y1
end
theorem qx :∀LS:List (List UInt8),AN LS->(G.aJ LS).count 10=LS.length
 | [],_=>rfl
 | l::ls,nd=>by
  rw[G.bO,List.count_append,List.count_cons_self,qx ls (fun x hx=>nd x (by simp[hx])),List.count_eq_zero_of_not_mem fun hm=>nd l (by simp) 10 hm rfl,List.length_cons]
  omega
section
variable {gl:GL} {h:ab} {a:MD} {s:MDs} {mA:Option Addr} {mL mC:Nat} {ms:List ByteArray}
set_option maxHeartbeats 4000000 in
theorem AF (Hm:Hp h (Ck.glob gl::(a.vw s++[Ck.vw eS mA mL mC ms]))) (hls:∀x∈a.ls,x.size<=9223372036854775807) (hss:∀p∈a.ss,p.1<18446744073709551616/\p.2<18446744073709551616) (hws:∀x∈a.ws,x<18446744073709551616):
  ae Tryz.prog 4 #[a.v s,.slice mA mL mC] h fun v h'=>v= .bool true/\Fr [] h h':=by
 apply Hz
 unfold S4
 intro h1
 have Y1:Sy h [] h1 (Ck.glob gl::(a.vw s++[Ck.vw eS mA mL mC ms])++[Ck.junk h.size]):=(Sy.startM Hm rfl).junk _
 clear_value h1
 refine ak [] (hd1 (Y1.ok (k:=0) (c:=Ck.glob gl) rfl)) (by simp) (fun _ _ r=>r.2) ?_
 rintro v h2 ⟨rfl,f2⟩
 have Y2:=Y1.gr f2
 refine⟨_,rfl,aG rfl ?_⟩
 intro K
 refine ak (R:=fun v h'=>(∃r,v= .bool r/\(r=true->a.es.length<=300/\a.ls.length<=2000/\a.ss.length<=2000/\a.ws.length<=4000))/\Fr [] h2 h') [] ?_ (by simp) (fun _ _ r=>r.2) ?_
 ·exact(MO (n:=a.n) (es:=a.es) (dr:=a.dir) (ls:=a.ls) (ss:=a.ss) (ws:=a.ws) (R:=fun r=>r=true->a.es.length<=300/\a.ls.length<=2000/\a.ss.length<=2000/\a.ws.length<=4000) (fun _ hb=>hb) h2 _ _ _ _ _ _ _ _ _ _ _ _ (Y2.pick [1,2,3,4] rfl).hp).mono fun v h' ⟨r,Y,e,q⟩=>⟨⟨r,e,q⟩,Y.fr⟩
 rintro v h3 ⟨⟨r,rfl,ha⟩,f3⟩
 have Y3:=Y2.gr f3
 have done:∀{h':ab},Fr [] h3 h'->(Value.bool true=Value.bool true/\Fr [] h h'):=fun f=>⟨rfl,Y3.fr.trans f⟩
 refine⟨_,rfl,aV (fun q=>done (Fr.refl _ _)) fun q=>ag (fun _=>done (Fr.refl _ _)) fun _=>ag (fun _=>done (Fr.refl _ _)) fun _=>av (fun _=>done (Fr.refl _ _)) fun hm0=>?_⟩
 obtain⟨a1,a2,a3,a4⟩:=ha q
 have htx:(∀p∈a.ss,rZ gl txM p.1/\rZ gl txM p.2)/\∀x∈a.ws,rZ gl txM x:=
  ⟨fun p hp=>⟨vZ (hss p hp).1,vZ (hss p hp).2⟩,fun x hx=>vZ (hws x hx)⟩
 refine ak [] (ok7 (tx:=txM) (n:=a.n) (dir:=a.dir) (Y3.pick [0,1,2,3,4] rfl).hp hls (by omega) htx.1 htx.2) (by simp) (fun _ _ r=>r.2) ?_
 rintro v h4 ⟨rfl,f4⟩
 have Y4:=Y3.gr f4
 refine⟨_,_,rfl,?_⟩
 by_cases qd:gk a.n a.es a.ls a.ss a.ws=false
 ·have ew:wrV txM a.n a.dir a.es a.ls a.ss a.ws=([],1):=by unfold wrV;rw[if_pos qd]
  rw[ew]
  exact aO rfl ⟨congrArg Value.bool (by rw[sj];decide),Y4.fr⟩
 have qd:gk a.n a.es a.ls a.ss a.ws=true:=by simpa using qd
 by_cases hl:262144<(G.wr txM (iC a.n a.dir a.es a.ls a.ss a.ws)).length
 ·have ew:wrV txM a.n a.dir a.es a.ls a.ss a.ws=([],23):=by unfold wrV;rw[if_neg (by rw[qd];decide),if_pos hl]
  rw[ew]
  exact aO rfl ⟨congrArg Value.bool (by rw[sj];decide),Y4.fr⟩
 have ew:wrV txM a.n a.dir a.es a.ls a.ss a.ws=(G.wr txM (iC a.n a.dir a.es a.ls a.ss a.ws),0):=by unfold wrV;rw[if_neg (by rw[qd];decide),if_neg hl]
 rw[ew]
 refine aG rfl ?_
 have eT:G.wr txM (iC a.n a.dir a.es a.ls a.ss a.ws)=G.aJ (G.pY txM (iC a.n a.dir a.es a.ls a.ss a.ws)):=rfl
 have nd:=Hr (xx (dir:=a.dir) qd) (fun p hp=>⟨AC (hss p hp).1,AC (hss p hp).2⟩) fun x hx=>AC (hws x hx)
 generalize hls2:G.pY txM (iC a.n a.dir a.es a.ls a.ss a.ws)=LS at*
 generalize hT:G.wr txM (iC a.n a.dir a.es a.ls a.ss a.ws)=T at*
 have hTs:(G.mkB T).size=T.length:=dM T
 have lM:=Y4.lenV 5 rfl
 have hmp:0<ms.length:=by
  have:¬((mL:Nat):Int)=0:=hm0
  omega
 show ∃Iv m,_
 rw[hTs]
 refine⟨fun lz h'=>∃(i:Nat) (A:Option Addr) (c:Nat),lz=[.slice A (ins (msF ms) (T.take i) 0).length c,.int .i64 (((T.take i).count 10:Nat):Int),.int .i64 (i:Int)]/\i<=T.length/\(∀j,j<(T.take i).count 10->cw (msF ms j))/\Sy h [] h' (Ck.glob gl::(a.vw s++[Ck.vw eS mA mL mC ms])++[Ck.junk h.size]++[byB A c (ins (msF ms) (T.take i) 0)]),
  fun lz _=>match lz with | [_,_,.int _ i]=>((T.length:Int)-i).toNat | _=>0,⟨0,none,0,rfl,by omega,(fun j hj=>by simp at hj),Y4.nilS (eK .u8) 5⟩,?_⟩
 rintro bA bL bC n i h6 ⟨i,A,c,e,hi,hnn,Y6⟩
 cases e
 have len6:=rT (msF ms) (xw ms) (T.take i) 0
 rw[List.length_take,Nat.min_eq_left hi]at len6
 have f36:Fr [] h h6:=Y6.fr
 refine ag (fun hlt=>?_) fun hlt=>?_
 ·have hil:i<T.length:=by omega
  have hx:T[i]? =some T[i]:=List.getElem?_eq_getElem hil
  generalize T[i]=x at hx
  have hxb:(G.mkB T)[Int.toNat ((i:Nat):Int)]? =some x:=by
   rw[Int.toNat_natCast];show(G.mkB T).data[i]? =some x
   rw[<-Array.getElem?_toList,qb];exact hx
  have tk:T.take (i+1)=T.take i++[x]:=by rw[List.take_add_one,hx];rfl
  have cnt:(T.take i).count 10<=T.length:=Nat.le_trans List.count_le_length (by rw[List.length_take];omega)
  have sn:=ol (msF ms) x (T.take i) 0
  rw[<-tk,Nat.zero_add]at sn
  refine⟨by omega,hlt,x,hxb,fun lz h'=>∃(A:Option Addr) (c:Nat) (mid:List UInt8) (k:Nat),lz=[.slice A (ins (msF ms) (T.take i) 0++mid).length c,.int .i64 ((((T.take i).count 10+k:Nat)):Int)]/\mid++[x]=(if x=10 then [32,9,35]++msF ms ((T.take i).count 10)++[10,13,10]++[10]else [x])/\k=(if x=10 then 1 else 0)/\(x=10->cw (msF ms ((T.take i).count 10)))/\Sy h [] h' (Ck.glob gl::(a.vw s++[Ck.vw eS mA mL mC ms])++[Ck.junk h.size]++[byB A c (ins (msF ms) (T.take i) 0++mid)]),⟨fun hx10=>?_,fun hx10=>?_⟩,?_⟩
  ·have hx10:x=10:=UInt8.toNat_inj.1 (Int.ofNat.inj (by simpa using hx10))
   subst hx10
   generalize hN:(T.take i).count 10=N at*
   have hmod:Int.tmod ((N:Nat):Int) ((mL:Nat):Int)=((N % ms.length:Nat):Int):=by
    rw[lM,Int.tmod_eq_emod_of_nonneg (by omega)];rfl
   have hk:=Nat.mod_lt N hmp
   have hxm:ms[N % ms.length]? =some ms[N % ms.length]:=List.getElem?_eq_getElem hk
   generalize ms[N % ms.length]=w at hxm
   have hmf:msF ms N=(kK w).data.toList:=by unfold msF;rw[hxm]
   obtain⟨b,o,ea,_⟩:=Y6.atV 5 rfl (i:=((N % ms.length:Nat):Int)) (by omega) (by omega)
   rw[hmod]
   refine⟨hm0,b,o,ea,by omega,by omega,w,Y6.cellV 5 rfl ea (i:=N % ms.length) (t:=0) hxm rfl,fun lz h'=>lz=[.string (kK w)]/\h'=h6,ag (fun q=>⟨by omega,by omega,?_,rfl⟩) fun q=>⟨?_,rfl⟩,?_⟩
   ·unfold kK;rw[if_pos (by omega)];rfl
   ·unfold kK;rw[if_neg (by omega)]
   rintro x2 h7 ⟨e,rfl⟩
   obtain rfl:x2=kK w:=by simpa using e
   have s20:=tV w
   generalize kK w=y at*
   refine⟨fun lz h'=>∃k:Nat,lz=[.int .i64 (k:Int)]/\k<=y.size/\(∀c∈y.data.toList.take k,c≠10)/\h'=h7,fun lz _=>match lz with | [.int _ k]=>((y.size:Int)-k).toNat | _=>0,⟨0,rfl,by omega,(fun c hc=>by simp at hc),rfl⟩,?_⟩
   rintro kk h8 ⟨k,e,hk2,hnk,rfl⟩
   cases e
   refine ag (fun q=>?_) fun q=>?_
   ·have hky:k<y.size:=by omega
    obtain⟨z,hz,-⟩:=get_at hky
    have hzl:y.data.toList[k]? =some z:=by rw[Array.getElem?_toList];exact hz
    refine⟨by omega,q,z,by rw[Int.toNat_natCast];exact hz,⟨fun hz10=>⟨rfl,Y6.fr⟩,fun hz10=>?_⟩⟩
    rw[wrN (by omega)]
    refine⟨⟨k+1,rfl,by omega,?_,rfl⟩,by dsimp only;omega⟩
    intro c hc
    rw[List.take_add_one,hzl]at hc
    rcases List.mem_append.1 hc with hc | hc
    ·exact hnk c hc
    ·rw[List.mem_singleton.1 hc]
     rintro rfl
     exact absurd hz10 (by decide)
   ·have hke:k=y.data.toList.length:=by show k=y.size;omega
    subst hke
    rw[List.take_length]at hnk
    have ysz:y.data.toList.length=y.size:=rfl
    have hH:∀{h':ab} {A':Option Addr} {c':Nat} {l':List UInt8},Sy h [] h' (Ck.glob gl::(a.vw s++[Ck.vw eS mA mL mC ms])++[Ck.junk h.size]++[byB A' c' l'])->∀b∈([h.size]:List Nat),b∉ah A':=fun Y b hb=>by
     rw[List.mem_singleton.1 hb];exact Y.nJ 7 6 rfl rfl rfl
    refine Hs (⟨#[32,9,35]⟩:ByteArray) 7 Y6 rfl (hH Y6) (by show _+3<=_;omega) rfl fun A1 c1 h9 Y9=>?_
    refine Hs y 7 Y9 rfl (hH Y9) (by rw[List.length_append];show _+3+_<=_;omega) (by rw[List.length_append];rfl) fun A2 c2 h10 Y10=>?_
    refine Hs (⟨#[10,13,10]⟩:ByteArray) 7 Y10 rfl (hH Y10) (by rw[List.length_append,List.length_append];show _+3+_+3<=_;omega) (by rw[List.length_append,List.length_append];rfl) fun A3 c3 h11 Y11=>?_
    have el:((ins (msF ms) (T.take i) 0).length+(⟨#[32,9,35]⟩:ByteArray).size+y.size)+(⟨#[10,13,10]⟩:ByteArray).size=(ins (msF ms) (T.take i) 0++([32,9,35]++y.data.toList++[10,13,10])).length:=by
     simp only[List.length_append,ysz]
     show _+3+_+3=_+(3+_+3);omega
    rw[el,wrN (by omega)]
    refine⟨A3,c3,[32,9,35]++y.data.toList++[10,13,10],1,rfl,by rw[if_pos rfl,hmf],rfl,fun _=>by rw[hmf];exact hnk,?_⟩
    have:=Y11
    simp only[List.append_assoc]at this ⊢
    exact this
  ·have hx10:x≠10:=by rintro rfl;simp at hx10
   refine⟨_,_,[],0,by rw[List.append_nil];rfl,by rw[if_neg hx10];rfl,by rw[if_neg hx10],fun z=>absurd z hx10,by rw[List.append_nil];exact Y6⟩
  ·rintro A2 L2 C2 n2 h12 ⟨A3,c3,mid,k,e,hmid,hk,hno,Y12⟩
   cases e
   refine⟨by omega,hlt,x,hxb,?_⟩
   intro h13
   have hml:mid.length<=30:=by
    have:=congrArg List.length hmid
    have:=xw ms ((T.take i).count 10)
    split at hmid
    ·have e1:=congrArg List.length hmid
     simp only[List.length_append,List.length_cons,List.length_nil]at e1;omega
    ·have e1:=congrArg List.length hmid
     simp only[List.length_append,List.length_cons,List.length_nil]at e1;omega
   have Y13:=Y12.junk (.cells #[.int .u8 ((x.toNat:Nat):Int)] 5)
   have Y13g:Sy h [] h13 _:=Y12.gr (Fr.push h12 _)
   refine⟨_,Y13g.ownS 7 rfl,?_,by rw[List.length_append];omega,by unfold maxLen;rw[List.length_append];omega,fun sA sC h14 ow f g _=>?_⟩
   ·intro b hb
    rcases List.mem_cons.1 hb with rfl | hb
    ·exact Y13.nJ 7 8 rfl rfl rfl
    ·rw[List.mem_singleton.1 hb];exact Y13.nJ 7 6 rfl rfl rfl
   have Y14:=Y13g.appS 7 rfl (bI [x]) ow f g rfl rfl
   have el:(ins (msF ms) (T.take i) 0++mid).length+1=(ins (msF ms) (T.take (i+1)) 0).length:=by
    rw[sn,<-hmid];simp only[List.length_append,List.length_cons,List.length_nil];omega
   have ec:(T.take i).count 10+k=(T.take (i+1)).count 10:=by
    rw[tk,List.count_append,hk]
    congr 1
    by_cases hx10:x=10
    ·subst hx10;rfl
    ·rw[if_neg hx10,List.count_cons_of_ne (by simpa using hx10)];rfl
   rw[el,ec,wrN (by omega)]
   refine⟨⟨i+1,sA,sC,rfl,hil,?_,?_⟩,by dsimp only;omega⟩
   ·intro j hj
    rw[<-ec]at hj
    by_cases hjc:j<(T.take i).count 10
    ·exact hnn j hjc
    ·have:x=10:=by
      by_cases hx10:x=10
      ·exact hx10
      ·rw[if_neg hx10]at hk;omega
     have e2:j=(T.take i).count 10:=by rw[if_pos this]at hk;omega
     rw[e2];exact hno this
   ·have e3:bI (ins (msF ms) (T.take i) 0++mid)++bI [x]=bI (ins (msF ms) (T.take (i+1)) 0):=by
     rw[sn,<-hmid,<-rX,List.append_assoc]
    rw[el,e3]at Y14
    exact Y14
 ·have hie:i=T.length:=by omega
  subst hie
  rw[List.take_length]at Y6 hnn len6 ⊢
  generalize hb:ins (msF ms) T 0=b at*
  refine⟨bI b,Dz (Y6.readsS 7 rfl),?_⟩
  rw[AK]
  by_cases hbig:262144<b.length
  ·have rd:G.read rdG bg (G.mkB b)= .no (0,23):=by
    unfold G.read;rw[decide_eq_false (by rw[dM];omega)];rfl
   refine ak (R:=rdR gl (G.mkB b) rdG bg h6) [] (ok8 (CK gl) kH xp (Y6.ok (k:=0) (c:=Ck.glob gl) rfl) (by rw[dM];omega) (by rw[rd];simp)) (by simp) ?_ ?_
   ·rintro v h' (⟨dc,aD,aL,aS,aW,nD,cD,nL,cL,nS,cS,nW,cW,_,_,q⟩ | ⟨f,_,_,q⟩)
    ·exact q.fr
    ·exact q
   rintro v h8 (⟨dc,aD,aL2,aS,aW,nD,cD,nL2,cL2,nS,cS,nW,cW,e,-,-⟩ | ⟨f,e,rfl,f8⟩)
   ·rw[rd]at e;cases e
   rw[rd]at e
   obtain rfl:((0,23):G.F)=f:=by injection e
   refine⟨_,_,_,_,_,_,_,_,_,_,_,_,_,_,_,_,rfl,?_⟩
   intro h9 h10
   have f10:Fr [] h8 h10:=((((((Fr.push h8 _).hsetL (Nat.le_refl _)).hsetL (Nat.le_refl _)).hsetL (Nat.le_refl _)).hsetL (Nat.le_refl _)).hsetL (Nat.le_refl _)).hsetL (Nat.le_refl _)
   exact aO (decide_eq_true (by omega)) ⟨rfl,(Y6.fr.trans f8).trans f10⟩
  have sp:G.Sp LS b:=by
   rw[<-hb,eT]
   refine AB _ LS 0 nd fun j hj=>hnn j ?_
   have:T.count 10=LS.length:=by rw[eT];exact qx LS nd
   omega
  have rd:=AL (x:=G.mkB b) qd (by rw[qb,hls2];exact sp) (by rw[dM];omega) hss hws
  refine ak [] (MP (Y6.ok (k:=0) (c:=Ck.glob gl) rfl) qd (by rw[dM];omega) rd) (by simp) (fun _ _ ⟨_,_,r⟩=>r.fr) ?_
  rintro v h7 ⟨u,rfl,Z7⟩
  have Y7:=((((Y6.callV Z7 ⟨rfl,rfl,rfl,rfl,trivial⟩).turn 8 rfl To.slvw).turn 9 rfl To.slvw).turn 10 rfl To.slvw).turn 11 rfl To.slvw
  refine⟨(clD a).n,u.aE,u.nE,u.cE,(clD a).dir,u.aL,u.nL,u.cL,u.aS,u.nS,u.cS,u.aW,u.nW,u.cW,0,0,rfl,?_⟩
  intro h8 h9
  have f9:Fr [] h7 h9:=((((((Fr.push h7 _).hsetL (Nat.le_refl _)).hsetL (Nat.le_refl _)).hsetL (Nat.le_refl _)).hsetL (Nat.le_refl _)).hsetL (Nat.le_refl _)).hsetL (Nat.le_refl _)
  have Y9:=Y7.gr f9
  clear_value h9
  refine ag (fun q2=>absurd q2 (by omega)) fun _=>?_
  intro K2
  refine aO rfl (aO rfl ?_)
  refine ak (R:=fun v h'=>∃t:MDs,v=(clD a).v t/\Sy h9 [] h' [Ck.sl eP 51 t.aE t.nE t.cE (clD a).es,Ck.sl eS 9 t.aL t.nL t.cL (clD a).ls,Ck.sl eFF 71 t.aS t.nS t.cS (clD a).ss,Ck.sl eF 54 t.aW t.nW t.cW (clD a).ws]) [] ?_ (by simp) (fun _ _ ⟨_,_,r⟩=>r.fr) ?_
  ·refine(JP (n:=a.n) (es:=a.es) (dr:=a.dir) (ls:=a.ls) (ss:=a.ss) (ws:=a.ws) (R:=fun n es dr ls ss ws=>n=(clD a).n/\es=(clD a).es/\dr=(clD a).dir/\ls=(clD a).ls/\ss=(clD a).ss/\ws=(clD a).ws) a1 a2 a3 a4 ⟨rfl,rfl,rfl,rfl,rfl,rfl⟩ h9 _ _ _ _ _ _ _ _ _ _ _ _ (Y9.pick [1,2,3,4] rfl).hp).mono ?_
   rintro v h' ⟨n,eA,eL,eC,es,dr,lA,lL,lC,ls,sA,sL,sC,ss,wA,wL,wC,ws,Y,rfl,rfl,rfl,rfl,rfl,rfl,rfl⟩
   exact⟨⟨eA,eL,eC,lA,lL,lC,sA,sL,sC,wA,wL,wC⟩,rfl,Y⟩
  rintro v h10 ⟨t,rfl,Z10⟩
  have Y10:=((((Y9.callV Z10 ⟨rfl,rfl,rfl,rfl,trivial⟩).turn 12 rfl To.slvw).turn 13 rfl To.slvw).turn 14 rfl To.slvw).turn 15 rfl To.slvw
  refine⟨(clD a).n,t.aE,t.nE,t.cE,(clD a).dir,t.aL,t.nL,t.cL,t.aS,t.nS,t.cS,t.aW,t.nW,t.cW,rfl,Z10.fr,?_⟩
  have lc:(clD a).es.length<=9223372036854775806/\(clD a).ls.length<=9223372036854775806/\(clD a).ss.length<=9223372036854775806/\(clD a).ws.length<=9223372036854775806:=by
   unfold clD;simp only[List.length_map];exact⟨by omega,by omega,by omega,by omega⟩
  refine ak [] (D1 (a:=clD a) (s:=u) (t:=t) (Y10.pick [8,9,10,11,12,13,14,15] rfl).hp lc) (by simp) (fun _ _ r=>r.2) ?_
  rintro v h11 ⟨rfl,f11⟩
  exact⟨_,rfl,Z10.fr.trans f11,rfl,(Y10.gr f11).fr⟩
end
end Go.Proofs.YtemclecmafjjfaaGreatDoor.N
