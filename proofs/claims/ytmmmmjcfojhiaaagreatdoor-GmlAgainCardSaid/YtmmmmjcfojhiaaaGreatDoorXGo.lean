/- What a text reads as, if its digits are not cut; a number's own text leads back to it. Conditions: none. -/
import Derived.Test.YtmmmmjcfojhiaaaGreatDoorWBack2
import Derived.ScopeJumps
set_option linter.unusedVariables false
set_option linter.unusedSimpArgs false
set_option maxRecDepth 100000
set_option maxHeartbeats 2000000
open Go.IntKind (i64 u64 u8 i32)
namespace Go.Proofs.YtmmmmjcfojhiaaaGreatDoor.N
open Go.X Go.Proofs.YtmmmmjcfojhiaaaGreatDoor
def atV (b:P0):Nat:=(fp (scB b).1.m (bx (scB b).1 (scB b).2) (av b.data.toList).1).1
open Classical in
noncomputable def rdG (b : ByteArray) : Option (Nat × Nat) :=
 if b.size<=262144/\(fF b.data.toList=true->b.size<=64->Txt b (scB b).1 (scB b).2/\(scB b).1.tr=false)then some ((cf b.data.toList (atV b)).1,(cf b.data.toList (atV b)).2.toNat)else none
theorem KC (gl:GL):qO rdG gl:=by
 intro t x e ht h g
 unfold rdG at ht
 split at ht
 ·grind [Int.toNat_of_nonneg,pN,xD,atV,P37.of]
 ·cases ht
def qS (x:Nat):Nat:=if isNaN x then 9221120237041090561 else x
theorem D2 {x:Nat} (hx:x<18446744073709551616):rdG (bZ x)=some (qS x,0):=by
 have lit:∀{b:P0} {v:Nat},bZ x=b->b.size<=5->fF b.data.toList=false->cf b.data.toList (atV b)=(v,0)->qS x=v->rdG (bZ x)=some (qS x,0):=by
  intro b v e h1 h2 h3 h4
  rw[e,h4]
  unfold rdG
  grind
 cases hn:isNaN x with
 | true=>exact lit (b:=⟨#[78,97,78]⟩) (by unfold bZ;rw[hn];rfl) PB PB rfl (by unfold qS;rw[hn];rfl)
 | false=>
 have hcan:qS x=x:=by unfold qS;rw[hn];rfl
 cases h1:isInf x with
 | true=>exact lit (b:=⟨#[73,78,70]⟩) (by unfold bZ;grind) PB PB rfl (by rw[hcan];exact Ij hx hn h1)
 | false=>
 cases h2:isInf (fh x)with
 | true=>
  refine lit (b:=⟨#[45,73,78,70]⟩) (by unfold bZ;grind) PB PB rfl ?_
  have hnn:isNaN (fh x)=false:=by rw[ox];exact hn
  rw[hcan,<-G6 x,Ij (Dk hx) hnn h2];decide
 | false=>
  obtain⟨⟨st,rest,hT,htr,hv⟩,b2,b3,-⟩:=Ba hx hn h1 h2
  have hsc:scB (bZ x)=(st,rest):=hT.sc
  have hV:atV (bZ x)=x:=by unfold atV;grind
  have hfin:isInf (jk x)=false:=by
   have hab:jk x=x\/jk x=fh x:=by
    rw[zb]
    have hN:fh x=x ^^^ 2^63:=rfl
    by_cases hh:x<2^63
    ·omega
    ·right
     rw[hN]
     have e1:(x ^^^ 2^63) % 2^63=x % 2^63:=by rw[Sc,Nat.mod_self,Nat.xor_zero]
     have e2:(x ^^^ 2^63)/2^63=0:=by
      rw[Nat.xor_div_two_pow]
      grind
     omega
   grind
  have nn:∀l:PZ,fF l=false->(bZ x).data.toList≠l:=fun l hl e=>by grind
  have hr:cf (bZ x).data.toList x=(x,0):=by
   unfold cf
   rw[if_neg (nn _ PB),if_neg (nn _ PB),if_neg (nn _ PB),if_neg (by rw[b2];decide),if_neg (by show ¬ 64<(bZ x).size;omega),if_neg PE]
  unfold rdG
  grind
theorem DT {c:UInt8} (h:isD c=true):G.bM c.toNat=true:=by
 have:=cb.1 h
 simp[G.bM,G.dy];omega
theorem xy (l:PZ):∀c∈l.take (dgN l),G.bM c.toNat=true:=by
 intro c hc
 have e:l.take (dgN l)=l.takeWhile isD:=by
  unfold dgN
  exact(List.prefix_iff_eq_take.1 (List.takeWhile_prefix isD)).symm
 grind [DT,List.all_takeWhile]
theorem pG {l:PZ} (k:Nat) (h1:∀c∈l.take k,G.bM c.toNat=true) (h2:∀c∈l.drop k,G.bM c.toNat=true):∀c∈l,G.bM c.toNat=true:=by
 grind [List.take_append_drop]
theorem vD {l:PZ} (h:∀c∈aI l,G.bM c.toNat=true):∀c∈l,G.bM c.toNat=true:=by
 cases l with
 | nil=>simp
 | cons a r=>
  rw[show aI (a::r)=if a=43\/a=45 then r else a::r from rfl]at h
  split at h
  ·rename_i ha
   intro c hc
   rcases Qd.1 hc with rfl | hc
   ·rcases ha with rfl | rfl<;>decide
   ·exact h c hc
  ·exact h
theorem vF {l:PZ} (h:xA (some l)=true):∀c∈l,G.bM c.toNat=true:=by
 cases l with
 | nil=>simp
 | cons a t=>
  unfold xA at h
  split at h
  ·grind
  ·grind
  rename_i c t' e
  cases e
  split at h
  ·rename_i ha
   simp only[P6,decide_eq_true_eq]at h
   have:=xy (aI t)
   rw[h.2.2,RK]at this
   have ht:=vD this
   intro c hc
   rcases Qd.1 hc with rfl | hc
   ·rcases ha with rfl | rfl<;>decide
   grind
  ·cases h
theorem DU {l:PZ} (h:fF l=true):∀c∈l,G.bM c.toNat=true:=by
 unfold fF at h
 split at h
 ·cases h
 refine vD (pG _ (xy _) ?_)
 generalize (aI l).drop (dgN (aI l))=q at h
 cases q with
 | nil=>simp
 | cons a y=>
  unfold lN at h
  split at h
  ·grind
  rename_i c y' e
  cases e
  split at h
  ·rename_i ha
   split at h
   ·cases h
   ·intro c hc
    rcases Qd.1 hc with rfl | hc
    ·rw[ha];decide
    ·exact pG _ (xy _) (vF h) c hc
  ·exact vF h
theorem Hv {l:PZ} (h:fF l=true):∃c r,l=c::r/\(G.dy c.toNat=true\/c.toNat=43\/c.toNat=45\/c.toNat=46):=by
 unfold fF at h
 split at h
 ·cases h
 rename_i hn
 cases l with
 | nil=>exact absurd rfl hn
 | cons a r=>
  refine⟨a,r,rfl,?_⟩
  rw[show aI (a::r)=if a=43\/a=45 then r else a::r from rfl]at hn
  split at hn
  ·rename_i ha;rcases ha with rfl | rfl
   ·grind
   grind
  ·left
   by_cases hd:isD a=true
   ·have:=cb.1 hd;simp[G.dy];omega
   ·exfalso;apply hn;unfold dgN;simp_all
theorem tQ {x:Nat} (hx:x<18446744073709551616):G.ji rdG (txM x) (qS x):=by
 refine⟨?_,fun b hb=>?_⟩
 ·unfold txM
  cases hn:isNaN x with
  | true=>exact .inr (.inl (by unfold bZ;rw[hn];rfl))
  | false=>
  cases h1:isInf x with
  | true=>exact .inr (.inr (by unfold bZ;rw[hn,h1];rfl))
  | false=>
  cases h2:isInf (fh x)with
  | true=>
   have e:bZ x=⟨#[45,73,78,70]⟩:=by unfold bZ;grind
   rw[e]
   exact .inl ⟨⟨45,[73,78,70],rfl,PB⟩,PB⟩
  | false=>
   have:=(Ba hx hn h1 h2).2.1
   exact .inl ⟨Hv this,DU this⟩
 ·have:b=bZ x:=by
   apply ByteArray.ext;apply Array.ext';exact hb
  rw[this];exact D2 hx
theorem N1 {b:P0} {y:Nat × Nat} (h:rdF b=some y):rdG b=some y:=by
 unfold rdF at h
 split at h
 ·rename_i hc
  obtain⟨h1,h2⟩:=hc
  have hp:b.size<=262144/\(fF b.data.toList=true->b.size<=64->Txt b (scB b).1 (scB b).2/\(scB b).1.tr=false):=⟨h1,fun a c=>⟨(h2 a c).t,(h2 a c).tr⟩⟩
  unfold rdG
  rw[if_pos hp,<-h]
  have e:cf b.data.toList (atV b)=cf b.data.toList (fsV b):=by
   by_cases a:fF b.data.toList=true
   ·by_cases c:b.size<=64
    ·have F:=h2 a c
     congr 1
     unfold atV fsV fp pv
     split
     ·rfl
     rename_i hm
     rw[if_neg (by have:=F.e2;omega),if_neg (by have:=F.e1;omega),if_pos (F.x hm)]
    ·have hl:64<b.data.toList.length:=by simp_all
     unfold cf
     grind
   grind [cf]
  rw[e]
 ·cases h
theorem Kr {k:PZ} {v:Nat} (h:G.ji rdF k v):G.ji rdG k v:=⟨h.1,fun b hb=>N1 (h.2 b hb)⟩
theorem Am :G.RdW rdG:=fun n hn=>(vK n hn).imp fun _ h=>Kr h
theorem An (x:Nat):bF (qS x)=bF x:=by
 unfold qS
 split
 ·rename_i h
  unfold bF
  rw[if_pos h,if_pos (by decide+kernel)]
 ·rfl
open Go.Proofs
theorem rF (a:MD):eM a a=true:=by
 have e1:∀x,fe x x=true:=fun x=>by unfold fe;grind
 unfold eM
 have g:∀{α:Type} (f:α->α->Bool),(∀x,f x x=true)->∀l,eqL f l l=true:=by
  intro α f hf l
  unfold eqL
  rw[decide_eq_true rfl,Rn]
  induction l with
  | nil=>rfl
  | cons x l ih=>rw[List.zip_cons_cons,List.all_cons,hf,ih];rfl
 rw[g fe e1,g fe2 fun x=>by unfold fe2;rw[e1,e1];rfl]
 simp
section
variable {h:ab} {a:MD} {s t:MDs}
theorem Fx (Hm:Hp h (a.vw s++a.vw t)) (hl:a.es.length<=9223372036854775806/\a.ls.length<=9223372036854775806/\a.ss.length<=9223372036854775806/\a.ws.length<=9223372036854775806):
  PJ 8 #[a.v s,a.v t] h fun v h'=>v= PV true/\Fr [] h h':=by
 apply Ja
 unfold S8
 intro hv hv2
 have f2:Fr [] h hv2:=(Fr.push h _).trans (Fr.push _ _)
 have Y:=(Sy.start Hm).gr f2
 have oC:ao (a.vw s++a.vw t)=[]:=rfl
 clear_value hv2
 refine ak (R:=fun v h'=>v= PV true/\Fr [] hv2 h') [] ?_ PC (fun _ _ r=>r.2) ?_
 ·exact(LA (a:=a) (b:=a) (R:=fun r=>r=eM a a) hl rfl hv2 _ _ _ _ _ _ _ _ _ _ _ _ _ _ _ _ _ _ _ _ _ _ _ _ Y.hp).mono fun v h' ⟨r,Y,e,q⟩=>⟨by rw[e,q,rF],Y.fr⟩
 rintro v h3 ⟨rfl,f3⟩
 have Y3:=Y.gr f3
 have ls:=Y3.lenV 2 rfl
 have lt:=Y3.lenV 6 rfl
 have lw:=Y3.lenV 3 rfl
 have lx:=Y3.lenV 7 rfl
 have b48:∀{x:Nat} {h:ab},PJ 28 #[PS x,PS x] h fun v h'=>v= PV true/\Fr [] h h':=fun{x h}=>
  (BM (x:=x) (y:=x) (R:=fun r=>r=true) (beq_self_eq_true x) h (Hp.nil _)).mono fun v h' ⟨r,Y,e,q⟩=>⟨by rw[e,q],Y.fr⟩
 refine⟨_,rfl,az rfl ⟨fun l h'=>∃k:Nat,l=[PN (k:Int)]/\k<=a.ss.length/\Fr [] h3 h',fun l _=>match l with | [.int _ i]=>((a.ss.length:Int)-i).toNat | _=>0,⟨0,rfl,PA,Fr.refl _ _⟩,?_⟩⟩
 rintro i h4 ⟨k,e,hk,f4⟩
 cases e
 have Y4:=Y3.gr f4
 have hw:∀k:Nat,k<=9223372036854775806->i64.wrap ((k:Int)+1)=((k+1:Nat):Int):=fun k hk=>by rw[wr PA PA];omega
 refine ae (fun q=>?_) fun q=>?_
 ·have hkl:k<a.ss.length:=by omega
  have hx:a.ss[k]? =some a.ss[k]:=List.getElem?_eq_getElem hkl
  generalize a.ss[k]=x at hx
  obtain⟨b1,o1,e1,_⟩:=Y4.atV 2 rfl (i:=(k:Int)) PA PA
  obtain⟨b2,o2,e2,_⟩:=Y4.atV 6 rfl (i:=(k:Int)) PA PA
  refine⟨b1,o1,e1,PA,PA,x.1,Y4.cellV 2 rfl e1 (i:=k) (t:=0) hx rfl,b2,o2,e2,PA,PA,x.1,Y4.cellV 6 rfl e2 (i:=k) (t:=0) hx rfl,?_⟩
  refine ak [] b48 PC (fun _ _ r=>r.2) ?_
  rintro v h5 ⟨rfl,f5⟩
  have Y5:=Y4.gr f5
  refine⟨_,rfl,f5,az rfl ⟨b1,o1,e1,PA,PA,x.2,Y4.cellV 2 rfl e1 (i:=k) (t:=1) hx rfl,b2,o2,e2,PA,PA,x.2,Y4.cellV 6 rfl e2 (i:=k) (t:=1) hx rfl,?_⟩⟩
  refine ak [] b48 PC (fun _ _ r=>r.2) ?_
  rintro v h6 ⟨rfl,f6⟩
  refine⟨_,rfl,f5.trans f6,az rfl ?_⟩
  rw[hw k PA]
  exact⟨⟨k+1,rfl,PA,(f4.trans f5).trans f6⟩,by dsimp only;omega⟩
 ·refine⟨fun l h'=>∃k:Nat,l=[PN (k:Int)]/\k<=a.ws.length/\Fr [] h3 h',fun l _=>match l with | [.int _ i]=>((a.ws.length:Int)-i).toNat | _=>0,⟨0,rfl,PA,f4⟩,?_⟩
  rintro i h7 ⟨j,e,hj,f7⟩
  cases e
  have Y7:=Y3.gr f7
  refine ae (fun q2=>?_) fun q2=>⟨rfl,f2.trans (f3.trans f7)⟩
  have hjl:j<a.ws.length:=by omega
  have hx:a.ws[j]? =some a.ws[j]:=List.getElem?_eq_getElem hjl
  generalize a.ws[j]=x at hx
  obtain⟨b1,o1,e1,_⟩:=Y7.atV 3 rfl (i:=(j:Int)) PA PA
  obtain⟨b2,o2,e2,_⟩:=Y7.atV 7 rfl (i:=(j:Int)) PA PA
  refine⟨b1,o1,e1,PA,PA,x,Y7.cellV 3 rfl e1 (i:=j) (t:=0) hx rfl,b2,o2,e2,PA,PA,x,Y7.cellV 7 rfl e2 (i:=j) (t:=0) hx rfl,?_⟩
  refine ak [] b48 PC (fun _ _ r=>r.2) ?_
  rintro v h8 ⟨rfl,f8⟩
  refine⟨_,rfl,f8,az rfl ?_⟩
  rw[hw j PA]
  exact⟨⟨j+1,rfl,PA,f7.trans f8⟩,by dsimp only;omega⟩
end
theorem BO {x:Nat} (hx:x<18446744073709551616):bF x<18446744073709551616:=by
 grind [bF]
theorem Fy {n:Int} {dir:Bool} {es:Es} {ls:List ByteArray} {ss:List (Nat × Nat)} {ws:List Nat} (q:gn n es ls ss ws=true):G.Ok (iY n dir es ls ss ws):=by
 unfold gn at q
 simp only[P6]at q
 obtain⟨m1,m2,m3,m4,m5⟩:=q
 obtain⟨g0,g1,gm,ge⟩:=I6 m1
 obtain⟨N,rfl⟩:∃N:Nat,n=(N:Int):=⟨n.toNat,PA⟩
 have non:∀{a b:Nat},jA (a:Int) (b:Int)=true->a=0\/a=b:=fun{a b} h=>by unfold jA at h;grind
 refine⟨by show(N:Int).toNat<=1024;omega,by show(es.map _).length<=3072;grind,?_,?_,fun l hl=>?_,?_,?_⟩
 ·intro e he
  obtain⟨x,hx,rfl⟩:=Rj.1 he
  obtain⟨i,hi⟩:=QO.1 hx
  have:=ge i x hi
  exact⟨by show x.1.toNat<(N:Int).toNat;omega,by show x.2.toNat<(N:Int).toNat;omega⟩
 ·exact(non m2).imp Qb fun h=>by show ls.length=(N:Int).toNat;omega
 ·have:=Qx.1 m5 l hl
  unfold xf at this
  grind
 ·exact(non m3).imp Qb fun h=>by show ss.length=(N:Int).toNat;omega
 ·exact(non m4).imp Qb fun h=>by show ws.length=(es.map _).length;grind
theorem FA {n:Int} {es:Es} {ls:List ByteArray} {ss:List (Nat × Nat)} {ws:List Nat} (q:gn n es ls ss ws=true):0<=n/\(es.map fun e=>(e.1.toNat,e.2.toNat)).map pr=es:=by
 unfold gn at q
 simp only[P6]at q
 obtain⟨g0,g1,gm,ge⟩:=I6 q.1
 refine⟨PA,?_⟩
 rw[List.map_map]
 refine Re fun i=>?_
 rw[List.getElem?_map]
 cases hx:es[i]? with
 | none=>rfl
 | some x=>
  have:=ge i x hx
  show some ((x.1.toNat:Int),(x.2.toNat:Int))=some x
  grind
def clD (a:MD):MD:=⟨a.n,a.dir,a.es,a.ls,a.ss.map fun p=>(bF p.1,bF p.2),a.ws.map bF⟩
theorem BP {a:MD} {x:P0} (q:gn a.n a.es a.ls a.ss a.ws=true) (hx:G.Sp (G.wK txM (iY a.n a.dir a.es a.ls a.ss a.ws)) x.data.toList) (hl:x.size<=262144) (hss:∀p∈a.ss,p.1<18446744073709551616/\p.2<18446744073709551616) (hws:∀x∈a.ws,x<18446744073709551616):
  G.read rdG bF x= .ok (iY a.n a.dir a.es a.ls (clD a).ss (clD a).ws):=by
 have:=G.zE (s:=x) (rd:=rdG) (cl:=bF) (f:=qS) (Fy q) Am (tx:=txM)
  ⟨fun p hp=>⟨tQ (hss p hp).1,tQ (hss p hp).2⟩,fun x hx=>tQ (hws x hx)⟩ hx hl
 rw[this]
 congr 1
 unfold G.Ba iY clD
 simp only[An]
section
variable {gl:GL} {h:ab} {a:MD} {s:MDs}
theorem OX (g:Gl gl h) {x:P0} (q:gn a.n a.es a.ls a.ss a.ws=true) (hx:x.size<=262144) (rd:G.read rdG bF x= .ok (iY a.n a.dir a.es a.ls (clD a).ss (clD a).ws)):
  PJ 5 #[PU x] h fun v h'=>∃u:MDs,v= .tuple #[(clD a).v u,PN 0,PN 0]/\Sy h [] h' [Ck.sl eP 70 u.aE u.nE u.cE (clD a).es,Ck.sl eS 9 u.aL u.nL u.cL (clD a).ls,Ck.sl eFF 53 u.aS u.nS u.cS (clD a).ss,Ck.sl eF 51 u.aW u.nW u.cW (clD a).ws]:=by
 refine(ok5 (KC gl) iD yA g PA (by rw[rd];simp)).mono ?_
 rintro v h8 (⟨dc,aD,aL2,aS,aW,nD,cD,nL2,cL2,nS,cS,nW,cW,e,rfl,q8⟩ | ⟨f,e,_,q8⟩)
 rotate_left
 ·grind
 rw[rd]at e
 obtain rfl:iY a.n a.dir a.es a.ls (clD a).ss (clD a).ws=dc:=by injection e
 obtain⟨n0,eE⟩:=FA q
 have en:(((iY a.n a.dir a.es a.ls (clD a).ss (clD a).ws).n:Nat):Int)=(clD a).n:=Rb n0
 rw[en]
 refine⟨⟨aD,nD,cD,aL2,nL2,cL2,aS,nS,cS,aW,nW,cW⟩,rfl,?_⟩
 have Y:Sy h [] h8 [Ck.sl eP 70 aD nD cD ((iY a.n a.dir a.es a.ls (clD a).ss (clD a).ws).edges.map pr),Ck.sl eS 9 aL2 nL2 cL2 a.ls,Ck.sl eFF 53 aS nS cS (clD a).ss,Ck.sl eF 51 aW nW cW (clD a).ws]:=q8.sy.pick [0,1,2,3] rfl
 grind [iY,clD]
theorem OY (g:Gl gl h) (q:gn a.n a.es a.ls a.ss a.ws=true) (hl:(G.wr txM (iY a.n a.dir a.es a.ls a.ss a.ws)).length<=262144) (hss:∀p∈a.ss,p.1<18446744073709551616/\p.2<18446744073709551616) (hws:∀x∈a.ws,x<18446744073709551616):
  PJ 5 #[PU (G.mkB (G.wr txM (iY a.n a.dir a.es a.ls a.ss a.ws)))] h fun v h'=>∃u:MDs,v= .tuple #[(clD a).v u,PN 0,PN 0]/\Sy h [] h' [Ck.sl eP 70 u.aE u.nE u.cE (clD a).es,Ck.sl eS 9 u.aL u.nL u.cL (clD a).ls,Ck.sl eFF 53 u.aS u.nS u.cS (clD a).ss,Ck.sl eF 51 u.aW u.nW u.cW (clD a).ws]:=
 OX g q (by rw[gJ];exact hl) (BP q (by rw[uV];exact G.uP _) (by rw[gJ];exact hl) hss hws)
end
def S3 (s:P0) (h:ab) (R:VP):Prop:=PI 4 #[] h [] fun a2 v=>∃P:Bool,a2= PV P/\cnd (!P) (R (PV false) v) (cnd (decide ((s.size:Int)>(16384:Int))) (R (PV true) v) (PI 5 #[PU s] v [] fun a3 a=>∃c:Int,∃(e:PY) (n j:Nat),∃d:Bool,∃(f:PY) (o k:Nat),∃(g:PY) (p l:Nat),∃(i:PY) (q m:Nat),∃u:Int,∃W:Int,a3= .tuple #[.agg #[PN c,PT e n j,PV d,PT f o k,PT g p l,PT i q m],PN u,PN W]/\let a0:ab:=a.push (.cells #[PN 0,PT none 0 0,PV false,PT none 0 0,PT none 0 0,PT none 0 0] 30);let N:ab:=aj (aj (aj (aj (aj (aj a0 a.size 0 (PN c)) a.size (0+1) (PT e n j)) a.size ((0+1)+1) (PV d)) a.size (((0+1)+1)+1) (PT f o k)) a.size ((((0+1)+1)+1)+1) (PT g p l)) a.size (((((0+1)+1)+1)+1)+1) (PT i q m);cnd (W != 0) (PI 6 #[.agg #[PN c,PT e n j,PV d,PT f o k,PT g p l,PT i q m],.agg #[PN 0,PT none 0 0,PV false,PT none 0 0,PT none 0 0,PT none 0 0]] N [a.size] fun a4 w=>∃Q:Bool,a4= PV Q/\cnd Q (cnd (decide (u>=0)) (R (PV (decide (u<=(s.size:Int)))) w) (R (PV false) w)) (R (PV false) w)) (PI 7 #[.agg #[PN c,PT e n j,PV d,PT f o k,PT g p l,PT i q m]] N [a.size] fun a5 O=>∃U:P0,∃L:Int,a5= .tuple #[PU U,PN L]/\cnd (L==23) (R (PV true) O) (PI 5 #[PU U] O [a.size] fun a6 b=>∃x:Int,∃(z:PY) (H D:Nat),∃y:Bool,∃(A:PY) (I E:Nat),∃(B:PY) (J F:Nat),∃(C:PY) (K G:Nat),∃V:Int,∃X:Int,a6= .tuple #[.agg #[PN x,PT z H D,PV y,PT A I E,PT B J F,PT C K G],PN V,PN X]/\let a1:ab:=b.push (.cells #[PN 0,PT none 0 0,PV false,PT none 0 0,PT none 0 0,PT none 0 0] 30);let t:ab:=aj (aj (aj (aj (aj (aj a1 b.size 0 (PN x)) b.size (0+1) (PT z H D)) b.size ((0+1)+1) (PV y)) b.size (((0+1)+1)+1) (PT A I E)) b.size ((((0+1)+1)+1)+1) (PT B J F)) b.size (((((0+1)+1)+1)+1)+1) (PT C K G);let r:=fun(Z:ab)=>(R (PV false) Z);cnd (L==0) (cnd (u==0) (cnd (V==0) (cnd (X==0) (PI 8 #[.agg #[PN x,PT z H D,PV y,PT A I E,PT B J F,PT C K G],.agg #[PN c,PT e n j,PV d,PT f o k,PT g p l,PT i q m]] t [b.size,a.size] fun a7 M=>∃S:Bool,a7= PV S/\cnd S (PI 9 #[.agg #[PN c,PT e n j,PV d,PT f o k,PT g p l,PT i q m]] M [b.size,a.size] fun a8 Y=>∃T:Bool,a8= PV T/\R (PV T) Y) (r M)) (r t)) (r t)) (r t)) (r t)))))
theorem I9 {h:ab} {R:VP} (s:P0) (H:S3 s h R):PJ 3 #[PU s] h R:=ba [3,8] 73 [] [] [] [] Tryz.func3 PD PD H
end Go.Proofs.YtmmmmjcfojhiaaaGreatDoor.N
namespace Go.X
def mf :Code->Bool
 | .goto _=>true
 | .seq a b=>mf a||mf b
 | .cond _ a b=>mf a||mf b
 | _=>false
def XG (E:Env) (D:Desc):Code->RO->Nat->St->ab->(St->ab->Prop)->(Nat->St->ab->Prop)->(Nat->St->ab->Prop)->(St->ab->Prop)->Prop
 | .seq a b,ro,cur,st,h,k,gt,ex,rt=>XG E D a ro cur st h (fun st' h'=>XG E D b ro cur st' h' k gt ex rt) gt ex rt
 | .cond c t e,ro,cur,st,h,k,gt,ex,rt=>(match mf (.cond c t e)with
  | true=>(match ev st c with
   | some (.val (.bool b))=>cnd b (XG E D t ro cur st h k gt ex rt) (XG E D e ro cur st h k gt ex rt)
   | _=>False)
  | false=>XC E D (.cond c t e) ro cur st h k ex rt)
 | .goto l,_,_,st,h,_,gt,_,_=>gt l st h
 | c,ro,cur,st,h,k,_,ex,rt=>XC E D c ro cur st h k ex rt
def XS (E:Env) (D:Desc) (c:Code) (ro:RO) (cur:Nat) (k:St->ab->Prop) (ex:Nat->St->ab->Prop) (rt:St->ab->Prop):Nat->Nat->St->ab->Prop
 | 0,_,_,_=>False
 | n+1,l,st,h=>match findLabel c l with
  | some r=>XG E D r ro cur st h k (XS E D c ro cur k ex rt n) ex rt
  | none=>False
def XT (E:Env) (D:Desc):Code->RO->Nat->St->ab->(St->ab->Prop)->(Nat->St->ab->Prop)->(St->ab->Prop)->Prop
 | .seq a b,ro,cur,st,h,k,ex,rt=>XC E D a ro cur st h (fun st' h'=>XT E D b ro cur st' h' k ex rt) ex rt
 | .scope c,ro,cur,st,h,k,ex,rt=>XG E D c ro cur st h k (XS E D c ro cur k ex rt 2) ex rt
 | c,ro,cur,st,h,k,ex,rt=>XC E D c ro cur st h k ex rt
def PG (pn:Option (Value->ab->Prop)) (ro:RO) (n:Nat) (s0:St) (w0:World) (k:St->ab->Prop) (gt ex:Nat->St->ab->Prop) (rt:St->ab->Prop):Exit->Act->World->Prop
 | .normal,a,w=>Nx ro s0 k n w0 a w
 | .goto j,a,w=>Nx ro s0 (gt j) n w0 a w
 | .exit j,a,w=>Nx ro s0 (ex j) n w0 a w
 | .ret,a,w=>Nx ro s0 rt n w0 a w
 | .panic ch,a,w=>PQ pn w0 ch a w
 | _,_,_=>False
theorem PG.mono {pn:Option (Value->ab->Prop)} {ro:RO} {n:Nat} {s0 s1:St} {w0 w1:World} {k:St->ab->Prop} {gt ex:Nat->St->ab->Prop} {rt:St->ab->Prop} (h3:Keep ro s1 s0) (h1:Rest w1 w0) {e:Exit} {a:Act} {w:World} (h:PG pn ro n s0 w0 k gt ex rt e a w):PG pn ro n s1 w1 k gt ex rt e a w:=by
 cases e<;>first | exact Nx.mono h (fun _ q=>h3.trans q) h1 (fun _ _ q=>q) | exact PQ.back h h1 | exact h.elim
theorem zu {E:Env} (hE:E.OK) {D:Desc} {c:Code} {ro:RO} {cur:Nat} {st:St} {k:St->ab->Prop} {gt ex:Nat->St->ab->Prop} {rt:St->ab->Prop} {a:Act} {w:World}
  (d:XC E D c ro cur st w.heap k ex rt) (r:Rel st a w) (hn:a.tmps.size=E.n):c.wp E.P (PG E.pn ro E.n st w k gt ex rt) a w:=by
 refine Code.wp_mono (fun e a' w' hp=>?_) (qe hE c D ro cur st k ex rt a w d r hn)
 cases e<;>first | exact hp | exact hp.elim
theorem ww {E:Env} (hE:E.OK) {D:Desc} (c:Code):∀(ro:RO) (cur:Nat) (st:St) (k:St->ab->Prop) (gt ex:Nat->St->ab->Prop) (rt:St->ab->Prop) (a:Act) (w:World),
  XG E D c ro cur st w.heap k gt ex rt->Rel st a w->a.tmps.size=E.n->c.wp E.P (PG E.pn ro E.n st w k gt ex rt) a w:=by
 induction c with
 | seq x y ihx ihy=>
  intro ro cur st k gt ex rt a w d r hn
  unfold XG at d
  refine wp_seq (Code.wp_mono (fun e a' w' h=>?_) (ihx ro cur st _ gt ex rt a w d r hn))
  cases e with
  | normal=>
   obtain⟨st',r',h1,h2,h3,h4⟩:=h
   exact Code.wp_mono (fun e a'' w'' h'=>PG.mono h3 h1 h') (ihy ro cur st' k gt ex rt a' w' h4 r' h2)
  | goto j=>exact h
  | exit j=>exact h
  | ret=>exact h
  | panic ch=>exact h
  | _=>exact h.elim
 | cond c t e iht ihe=>
  intro ro cur st k gt ex rt a w d r hn
  unfold XG at d
  split at d
  ·split at d
   ·rename_i b h1
    obtain⟨v,hc,hv⟩:=aQ r.fr h1
    simp only[AVal.conc,Option.some.injEq]at hc
    refine wp_cond (hv.trans hc.symm) ?_
    cases b with
    | true=>exact iht ro cur st k gt ex rt a w (d.1 rfl) r hn
    | false=>exact ihe ro cur st k gt ex rt a w (d.2 rfl) r hn
   ·exact d.elim
  ·exact zu hE d r hn
 | goto l=>
  intro ro cur st k gt ex rt a w d r hn
  unfold XG at d
  exact wp_goto ⟨st,r,Rest.refl w,hn,Keep.refl _ _,d⟩
 | _=>intro ro cur st k gt ex rt a w d r hn;unfold XG at d;exact zu hE d r hn
def Exit.gts (G:Nat->Act->World->Prop) (Q:Exit->Act->World->Prop):Exit->Act->World->Prop
 | .goto l,a,w=>G l a w
 | e,a,w=>Q e a w
theorem qs {P:Program} {Q:Exit->Act->World->Prop} {c:Code} (G:Nat->Nat->Act->World->Prop) (h0:∀l a w,¬G 0 l a w)
  (pass:∀n l a w,G (n+1) l a w->∃rest,findLabel c l=some rest/\rest.wp P (Exit.gts (G n) Q) a w) {N:Nat} {a:Act} {w:World} (first:c.wp P (Exit.gts (G N) Q) a w):(Code.scope c).wp P Q a w:=by
 intro b k cs
 have key:∀n l a w,G n l a w->∃rest,findLabel c l=some rest/\∃e a' w',Q e a' w'/\Arrives P (lone (b.at a (.code rest:: .inScope c::k)) cs w) b k cs e a' w':=by
  intro n
  induction n with
  | zero=>exact fun l a w h=>absurd h (h0 l a w)
  | succ n ih=>
   intro l a w hG
   obtain⟨rest,hf,hw⟩:=pass n l a w hG
   refine⟨rest,hf,?_⟩
   obtain⟨e,a₁,w₁,hq,harr⟩:=hw b (.inScope c::k) cs
   cases e with
   | normal=>exact⟨.normal,a₁,w₁,hq,Steps.trans harr (.one step_inScope)⟩
   | exit id=>exact⟨.exit id,a₁,w₁,hq,fun k' hk=>harr k' (by simp[exitTo,hk])⟩
   | goto l'=>
    obtain⟨rest',hf',e₂,a₂,w₂,hq₂,harr₂⟩:=ih l' a₁ w₁ hq
    exact⟨e₂,a₂,w₂,hq₂,.of_steps (harr _ (by simp[gotoIn,hf'])) harr₂⟩
   | ret=>exact⟨_,a₁,w₁,hq,harr⟩
   | panic ch=>exact⟨_,a₁,w₁,hq,harr⟩
   | outgrown=>exact⟨_,a₁,w₁,hq,harr⟩
 obtain⟨e,a₁,w₁,hq,harr⟩:=first b (.inScope c::k) cs
 cases e with
 | normal=>exact⟨.normal,a₁,w₁,hq,.head step_scope (Steps.trans harr (.one step_inScope))⟩
 | exit id=>exact⟨.exit id,a₁,w₁,hq,fun k' hk=>.head step_scope (harr k' (by simp[exitTo,hk]))⟩
 | goto l'=>
  obtain⟨rest',hf',e₂,a₂,w₂,hq₂,harr₂⟩:=key _ l' a₁ w₁ hq
  exact⟨e₂,a₂,w₂,hq₂,.of_steps (.head step_scope (harr _ (by simp[gotoIn,hf']))) harr₂⟩
 | ret=>exact⟨_,a₁,w₁,hq,.of_steps (.one step_scope) harr⟩
 | panic ch=>exact⟨_,a₁,w₁,hq,.of_steps (.one step_scope) harr⟩
 | outgrown=>exact⟨_,a₁,w₁,hq,.of_steps (.one step_scope) harr⟩
theorem EJ {E:Env} (hE:E.OK) {D:Desc} (c:Code):∀(ro:RO) (cur:Nat) (st:St) (k:St->ab->Prop) (ex:Nat->St->ab->Prop) (rt:St->ab->Prop) (a:Act) (w:World),
  XT E D c ro cur st w.heap k ex rt->Rel st a w->a.tmps.size=E.n->c.wp E.P (PG E.pn ro E.n st w k (fun _ _ _=>False) ex rt) a w:=by
 induction c with
 | seq x y _ ihy=>
  intro ro cur st k ex rt a w d r hn
  unfold XT at d
  refine wp_seq (Code.wp_mono (fun e a' w' h=>?_) (zu (gt:=fun _ _ _=>False) hE d r hn))
  cases e with
  | normal=>
   obtain⟨st',r',h1,h2,h3,h4⟩:=h
   exact Code.wp_mono (fun e a'' w'' h'=>PG.mono h3 h1 h') (ihy ro cur st' k ex rt a' w' h4 r' h2)
  | goto j=>exact h
  | exit j=>exact h
  | ret=>exact h
  | panic ch=>exact h
  | _=>exact h.elim
 | scope c _=>
  intro ro cur st k ex rt a w d r hn
  unfold XT at d
  refine qs (fun n l a' w'=>Nx ro st (XS E D c ro cur k ex rt n l) E.n w a' w') (fun l a' w' h=>?_) (fun n l a' w' h=>?_) (N:=2) (Code.wp_mono (fun e a' w' h=>?_) (ww hE c ro cur st k _ ex rt a w d r hn))
  ·obtain⟨_,_,_,_,_,h⟩:=h;exact h
  ·obtain⟨st',r',h1,h2,h3,h4⟩:=h
   unfold XS at h4
   split at h4
   ·rename_i rest hf
    refine⟨rest,hf,Code.wp_mono (fun e a'' w'' h'=>?_) (ww hE rest ro cur st' k _ ex rt a' w' h4 r' h2)⟩
    have:=PG.mono h3 h1 h'
    cases e<;>first | exact this | exact this.elim
   ·exact h4.elim
  ·cases e<;>first | exact h | exact h.elim
 | _=>intro ro cur st k ex rt a w d r hn;unfold XT at d;exact zu hE d r hn
def FXg (E:Env) (D:Desc) (fn:Func) (c:Code) (args:List Value) (h:ab) (R:Value->ab->Prop):Prop:=
 XT E D c ⟨[],[],[]⟩ 0 ⟨qj args 0,[]⟩ h (fun st h'=>qm E.T st h' fn.results.toList fun vs=>R (one vs) h') (fun _ _ _=>False) (fun st h'=>qm E.T st h' fn.results.toList fun vs=>R (one vs) h')
theorem ut {E:Env} (hE:E.OK) {D:Desc} {f:FuncId} {fn:Func} {c:Code} (hf:E.P.funcs[f]? =some fn) (hb:fn.body=some c) (hn:Nat.beq fn.ntmps E.n=true) {args:List Value} (hl:Nat.ble args.length E.n=true)
  {h:ab} {R:Value->ab->Prop} (H:FXg E D fn c args h R) (hp:E.pn=none:=by rfl):af E.P f args.toArray h R:=by
 intro w hw
 subst hw
 refine calls_of_wp hf hb ?_
 obtain⟨hr,hsize⟩:=qq (f:=fn) w (P4 hn) (Qr hl)
 refine Code.wp_mono (fun e a' w' hq=>?_) (EJ hE c _ _ _ _ _ _ _ w H hr hsize)
 cases e with
 | normal=>
  obtain⟨st,r,h1,h2,_,h4⟩:=hq
  obtain⟨v,e1,e2⟩:=dh (fn:=fn) (R:=fun v=>R v w'.heap) hE.T r h4
  exact⟨r.df,v,e1,v,rfl,h1,e2⟩
 | ret=>
  obtain⟨st,r,h1,h2,_,h4⟩:=hq
  obtain⟨v,e1,e2⟩:=dh (fn:=fn) (R:=fun v=>R v w'.heap) hE.T r h4
  exact⟨r.df,v,e1,v,rfl,h1,e2⟩
 | exit j=>obtain⟨_,_,_,_,_,h⟩:=hq;exact h.elim
 | goto j=>obtain⟨_,_,_,_,_,h⟩:=hq;exact h.elim
 | panic ch=>
  obtain⟨E',v,q1,_⟩:=hq
  rw[hp]at q1;cases q1
 | _=>exact hq.elim
end Go.X
