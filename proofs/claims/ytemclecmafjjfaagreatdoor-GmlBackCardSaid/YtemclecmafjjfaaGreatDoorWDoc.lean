/- Upto statements over laid tables: the witness, and what a bound on bulk says of texts. Conditions: none. -/
import Derived.Test.YtemclecmafjjfaaGreatDoorXBulk
import Derived.Deep.DeepHandedRow
import Derived.Test.YtemclecmafjjfaaGreatDoorRows
import Derived.ProofKit
import Derived.Test.YtemclecmafjjfaaGreatDoorCards
import Derived.SevenTiedAt
import Derived.Test.YtemclecmafjjfaaGreatDoorWPre
import Derived.ChangeArms
set_option linter.unusedVariables false
set_option linter.unusedSimpArgs false
namespace Go.X
open Go.ChangeShapes Go.WideShapes Go.ChangeAt Go.RowKit Go.Deep
section
variable {H:Type} {enc:TypeId × Value->H} {P:Program} {W:World} {base:Nat}
theorem oT {α:Type} [Inhabited α] (Q:α->DataW H->Prop) (E:En α) {t e:TypeId} {a:Option Addr} {len cap:Nat} {d:DataW H} {p:List MemPlace} (ht:P.underlying t=some (.slice e)) (hc:P.cellsOf e=E.sz)
  (hs:∀x,a=some x->x.spot=none)
  (hel:∀(n:Nat) (cs:List Value) (y:DataW H × List MemPlace),DataW.trod enc P W base (fun _=>true) true n e cs=some y->∃x:α,cs=E.enc x/\Q x y.1)
  (h:DataW.Trod enc P W base (fun _=>true) true t (.slice a len cap) d p):∃xs:List α,(Ck.vw E a len cap xs).ok W.heap/\(xs.length=0\/∃el sp,d= .slice el sp/\el.length=xs.length/\∀(i:Nat) (x:α),xs[i]? =some x->∃dd,el[i]? =some dd/\Q x dd):=by
 obtain⟨fuel,hf⟩:=h
 have hcs0:(Value.slice a len cap).cells.toList=[.slice a len cap]:=rfl
 rw[hcs0]at hf
 rcases open_slice ht hf with⟨hcs,_⟩ | ⟨x,l,c,m,n,D,Pl,hcs,_,hl,hm,hmm,hd,hx⟩
 ·simp at hcs
  obtain⟨rfl,rfl,rfl⟩:=hcs
  exact⟨[],⟨⟨by simp[En.l],.inl ⟨rfl,rfl⟩⟩,rfl,Nat.le_refl _,fun _=>rfl⟩,.inl rfl⟩
 ·simp at hcs
  obtain⟨rfl,rfl,rfl⟩:=hcs
  simp only[if_true]at hmm
  subst hmm
  have hsp:=hs x rfl
  obtain⟨b,o,sp⟩:=x
  simp only at hsp
  subst hsp
  obtain⟨V,hV⟩:=choose_lt (α:=α) (p:=fun i v=>W.cells? base ((⟨b,o,none⟩:Addr).add (i*P.cellsOf e)) (P.cellsOf e)=some (E.enc v)/\Q v (D i)) (fun i hi=>by
   obtain⟨cs',h1,h2⟩:=hx i hi
   obtain⟨v,rfl,hq⟩:=hel _ _ _ h2
   exact⟨v,h1,hq⟩)
  refine⟨(List.range len).map V,⟨⟨by rw[En.l_len];simp,.inr ⟨b,o,rfl,fun j v hj=>?_⟩⟩,by simp,hl,fun q=>by cases q⟩,.inr ⟨_,_,congrArg Prod.fst hd,by simp,fun i x hi=>?_⟩⟩
  rotate_left
  ·have hil:i<len:=by have:=(List.getElem?_eq_some_iff.1 hi).1;simpa using this
   have e1:x=V i:=by simp[hil]at hi;exact hi.symm
   subst e1
   exact⟨D i,by simp[hil],(hV i (by omega)).2⟩
  have hjl:j<len*E.sz:=by
   have:=(List.getElem?_eq_some_iff.1 hj).1
   rw[En.l_len]at this;simpa using this
  have hi:j/E.sz<len:=Nat.div_lt_of_lt_mul (by rw[Nat.mul_comm];exact hjl)
  have ht2:j % E.sz<E.sz:=Nat.mod_lt _ E.pos
  have ej:j/E.sz*E.sz+j % E.sz=j:=Nat.div_add_mod' j E.sz
  have g1:((List.range len).map V)[j/E.sz]? =some (V (j/E.sz)):=by simp[hi]
  have hlen:j % E.sz<(E.enc (V (j/E.sz))).length:=by rw[E.len];exact ht2
  have g2:=En.l_get g1 (List.getElem?_eq_getElem hlen)
  rw[ej,hj]at g2
  obtain rfl:=Option.some.inj g2
  have g3:=(World.cells?_some (hV (j/E.sz) (by omega)).1).2.2 (j % E.sz) (by rw[hc];exact ht2)
  rw[Go.Deep.add_add,hc,ej,List.getElem?_eq_getElem hlen]at g3
  rw[<-g3]
  rw[show(⟨b,o,none⟩:Addr).add j=⟨b,o+j,none⟩from cr _ _ _,bc]
theorem wj {t e:TypeId} {a:Option Addr} {len cap:Nat} {d:DataW H} {p:List MemPlace} (ht:P.underlying t=some (.slice e)) (he:P.underlying e=some .string) (hc:P.cellsOf e=1)
  (hs:∀x,a=some x->x.spot=none) (h:DataW.Trod enc P W base (fun _=>true) true t (.slice a len cap) d p):
  ∃xs:List ByteArray,(Ck.vw eS a len cap xs).ok W.heap/\∀x∈xs,x.size<=9223372036854775807:=by
 obtain⟨xs,h1,h2⟩:=oT (fun x dd=>x.size<=9223372036854775807) eS (enc:=enc) (base:=base) ht hc hs (fun n cs y q=>by
  obtain⟨m,rfl,h1,h2⟩:=DataW.trod_string he q
  exact⟨m,rfl,h2⟩) h
 refine⟨xs,h1,fun x hx=>?_⟩
 rcases h2 with h2 | ⟨el,sp,_,_,h3⟩
 ·rw[List.eq_nil_of_length_eq_zero h2]at hx;cases hx
 ·obtain⟨i,hi,rfl⟩:=List.mem_iff_getElem.1 hx
  obtain⟨dd,_,h4⟩:=h3 i xs[i] (List.getElem?_eq_getElem hi)
  exact h4
end
end Go.X
namespace Go.Proofs.YtemclecmafjjfaaGreatDoor
set_option maxRecDepth 100000
def blank :Char:=Char.ofNat 32
theorem B1 (r:List Char):wordsSigns (blank::r)=[]::wordsSigns r:=rfl
theorem Fm {c:Char} (hc:c≠blank) {r w:List Char} {ws:List (List Char)} (h:wordsSigns r=w::ws):wordsSigns (c::r)=(c::w)::ws:=by
 rw[wordsSigns]
 ·rw[h]
 ·exact hc
theorem mZ :∀(w r:List Char),w.all (fun c=>c != blank)=true->wordsSigns (w++blank::r)=w::wordsSigns r
 | [],r,_=>B1 r
 | c::w,r,h=>by
  simp only[List.all_cons,Bool.and_eq_true]at h
  exact Fm (by simpa using h.1) (mZ w r h.2)
def qA :List Char:=[Char.ofNat 104,Char.ofNat 97,Char.ofNat 114,Char.ofNat 110,Char.ofNat 101,Char.ofNat 115,Char.ofNat 115]
def qB :List Char:=[Char.ofNat 50,Char.ofNat 56,Char.ofNat 102,Char.ofNat 97,Char.ofNat 51,Char.ofNat 99,Char.ofNat 101,Char.ofNat 52,Char.ofNat 57,Char.ofNat 51,Char.ofNat 98,Char.ofNat 57,Char.ofNat 101,Char.ofNat 55,Char.ofNat 48,Char.ofNat 51,Char.ofNat 51,Char.ofNat 102,Char.ofNat 51,Char.ofNat 100,Char.ofNat 53,Char.ofNat 50,Char.ofNat 49,Char.ofNat 101,Char.ofNat 53,Char.ofNat 57,Char.ofNat 53,Char.ofNat 48,Char.ofNat 101,Char.ofNat 56,Char.ofNat 97,Char.ofNat 98,Char.ofNat 50,Char.ofNat 49,Char.ofNat 102,Char.ofNat 101,Char.ofNat 102,Char.ofNat 100,Char.ofNat 55,Char.ofNat 48,Char.ofNat 57,Char.ofNat 100,Char.ofNat 52,Char.ofNat 48,Char.ofNat 56,Char.ofNat 49,Char.ofNat 55,Char.ofNat 100,Char.ofNat 55,Char.ofNat 98,Char.ofNat 57,Char.ofNat 51,Char.ofNat 101,Char.ofNat 53,Char.ofNat 55,Char.ofNat 54,Char.ofNat 56,Char.ofNat 99,Char.ofNat 50,Char.ofNat 50,Char.ofNat 99,Char.ofNat 102,Char.ofNat 102,Char.ofNat 49]
def gu :List Char:=[Char.ofNat 99,Char.ofNat 117,Char.ofNat 116]
def GD :List Char:=[Char.ofNat 97,Char.ofNat 116,Char.ofNat 32,Char.ofNat 116,Char.ofNat 114,Char.ofNat 97,Char.ofNat 99,Char.ofNat 101,Char.ofNat 114,Char.ofNat 121,Char.ofNat 47,Char.ofNat 116,Char.ofNat 114,Char.ofNat 97,Char.ofNat 99,Char.ofNat 101,Char.ofNat 114,Char.ofNat 121,Char.ofNat 108,Char.ofNat 97,Char.ofNat 119,Char.ofNat 51,Char.ofNat 48,Char.ofNat 46,Char.ofNat 71,Char.ofNat 109,Char.ofNat 108,Char.ofNat 66,Char.ofNat 97,Char.ofNat 99,Char.ofNat 107,Char.ofNat 32,Char.ofNat 116,Char.ofNat 114,Char.ofNat 97,Char.ofNat 99,Char.ofNat 101,Char.ofNat 114,Char.ofNat 121,Char.ofNat 47,Char.ofNat 116,Char.ofNat 114,Char.ofNat 97,Char.ofNat 99,Char.ofNat 101,Char.ofNat 114,Char.ofNat 121,Char.ofNat 108,Char.ofNat 97,Char.ofNat 119,Char.ofNat 51,Char.ofNat 48,Char.ofNat 46,Char.ofNat 71,Char.ofNat 109,Char.ofNat 108,Char.ofNat 66,Char.ofNat 108,Char.ofNat 97,Char.ofNat 110,Char.ofNat 107,Char.ofNat 115]
theorem Fo :Tryz.pinned.checked.prog.initOrder=String.ofList (qA++blank::(qB++blank::(gu++blank::GD))):=by kernel_rfl
theorem mb :∃tl,wordsSigns Tryz.pinned.checked.prog.initOrder.toList=qA::qB::gu::tl:=by
 refine⟨wordsSigns GD,?_⟩
 rw[Fo,String.toList_ofList,mZ _ _ (by kernel_rfl),mZ _ _ (by kernel_rfl),mZ _ _ (by kernel_rfl)]
theorem behind (tl:List (List Char)):behindMainWord (qA::qB::gu::tl)=gu::tl:=by kernel_rfl
theorem GE (tl:List (List Char)):stripLifts liftWords (gu::tl)=([],gu::tl):=by kernel_rfl
theorem Ii :Tryz.pinned.checked.prog.doorFits []=true:=by kernel_rfl
theorem later :Tryz.pinned.checked.prog.laysLater=false:=by kernel_rfl
theorem Ij :Tryz.pinned.checked.prog.bearsReflect=false:=by kernel_rfl
theorem isC :(gu== "cut".toList)=true:=by kernel_rfl
theorem Lz :(gu== "gc".toList)=false:=by kernel_rfl
theorem LA :(gu== "spec".toList)=false:=by kernel_rfl
theorem LB :(gu== "carried".toList)=false:=by kernel_rfl
theorem GF (tl:List (List Char)):((gu::tl).head? ==some "cut".toList)=true:=by
 rw[List.head?_cons,Option.some_beq_some];exact isC
theorem tZ {P:Program} {tl:List (List Char)} (h:wordsSigns P.initOrder.toList=qA::qB::gu::tl) (Ii:P.doorFits []=true) (later:P.laysLater=false) (hrefl:P.bearsReflect=false):P.mayEnter=true:=by
 unfold Program.mayEnter
 rw[h,behind]
 simp only[GE,Ii,later,hrefl,Lz,LA,LB,GF,Bool.false_or,Bool.or_false,Bool.false_and,Bool.not_false,Bool.or_true,Bool.and_true,Bool.and_self]
 rfl
theorem B2 {P:Program} {tl:List (List Char)} (h:wordsSigns P.initOrder.toList=qA::qB::gu::tl):P.liftsFinal=false:=by
 unfold Program.liftsFinal Program.headLifts
 rw[h,behind]
 have hk:((gu::tl).head? ==some "carried".toList)=false:=by rw[List.head?_cons,Option.some_beq_some];exact LB
 simp only[GE,hk,GF,Bool.false_and,Bool.false_or,if_true,List.contains_nil]
theorem Fp {P:Program} {tl:List (List Char)} (h:wordsSigns P.initOrder.toList=qA::qB::gu::tl):P.make=some .cut:=by
 unfold Program.make Program.headLifts
 rw[h,behind]
 simp only[isC,Lz,LA,Bool.or_false,Bool.true_or,if_true,Bool.false_eq_true,if_false]
theorem yV :Tryz.pinned.checked.prog.mayEnter=true:=mb.elim fun _ h=>tZ h Ii later Ij
theorem yW :Tryz.pinned.checked.prog.liftsFinal=false:=mb.elim fun _ h=>B2 h
theorem Fq :Tryz.pinned.checked.prog.make=some .cut:=mb.elim fun _ h=>Fp h
end Go.Proofs.YtemclecmafjjfaaGreatDoor
/- A row's closed facts, one by one. Conditions: none. -/
namespace Go.X
theorem an {a b:Bool} (x:a=true) (y:b=true):(a&&b)=true:=by rw[x,y];rfl
theorem oq {P:Program} {f:FuncId} {fn:Func} {s:ChangeSpec} {c:OpenClaim}
  (h0:(c.wf (OpenSpec.ofChange s))=true)
  (h1:(laidOutB P)=true)
  (h2:(mapsRowed P)=true)
  (h3:(fn.params.all (P.readableRec ·))=true)
  (h4:(namedTie P c.named s.vars)=true)
  (h5:((c.stops==[]))=true)
  (h6:((P.stops==[]))=true)
  (h7:((c.knobs==[]))=true)
  (h8:((P.stopKnobs==[]))=true)
  (h9:((c.inPlace==P.inPlace f))=true)
  (h10:((c.unfollowed==P.unfollowed f))=true)
  (h11:((c.recurses==P.recurses f))=true)
  (h12:((c.named==P.varsNamed f))=true)
  (h13:((c.maps==(fn.params.toList++s.plain.varTypes P).any (P.mapsRec ·)))=true)
  (h14:((c.ifaces==(fn.params.toList++s.plain.varTypes P).any (P.ifacesRec ·)))=true)
  (h15:((c.mapsOut==P.mapsAmong fn.resultTypes.toList))=true)
  (h16:((c.loops==(fn.params.toList++s.plain.varTypes P).any (P.loopsFrom ·)))=true)
  (h17:((c.wideKeys==(fn.params.toList++s.plain.varTypes P++fn.resultTypes.toList).any (P.wideKeysFrom ·)))=true)
  (h18:(s.vars.all (P.varReadable ·))=true)
  (h19:(fn.resultTypes.all (fun t=>P.readableRec t&&decide (t<P.types.size)))=true)
  (h20:((c.ifacesOut==fn.resultTypes.toList.any (P.ifacesRec ·)))=true)
  (h21:((c.loopsOut==fn.resultTypes.toList.any (P.loopsFrom ·)))=true)
  (h22:((c.plainKeys==P.plainKeys))=true)
  (h23:(c.shortTexts.isNone)=true)
  (h24:(P.stopsHeard)=true)
  (h25:(P.mayEnter)=true)
  (l1:P.liftsFinal=false) (l2:c.lifted=false)
  (m1:P.make=some .cut) (m2:c.make= .cut)
  (h28:((c.kinds==(if c.domain.isEmpty then []else fn.params.toList.map fun t=>match P.underlying t with | some (.int k)=>some k | _=>none)))=true)
  (h29:((c.pinned==c.pinnedBy))=true)
  (h30:((c.veiled==(fn.params.toList++s.plain.varTypes P++fn.resultTypes.toList).any (P.veiledRec ·)))=true)
  (h31:(c.veiledFits P fn.params.toList (fn.params.toList++s.plain.varTypes P++fn.resultTypes.toList))=true):joinedFacts P f fn s c=true:=by
 unfold joinedFacts
 exact an (an (an (an (an (an (an (an (an (an (an (an (an (an (an (an (an (an (an (an (an (an (an (an (an (an (an (an (an (an (an h0 h1) h2) h3) h4) h5) h6) h7) h8) h9) h10) h11) h12) h13) h14) h15) h16) h17) h18) h19) h20) h21) h22) h23) h24) h25) (by rw[l1,l2];rfl)) (by rw[m1,m2];rfl)) h28) h29) h30) h31
end Go.X
namespace Go.Proofs.YtemclecmafjjfaaGreatDoor
set_option maxRecDepth 100000
theorem LC :(laidOutB Tryz.pinned.checked.prog)=true:=by kernel_rfl
theorem LF :(mapsRowed Tryz.pinned.checked.prog)=true:=by kernel_rfl
theorem LG :((Tryz.pinned.checked.prog.stops==[]))=true:=by kernel_rfl
theorem LH :((Tryz.pinned.checked.prog.stopKnobs==[]))=true:=by kernel_rfl
theorem Ik :(Tryz.pinned.checked.prog.stopsHeard)=true:=by kernel_rfl
theorem BT :true=Tryz.pinned.checked.prog.looks []:=by kernel_rfl
theorem Fh :Tryz.pinned.checked.prog.mainIs=some ((true,"28fa3ce493b9e7033f3d521e5950e8ab21fefd709d40817d7b93e5768c22cff1").1,(true,"28fa3ce493b9e7033f3d521e5950e8ab21fefd709d40817d7b93e5768c22cff1").2.toList):=by kernel_rfl
end Go.Proofs.YtemclecmafjjfaaGreatDoor
namespace Go.Proofs.YtemclecmafjjfaaGreatDoor.N
open Go.Proofs.YtemclecmafjjfaaGreatDoor
open Go.X Go.ChangeShapes Go.WideShapes Go.ChangeAt Go.RowKit Go.Deep
set_option maxRecDepth 100000
section
variable {H:Type} {enc:TypeId × Value->H} {W:World} {base b0:Nat} {r:Reach}
theorem om {n:Nat} {cs:List Value} {y:DataW H × List MemPlace} {t:TypeId} (ht:Tryz.prog.underlying t=some (.float .f64)) (h:DataW.trod enc Tryz.prog W base (fun _=>true) true n t cs=some y):∃x:Nat,cs=[.float .f64 x]/\x<18446744073709551616:=by
 cases n with
 | zero=>simp[DataW.trod]at h
 | succ n=>
  unfold DataW.trod at h
  rw[ht]at h
  split at h<;>simp_all
  rename_i k k2 b e
  subst e
  have:=h.1.2
  simpa[Lit.wf]using this
theorem yU {n:Nat} {cs:List Value} {y:DataW H × List MemPlace} (h:DataW.trod enc Tryz.prog W base (fun _=>true) true n 71 cs=some y):∃x:Nat × Nat,cs=eFF.enc x/\x.1<18446744073709551616/\x.2<18446744073709551616:=by
 obtain⟨y0,y1,m,_,hl,t0,t1⟩:=trod_struct2 Tryz.underlying71 h
 have hc:Tryz.prog.cellsOf 54=1:=by kernel_rfl
 have h2:Tryz.prog.cellsOf 71=2:=by kernel_rfl
 rw[h2]at hl
 dsimp only at t0 t1
 rw[hc]at t0 t1
 match cs,hl with
 | [c0,c1],_=>
  simp at t0 t1
  obtain⟨a,ha,wa⟩:=om Tryz.underlying54 t0
  obtain⟨b,hb,wb⟩:=om Tryz.underlying54 t1
  simp at ha hb
  exact⟨(a,b),by simp[eFF,ha,hb],wa,wb⟩
theorem iD {t e:TypeId} {n:Nat} {c:Value} {y:DataW H × List MemPlace} (hs:Tryz.prog.underlying t=some (.slice e)) (h:DataW.trod enc Tryz.prog W base (fun _=>true) true n t [c]=some y):∃a l k,c= .slice a l k:=by
 rcases open_slice hs h with⟨e,_⟩ | ⟨x,l,c,_,_,_,_,e,_⟩
 ·simp at e;exact⟨_,_,_,e⟩
 ·simp at e;exact⟨_,_,_,e⟩
theorem BU {α:Type} {Q:α->Prop} {xs:List α} {d:DataW H} (h:xs.length=0\/∃el sp,d= .slice el sp/\el.length=xs.length/\∀(i:Nat) (x:α),xs[i]? =some x->∃dd,el[i]? =some dd/\Q x):∀x∈xs,Q x:=by
 intro x hx
 rcases h with h | ⟨el,sp,_,_,h⟩
 ·rw[List.eq_nil_of_length_eq_zero h]at hx;cases hx
 ·obtain⟨i,hi,rfl⟩:=List.mem_iff_getElem.1 hx
  obtain⟨_,_,q⟩:=h i xs[i] (List.getElem?_eq_getElem hi)
  exact q
structure DocIn (W:World) (v:Value) (m:MD) (u:MDs):Prop where
 v:v=m.v u
 eE:(Ck.vw eP u.aE u.nE u.cE m.es).ok W.heap
 eL:(Ck.vw eS u.aL u.nL u.cL m.ls).ok W.heap
 eS:(Ck.vw eFF u.aS u.nS u.cS m.ss).ok W.heap
 eW:(Ck.vw eF u.aW u.nW u.cW m.ws).ok W.heap
 ls:∀x∈m.ls,x.size<=9223372036854775807
 ss:∀p∈m.ss,p.1<18446744073709551616/\p.2<18446744073709551616
 ws:∀x∈m.ws,x<18446744073709551616
theorem BV {v:Value} {d:DataW H} {p:List MemPlace} (hv:Value.okWide Tryz.prog W r b0 29 v) (h:DataW.Trod enc Tryz.prog W base (fun _=>true) true 29 v d p):∃m u,DocIn W v m u:=by
 obtain⟨cs,rfl,hcs⟩:=okWide_struct Tryz.underlying29 hv
 have hrow:Row.okWide Tryz.prog W r b0 29 cs:=by
  have hv':=hv
  simp only[Value.okWide,Tryz.underlying29]at hv'
  obtain⟨cs',e1,_,hr⟩:=hv'
  cases e1
  exact hr
 obtain⟨tys,q1,_,q2⟩:=hrow
 rw[show Tryz.prog.cellTypes Tryz.prog.depth 29=some [3,22,4,25,26,27] by kernel_rfl]at q1
 obtain rfl:=Option.some.inj q1
 rw[show Tryz.prog.cellsOf 29=6 by kernel_rfl]at hcs
 obtain⟨fuel,hf⟩:=h
 obtain⟨xs,n,_,_,hl,hlen,hfl⟩:=DataW.trod_struct Tryz.underlying29 hf
 obtain⟨l⟩:=cs
 match l,hcs with
 | [c0,c1,c2,c3,c4,c5],_=>
  have hcl:(Value.agg ⟨[c0,c1,c2,c3,c4,c5]⟩).cells.toList=[c0,c1,c2,c3,c4,c5]:=rfl
  rw[hcl]at hfl
  match xs,hlen with
  | [y0,y1,y2,y3,y4],_=>
   have t0:DataW.trod enc Tryz.prog W base (fun _=>true) true n 24 (([c0,c1,c2,c3,c4,c5].drop 0).take (Tryz.prog.cellsOf 24))=some y0:=hfl 0 _ rfl
   have t1:DataW.trod enc Tryz.prog W base (fun _=>true) true n 4 (([c0,c1,c2,c3,c4,c5].drop 2).take (Tryz.prog.cellsOf 4))=some y1:=hfl 1 _ rfl
   have t2:DataW.trod enc Tryz.prog W base (fun _=>true) true n 25 (([c0,c1,c2,c3,c4,c5].drop 3).take (Tryz.prog.cellsOf 25))=some y2:=hfl 2 _ rfl
   have t3:DataW.trod enc Tryz.prog W base (fun _=>true) true n 26 (([c0,c1,c2,c3,c4,c5].drop 4).take (Tryz.prog.cellsOf 26))=some y3:=hfl 3 _ rfl
   have t4:DataW.trod enc Tryz.prog W base (fun _=>true) true n 27 (([c0,c1,c2,c3,c4,c5].drop 5).take (Tryz.prog.cellsOf 27))=some y4:=hfl 4 _ rfl
   rw[show Tryz.prog.cellsOf 24=2 by kernel_rfl]at t0
   rw[show Tryz.prog.cellsOf 4=1 by kernel_rfl]at t1
   rw[show Tryz.prog.cellsOf 25=1 by kernel_rfl]at t2
   rw[show Tryz.prog.cellsOf 26=1 by kernel_rfl]at t3
   rw[show Tryz.prog.cellsOf 27=1 by kernel_rfl]at t4
   simp at t0 t1 t2 t3 t4
   obtain⟨z0,z1,k,_,_,s0,s1⟩:=trod_struct2 Tryz.underlying24 t0
   dsimp only at s0 s1
   rw[show Tryz.prog.cellsOf 3=1 by kernel_rfl]at s0
   rw[show Tryz.prog.cellsOf 22=1 by kernel_rfl]at s1
   simp at s0 s1
   obtain⟨n,hm,_⟩:=DataW.trod_int Tryz.underlying3 s0
   simp at hm
   subst hm
   obtain⟨aE,nE,cE,rfl⟩:=iD Tryz.underlying22 s1
   obtain⟨aL,nL,cL,rfl⟩:=iD Tryz.underlying25 t2
   obtain⟨aS,nS,cS,rfl⟩:=iD Tryz.underlying26 t3
   obtain⟨aW,nW,cW,rfl⟩:=iD Tryz.underlying27 t4
   obtain⟨dr,rfl⟩:∃b,c2= .bool b:=by
    obtain⟨b,hb,_⟩:=DataW.trod_bool Tryz.underlying4 t1
    simp at hb;exact⟨b,hb⟩
   have sp:∀(k:Nat) (t e:TypeId) (a:Option Addr) (l c:Nat),Tryz.prog.underlying t=some (.slice e)-> [3,22,4,25,26,27][k]? =some t->(#[Value.int .i64 n,.slice aE nE cE,.bool dr,.slice aL nL cL,.slice aS nS cS,.slice aW nW cW]:Array Value)[k]? =some (.slice a l c)->k<6->∀x,a=some x->x.spot=none:=by
    rintro k t e a l c ht hk hv hk6 x rfl
    obtain⟨u,q3,q4⟩:=q2 k _ hv
    rw[Nat.mod_eq_of_lt (by simpa using hk6),hk]at q3
    obtain rfl:=Option.some.inj q3
    exact F8 ht q4
   obtain⟨es,hes,_⟩:=F9 eP (enc:=enc) (base:=base) Tryz.underlying22 (by kernel_rfl) (sp 1 22 51 _ _ _ Tryz.underlying22 rfl rfl (by decide)) (fun n cs y=>Ga Tryz.underlying51 Tryz.underlying3 (by kernel_rfl) (by kernel_rfl)) ⟨_,s1⟩
   obtain⟨ls,hls,hl2⟩:=wj (enc:=enc) (base:=base) Tryz.underlying25 Tryz.underlying9 (by kernel_rfl) (sp 3 25 9 _ _ _ Tryz.underlying25 rfl rfl (by decide)) ⟨_,t2⟩
   obtain⟨ss,hss,hs2⟩:=oT (fun(x:Nat × Nat) _=>x.1<18446744073709551616/\x.2<18446744073709551616) eFF (enc:=enc) (base:=base) Tryz.underlying26 (by kernel_rfl) (sp 4 26 71 _ _ _ Tryz.underlying26 rfl rfl (by decide)) (fun n cs y h=>yU h) ⟨_,t3⟩
   obtain⟨ws,hws,hw2⟩:=oT (fun(x:Nat) _=>x<18446744073709551616) eF (enc:=enc) (base:=base) Tryz.underlying27 (by kernel_rfl) (sp 5 27 54 _ _ _ Tryz.underlying27 rfl rfl (by decide)) (fun n cs y h=>om Tryz.underlying54 h) ⟨_,t4⟩
   exact⟨⟨n,dr,es,ls,ss,ws⟩,⟨aE,nE,cE,aL,nL,cL,aS,nS,cS,aW,nW,cW⟩,rfl,hes,hls,hss,hws,hl2,BU hs2,BU hw2⟩
end
end Go.Proofs.YtemclecmafjjfaaGreatDoor.N
