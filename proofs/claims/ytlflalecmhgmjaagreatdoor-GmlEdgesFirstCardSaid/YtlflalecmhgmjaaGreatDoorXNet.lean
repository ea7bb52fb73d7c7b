/- The facts of the whole program that each row asks: the words of its head, read once. Conditions: none. -/
import Derived.Test.YtlflalecmhgmjaaGreatDoorRows
import Derived.ProofKit
import Derived.Test.YtlflalecmhgmjaaGreatDoorCards
import Derived.SevenTiedAt
import Derived.Test.YtlflalecmhgmjaaGreatDoorWUp
set_option linter.unusedVariables false
set_option linter.unusedSimpArgs false
namespace Go.Proofs.YtlflalecmhgmjaaGreatDoor
set_option maxRecDepth 100000
def blank :Char:=Char.ofNat 32
theorem ws_blank (r:List Char):wordsSigns (blank::r)=[]::wordsSigns r:=rfl
theorem ws_step {c:Char} (hc:c≠blank) {r w:List Char} {ws:List (List Char)} (h:wordsSigns r=w::ws):wordsSigns (c::r)=(c::w)::ws:=by
 rw[wordsSigns]
 ·rw [h]
 ·exact hc
theorem ws_word :∀(w r:List Char),w.all (fun c=>c != blank)=true->wordsSigns (w++blank::r)=w::wordsSigns r
 | [],r,_=>ws_blank r
 | c::w,r,h=>by
  simp only[List.all_cons,Bool.and_eq_true]at h
  exact ws_step (by simpa using h.1) (ws_word w r h.2)
def wordH :List Char:=[Char.ofNat 104,Char.ofNat 97,Char.ofNat 114,Char.ofNat 110,Char.ofNat 101,Char.ofNat 115,Char.ofNat 115]
def wordS :List Char:=[Char.ofNat 100,Char.ofNat 57,Char.ofNat 50,Char.ofNat 50,Char.ofNat 98,Char.ofNat 50,Char.ofNat 49,Char.ofNat 50,Char.ofNat 55,Char.ofNat 100,Char.ofNat 48,Char.ofNat 57,Char.ofNat 51,Char.ofNat 57,Char.ofNat 55,Char.ofNat 51,Char.ofNat 102,Char.ofNat 54,Char.ofNat 101,Char.ofNat 54,Char.ofNat 102,Char.ofNat 98,Char.ofNat 100,Char.ofNat 55,Char.ofNat 97,Char.ofNat 57,Char.ofNat 53,Char.ofNat 53,Char.ofNat 53,Char.ofNat 102,Char.ofNat 57,Char.ofNat 53,Char.ofNat 55,Char.ofNat 102,Char.ofNat 97,Char.ofNat 56,Char.ofNat 55,Char.ofNat 101,Char.ofNat 98,Char.ofNat 57,Char.ofNat 102,Char.ofNat 49,Char.ofNat 54,Char.ofNat 48,Char.ofNat 54,Char.ofNat 56,Char.ofNat 57,Char.ofNat 97,Char.ofNat 98,Char.ofNat 56,Char.ofNat 51,Char.ofNat 51,Char.ofNat 55,Char.ofNat 49,Char.ofNat 57,Char.ofNat 99,Char.ofNat 48,Char.ofNat 101,Char.ofNat 97,Char.ofNat 102,Char.ofNat 55,Char.ofNat 56,Char.ofNat 51,Char.ofNat 98]
def wordC :List Char:=[Char.ofNat 99,Char.ofNat 117,Char.ofNat 116]
def wordR :List Char:=[Char.ofNat 97,Char.ofNat 116,Char.ofNat 32,Char.ofNat 116,Char.ofNat 114,Char.ofNat 97,Char.ofNat 99,Char.ofNat 101,Char.ofNat 114,Char.ofNat 121,Char.ofNat 47,Char.ofNat 116,Char.ofNat 114,Char.ofNat 97,Char.ofNat 99,Char.ofNat 101,Char.ofNat 114,Char.ofNat 121,Char.ofNat 108,Char.ofNat 97,Char.ofNat 119,Char.ofNat 51,Char.ofNat 49,Char.ofNat 46,Char.ofNat 71,Char.ofNat 114,Char.ofNat 97,Char.ofNat 112,Char.ofNat 104,Char.ofNat 109,Char.ofNat 108,Char.ofNat 66,Char.ofNat 97,Char.ofNat 99,Char.ofNat 107,Char.ofNat 32,Char.ofNat 116,Char.ofNat 114,Char.ofNat 97,Char.ofNat 99,Char.ofNat 101,Char.ofNat 114,Char.ofNat 121,Char.ofNat 47,Char.ofNat 116,Char.ofNat 114,Char.ofNat 97,Char.ofNat 99,Char.ofNat 101,Char.ofNat 114,Char.ofNat 121,Char.ofNat 108,Char.ofNat 97,Char.ofNat 119,Char.ofNat 51,Char.ofNat 49,Char.ofNat 46,Char.ofNat 71,Char.ofNat 114,Char.ofNat 97,Char.ofNat 112,Char.ofNat 104,Char.ofNat 109,Char.ofNat 108,Char.ofNat 65,Char.ofNat 103,Char.ofNat 97,Char.ofNat 105,Char.ofNat 110,Char.ofNat 32,Char.ofNat 116,Char.ofNat 114,Char.ofNat 97,Char.ofNat 99,Char.ofNat 101,Char.ofNat 114,Char.ofNat 121,Char.ofNat 47,Char.ofNat 116,Char.ofNat 114,Char.ofNat 97,Char.ofNat 99,Char.ofNat 101,Char.ofNat 114,Char.ofNat 121,Char.ofNat 108,Char.ofNat 97,Char.ofNat 119,Char.ofNat 51,Char.ofNat 48,Char.ofNat 46,Char.ofNat 71,Char.ofNat 109,Char.ofNat 108,Char.ofNat 87,Char.ofNat 114,Char.ofNat 105,Char.ofNat 116,Char.ofNat 101,Char.ofNat 115,Char.ofNat 32,Char.ofNat 116,Char.ofNat 114,Char.ofNat 97,Char.ofNat 99,Char.ofNat 101,Char.ofNat 114,Char.ofNat 121,Char.ofNat 47,Char.ofNat 116,Char.ofNat 114,Char.ofNat 97,Char.ofNat 99,Char.ofNat 101,Char.ofNat 114,Char.ofNat 121,Char.ofNat 108,Char.ofNat 97,Char.ofNat 119,Char.ofNat 51,Char.ofNat 48,Char.ofNat 46,Char.ofNat 71,Char.ofNat 109,Char.ofNat 108,Char.ofNat 82,Char.ofNat 101,Char.ofNat 97,Char.ofNat 100,Char.ofNat 115,Char.ofNat 32,Char.ofNat 116,Char.ofNat 114,Char.ofNat 97,Char.ofNat 99,Char.ofNat 101,Char.ofNat 114,Char.ofNat 121,Char.ofNat 47,Char.ofNat 116,Char.ofNat 114,Char.ofNat 97,Char.ofNat 99,Char.ofNat 101,Char.ofNat 114,Char.ofNat 121,Char.ofNat 108,Char.ofNat 97,Char.ofNat 119,Char.ofNat 51,Char.ofNat 48,Char.ofNat 46,Char.ofNat 71,Char.ofNat 109,Char.ofNat 108,Char.ofNat 66,Char.ofNat 97,Char.ofNat 99,Char.ofNat 107,Char.ofNat 32,Char.ofNat 116,Char.ofNat 114,Char.ofNat 97,Char.ofNat 99,Char.ofNat 101,Char.ofNat 114,Char.ofNat 121,Char.ofNat 47,Char.ofNat 116,Char.ofNat 114,Char.ofNat 97,Char.ofNat 99,Char.ofNat 101,Char.ofNat 114,Char.ofNat 121,Char.ofNat 108,Char.ofNat 97,Char.ofNat 119,Char.ofNat 51,Char.ofNat 48,Char.ofNat 46,Char.ofNat 71,Char.ofNat 109,Char.ofNat 108,Char.ofNat 65,Char.ofNat 103,Char.ofNat 97,Char.ofNat 105,Char.ofNat 110,Char.ofNat 32,Char.ofNat 116,Char.ofNat 114,Char.ofNat 97,Char.ofNat 99,Char.ofNat 101,Char.ofNat 114,Char.ofNat 121,Char.ofNat 47,Char.ofNat 116,Char.ofNat 114,Char.ofNat 97,Char.ofNat 99,Char.ofNat 101,Char.ofNat 114,Char.ofNat 121,Char.ofNat 108,Char.ofNat 97,Char.ofNat 119,Char.ofNat 51,Char.ofNat 48,Char.ofNat 46,Char.ofNat 71,Char.ofNat 109,Char.ofNat 108,Char.ofNat 66,Char.ofNat 108,Char.ofNat 97,Char.ofNat 110,Char.ofNat 107,Char.ofNat 115,Char.ofNat 32,Char.ofNat 116,Char.ofNat 114,Char.ofNat 97,Char.ofNat 99,Char.ofNat 101,Char.ofNat 114,Char.ofNat 121,Char.ofNat 47,Char.ofNat 116,Char.ofNat 114,Char.ofNat 97,Char.ofNat 99,Char.ofNat 101,Char.ofNat 114,Char.ofNat 121,Char.ofNat 108,Char.ofNat 97,Char.ofNat 119,Char.ofNat 51,Char.ofNat 48,Char.ofNat 46,Char.ofNat 71,Char.ofNat 109,Char.ofNat 108,Char.ofNat 76,Char.ofNat 97,Char.ofNat 98,Char.ofNat 101,Char.ofNat 108,Char.ofNat 115,Char.ofNat 32,Char.ofNat 116,Char.ofNat 114,Char.ofNat 97,Char.ofNat 99,Char.ofNat 101,Char.ofNat 114,Char.ofNat 121,Char.ofNat 47,Char.ofNat 116,Char.ofNat 114,Char.ofNat 97,Char.ofNat 99,Char.ofNat 101,Char.ofNat 114,Char.ofNat 121,Char.ofNat 108,Char.ofNat 97,Char.ofNat 119,Char.ofNat 51,Char.ofNat 48,Char.ofNat 46,Char.ofNat 71,Char.ofNat 109,Char.ofNat 108,Char.ofNat 69,Char.ofNat 100,Char.ofNat 103,Char.ofNat 101,Char.ofNat 115,Char.ofNat 70,Char.ofNat 105,Char.ofNat 114,Char.ofNat 115,Char.ofNat 116,Char.ofNat 32,Char.ofNat 116,Char.ofNat 114,Char.ofNat 97,Char.ofNat 99,Char.ofNat 101,Char.ofNat 114,Char.ofNat 121,Char.ofNat 47,Char.ofNat 116,Char.ofNat 114,Char.ofNat 97,Char.ofNat 99,Char.ofNat 101,Char.ofNat 114,Char.ofNat 121,Char.ofNat 108,Char.ofNat 97,Char.ofNat 119,Char.ofNat 51,Char.ofNat 49,Char.ofNat 46,Char.ofNat 71,Char.ofNat 114,Char.ofNat 97,Char.ofNat 112,Char.ofNat 104,Char.ofNat 109,Char.ofNat 108,Char.ofNat 87,Char.ofNat 114,Char.ofNat 105,Char.ofNat 116,Char.ofNat 101,Char.ofNat 115,Char.ofNat 32,Char.ofNat 116,Char.ofNat 114,Char.ofNat 97,Char.ofNat 99,Char.ofNat 101,Char.ofNat 114,Char.ofNat 121,Char.ofNat 47,Char.ofNat 116,Char.ofNat 114,Char.ofNat 97,Char.ofNat 99,Char.ofNat 101,Char.ofNat 114,Char.ofNat 121,Char.ofNat 108,Char.ofNat 97,Char.ofNat 119,Char.ofNat 51,Char.ofNat 49,Char.ofNat 46,Char.ofNat 71,Char.ofNat 114,Char.ofNat 97,Char.ofNat 112,Char.ofNat 104,Char.ofNat 109,Char.ofNat 108,Char.ofNat 82,Char.ofNat 101,Char.ofNat 97,Char.ofNat 100,Char.ofNat 115,Char.ofNat 32,Char.ofNat 116,Char.ofNat 114,Char.ofNat 97,Char.ofNat 99,Char.ofNat 101,Char.ofNat 114,Char.ofNat 121,Char.ofNat 47,Char.ofNat 116,Char.ofNat 114,Char.ofNat 97,Char.ofNat 99,Char.ofNat 101,Char.ofNat 114,Char.ofNat 121,Char.ofNat 108,Char.ofNat 97,Char.ofNat 119,Char.ofNat 51,Char.ofNat 49,Char.ofNat 46,Char.ofNat 71,Char.ofNat 114,Char.ofNat 97,Char.ofNat 112,Char.ofNat 104,Char.ofNat 109,Char.ofNat 108,Char.ofNat 78,Char.ofNat 111,Char.ofNat 116,Char.ofNat 101,Char.ofNat 115,Char.ofNat 32,Char.ofNat 116,Char.ofNat 114,Char.ofNat 97,Char.ofNat 99,Char.ofNat 101,Char.ofNat 114,Char.ofNat 121,Char.ofNat 47,Char.ofNat 116,Char.ofNat 114,Char.ofNat 97,Char.ofNat 99,Char.ofNat 101,Char.ofNat 114,Char.ofNat 121,Char.ofNat 108,Char.ofNat 97,Char.ofNat 119,Char.ofNat 51,Char.ofNat 49,Char.ofNat 46,Char.ofNat 71,Char.ofNat 114,Char.ofNat 97,Char.ofNat 112,Char.ofNat 104,Char.ofNat 109,Char.ofNat 108,Char.ofNat 78,Char.ofNat 97,Char.ofNat 109,Char.ofNat 101,Char.ofNat 115]
theorem head_is :Tryz.pinned.checked.prog.initOrder=String.ofList (wordH++blank::(wordS++blank::(wordC++blank::wordR))):=by kernel_rfl
theorem words_are :∃tl,wordsSigns Tryz.pinned.checked.prog.initOrder.toList=wordH::wordS::wordC::tl:=by
 refine⟨wordsSigns wordR,?_⟩
 rw[head_is,String.toList_ofList,ws_word _ _ (by kernel_rfl),ws_word _ _ (by kernel_rfl),ws_word _ _ (by kernel_rfl)]
theorem behind (tl:List (List Char)):behindMainWord (wordH::wordS::wordC::tl)=wordC::tl:=by kernel_rfl
theorem strip (tl:List (List Char)):stripLifts liftWords (wordC::tl)=([],wordC::tl):=by kernel_rfl
theorem door :Tryz.pinned.checked.prog.doorFits []=true:=by kernel_rfl
theorem later :Tryz.pinned.checked.prog.laysLater=false:=by kernel_rfl
theorem noRefl :Tryz.pinned.checked.prog.bearsReflect=false:=by kernel_rfl
theorem isC :(wordC== "cut".toList)=true:=by kernel_rfl
theorem notG :(wordC== "gc".toList)=false:=by kernel_rfl
theorem notS :(wordC== "spec".toList)=false:=by kernel_rfl
theorem notK :(wordC== "carried".toList)=false:=by kernel_rfl
theorem headC (tl:List (List Char)):((wordC::tl).head? ==some "cut".toList)=true:=by
 rw[List.head?_cons,Option.some_beq_some];exact isC
theorem mayEnter_of {P:Program} {tl:List (List Char)} (h:wordsSigns P.initOrder.toList=wordH::wordS::wordC::tl) (door:P.doorFits []=true) (later:P.laysLater=false) (hrefl:P.bearsReflect=false):P.mayEnter=true:=by
 unfold Program.mayEnter
 rw[h,behind]
 simp only[strip,door,later,hrefl,notG,notS,notK,headC,Bool.false_or,Bool.or_false,Bool.false_and,Bool.not_false,Bool.or_true,Bool.and_true,Bool.and_self]
 rfl
theorem lifts_of {P:Program} {tl:List (List Char)} (h:wordsSigns P.initOrder.toList=wordH::wordS::wordC::tl):P.liftsFinal=false:=by
 unfold Program.liftsFinal Program.headLifts
 rw[h,behind]
 have hk:((wordC::tl).head? ==some "carried".toList)=false:=by rw[List.head?_cons,Option.some_beq_some];exact notK
 simp only[strip,hk,headC,Bool.false_and,Bool.false_or,if_true,List.contains_nil]
theorem make_of {P:Program} {tl:List (List Char)} (h:wordsSigns P.initOrder.toList=wordH::wordS::wordC::tl):P.make=some .cut:=by
 unfold Program.make Program.headLifts
 rw[h,behind]
 simp only[isC,notG,notS,Bool.or_false,Bool.true_or,if_true,Bool.false_eq_true,if_false]
theorem may_enter :Tryz.pinned.checked.prog.mayEnter=true:=words_are.elim fun _ h=>mayEnter_of h door later noRefl
theorem lifts_not :Tryz.pinned.checked.prog.liftsFinal=false:=words_are.elim fun _ h=>lifts_of h
theorem make_is :Tryz.pinned.checked.prog.make=some .cut:=words_are.elim fun _ h=>make_of h
end Go.Proofs.YtlflalecmhgmjaaGreatDoor
/- A row's closed facts, one by one. Conditions: none. -/
namespace Go.X
theorem an {a b:Bool} (x:a=true) (y:b=true):(a&&b)=true:=by rw[x,y];rfl
theorem joinedFacts_of {P:Program} {f:FuncId} {fn:Func} {s:ChangeSpec} {c:OpenClaim}
  (h0:(c.wf (OpenSpec.ofChange s))=true)
  (h1:(laidOutB P)=true)
  (h2:(mapsRowed P)=true)
  (h3:(fn.params.all (P.readableRec ·))=true)
  (h4:(namedTie P c.named s.vars)=true)
  (h5:((c.stops==[]))=true)
  (h6:((P.stops==[]))=true)
  (h7:((c.knobs==[]))=true)
  (h8:((P.stopKnobs==[]))=true)
  (h9:((c.inPlace==P.inPlace f))=true)
  (h10:((c.unfollowed==P.unfollowed f))=true)
  (h11:((c.recurses==P.recurses f))=true)
  (h12:((c.named==P.varsNamed f))=true)
  (h13:((c.maps==(fn.params.toList++s.plain.varTypes P).any (P.mapsRec ·)))=true)
  (h14:((c.ifaces==(fn.params.toList++s.plain.varTypes P).any (P.ifacesRec ·)))=true)
  (h15:((c.mapsOut==P.mapsAmong fn.resultTypes.toList))=true)
  (h16:((c.loops==(fn.params.toList++s.plain.varTypes P).any (P.loopsFrom ·)))=true)
  (h17:((c.wideKeys==(fn.params.toList++s.plain.varTypes P++fn.resultTypes.toList).any (P.wideKeysFrom ·)))=true)
  (h18:(s.vars.all (P.varReadable ·))=true)
  (h19:(fn.resultTypes.all (fun t=>P.readableRec t&&decide (t<P.types.size)))=true)
  (h20:((c.ifacesOut==fn.resultTypes.toList.any (P.ifacesRec ·)))=true)
  (h21:((c.loopsOut==fn.resultTypes.toList.any (P.loopsFrom ·)))=true)
  (h22:((c.plainKeys==P.plainKeys))=true)
  (h23:(c.shortTexts.isNone)=true)
  (h24:(P.stopsHeard)=true)
  (h25:(P.mayEnter)=true)
  (l1:P.liftsFinal=false) (l2:c.lifted=false)
  (m1:P.make=some .cut) (m2:c.make= .cut)
  (h28:((c.kinds==(if c.domain.isEmpty then []else fn.params.toList.map fun t=>match P.underlying t with | some (.int k)=>some k | _=>none)))=true)
  (h29:((c.pinned==c.pinnedBy))=true)
  (h30:((c.veiled==(fn.params.toList++s.plain.varTypes P++fn.resultTypes.toList).any (P.veiledRec ·)))=true)
  (h31:(c.veiledFits P fn.params.toList (fn.params.toList++s.plain.varTypes P++fn.resultTypes.toList))=true):joinedFacts P f fn s c=true:=by
 unfold joinedFacts
 exact an (an (an (an (an (an (an (an (an (an (an (an (an (an (an (an (an (an (an (an (an (an (an (an (an (an (an (an (an (an (an h0 h1) h2) h3) h4) h5) h6) h7) h8) h9) h10) h11) h12) h13) h14) h15) h16) h17) h18) h19) h20) h21) h22) h23) h24) h25) (by rw[l1,l2];rfl)) (by rw[m1,m2];rfl)) h28) h29) h30) h31
end Go.X
namespace Go.Proofs.YtlflalecmhgmjaaGreatDoor
set_option maxRecDepth 100000
theorem wide1 :(laidOutB Tryz.pinned.checked.prog)=true:=by kernel_rfl
theorem wide2 :(mapsRowed Tryz.pinned.checked.prog)=true:=by kernel_rfl
theorem wide6 :((Tryz.pinned.checked.prog.stops==[]))=true:=by kernel_rfl
theorem wide8 :((Tryz.pinned.checked.prog.stopKnobs==[]))=true:=by kernel_rfl
theorem wide24 :(Tryz.pinned.checked.prog.stopsHeard)=true:=by kernel_rfl
end Go.Proofs.YtlflalecmhgmjaaGreatDoor
namespace Go.Proofs.YtlflalecmhgmjaaGreatDoor
set_option maxRecDepth 100000
theorem looks_is :true=Tryz.pinned.checked.prog.looks []:=by kernel_rfl
theorem main_is :Tryz.pinned.checked.prog.mainIs=some ((true,"d922b2127d093973f6e6fbd7a9555f957fa87eb9f160689ab833719c0eaf783b").1,(true,"d922b2127d093973f6e6fbd7a9555f957fa87eb9f160689ab833719c0eaf783b").2.toList):=by kernel_rfl
end Go.Proofs.YtlflalecmhgmjaaGreatDoor
namespace Go.X
open Go.ChangeShapes Go.WideShapes Go.ChangeAt Go.RowKit Go.Deep
theorem net_len {P:Program} {W:World} {r:Reach} {b0:Nat} {t ti ts ta:TypeId} {f0 f1:Field} {n:Int} {a:Option Addr} {l c:Nat} (ht:P.underlying t=some (.struct #[f0,f1])) (hs:P.underlying ts=some (.slice ta))
  (hct:P.cellTypes P.depth t=some [ti,ts]) (hv:Value.okWide P W r b0 t (.agg #[.int .i64 n,.slice a l c])):l<=9223372036854775807:=by
 simp only[Value.okWide,ht]at hv
 obtain⟨cs',e1,_,tys,q1,_,q2⟩:=hv
 cases e1
 rw[hct]at q1
 cases q1
 obtain⟨u,q3,q4⟩:=q2 1 (.slice a l c) rfl
 obtain rfl:ts=u:=by simpa using q3
 simp only[Cell.okWide,hs,Cell.ok]at q4
 have hm:IntKind.i64.max=9223372036854775807:=by decide
 cases a with
 | none=>
  by_cases h0:l=0
  ·omega
  ·exact (by split at q4<;>simp_all)
 | some x=>obtain⟨q5,q6,_⟩:=q4;omega
end Go.X
