/- Maps whose keys are whole numbers or strings: looked up, written, an entry's value changed. Conditions: the table of types is the program's. -/
import Derived.Test.YtmmmmjcfojhiaaaGreatDoorXAct4
import Derived.MapKept
import Derived.Carry
import Derived.OrdersIn
set_option linter.unusedVariables false
set_option linter.unusedSimpArgs false
namespace Go.X
open Go.MapKept
def cI (h:ab) (r:Nat):Option (Array MapEntry × Nat):=
 match h[r]? with
 | some (.map es c)=>some (es,c)
 | _=>none
def cJ (h:ab) (r:Nat) (es:Array MapEntry) (c:Nat):ab:=h.setIfInBounds r (.map es c)
theorem bW {h:ab} {r:Nat} {es:Array MapEntry} {c:Nat} (e:cI h r=some (es,c)):h[r]? =some (.map es c):=by
 grind [cI]
theorem mh {h:ab} {r:Nat} {es:Array MapEntry} {c:Nat} (e:h[r]? =some (.map es c)):cI h r=some (es,c):=by simp[cI,e]
theorem oA (h:ab) (r:Nat) (es:Array MapEntry) (c:Nat):Fr [r] h (cJ h r es c):=
 ⟨by simp[cJ],fun b _ hb=>by simp only[Qi]at hb;simp[cJ,Ne.symm hb]⟩
@[simp] theorem Lf (h : ab) (r : Nat) (es : Array MapEntry) (c : Nat) : (cJ h r es c).size = h.size := by simp [cJ]
def nV (ti:TI):Value->Bool
 | .string _=>Nat.beq ti.tag 5
 | .int k _=>match ti.kids with
  | .int k'=>decide (k=k')
  | _=>false
 | _=>false
theorem kq {P:Program} {t:Nat} {ti:TI} (ht:TyOK P t ti) {d:TypeDesc} (hd:P.underlying t=some d) {v:Value} (h:nV ti v=true):IsKey d v:=by
 obtain⟨d',i,z,q1,_,_,_,_,_,_,q2,q3⟩:=ht.ex
 rw[hd]at q1
 obtain rfl:=Option.some.inj q1
 cases v<;>simp only[nV,reduceCtorEq]at h
 ·rename_i k n
  split at h
  ·rename_i k' hk
   rw[hk]at q2
   have:=of_decide_eq_true h
   subst this
   cases d<;>simp only[cM,reduceCtorEq,Kids.int.injEq]at q2
   subst q2;rfl
  ·cases h
 ·have:=P4 h
  rw[this]at q3
  cases d<;>simp only[ym,kC,Nat.reduceEqDiff,reduceCtorEq]at q3
  ·exact trivial
  grind
theorem qA {P:Program} {t:Nat} {ti:TI} (ht:TyOK P t ti):∃d,P.underlying t=some d:=let ⟨d,_,_,q,_⟩:=ht.ex;⟨d,q⟩
theorem wB {P:Program} {t k e:Nat} {ti:TI} (ht:TyOK P t ti) (hk:ti.kids= .map k e):P.underlying t=some (.map k e):=by
 obtain⟨d,i,z,q1,_,_,_,_,_,_,q2,_⟩:=ht.ex
 rw[hk]at q2
 cases d<;>simp only[cM,reduceCtorEq,Kids.map.injEq]at q2
 grind
def zw (ti:TI) (K:Sh->Value->Prop):Prop:=
 match ti.agg with
 | false=>(match ti.zero with
  | [z]=>(match ti.shs with
   | [sh]=>K sh z
   | _=>False)
  | _=>False)
 | true=>False
def EM (ti:TI) (K:((Value->Prop)->Prop)->Value->Prop):Prop:=
 match ti.agg with
 | true=>(match Nat.ble 2 ti.zero.length with
  | true=>K (fun k=>exL ti.shs fun us=>k (.agg us.toArray)) (.agg ti.zero.toArray)
  | false=>False)
 | false=>zw ti fun sh z=>K sh.ex z
def kB :TI:=⟨[.str],false,16,[.string ByteArray.empty],.none,5⟩
def zx :TI:=⟨[.int .i64],false,8,[.int .i64 0],.int .i64,6⟩
def fw (ti:TI) (es:Array MapEntry):Prop:=∀e∈es.toList,nV ti e.key=true
def EN (T:TAB) (t:Nat) (K:TI->TI->Prop):Prop:=
 match tl T t with
 | some ti=>(match ti.kids with
  | .map kt et=>(match tl T kt with
   | some ki=>(match tl T et with
    | some ei=>K ki ei
    | none=>False)
   | none=>False)
  | _=>False)
 | none=>False
def HW (b:Bool) (K:Prop):Prop:=
 match b with
 | true=>K
 | false=>False
def HX (nw:Bool) (T:TAB) (st:St) (h:ab) (o:Oper) (t:TypeId) (x i y:Operand) (K:St->ab->Prop):Prop:=
 (match o.dst with
  | none=>EN T t fun ki _=>(match evo st x with
   | some (.map q)=>∃r,q=some r/\(match evo st i with
    | some k=>(match evo st y with
     | some v=>HW (nV ki k) (nin r (hid st.lc) (∃es c,cI h r=some (es,c)/\fw ki es/\(match nw with
      | true=>(∀e∈es.toList,e.key≠k)/\K st (cJ h r (es.push ⟨k,v,c⟩) (c+1))
      | false=>(∀(j:Nat) (e:MapEntry),es[j]? =some e->e.key=k->K st (cJ h r (es.modify j fun e=>{e with key:=k,val:=v}) c))/\
       ((∀e∈es.toList,e.key≠k)->K st (cJ h r (es.push ⟨k,v,c⟩) (c+1))))))
     | none=>False)
    | none=>False)
   | _=>False)
  | some _=>False)
def KW (T:TAB) (st:St) (h:ab) (o:Oper) (K:St->ab->Prop):Prop:=
 match o.op with
 | .lookup t x i ok=>EN T t fun ki ei=>(match evo st x with
  | some (.map q)=>∃r,q=some r/\(match evo st i with
   | some k=>HW (nV ki k) (EM ei fun X z=>∃es c,cI h r=some (es,c)/\fw ki es/\
    (∀e∈es.toList,e.key=k->X fun u=>e.val=u/\K (st.put o.dst (.val (match ok with
     | true=>.tuple #[u,.bool true]
     | false=>u))) h)/\
    ((∀e∈es.toList,e.key≠k)->K (st.put o.dst (.val (match ok with
     | true=>.tuple #[z,.bool false]
     | false=>z))) h))
   | none=>False)
  | _=>False)
 | .mapUpdate t x i y=>HX false T st h o t x i y K
 | .insert t x i y=>HX true T st h o t x i y K
 | .mapEntry t x i=>EN T t fun ki ei=>(match evo st x with
  | some (.map q)=>∃r,q=some r/\(match evo st i with
   | some k=>HW (nV ki k) (zw ei fun sh z=>nin r (hid st.lc) (∃es c,cI h r=some (es,c)/\fw ki es/\
    (∀(j:Nat) (e:MapEntry),es[j]? =some e->e.key=k->sh.ex fun u=>e.val=u/\K (st.put o.dst (.val (.tuple #[u,.int .i64 (e.born:Int)]))) (cJ h r (es.modify j fun e=>{e with key:=k}) c))/\
    ((∀e∈es.toList,e.key≠k)->K (st.put o.dst (.val (.tuple #[z,.int .i64 (c:Int)]))) (cJ h r (es.push ⟨k,z,c⟩) (c+1)))))
   | none=>False)
  | _=>False)
 | .entryStore _ x i y=>(match o.dst with
  | none=>(match evo st x with
   | some (.map q)=>∃r,q=some r/\(match evo st i with
    | some (.int _ n)=>(match evo st y with
     | some v=>nin r (hid st.lc) (∃es c,cI h r=some (es,c)/\∃j,es.findIdx? (fun e=>(e.born:Int)==n)=some j/\K st (cJ h r (es.modify j fun e=>{e with val:=v}) c))
     | none=>False)
    | _=>False)
   | _=>False)
  | some _=>False)
 | _=>False
theorem nb {P:Program} {T:TAB} (hT:bq P T) {t:Nat} {K:TI->TI->Prop} (h:EN T t K):∃kt et ki ei,P.underlying t=some (.map kt et)/\TyOK P kt ki/\TyOK P et ei/\K ki ei:=by
 unfold EN at h
 split at h
 ·rename_i ti h1
  split at h
  ·rename_i kt et h2
   split at h
   ·rename_i ki h3
    split at h
    ·rename_i ei h4
     exact⟨kt,et,ki,ei,wB (hT.tl h1) h2,hT.tl h3,hT.tl h4,h⟩
    ·exact h.elim
   ·exact h.elim
  ·exact h.elim
 ·exact h.elim
theorem nf {b:Bool} {K:Prop} (h:HW b K):b=true/\K:=by
 cases b
 ·exact h.elim
 ·exact⟨rfl,h⟩
theorem sM {P:Program} {t:Nat} {ti:TI} (ht:TyOK P t ti) {K:Sh->Value->Prop} (h:zw ti K) (w:World):∃sh z,(zeroValue t).run P w= .ok z w/\K sh z:=by
 obtain⟨d,i,z,q1,q2,_,_,q3,q4,q5,_,_⟩:=ht.ex
 unfold zw at h
 split at h
 ·rename_i ha
  split at h
  ·rename_i u hz
   split at h
   case h_2=>exact h.elim
   rename_i sh _
   have hrun:(zeroValue t).run P w= .ok z w:=by simp[zeroValue,typeInfo,q2,q3]
   refine⟨sh,z,hrun,?_⟩
   rw[hz]at q4
   cases z with
   | agg cs=>exact absurd rfl (ht.na i _ q2 q3 ha cs)
   | _=>simp only[Value.cells,List.cons.injEq,and_true]at q4;rw[q4];exact h
  ·exact h.elim
 ·exact h.elim
theorem AQ {P:Program} {t:Nat} {ti:TI} (ht:TyOK P t ti) {K:((Value->Prop)->Prop)->Value->Prop} (h:EM ti K) (w:World):
  ∃X z,(zeroValue t).run P w= .ok z w/\(∀k:Value->Prop,X k->∃v,k v)/\K X z:=by
 unfold EM at h
 split at h
 ·split at h
  ·rename_i h2
   have h2:2<=ti.zero.length:=Qr h2
   obtain⟨z,h3,h4⟩:=ix ht w
   refine⟨fun k=>exL ti.shs fun us=>k (.agg us.toArray),z,h3,fun k hk=>?_,?_⟩
   ·grind [qE]
   ·have:z= .agg ti.zero.toArray:=by
     cases z with
     | agg cs=>simp only[Value.cells]at h4;rw[h4]
     | _=>
      simp only[Value.cells]at h4
      have:=congrArg Array.size h4
      simp only[List.size_toArray]at this
      rw[<-this]at h2
      simp at h2
    grind
  ·exact h.elim
 ·obtain⟨sh,z,h3,h4⟩:=sM ht h w
  grind [Sh.ex_elim]
section
variable {P:Program} {T:TAB} {ro:RO} {st:St} {a:Act} {w:World} {K:St->ab->Prop} {o:Oper} {Q:Exit->Act->World->Prop}
theorem qB {kt:Nat} {ki:TI} {d:TypeDesc} (hk:TyOK P kt ki) (hd:P.underlying kt=some d) {k:Value} {es:Array MapEntry} (h1:nV ki k=true) (h2:fw ki es):
  (Instr.findNow d k es.toList 0=some none/\∀x∈es.toList,x.key≠k)\/∃j e,Instr.findNow d k es.toList 0=some (some (j,e.val))/\es[j]? =some e/\e.key=k:=by
 rcases findNow_spec (kq hk hd h1) es.toList 0 (fun x hx=>kq hk hd (h2 x hx))with h | ⟨j,e,g1,g2,g3⟩
 ·exact .inl h
 grind
theorem nh {w':World} (hdst:o.dst=none) (hr:(execOp a.eval o).run P w= .ok .skip w') (h:Nx ro st K a.tmps.size w (a.put none undef) w'):eG P ro st o a w K Q:=by
 unfold eG Oper.wp
 rw[hr]
 rw[<-hdst]at h
 exact h
theorem mi (r:Rel st a w) {b:Nat} {es es':Array MapEntry} {c c':Nat} (hni:b∉hid st.lc):Rel st a {w with heap:=cJ w.heap b es' c'}/\Rest w {w with heap:=cJ w.heap b es' c'}:=by
 have hrest:Rest w {w with heap:=cJ w.heap b es' c'}:=⟨rfl,rfl,rfl,PC⟩
 exact⟨r.fr_later hrest (oA w.heap b es' c') (fun x hx=>by grind),hrest⟩
theorem qC {nw:Bool} {t:TypeId} {x i y:Operand} (hT:bq P T) (r:Rel st a w) (hd:bR ro a.tmps.size o.dst=true) (ho:o.op= .mapUpdate t x i y\/o.op= .insert t x i y) (d:HX nw T st w.heap o t x i y K):eG P ro st o a w K Q:=by
 unfold HX at d
 split at d
 ·rename_i hdst
  obtain⟨kt,et,ki,ei,hm,hki,hei,d⟩:=nb hT d
  split at d
  ·rename_i q h1
   obtain⟨b,rfl,d⟩:=d
   have e1:=bu r.fr h1
   split at d
   ·rename_i k h2
    have e2:=bu r.fr h2
    split at d
    ·rename_i v h3
     have e3:=bu r.fr h3
     obtain⟨hkb,d⟩:=nf d
     obtain⟨hni,es,c,hh,hks,d⟩:=iL d
     have d12:(∀(j:Nat) (e:MapEntry),es[j]? =some e->e.key=k->K st (cJ w.heap b (es.modify j fun e=>{e with key:=k,val:=v}) c))/\((∀e∈es.toList,e.key≠k)->K st (cJ w.heap b (es.push ⟨k,v,c⟩) (c+1))):=by
      grind
     obtain⟨d1,d2⟩:=d12
     have hb:=bW hh
     obtain⟨dd,hdd⟩:=qA hki
     have hkk:=kq hki hdd hkb
     rcases qB hki hdd hkb hks with⟨g1,g2⟩ | ⟨j,e,g1,g2,g3⟩
     ·obtain⟨p1,p2⟩:=mi (es:=es) (c:=c) r hni (es':=es.push ⟨k,v,c⟩) (c':=c+1)
      refine nh (w':={w with heap:=cJ w.heap b (es.push ⟨k,v,c⟩) (c+1)}) hdst ?_ ⟨st,p1,p2,rfl,Keep.refl _ _,d2 g2⟩
      rcases ho with ho | ho<;>simp[execOp,ho,e1,e2,e3,Instr.mapUpdate,run_underlying hm,MapKept.run_getObj_map hb,MapKept.run_checkKey hdd hkk,MapKept.run_findKey hdd g1,MapKept.run_setObj_map _ hb,cJ]
     ·obtain⟨p1,p2⟩:=mi (es:=es) (c:=c) r hni (es':=es.modify j fun e=>{e with key:=k,val:=v}) (c':=c)
      refine nh (w':={w with heap:=cJ w.heap b (es.modify j fun e=>{e with key:=k,val:=v}) c}) hdst ?_ ⟨st,p1,p2,rfl,Keep.refl _ _,d1 j e g2 g3⟩
      rcases ho with ho | ho<;>simp[execOp,ho,e1,e2,e3,Instr.mapUpdate,run_underlying hm,MapKept.run_getObj_map hb,MapKept.run_checkKey hdd hkk,MapKept.run_findKey hdd g1,g2,g3,MapKept.run_keyThatStays hkk,MapKept.run_setObj_map _ hb,cJ]
    ·exact d.elim
   ·exact d.elim
  ·exact d.elim
 ·exact d.elim
theorem yk (hT:bq P T) (r:Rel st a w) (hd:bR ro a.tmps.size o.dst=true) (d:KW T st w.heap o K):eG P ro st o a w K Q:=by
 unfold KW at d
 split at d
 ·rename_i t x i ok ho
  obtain⟨kt,et,ki,ei,hm,hki,hei,d⟩:=nb hT d
  split at d
  ·rename_i q h1
   obtain⟨b,rfl,d⟩:=d
   have e1:=bu r.fr h1
   split at d
   ·rename_i k h2
    have e2:=bu r.fr h2
    obtain⟨hkb,d⟩:=nf d
    obtain⟨X,z,hz,hX,es,c,hh,hks,d1,d2⟩:=AQ hei d w
    have hb:=bW hh
    obtain⟨dd,hdd⟩:=qA hki
    rcases qB hki hdd hkb hks with⟨g1,g2⟩ | ⟨j,e,g1,g2,g3⟩
    ·refine bi (w':=w) ?_ (bT hd (Rest.refl w) r rfl (d2 g2))
     cases ok<;>simp[execOp,ho,e1,e2,Instr.lookup,run_underlying hm,MapKept.run_getObj_map hb,MapKept.run_checkKey hdd (kq hki hdd hkb),MapKept.run_findKey hdd g1,hz]
    ·obtain⟨u,hu,hk⟩:=hX _ (d1 e PE g3)
     subst hu
     refine bi (w':=w) ?_ (bT hd (Rest.refl w) r rfl hk)
     cases ok<;>simp[execOp,ho,e1,e2,Instr.lookup,run_underlying hm,MapKept.run_getObj_map hb,MapKept.run_checkKey hdd (kq hki hdd hkb),MapKept.run_findKey hdd g1]
   ·exact d.elim
  ·exact d.elim
 ·grind [qC]
 ·rename_i t x i y ho
  exact qC hT r hd (.inr ho) d
 ·rename_i t x i ho
  obtain⟨kt,et,ki,ei,hm,hki,hei,d⟩:=nb hT d
  split at d
  ·rename_i q h1
   obtain⟨b,rfl,d⟩:=d
   have e1:=bu r.fr h1
   split at d
   ·rename_i k h2
    have e2:=bu r.fr h2
    obtain⟨hkb,d⟩:=nf d
    obtain⟨sh,z,hz,d⟩:=sM hei d w
    obtain⟨hni,es,c,hh,hks,d1,d2⟩:=iL d
    have hb:=bW hh
    obtain⟨dd,hdd⟩:=qA hki
    have hkk:=kq hki hdd hkb
    rcases qB hki hdd hkb hks with⟨g1,g2⟩ | ⟨j,e,g1,g2,g3⟩
    ·obtain⟨p1,p2⟩:=mi (es:=es) (c:=c) r hni (es':=es.push ⟨k,z,c⟩) (c':=c+1)
     refine bi (w':={w with heap:=cJ w.heap b (es.push ⟨k,z,c⟩) (c+1)}) ?_ (bT hd p2 p1 rfl (d2 g2))
     simp[execOp,ho,e1,e2,Instr.mapEntry,run_underlying hm,MapKept.run_getObj_map hb,MapKept.run_checkKey hdd hkk,MapKept.run_findKey hdd g1,hz,MapKept.run_setObj_map _ hb,cJ,goInt]
    ·obtain⟨p1,p2⟩:=mi (es:=es) (c:=c) r hni (es':=es.modify j fun e=>{e with key:=k}) (c':=c)
     obtain⟨u,_,hu,hk⟩:=Sh.ex_elim (d1 j e g2 g3)
     subst hu
     refine bi (w':={w with heap:=cJ w.heap b (es.modify j fun e=>{e with key:=k}) c}) ?_ (bT hd p2 p1 rfl hk)
     simp[execOp,ho,e1,e2,Instr.mapEntry,run_underlying hm,MapKept.run_getObj_map hb,MapKept.run_checkKey hdd hkk,MapKept.run_findKey hdd g1,g2,g3,MapKept.run_keyThatStays hkk,MapKept.run_setObj_map _ hb,cJ,goInt]
   ·exact d.elim
  ·exact d.elim
 ·rename_i t x i y ho
  split at d
  ·rename_i hdst
   split at d
   ·rename_i q h1
    obtain⟨b,rfl,d⟩:=d
    have e1:=bu r.fr h1
    split at d
    ·rename_i kk n h2
     have e2:=bu r.fr h2
     split at d
     ·rename_i v h3
      have e3:=bu r.fr h3
      obtain⟨hni,es,c,hh,j,hj,d⟩:=iL d
      have hb:=bW hh
      obtain⟨p1,p2⟩:=mi (es:=es) (c:=c) r hni (es':=es.modify j fun e=>{e with val:=v}) (c':=c)
      refine nh (w':={w with heap:=cJ w.heap b (es.modify j fun e=>{e with val:=v}) c}) hdst ?_ ⟨st,p1,p2,rfl,Keep.refl _ _,d⟩
      simp[execOp,ho,e1,e2,e3,Instr.entryStore,MapKept.run_getObj_map hb,asInt,asIntOf,hj,MapKept.run_setObj_map _ hb,cJ]
     ·exact d.elim
    ·exact d.elim
   ·exact d.elim
  ·exact d.elim
 ·exact d.elim
end
def aG (P:Program) (f:FuncId) (args:Array Value) (h:ab) (R Rp:Value->ab->Prop):Prop:=
 ∀w:World,w.heap=h->Calls P f args w fun e w'=>Rest w w'/\((∃v,e= .returned v/\R v w'.heap)\/∃v,e= .panicked [{v:=v,recovered:=false}]/\Rp v w'.heap)
theorem aG.mono {P:Program} {f:FuncId} {args:Array Value} {h:ab} {R Rp R' Rp':Value->ab->Prop} (c:aG P f args h R Rp) (k1:∀v h',R v h'->R' v h') (k2:∀v h',Rp v h'->Rp' v h'):aG P f args h R' Rp':=
 fun w hw=>(c w hw).mono fun _ _ ⟨e2,e3⟩=>⟨e2,e3.imp (fun⟨v,a,b⟩=>⟨v,a,k1 _ _ b⟩) fun⟨v,a,b⟩=>⟨v,a,k2 _ _ b⟩⟩
def aH (P:Program) (f:FuncId) (args:Array Value) (h:ab) (H:List Nat) (K E:Value->ab->Prop):Prop:=
 ∃(M:List Nat) (R Rp:Value->ab->Prop),aG P f args h (fun v h'=>Fr M h h'/\R v h') (fun v h'=>Fr M h h'/\Rp v h')/\(∀b∈H,b∉M)/\(∀v h',Fr M h h'->R v h'->K v h')/\∀v h',Fr M h h'->Rp v h'->E v h'
def ik (P:Program) (F FP:List Nat) (pn:Option (Value->ab->Prop)) (fn:Fn) (first captured:Array Value) (vs:List Value) (h:ab) (H:List Nat) (K:Value->ab->Prop):Prop:=
 match fn with
 | .func g=>(match mem FP g with
  | true=>(match pn with
   | some E=>aH P g (first.toList++(vs++captured.toList)).toArray h H K E
   | none=>False)
  | false=>(match mem F g with
   | true=>ag P g (first.toList++(vs++captured.toList)).toArray h H K
   | false=>bg P g (first.toList++(vs++captured.toList)).toArray fun v=>K v h))
 | _=>False
def PQ (pn:Option (Value->ab->Prop)) (w0:World) (ch:List PanicEntry) (a:Act) (w:World):Prop:=
 ∃E v,pn=some E/\ch=[{v:=v,recovered:=false}]/\a.defers=[]/\Rest w0 w/\E v w.heap
theorem PQ.back {pn:Option (Value->ab->Prop)} {w0 w1:World} {ch:List PanicEntry} {a:Act} {w:World} (h:PQ pn w1 ch a w) (r:Rest w0 w1):PQ pn w0 ch a w:=
 let ⟨E,v,a1,a2,a3,a4,a5⟩:=h;⟨E,v,a1,a2,a3,r.trans a4,a5⟩
def KS (T:TAB) (st:St) (h:ab) (o:Oper) (c:Call) (K:St->ab->Prop) (A:Prop):Prop:=
 match c.args.toList with
 | [x]=>(match c.argTypes.toList with
  | [t]=>(match tl T t with
   | some ti=>(match ti.kids with
    | .map _ _=>(match evo st x with
     | some (.map q)=>∃r,q=some r/\∃es c,cI h r=some (es,c)/\K (st.put o.dst (.val (.int .i64 (es.size:Int)))) h
     | _=>False)
    | _=>A)
   | none=>A)
  | _=>A)
 | _=>A
def Et (T:TAB) (st:St) (h:ab) (o:Oper) (c:Call) (K:St->ab->Prop):Prop:=
 match c.args.toList with
 | [x,y]=>(match c.argTypes.toList with
  | [t,_]=>(match tl T t with
   | some ti=>(match ti.kids with
    | .slice e=>(match tl T e with
     | some ei=>(match Nat.beq ei.shs.length 1 with
      | true=>(match evo st x with
       | some (.slice da dn _)=>(match evo st y with
        | some (.slice sa sn _)=>∃b q,da=some ⟨b,q,none⟩/\∃xs:List Value,Reads h 1 sa (Nat.min sn dn) xs/\(∀v∈xs,v.oneCell'=true)/\nin b (hid st.lc) ((∀j,j<xs.length->(∃u,ac h b (q+j)=some u)/\aq h b (q+j)=true)/\K (st.put o.dst (.val (.int .i64 ((Nat.min sn dn:Nat):Int)))) (nG h b q xs))
        | _=>False)
       | _=>False)
      | false=>False)
     | none=>False)
    | _=>False)
   | none=>False)
  | _=>False)
 | _=>False
def qb (P:Program) (T:TAB) (F FP:List Nat) (pn:Option (Value->ab->Prop)) (privs:List Nat) (ro:RO) (st:St) (h:ab) (o:Oper) (K:St->ab->Prop):Prop:=
 match o.op with
 | .panic x=>(match pn with
  | some E=>(match evo st x with
   | some (.iface t v)=>E (.iface t v) h
   | _=>False)
  | none=>False)
 | .makeMap _ none=>K (st.put o.dst (.val (.map (some h.size)))) (h.push (.map #[] 0))
 | .call c=>(match c.callee with
  | .value f=>(match ev st f with
   | some (.val (.func fn first captured))=>(match rj st c.args.toList with
    | some vs=>ik P F FP pn fn first captured vs h (hid st.lc) fun v h'=>vV T o.type fun v'=>v=v'/\K (st.put o.dst (.val v')) h'
    | none=>False)
   | _=>False)
  | .builtin .len=>KS T st h o c K (act P T F privs ro st h o K)
  | .builtin .copy=>Et T st h o c K
  | _=>act P T F privs ro st h o K)
 | .convert s t x=>(match evo st x with
  | some (.int _ n)=>(match tl T s with
   | some _=>(match tl T t with
    | some ti=>(match Nat.beq ti.tag 5 with
     | true=>K (st.put o.dst (.val (.string (Utf8.encode n)))) h
     | false=>False)
    | none=>False)
   | none=>False)
  | _=>act P T F privs ro st h o K)
 | .lookup .. | .mapUpdate .. | .mapEntry .. | .entryStore .. | .insert .. =>KW T st h o K
 | _=>act P T F privs ro st h o K
section
variable {P:Program} {T:TAB} {F FP:List Nat} {pn:Option (Value->ab->Prop)} {privs:List Nat} {ro:RO} {st:St} {a:Act} {w:World} {K:St->ab->Prop} {o:Oper} {Q:Exit->Act->World->Prop}
theorem xS {x:Operand} (hP:∀ch a' w',PQ pn w ch a' w'->Q (.panic ch) a' w') (r:Rel st a w) (ho:o.op= .panic x) (d:qb P T F FP pn privs ro st w.heap o K):eG P ro st o a w K Q:=by
 unfold qb at d
 simp only[ho]at d
 split at d
 ·rename_i E
  split at d
  ·rename_i t v h1
   have e1:=bu r.fr h1
   unfold eG Oper.wp
   have hrun:(execOp a.eval o).run P w= .halt (.panic (.iface t v)) w:=by
    simp[execOp,ho,e1,Instr.panic]
   rw[hrun]
   exact hP _ _ _ ⟨E,_,rfl,rfl,r.df,Rest.refl w,d⟩
  ·exact d.elim
 ·exact d.elim
theorem ub {t:TypeId} (r:Rel st a w) (hd:bR ro a.tmps.size o.dst=true) (ho:o.op= .makeMap t none) (d:qb P T F FP pn privs ro st w.heap o K):eG P ro st o a w K Q:=by
 unfold qb at d
 simp only[ho]at d
 have hf:Fr [] w.heap (w.alloc (.map #[] 0)).heap:=Fr.push _ _
 refine bi (v:=.map (some w.heap.size)) (w':=w.alloc (.map #[] 0)) ?_ (bT (w:=w) (w':=w.alloc (.map #[] 0)) hd (Rest.alloc _ _) (r.fr_later (Rest.alloc _ _) hf fun _ _ h=>by cases h) (x:=.val (.map (some w.heap.size))) rfl d)
 simp only[execOp,ho,Option.map_none]
 rw[bU (show(Instr.makeMap t none).run P w= .ok (.map (some w.heap.size)) (w.alloc (.map #[] 0))from rfl)]
 rfl
theorem uc {s t:TypeId} {x:Operand} (hT:bq P T) (hF:cp P F) (r:Rel st a w) (hd:bR ro a.tmps.size o.dst=true) (ho:o.op= .convert s t x) (d:qb P T F FP pn privs ro st w.heap o K):eG P ro st o a w K Q:=by
 unfold qb at d
 simp only[ho]at d
 split at d
 ·rename_i k n h1
  have e1:=bu r.fr h1
  split at d
  ·rename_i si h0
   obtain⟨ds,_,_,hds,_⟩:=(hT.tl h0).ex
   split at d
   ·rename_i ti h2
    split at d
    ·rename_i h3
     have hu:=eH (hT.tl h2) h3
     refine bi (v:=.string (Utf8.encode n)) (w':=w) ?_ (bT hd (Rest.refl w) r rfl d)
     simp[execOp,ho,e1,convert,run_underlying hds,run_underlying hu,Conv.intToString]
    ·exact d.elim
   ·exact d.elim
  ·exact d.elim
 ·exact gz hT hF r hd d
theorem Eu {c:Call} (hT:bq P T) (hF:cp P F) (r:Rel st a w) (hd:bR ro a.tmps.size o.dst=true) (ho:o.op= .call c) (hc:c.callee= .builtin .len)
  (d:KS T st w.heap o c K (act P T F privs ro st w.heap o K)):eG P ro st o a w K Q:=by
 have single:∀{α:Type} {l:Array α} {x:α},l.toList=[x]->l=#[x]:=fun h=>by grind
 unfold KS at d
 split at d
 ·rename_i x hx
  split at d
  ·rename_i t htt
   split at d
   ·rename_i ti h1
    split at d
    ·rename_i kt et hk
     have hm:=wB (hT.tl h1) hk
     split at d
     ·rename_i q h2
      have e1:=bu r.fr h2
      obtain⟨b,rfl,es,cc,hh,d⟩:=d
      refine bi (v:=.int .i64 (es.size:Int)) (w':=w) ?_ (bT hd (Rest.refl w) r rfl d)
      simp[execOp,ho,resolve,hc,single hx,single htt,e1,invoke,builtin,Builtin.len_,run_underlying hm,MapKept.run_getObj_map (bW hh),goInt]
     ·exact d.elim
    ·exact gz hT hF r hd d
   ·exact gz hT hF r hd d
  ·exact gz hT hF r hd d
 ·exact gz hT hF r hd d
theorem Ay {c:Call} (hT:bq P T) (r:Rel st a w) (hd:bR ro a.tmps.size o.dst=true) (ho:o.op= .call c) (hc:c.callee= .builtin .copy)
  (d:Et T st w.heap o c K):eG P ro st o a w K Q:=by
 have pair:∀{α:Type} {l:Array α} {x y:α},l.toList=[x,y]->l=#[x,y]:=fun h=>by grind
 unfold Et at d
 split at d
 ·rename_i x y hx
  split at d
  ·rename_i t t' ht
   split at d
   ·rename_i ti h1
    split at d
    ·rename_i e hk
     have hu:=bQ (hT.tl h1) hk
     split at d
     ·rename_i ei h2
      split at d
      ·rename_i hb
       have hsz:=run_sizeOf (hT.tl h2)
       rw[P4 hb]at hsz
       split at d
       ·rename_i da dn dc h3
        have e3:=bu r.fr h3
        split at d
        ·rename_i sa sn sc h4
         have e4:=bu r.fr h4
         obtain⟨b,q,rfl,xs,hr,h5,d⟩:=d
         obtain⟨hni,hw,d⟩:=iL d
         obtain⟨w',f1,f2,f3⟩:=co (P:=P) b q xs 0 w h5 (by simpa using hw)
         have ff:(Builtin.firstCells 1 (Nat.min sn dn) (.slice sa sn sc)).run P w= .ok xs.toArray w:=by
          rcases hr.2 with⟨rfl,h6⟩ | ⟨b',o',rfl,h6⟩
          ·have:xs=[]:=Qb (by rw[hr.1,h6])
           rw[this];exact run_firstCells_none (P:=P) w _ _ _ _
          ·exact run_firstCells_some (P:=P) w 1 _ ⟨b',o',none⟩ sn sc xs hr.1 fun j v hj=>by rw[dM,bz];exact h6 j v hj
         have hf:Fr [b] w.heap w'.heap:=by rw[f2];exact iM b _ _ _
         refine bi (v:=.int .i64 ((Nat.min sn dn:Nat):Int)) (w':=w') ?_ (bT hd f3 (r.fr_later f3 hf fun z hz=>by grind) rfl (by rw[f2];exact d))
         simp[execOp,ho,resolve,hc,pair hx,pair ht,e3,e4,invoke,builtin,Builtin.copy_,Builtin.lenOf,run_underlying hu,hsz,ff,f1,goInt]
        ·exact d.elim
       ·exact d.elim
      ·exact d.elim
     ·exact d.elim
    ·exact d.elim
   ·exact d.elim
  ·exact d.elim
 ·exact d.elim
theorem Az {c:Call} (hT:bq P T) (hF:cp P F) (hFP:cp P FP) (hP:∀ch a' w',PQ pn w ch a' w'->Q (.panic ch) a' w') (r:Rel st a w) (hd:bR ro a.tmps.size o.dst=true) (ho:o.op= .call c)
  (d:qb P T F FP pn privs ro st w.heap o K):eG P ro st o a w K Q:=by
 unfold qb at d
 simp only[ho]at d
 split at d
 ·rename_i f hc
  split at d
  ·rename_i fn first captured h1
   have e1:=bo r.toL h1
   split at d
   ·rename_i vs h2
    have e2:=lZ r.toL h2
    unfold ik at d
    split at d
    ·rename_i g
     have hres:(resolve a.eval c o.type).run P w= .ok {target:=.fn (.func g) captured,args:=first++vs.toArray} w:=by
      simp[resolve,hc,e1,Deferred.ofValue,e2]
     have hargs:(first++vs.toArray)++captured=(first.toList++(vs++captured.toList)).toArray:=by
      simp_all
     have hrunG:∀{L:List Nat},cp P L->mem L g=true->(execOp a.eval o).run P w= .ok (.enter g (first.toList++(vs++captured.toList)).toArray) w:=fun{L} hL hm=>by
      grind [cp.mem,execOp,bU,invoke]
     split at d
     ·rename_i hm
      split at d
      ·rename_i E
       obtain⟨M,R,Rp,hcall,hH,hk,hkp⟩:=d
       unfold eG Oper.wp
       rw[hrunG hFP hm]
       refine(hcall w rfl).mono ?_
       rintro e w' ⟨hrest,⟨v,rfl,hfr,hR⟩ | ⟨v,rfl,hfr,hR⟩⟩
       ·obtain⟨v',rfl,hK⟩:=gS (hk v w'.heap hfr hR)
        exact bT hd hrest (r.fr_later hrest hfr hH) (x:=.val v) rfl hK
       ·exact hP _ _ _ ⟨E,v,rfl,rfl,r.df,hrest,hkp v w'.heap hfr hR⟩
      ·exact d.elim
     ·split at d
      ·rename_i hm
       obtain⟨M,R,hcall,hH,hk⟩:=d
       unfold eG Oper.wp
       rw[hrunG hF hm]
       refine(hcall w rfl).mono ?_
       rintro e w' ⟨v,rfl,hrest,hfr,hR⟩
       obtain⟨v',rfl,hK⟩:=gS (hk v w'.heap hfr hR)
       exact bT hd hrest (r.fr_later hrest hfr hH) (x:=.val v) rfl hK
      ·obtain⟨R,hext,hk⟩:=d
       obtain⟨v,w',hcf,hheap,hrest,hR⟩:=hext w
       obtain⟨v',rfl,hK⟩:=gS (hk v hR)
       refine bi (v:=v) (w':=w') ?_ (bT hd hrest (r.later hrest fun _ _ _=>by rw[hheap]) (x:=.val v) rfl PE)
       grind [execOp,bU,invoke]
    ·exact d.elim
   ·exact d.elim
  ·exact d.elim
 ·grind [Eu]
 ·rename_i hc
  exact Ay hT r hd ho hc d
 ·exact vX hT hF r hd ho d
theorem xU (hT:bq P T) (hF:cp P F) (hFP:cp P FP) (hP:∀ch a' w',PQ pn w ch a' w'->Q (.panic ch) a' w') (r:Rel st a w) (hd:bR ro a.tmps.size o.dst=true) (d:qb P T F FP pn privs ro st w.heap o K):eG P ro st o a w K Q:=by
 grind [xS,Az,ub,gz,qb,uc,yk]
end
structure Env where
 P:Program
 T:TAB
 F:List Nat
 privs:List Nat
 n:Nat
 FP:List Nat:=[]
 pn:Option (Value->ab->Prop):=none
def qK (T:TAB) (op:Op):Bool:=
 match op with
 | .box _ _ | .alloc _ | .buildSlice _ _ _ | .makeSlice _ _ _ | .store _ _ _ | .panic _ | .makeMap _ _ | .lookup .. | .mapUpdate .. | .mapEntry .. | .entryStore .. | .insert .. =>true
 | .binOp op t _ _ _=>(match op with
  | .add | .sub | .mul | .quo=>(match tl T t with
   | some ti=>(match ti.kids with
    | .float _=>true
    | _=>false)
   | none=>false)
  | _=>false)
 | .convert s t _=>(match tl T s with
  | some si=>(match si.kids with
   | .float _=>(match tl T t with
    | some ti=>(match ti.kids with
     | .int _=>true
     | _=>false)
    | none=>false)
   | .slice _=>(match tl T t with
    | some ti=>(match ti.kids with
     | .none=>Nat.beq ti.tag 5
     | .slice _=>true
     | _=>false)
    | none=>false)
   | .none=>(match tl T t with
    | some ti=>(match ti.kids with
     | .slice _=>true
     | _=>false)
    | none=>false)
   | .int _=>(match tl T t with
    | some ti=>(match ti.kids with
     | .none=>Nat.beq ti.tag 5
     | _=>false)
    | none=>false)
   | _=>false)
  | none=>false)
 | .call c=>(match c.callee with
  | .builtin .append=>true
  | .builtin .copy=>true
  | .builtin .len=>(match c.argTypes.toList with
   | [t]=>(match tl T t with
    | some ti=>(match ti.kids with
     | .map _ _=>true
     | _=>false)
    | none=>false)
   | _=>false)
  | .value _=>true
  | _=>false)
 | _=>false
def cnd (c:Bool) (p q:Prop):Prop:=(c=true->p)/\(c=false->q)
def splitB (x:AVal) (K:AVal->Prop):Prop:=
 match x with
 | .val (.bool c)=>cnd c (K (.lit true)) (K (.lit false))
 | x=>K x
theorem wF {x:AVal} {K:AVal->Prop} (h:splitB x K) (lc:List Priv):∃y,y.conc lc=x.conc lc/\K y:=by
 unfold splitB at h
 split at h
 ·rename_i c
  cases c
  ·exact⟨.lit false,rfl,h.2 rfl⟩
  ·exact⟨.lit true,rfl,h.1 rfl⟩
 grind
def my (ops:List Oper) (i:Nat):Bool:=
 match ops with
 | []=>false
 | o::r=>match o.guard with
  | some (j,_)=>(match Nat.beq j i with
   | true=>true
   | false=>my r i)
  | none=>my r i
def zy (ops:List Oper) (st:St) (o:Oper):Option Bool:=
 match o.guard with
 | none=>some true
 | some (j,want)=>match ops[j]? with
  | some oj=>(match oj.dst with
   | some d=>(match look st.fr d with
    | some (.lit b)=>some (match b with
     | true=>want
     | false=> !want)
    | some (.val (.tuple _))=>some false
    | _=>none)
   | none=>none)
  | none=>none
theorem mz {ops:List Oper} {st:St} {o:Oper} {a:Act} {b:Bool} (hf:yl st a) (h:zy ops st o=some b):Region.wanted o (yielded ops.toArray a.tmps)=b:=by
 unfold zy at h
 unfold Region.wanted
 split at h
 ·grind
 ·rename_i j want hg
  simp only[hg]
  split at h
  ·rename_i oj hj
   split at h
   ·rename_i d hd
    have hy:yielded ops.toArray a.tmps j=(match a.tmps[d]? with | some (.bool b)=>some b | _=>none):=by
     grind [yielded]
    rw[hy]
    split at h
    ·rename_i c hl
     obtain⟨v,hv,ht⟩:=hf _ _ hl
     grind [AVal.conc,Option.some.injEq]
    ·rename_i hl
     obtain⟨v,hv,ht⟩:=hf _ _ hl
     grind [AVal.conc]
    ·cases h
   ·cases h
  ·cases h
def qL (g:Bool) (dst:Option Nat) (st:St) (K:St->Prop):Prop:=
 match g with
 | false=>K st
 | true=>match dst with
  | some d=>(match look st.fr d with
   | some x=>splitB x fun x'=>K (st.put dst x')
   | none=>False)
  | none=>False
theorem jQ {g:Bool} {ro:RO} {n:Nat} {dst:Option Nat} {st:St} {K:St->Prop} {a:Act} {w:World} (h:qL g dst st K) (r:Rel st a w) (hok:bR ro n dst=true):
  ∃st',Rel st' a w/\Keep ro st st'/\K st':=by
 cases g with
 | false=>exact⟨st,r,Keep.refl _ _,h⟩
 | true=>
  simp only[qL]at h
  split at h
  ·rename_i d
   split at h
   ·rename_i x hx
    obtain⟨y,hy,hk⟩:=wF h st.lc
    refine⟨st.put (some d) y,⟨fun t z hz=>?_,r.pr,r.ap,r.df⟩,Keep.put hok y,hk⟩
    simp only[St.put,look]at hz
    cases hb:Nat.beq d t with
    | true=>
     simp only[hb,Option.some.injEq]at hz
     have:=P4 hb
     subst this
     subst hz
     obtain⟨v,h1,h2⟩:=r.fr _ _ hx
     exact⟨v,hy.trans h1,h2⟩
    | false=>simp only[hb]at hz;exact r.fr t z hz
   ·exact h.elim
  ·exact h.elim
def zz (E:Env) (ro:RO) (ops:List Oper) (i:Nat) (o:Oper) (st:St) (h:ab) (K:St->ab->Prop):Prop:=
 match bR ro E.n o.dst with
 | false=>False
 | true=>match zy ops st o with
  | some true=>(match qK E.T o.op with
   | true=>qb E.P E.T E.F E.FP E.pn E.privs ro st h o fun st' h'=>qL (my ops i) o.dst st' fun st''=>K st'' h'
   | false=>det E.T st.lc none st h o.op fun x=>qL (my ops i) o.dst (st.put o.dst x) fun st''=>K st'' h)
  | some false=>K (st.put o.dst (.val undef)) h
  | none=>False
structure Env.OK (E:Env):Prop where
 T:bq E.P E.T
 F:cp E.P E.F
 FP:cp E.P E.FP
 m:E.P.follows .mixedOrders=true
theorem nR {E:Env} (hE:E.OK) {ro:RO} {ops:List Oper} {i:Nat} {o:Oper} {st:St} {K:St->ab->Prop} {a:Act} {w:World} {Q:Exit->Act->World->Prop}
  (hP:∀ch a' w',PQ E.pn w ch a' w'->Q (.panic ch) a' w') (d:zz E ro ops i o st w.heap K) (r:Rel st a w) (hn:a.tmps.size=E.n):
  if Region.wanted o (yielded ops.toArray a.tmps)then o.wp E.P a w (Nx ro st K a.tmps.size w) Q else Nx ro st K a.tmps.size w (a.put o.dst undef) w:=by
 unfold zz at d
 split at d
 ·exact d.elim
 ·rename_i hok
  have hok':bR ro a.tmps.size o.dst=true:=by grind
  split at d
  ·rename_i hw
   rw[if_pos (mz r.fr hw)]
   split at d
   ·refine Oper.wp_mono (fun a' w'=>?_) (xU hE.T hE.F hE.FP hP r hok' d)
    rintro⟨st',r',h1,h2,h3,h4⟩
    obtain⟨st'',r'',k1,k2⟩:=jQ h4 r' (h2▸hok')
    exact⟨st'',r'',h1,h2,h3.trans k1,k2⟩
   ·obtain⟨x,v,hc,hrun,hk⟩:=mX hE.T r.toL (Fr.refl _ _) d
    have hr':=r.put (gR hok') hc
    obtain⟨st'',r'',k1,k2⟩:=jQ hk hr' (show bR ro (a.put o.dst v).tmps.size o.dst=true by rw[dK];exact hok')
    unfold Oper.wp
    rw[hrun]
    exact⟨st'',r'',Rest.refl w,dK _ _ _,(Keep.put hok' x).trans k1,k2⟩
  ·rename_i hw
   rw[if_neg (by rw[mz r.fr hw];simp)]
   exact⟨_,r.put (gR hok') rfl,Rest.refl w,dK _ _ _,Keep.put hok' _,d⟩
  ·exact d.elim
def XR (E:Env) (ro:RO) (ops:List Oper):List Oper->Nat->St->ab->(St->ab->Prop)->Prop
 | [],_,st,h,K=>K st h
 | o::r,i,st,h,K=>zz E ro ops i o st h fun st' h'=>XR E ro ops r (i+1) st' h' K
theorem qM {E:Env} (hE:E.OK) {ro:RO} {ops:List Oper} {K:St->ab->Prop} {Q:Exit->Act->World->Prop} {s0:St} {w0:World}
  (hQ:∀a w,Nx ro s0 K E.n w0 a w->Q .normal a w) (hP:∀ch a' w',PQ E.pn w0 ch a' w'->Q (.panic ch) a' w'):
  ∀(l:List Oper) (i:Nat) (st:St) (a:Act) (w:World),XR E ro ops l i st w.heap K->Rel st a w->a.tmps.size=E.n->Rest w0 w->Keep ro s0 st->wpList E.P ops.toArray Q l a w
 | [],_,st,a,w,d,r,hn,hr,hk=>hQ a w ⟨st,r,hr,hn,hk,d⟩
 | o::l,i,st,a,w,d,r,hn,hr,hk=>by
  have h:=nR hE (Q:=Q) (fun ch a' w' q=>hP ch a' w' (q.back hr)) d r hn
  have hnext:∀a' w',Nx ro st (fun st' h'=>XR E ro ops l (i+1) st' h' K) a.tmps.size w a' w'->wpList E.P ops.toArray Q l a' w':=by
   rintro a' w' ⟨st',r',h1,h2,h3,h4⟩
   exact qM hE hQ hP l (i+1) st' a' w' h4 r' (h2.trans hn) (hr.trans h1) (hk.trans h3)
  unfold wpList
  split
  ·rename_i hw
   rw[if_pos hw]at h
   exact .inl (Oper.wp_mono hnext h)
  grind
structure LD where
 keepT:List Nat
 varT:List Nat
 keepP:List Nat
 varP:List Nat
def shA (x:AVal):Option Sh:=
 match x with
 | .val v=>some (gQ v)
 | .lit _=>some .bool
 | .ptr _ _=>some .ptr
 | .sl _ _ _ _=>some .slice
 | _=>none
def KV (s:Sh) (v:Value) (K:Prop):Prop:=
 match s,v with
 | .int k,.int k' _=>kW k k' K
 | .bool,.bool _=>K
 | .slice,.slice _ _ _=>K
 | .ptr,.pointer _=>K
 | .float k,.float k' _=>im k k' K
 | .str,.string _=>K
 | .func,.func _ _ _=>K
 | .ifc,.nilIface=>K
 | .ifc,.iface _ _=>K
 | .map,.map _=>K
 | _,_=>False
theorem AO {s:Sh} {v:Value} {K:Prop} (h:KV s v K):(∀L:Value->Prop,s.all L->L v)/\K:=by
 cases s<;>cases v<;>simp only[KV]at h<;>first
  | exact h.elim
  | (have h0:=nN h;obtain⟨rfl,h1⟩:=h0;exact⟨fun L hL=>hL _,h1⟩)
  | (have h0:=je h;obtain⟨rfl,h1⟩:=h0;exact⟨fun L hL=>hL _,h1⟩)
  | exact⟨fun L hL=>hL _,h⟩
  | exact⟨fun L hL=>hL _ _ _,h⟩
  | exact⟨fun L hL=>hL.1,h⟩
  | exact⟨fun L hL=>hL.2 _ _,h⟩
def IC (ps:List Nat) (x:AVal):Bool:=
 match x with
 | .loc s _=>mem ps s
 | .row s _=>mem ps s
 | _=>true
def gX (st:St) (ps:List Nat):List Nat->Option (List (Nat × AVal))
 | []=>some []
 | t::r=>match look st.fr t with
  | some x=>(match IC ps x with
   | true=>(match gX st ps r with
    | some q=>some ((t,x)::q)
    | none=>none)
   | false=>none)
  | none=>none
def iw (lc:List Priv):List Nat->Option (List Priv)
 | []=>some []
 | s::r=>match ar lc s with
  | some p=>(match iw lc r with
   | some q=>some (⟨s,p.blk,p.elem,p.cells⟩::q)
   | none=>none)
  | none=>none
def wx (st:St):List Nat->Option (List (Sh × Value))
 | []=>some []
 | t::r=>match look st.fr t with
  | some x=>(match x.out with
   | some v=>(match shA x with
    | some s=>(match wx st r with
     | some q=>some ((s,v)::q)
     | none=>none)
    | none=>none)
   | none=>none)
  | none=>none
def jO (lc:List Priv):List Nat->Option (List (List (Sh × Value)))
 | []=>some []
 | s::r=>match ar lc s with
  | some p=>(match jO lc r with
   | some q=>some ((p.cells.map fun v=>(gQ v,v))::q)
   | none=>none)
  | none=>none
def qt :List (Sh × Value)->(List Value->Prop)->Prop
 | [],K=>K []
 | (s,_)::r,K=>s.all fun v=>qt r fun vs=>K (v::vs)
def qZ :List (List (Sh × Value))->(List (List Value)->Prop)->Prop
 | [],K=>K []
 | l::r,K=>qt l fun v=>qZ r fun vs=>K (v::vs)
def wy :List (Sh × Value)->List (Sh × Value)->(List Value->Prop)->Prop
 | [],[],K=>K []
 | (s,_)::r,(_,v)::q,K=>KV s v (wy r q fun vs=>K (v::vs))
 | _,_,_=>False
def wz :List (List (Sh × Value))->List (List (Sh × Value))->(List (List Value)->Prop)->Prop
 | [],[],K=>K []
 | l::r,m::q,K=>wy l m fun v=>wz r q fun vs=>K (v::vs)
 | _,_,_=>False
def kQ (l:List (Sh × Value)):List Value:=l.map (·.2)
def fV (l:List (List (Sh × Value))):List (List Value):=l.map kQ
theorem gY :∀{l q:List (Sh × Value)} {K:List Value->Prop},wy l q K->K (kQ q)/\∀L:List Value->Prop,qt l L->L (kQ q)
 | [],[],_,h=>⟨h,fun _ hL=>hL⟩
 | (s,_)::r,(_,v)::q,K,h=>by
  obtain⟨h1,h2⟩:=AO h
  obtain⟨h3,h4⟩:=gY h2
  exact⟨h3,fun L hL=>h4 _ (h1 _ hL)⟩
 | [],_::_,_,h=>h.elim
 | _::_,[],_,h=>h.elim
theorem kS :∀{l q:List (List (Sh × Value))} {K:List (List Value)->Prop},wz l q K->K (fV q)/\∀L:List (List Value)->Prop,qZ l L->L (fV q)
 | [],[],_,h=>⟨h,fun _ hL=>hL⟩
 | l::r,m::q,K,h=>by
  obtain⟨h1,h2⟩:=gY h
  obtain⟨h3,h4⟩:=kS h1
  exact⟨h3,fun L hL=>h4 _ (h2 _ hL)⟩
 | [],_::_,_,h=>h.elim
 | _::_,[],_,h=>h.elim
def rh :List Nat->List Value->List (Nat × AVal)->List (Nat × AVal)
 | t::r,v::vs,fr=>(t,.val v)::rh r vs fr
 | _,_,fr=>fr
def kT (lc:List Priv):List Nat->List (List Value)->List Priv->List Priv
 | s::r,v::vs,q=>match ar lc s with
  | some p=>⟨s,p.blk,p.elem,v⟩::kT lc r vs q
  | none=>q
 | _,_,q=>q
def AP :List Nat->List Nat->Bool
 | [],_=>true
 | t::r,l=>match mem l t with
  | true=>AP r l
  | false=>false
def EK :List Nat->List Nat->Bool
 | [],_=>true
 | t::r,l=>match mem l t with
  | true=>false
  | false=>EK r l
def LD.ok (d:LD) (ro:RO):Bool:=AP ro.t d.keepT&&AP ro.p d.keepP&&AP ro.a (d.keepP++d.varP)&&EK d.keepT d.varT&&EK d.keepP d.varP
def LD.ro (d:LD):RO:=⟨d.keepT,d.keepP,d.keepP++d.varP⟩
def mZ (d:LD) (st:St) (kf:List (Nat × AVal)) (kl:List Priv) (v:List Value) (vp:List (List Value)):St:=⟨rh d.varT v kf,kT st.lc d.varP vp kl⟩
def qu (d:LD) (sh:List (Sh × Value)) (shp:List (List (Sh × Value))) (st:St) (K:List Value->List (List Value)->Prop):Prop:=
 match wx st d.varT with
 | some v1=>(match jO st.lc d.varP with
  | some v2=>wy sh v1 fun v=>wz shp v2 fun vp=>K v vp
  | none=>False)
 | none=>False
def zv (ro:RO) (d:LD) (st:St) (K:List (Nat × AVal)->List Priv->List (Sh × Value)->List (List (Sh × Value))->Prop):Prop:=
 match d.ok ro with
 | false=>False
 | true=>match gX st (d.keepP++d.varP) d.keepT with
  | none=>False
  | some kf=>match iw st.lc d.keepP with
   | none=>False
   | some kl=>match wx st d.varT with
    | none=>False
    | some v1=>match jO st.lc d.varP with
     | none=>False
     | some v2=>wy v1 v1 fun _=>wz v2 v2 fun _=>K kf kl v1 v2
def Ow (ro:RO) (d:LD) (st:St) (h:ab) (body:RO->St->ab->(St->ab->Prop)->Prop):Prop:=
 zv ro d st fun kf kl v1 v2=>∃(I:List Value->ab->Prop) (μ:List Value->ab->Nat),I (kQ v1++(fV v2).flatten) h/\
  qt v1 fun v=>qZ v2 fun vp=>∀h',I (v++vp.flatten) h'->body d.ro (mZ d st kf kl v vp) h' fun st'' h''=>qu d v1 v2 st'' fun u up=>I (u++up.flatten) h''/\μ (u++up.flatten) h''<μ (v++vp.flatten) h'
def ID (ro:RO) (d:LD) (st:St) (ways:RO->(St->ab->Prop)->Prop) (k:St->ab->Prop):Prop:=
 zv ro d st fun kf kl v1 v2=>∃J:List Value->ab->Prop,ways d.ro (fun st'' h''=>qu d v1 v2 st'' fun u up=>J (u++up.flatten) h'')/\
  qt v1 fun v=>qZ v2 fun vp=>∀h',J (v++vp.flatten) h'->k (mZ d st kf kl v vp) h'
theorem qw {l m:List Nat} (h:AP l m=true) {t:Nat} (ht:mem l t=true):mem m t=true:=by
 induction l<;>grind [mem,AP,Nat.eq_of_beq_eq_true]
theorem nK {st:St} {ps:List Nat}:∀{l:List Nat} {q:List (Nat × AVal)},gX st ps l=some q->∀t x,look q t=some x->look st.fr t=some x/\mem l t=true/\IC ps x=true
 | [],q,h=>by grind [gX,look]
 | t::r,q,h=>by
  unfold gX at h
  split at h
  ·rename_i x h1
   split at h
   ·rename_i hl
    split at h
    ·rename_i q' h2
     simp only[Option.some.injEq]at h
     subst h
     intro u y hy
     simp only[look]at hy
     cases hb:Nat.beq t u with
     | true=>
      have:=P4 hb
      subst this
      simp only[hb,Option.some.injEq]at hy
      subst hy
      exact⟨h1,by simp[mem],hl⟩
     | false=>
      simp only[hb]at hy
      obtain⟨k1,k2,k3⟩:=nK h2 u y hy
      exact⟨k1,by simp[mem,hb,k2],k3⟩
    ·cases h
   ·cases h
  ·cases h
theorem jP {lc:List Priv}:∀{l:List Nat} {q:List Priv},iw lc l=some q->(∀s p,ar q s=some p->∃p',ar lc s=some p'/\p.blk=p'.blk/\p.elem=p'.elem/\p.cells=p'.cells/\mem l s=true)/\
  ∀s,mem l s=true->∃p p',ar q s=some p/\ar lc s=some p'/\p.blk=p'.blk/\p.elem=p'.elem/\p.cells=p'.cells
 | [],q,h=>by grind [iw,ar,mem]
 | s::r,q,h=>by
  unfold iw at h
  cases h1:ar lc s with
  | none=>simp[h1]at h
  | some p=>
   cases h2:iw lc r with
   | none=>simp[h1,h2]at h
   | some q'=>
    simp only[h1,h2,Option.some.injEq]at h
    subst h
    obtain⟨e1,e2⟩:=jP h2
    constructor
    ·intro u y hy
     simp only[ar]at hy
     cases hb:Nat.beq s u with
     | true=>
      have:=P4 hb
      subst this
      simp only[hb,Option.some.injEq]at hy
      subst hy
      exact⟨p,h1,rfl,rfl,rfl,by simp[mem]⟩
     | false=>
      simp only[hb]at hy
      obtain⟨p',k1,k2,k3,k4,k5⟩:=e1 u y hy
      exact⟨p',k1,k2,k3,k4,by simp[mem,hb,k5]⟩
    ·intro u hu
     simp only[mem]at hu
     simp only[ar]
     cases hb:Nat.beq s u with
     | true=>have:=P4 hb;subst this;exact⟨_,p,rfl,h1,rfl,rfl,rfl⟩
     | false=>simp only[hb]at hu;exact e2 u hu
theorem mg {l m:List Nat} (h:EK l m=true) {t:Nat} (ht:mem l t=true):mem m t=false:=by
 induction l<;>grind [mem,EK,Nat.eq_of_beq_eq_true]
theorem gZ (l m:List Nat) (t:Nat):mem (l++m) t=(mem l t||mem m t):=by
 induction l<;>grind [mem]
theorem sJ {st:St}:∀{l:List Nat} {q:List (Sh × Value)},wx st l=some q->∀{kf:List (Nat × AVal)} {t:Nat} {x:AVal},look (rh l (kQ q) kf) t=some x->
  (mem l t=true/\∃y v,look st.fr t=some y/\y.out=some v/\x= .val v)\/(mem l t=false/\look kf t=some x)
 | [],q,h,kf,t,x,hx=>by simp[wx]at h;subst h;exact .inr ⟨rfl,by simpa[rh,kQ]using hx⟩
 | s::r,q,h,kf,t,x,hx=>by
  unfold wx at h
  split at h
  ·rename_i y hy
   split at h
   ·rename_i v hv
    split at h
    ·rename_i sh hsh
     split at h
     ·rename_i q' hq'
      simp only[Option.some.injEq]at h
      subst h
      simp only[kQ,Se,rh,look]at hx
      simp only[mem]
      cases hb:Nat.beq s t with
      | true=>
       simp_all
      | false=>simp only[hb]at hx;exact sJ hq' hx
     ·cases h
    ·cases h
   ·cases h
  ·cases h
theorem qx {kf:List (Nat × AVal)} {t:Nat}:∀{l:List Nat} {q:List Value},mem l t=false->look (rh l q kf) t=look kf t
 | [],_,_=>by simp[rh]
 | s::r,[],_=>by simp[rh]
 | s::r,v::q,h=>by
  simp only[mem]at h
  simp only[rh,look]
  cases hb:Nat.beq s t with
  | true=>simp[hb]at h
  | false=>simp only[hb]at h;exact qx h
theorem kU {lc kl:List Priv} {s:Nat}:∀{l:List Nat} {q:List (List Value)},mem l s=false->(∀t,mem l t=true->∃p,ar lc t=some p)->ar (kT lc l q kl) s=ar kl s
 | [],_,_,_=>by simp[kT]
 | t::r,[],_,_=>by simp[kT]
 | t::r,v::q,h,hall=>by
  simp only[mem]at h
  simp only[kT]
  obtain⟨p,hp⟩:=hall t (by simp[mem])
  simp only[hp]
  cases hb:Nat.beq t s with
  | true=>simp[hb]at h
  | false=>
   simp only[hb]at h
   simp only[ar,hb]
   exact kU h (fun u hu=>hall u (by simp only[mem];cases Nat.beq t u<;>simp_all))
theorem qy {lc:List Priv}:∀{l:List Nat} {q:List (List (Sh × Value))},jO lc l=some q->∀t,mem l t=true->∃p,ar lc t=some p
 | [],_,_,t,ht=>by simp[mem]at ht
 | s::r,q,h,t,ht=>by
  unfold jO at h
  split at h
  ·rename_i p hp
   split at h
   ·rename_i q' hq'
    simp only[mem]at ht
    cases hb:Nat.beq s t with
    | true=>have:=P4 hb;subst this;exact⟨p,hp⟩
    | false=>simp only[hb]at ht;exact qy hq' t ht
   ·cases h
  ·cases h
theorem sK {lc lc' kl:List Priv}:∀{l:List Nat} {q:List (List (Sh × Value))},jO lc' l=some q->(∀t,mem l t=true->(ar lc' t).map Priv.place=(ar lc t).map Priv.place)->
  ∀{s:Nat} {p:Priv},ar (kT lc l (fV q) kl) s=some p->
  (mem l s=true/\∃p',ar lc' s=some p'/\p.blk=p'.blk/\p.elem=p'.elem/\p.cells=p'.cells)\/(mem l s=false/\ar kl s=some p)
 | [],q,h,_,s,p,hx=>by simp[jO]at h;subst h;exact .inr ⟨rfl,by simpa[kT,fV]using hx⟩
 | t::r,q,h,hpl,s,p,hx=>by
  unfold jO at h
  split at h
  ·rename_i p1 hp1
   split at h
   ·rename_i q' hq'
    simp only[Option.some.injEq]at h
    subst h
    have hpt:=hpl t (by simp[mem])
    rw[hp1]at hpt
    cases hp2:ar lc t with
    | none=>grind
    | some p2=>
     simp only[hp2,QL,Option.some.injEq,Priv.place,Prod.mk.injEq]at hpt
     simp only[fV,Se,kT,hp2,ar]at hx
     simp only[mem]
     cases hb:Nat.beq t s with
     | true=>
      have:=P4 hb
      subst this
      simp only[hb,Option.some.injEq]at hx
      subst hx
      exact .inl ⟨rfl,p1,hp1,hpt.1.symm,hpt.2.symm,by simp[kQ,Function.comp_def]⟩
     | false=>
      simp only[hb]at hx
      exact sK hq' (fun u hu=>hpl u (by grind [mem])) hx
   ·cases h
  ·cases h
theorem wA {lc lc' kl:List Priv}:∀{l:List Nat} {q:List (List (Sh × Value))},jO lc' l=some q->(∀t,mem l t=true->(ar lc' t).map Priv.place=(ar lc t).map Priv.place)->
  ∀{s:Nat},mem l s=true->∃p p',ar (kT lc l (fV q) kl) s=some p/\ar lc' s=some p'/\p.blk=p'.blk
 | [],q,h,_,s,hs=>by simp[mem]at hs
 | t::r,q,h,hpl,s,hs=>by
  unfold jO at h
  split at h
  ·rename_i p1 hp1
   split at h
   ·rename_i q' hq'
    simp only[Option.some.injEq]at h
    subst h
    have hpt:=hpl t (by simp[mem])
    rw[hp1]at hpt
    cases hp2:ar lc t with
    | none=>grind
    | some p2=>
     simp only[hp2,QL,Option.some.injEq,Priv.place,Prod.mk.injEq]at hpt
     simp only[fV,Se,kT,hp2,ar]
     cases hb:Nat.beq t s with
     | true=>
      simp_all
     | false=>
      simp only[mem,hb]at hs
      exact wA hq' (fun u hu=>hpl u (by grind [mem])) hs
   ·cases h
  ·cases h
theorem EL {ro:RO} {d:LD} {st st':St} {kf:List (Nat × AVal)} {kl:List Priv} (hok:d.ok ro=true) (hkf:gX st (d.keepP++d.varP) d.keepT=some kf) (hkl:iw st.lc d.keepP=some kl)
  {q0:List (List (Sh × Value))} (h0:jO st.lc d.varP=some q0)
  (hK:∀t,mem d.keepT t=true->look st'.fr t=look st.fr t) (hP:∀s,mem d.keepP s=true->ar st'.lc s=ar st.lc s)
  (hA:∀s,mem (d.keepP++d.varP) s=true->(ar st'.lc s).map Priv.place=(ar st.lc s).map Priv.place)
  {v1:List (Sh × Value)} {v2:List (List (Sh × Value))} (h1:wx st' d.varT=some v1) (h2:jO st'.lc d.varP=some v2) {a:Act} {w:World} (r:Rel st' a w):
  Rel (mZ d st kf kl (kQ v1) (fV v2)) a w:=by
 simp only[LD.ok,P6]at hok
 obtain⟨⟨⟨⟨_,_⟩,_⟩,hdT⟩,hdP⟩:=hok
 have k1:=nK hkf
 obtain⟨l1,l2⟩:=jP hkl
 have hA':∀t,mem d.varP t=true->(ar st'.lc t).map Priv.place=(ar st.lc t).map Priv.place:=fun t ht=>hA t (by rw[gZ,ht,Bool.or_true])
 have hpl:∀s p,ar (mZ d st kf kl (kQ v1) (fV v2)).lc s=some p->∃p',ar st'.lc s=some p'/\p.blk=p'.blk/\p.elem=p'.elem/\p.cells=p'.cells:=by
  intro s p hp
  rcases sK h2 hA' hp with⟨_,h⟩ | ⟨_,h⟩
  ·exact h
  grind
 refine⟨fun t x hx=>?_,fun s p hp=>?_,fun s t p q hp hq hst=>?_,r.df⟩
 ·rcases sJ h1 hx with⟨_,y,v,e1,e2,rfl⟩ | ⟨_,e⟩
  ·obtain⟨u,c1,c2⟩:=r.fr t y e1
   rw[AVal.conc_out e2]at c1
   exact⟨v,rfl,PE⟩
  ·obtain⟨e1,e2,e4⟩:=k1 t x e
   have e3:look st'.fr t=some x:=(hK t e2).trans e1
   obtain⟨u,c1,c2⟩:=r.fr t x e3
   refine⟨u,?_,c2⟩
   have has:∀s,mem (d.keepP++d.varP) s=true->∃p p',ar (mZ d st kf kl (kQ v1) (fV v2)).lc s=some p/\ar st'.lc s=some p'/\p.blk=p'.blk:=by
    intro s hs
    rw[gZ,R2]at hs
    cases hv:mem d.varP s with
    | true=>exact wA h2 hA' hv
    | false=>
     rw[hv]at hs
     have hs':mem d.keepP s=true:=by simpa using hs
     obtain⟨p,p',g1,g2,g3,_⟩:=l2 s hs'
     exact⟨p,p',(kU hv (fun u hu=>qy h0 u hu)).trans g1,(hP s hs').trans g2,g3⟩
   cases x with
   | loc s o=>
    obtain⟨p,p',g1,g2,g3⟩:=has s e4
    simpa[AVal.conc,g1,g2,g3]using c1
   | row s o=>
    obtain⟨p,p',g1,g2,g3⟩:=has s e4
    simpa[AVal.conc,g1,g2,g3]using c1
   | _=>exact c1
 ·obtain⟨p',e1,e2,e3,e4⟩:=hpl s p hp
  rw[e2,e3,e4]
  exact r.pr s p' e1
 ·obtain⟨p',e1,e2,_⟩:=hpl s p hp
  obtain⟨q',f1,f2,_⟩:=hpl t q hq
  rw[e2,f2]
  exact r.ap s t p' q' e1 f1 hst
theorem qz {st:St} {ps:List Nat}:∀{l:List Nat} {q:List (Nat × AVal)},gX st ps l=some q->∀t,mem l t=true->look q t=look st.fr t
 | [],q,h=>fun t ht=>by simp[mem]at ht
 | t::r,q,h=>by
  unfold gX at h
  split at h
  ·rename_i x h1
   split at h
   ·split at h
    ·rename_i q' h2
     simp only[Option.some.injEq]at h
     subst h
     intro u hu
     simp only[mem]at hu
     simp only[look]
     cases hb:Nat.beq t u with
     | true=>have:=P4 hb;subst this;simp[h1]
     | false=>simp only[hb]at hu;exact qz h2 u hu
    ·cases h
   ·cases h
  ·cases h
end Go.X
