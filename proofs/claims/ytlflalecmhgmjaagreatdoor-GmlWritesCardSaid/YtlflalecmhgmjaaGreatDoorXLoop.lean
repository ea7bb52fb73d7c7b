/- Maps whose keys are whole numbers or strings: looked up, written, an entry's value changed. Conditions: the table of types is the program's. -/
import Derived.Test.YtlflalecmhgmjaaGreatDoorXAct4
import Derived.MapKept
import Derived.Carry
import Derived.OrdersIn
set_option linter.unusedVariables false
set_option linter.unusedSimpArgs false
namespace Go.X
open Go.MapKept
def bV (h:ab) (r:Nat):Option (Array MapEntry × Nat):=
 match h[r]? with
 | some (.map es c)=>some (es,c)
 | _=>none
def bW (h:ab) (r:Nat) (es:Array MapEntry) (c:Nat):ab:=h.setIfInBounds r (.map es c)
theorem bu {h:ab} {r:Nat} {es:Array MapEntry} {c:Nat} (e:bV h r=some (es,c)):h[r]? =some (.map es c):=by
 grind [bV]
theorem jg {h:ab} {r:Nat} {es:Array MapEntry} {c:Nat} (e:h[r]? =some (.map es c)):bV h r=some (es,c):=by simp[bV,e]
theorem kx (h:ab) (r:Nat) (es:Array MapEntry) (c:Nat):Fr [r] h (bW h r es c):=
 ⟨by simp[bW],fun b _ hb=>by simp only[List.mem_singleton]at hb;simp[bW,Ne.symm hb]⟩
@[simp] theorem E7 (h : ab) (r : Nat) (es : Array MapEntry) (c : Nat) : (bW h r es c).size = h.size := by simp [bW]
def sw (ti:TI):Value->Bool
 | .string _=>Nat.beq ti.tag 5
 | .int k _=>match ti.kids with
  | .int k'=>decide (k=k')
  | _=>false
 | _=>false
theorem hO {P:Program} {t:Nat} {ti:TI} (ht:TyOK P t ti) {d:TypeDesc} (hd:P.underlying t=some d) {v:Value} (h:sw ti v=true):IsKey d v:=by
 obtain⟨d',i,z,q1,_,_,_,_,_,_,q2,q3⟩:=ht.ex
 rw[hd]at q1
 obtain rfl:=Option.some.inj q1
 cases v<;>simp only[sw,reduceCtorEq]at h
 ·rename_i k n
  split at h
  ·rename_i k' hk
   rw[hk]at q2
   have:=of_decide_eq_true h
   subst this
   cases d<;>simp only[bX,reduceCtorEq,Kids.int.injEq]at q2
   subst q2;rfl
  ·cases h
 ·have:=Nat.eq_of_beq_eq_true h
  rw[this]at q3
  cases d<;>simp only[sF,ij,Nat.reduceEqDiff,reduceCtorEq]at q3
  ·exact trivial
  grind
theorem mh {P:Program} {t:Nat} {ti:TI} (ht:TyOK P t ti):∃d,P.underlying t=some d:=let ⟨d,_,_,q,_⟩:=ht.ex;⟨d,q⟩
theorem qI {P:Program} {t k e:Nat} {ti:TI} (ht:TyOK P t ti) (hk:ti.kids= .map k e):P.underlying t=some (.map k e):=by
 obtain⟨d,i,z,q1,_,_,_,_,_,_,q2,_⟩:=ht.ex
 rw[hk]at q2
 cases d<;>simp only[bX,reduceCtorEq,Kids.map.injEq]at q2
 grind
def tS (ti:TI) (K:Sh->Value->Prop):Prop:=
 match ti.agg with
 | false=>(match ti.zero with
  | [z]=>(match ti.shs with
   | [sh]=>K sh z
   | _=>False)
  | _=>False)
 | true=>False
def zI (ti:TI) (K:((Value->Prop)->Prop)->Value->Prop):Prop:=
 match ti.agg with
 | true=>(match Nat.ble 2 ti.zero.length with
  | true=>K (fun k=>exL ti.shs fun us=>k (.agg us.toArray)) (.agg ti.zero.toArray)
  | false=>False)
 | false=>tS ti fun sh z=>K sh.ex z
def ii :TI:=⟨[.str],false,16,[.string ByteArray.empty],.none,5⟩
def tV :TI:=⟨[.int .i64],false,8,[.int .i64 0],.int .i64,6⟩
def cG (ti:TI) (es:Array MapEntry):Prop:=∀e∈es.toList,sw ti e.key=true
def zJ (T:TAB) (t:Nat) (K:TI->TI->Prop):Prop:=
 match tl T t with
 | some ti=>(match ti.kids with
  | .map kt et=>(match tl T kt with
   | some ki=>(match tl T et with
    | some ei=>K ki ei
    | none=>False)
   | none=>False)
  | _=>False)
 | none=>False
def B2 (b:Bool) (K:Prop):Prop:=
 match b with
 | true=>K
 | false=>False
def B3 (nw:Bool) (T:TAB) (st:St) (h:ab) (o:Oper) (t:TypeId) (x i y:Operand) (K:St->ab->Prop):Prop:=
 (match o.dst with
  | none=>zJ T t fun ki _=>(match evo st x with
   | some (.map q)=>∃r,q=some r/\(match evo st i with
    | some k=>(match evo st y with
     | some v=>B2 (sw ki k) (nin r (hid st.lc) (∃es c,bV h r=some (es,c)/\cG ki es/\(match nw with
      | true=>(∀e∈es.toList,e.key≠k)/\K st (bW h r (es.push ⟨k,v,c⟩) (c+1))
      | false=>(∀(j:Nat) (e:MapEntry),es[j]? =some e->e.key=k->K st (bW h r (es.modify j fun e=>{e with key:=k,val:=v}) c))/\
       ((∀e∈es.toList,e.key≠k)->K st (bW h r (es.push ⟨k,v,c⟩) (c+1))))))
     | none=>False)
    | none=>False)
   | _=>False)
  | some _=>False)
def EU (T:TAB) (st:St) (h:ab) (o:Oper) (K:St->ab->Prop):Prop:=
 match o.op with
 | .lookup t x i ok=>zJ T t fun ki ei=>(match evo st x with
  | some (.map q)=>∃r,q=some r/\(match evo st i with
   | some k=>B2 (sw ki k) (zI ei fun X z=>∃es c,bV h r=some (es,c)/\cG ki es/\
    (∀e∈es.toList,e.key=k->X fun u=>e.val=u/\K (st.put o.dst (.val (match ok with
     | true=>.tuple #[u,.bool true]
     | false=>u))) h)/\
    ((∀e∈es.toList,e.key≠k)->K (st.put o.dst (.val (match ok with
     | true=>.tuple #[z,.bool false]
     | false=>z))) h))
   | none=>False)
  | _=>False)
 | .mapUpdate t x i y=>B3 false T st h o t x i y K
 | .insert t x i y=>B3 true T st h o t x i y K
 | .mapEntry t x i=>zJ T t fun ki ei=>(match evo st x with
  | some (.map q)=>∃r,q=some r/\(match evo st i with
   | some k=>B2 (sw ki k) (tS ei fun sh z=>nin r (hid st.lc) (∃es c,bV h r=some (es,c)/\cG ki es/\
    (∀(j:Nat) (e:MapEntry),es[j]? =some e->e.key=k->sh.ex fun u=>e.val=u/\K (st.put o.dst (.val (.tuple #[u,.int .i64 (e.born:Int)]))) (bW h r (es.modify j fun e=>{e with key:=k}) c))/\
    ((∀e∈es.toList,e.key≠k)->K (st.put o.dst (.val (.tuple #[z,.int .i64 (c:Int)]))) (bW h r (es.push ⟨k,z,c⟩) (c+1)))))
   | none=>False)
  | _=>False)
 | .entryStore _ x i y=>(match o.dst with
  | none=>(match evo st x with
   | some (.map q)=>∃r,q=some r/\(match evo st i with
    | some (.int _ n)=>(match evo st y with
     | some v=>nin r (hid st.lc) (∃es c,bV h r=some (es,c)/\∃j,es.findIdx? (fun e=>(e.born:Int)==n)=some j/\K st (bW h r (es.modify j fun e=>{e with val:=v}) c))
     | none=>False)
    | _=>False)
   | _=>False)
  | some _=>False)
 | _=>False
theorem jI {P:Program} {T:TAB} (hT:bc P T) {t:Nat} {K:TI->TI->Prop} (h:zJ T t K):∃kt et ki ei,P.underlying t=some (.map kt et)/\TyOK P kt ki/\TyOK P et ei/\K ki ei:=by
 unfold zJ at h
 split at h
 ·rename_i ti h1
  split at h
  ·rename_i kt et h2
   split at h
   ·rename_i ki h3
    split at h
    ·rename_i ei h4
     exact⟨kt,et,ki,ei,qI (hT.tl h1) h2,hT.tl h3,hT.tl h4,h⟩
    ·exact h.elim
   ·exact h.elim
  ·exact h.elim
 ·exact h.elim
theorem jJ {b:Bool} {K:Prop} (h:B2 b K):b=true/\K:=by
 cases b
 ·exact h.elim
 ·exact⟨rfl,h⟩
theorem nT {P:Program} {t:Nat} {ti:TI} (ht:TyOK P t ti) {K:Sh->Value->Prop} (h:tS ti K) (w:World):∃sh z,(zeroValue t).run P w= .ok z w/\K sh z:=by
 obtain⟨d,i,z,q1,q2,_,_,q3,q4,q5,_,_⟩:=ht.ex
 unfold tS at h
 split at h
 ·rename_i ha
  split at h
  ·rename_i u hz
   split at h
   case h_2=>exact h.elim
   rename_i sh _
   have hrun:(zeroValue t).run P w= .ok z w:=by simp[zeroValue,typeInfo,q2,q3]
   refine⟨sh,z,hrun,?_⟩
   rw[hz]at q4
   cases z with
   | agg cs=>exact absurd rfl (ht.na i _ q2 q3 ha cs)
   | _=>simp only[Value.cells,List.cons.injEq,and_true]at q4;rw[q4];exact h
  ·exact h.elim
 ·exact h.elim
theorem vh {P:Program} {t:Nat} {ti:TI} (ht:TyOK P t ti) {K:((Value->Prop)->Prop)->Value->Prop} (h:zI ti K) (w:World):
  ∃X z,(zeroValue t).run P w= .ok z w/\(∀k:Value->Prop,X k->∃v,k v)/\K X z:=by
 unfold zI at h
 split at h
 ·split at h
  ·rename_i h2
   have h2:2<=ti.zero.length:=Nat.le_of_ble_eq_true h2
   obtain⟨z,h3,h4⟩:=fw ht w
   refine⟨fun k=>exL ti.shs fun us=>k (.agg us.toArray),z,h3,fun k hk=>?_,?_⟩
   ·grind [mu]
   ·have:z= .agg ti.zero.toArray:=by
     cases z with
     | agg cs=>simp only[Value.cells]at h4;rw[h4]
     | _=>
      simp only[Value.cells]at h4
      have:=congrArg Array.size h4
      simp only[List.size_toArray]at this
      rw[<-this]at h2
      simp at h2
    grind
  ·exact h.elim
 ·obtain⟨sh,z,h3,h4⟩:=nT ht h w
  grind [Sh.ex_elim]
section
variable {P:Program} {T:TAB} {ro:RO} {st:St} {a:Act} {w:World} {K:St->ab->Prop} {o:Oper} {Q:Exit->Act->World->Prop}
theorem mi {kt:Nat} {ki:TI} {d:TypeDesc} (hk:TyOK P kt ki) (hd:P.underlying kt=some d) {k:Value} {es:Array MapEntry} (h1:sw ki k=true) (h2:cG ki es):
  (Instr.findNow d k es.toList 0=some none/\∀x∈es.toList,x.key≠k)\/∃j e,Instr.findNow d k es.toList 0=some (some (j,e.val))/\es[j]? =some e/\e.key=k:=by
 rcases findNow_spec (hO hk hd h1) es.toList 0 (fun x hx=>hO hk hd (h2 x hx))with h | ⟨j,e,g1,g2,g3⟩
 ·exact .inl h
 grind
theorem jK {w':World} (hdst:o.dst=none) (hr:(execOp a.eval o).run P w= .ok .skip w') (h:Nx ro st K a.tmps.size w (a.put none undef) w'):ct P ro st o a w K Q:=by
 unfold ct Oper.wp
 rw[hr]
 rw[<-hdst]at h
 exact h
theorem jh (r:Rel st a w) {b:Nat} {es es':Array MapEntry} {c c':Nat} (hni:b∉hid st.lc):Rel st a {w with heap:=bW w.heap b es' c'}/\Rest w {w with heap:=bW w.heap b es' c'}:=by
 have hrest:Rest w {w with heap:=bW w.heap b es' c'}:=⟨rfl,rfl,rfl,by simp⟩
 exact⟨r.fr_later hrest (kx w.heap b es' c') (fun x hx=>by grind),hrest⟩
theorem mj {nw:Bool} {t:TypeId} {x i y:Operand} (hT:bc P T) (r:Rel st a w) (hd:bs ro a.tmps.size o.dst=true) (ho:o.op= .mapUpdate t x i y\/o.op= .insert t x i y) (d:B3 nw T st w.heap o t x i y K):ct P ro st o a w K Q:=by
 unfold B3 at d
 split at d
 ·rename_i hdst
  obtain⟨kt,et,ki,ei,hm,hki,hei,d⟩:=jI hT d
  split at d
  ·rename_i q h1
   obtain⟨b,rfl,d⟩:=d
   have e1:=bh r.fr h1
   split at d
   ·rename_i k h2
    have e2:=bh r.fr h2
    split at d
    ·rename_i v h3
     have e3:=bh r.fr h3
     obtain⟨hkb,d⟩:=jJ d
     obtain⟨hni,es,c,hh,hks,d⟩:=gv d
     have d12:(∀(j:Nat) (e:MapEntry),es[j]? =some e->e.key=k->K st (bW w.heap b (es.modify j fun e=>{e with key:=k,val:=v}) c))/\((∀e∈es.toList,e.key≠k)->K st (bW w.heap b (es.push ⟨k,v,c⟩) (c+1))):=by
      grind
     obtain⟨d1,d2⟩:=d12
     have hb:=bu hh
     obtain⟨dd,hdd⟩:=mh hki
     have hkk:=hO hki hdd hkb
     rcases mi hki hdd hkb hks with⟨g1,g2⟩ | ⟨j,e,g1,g2,g3⟩
     ·obtain⟨p1,p2⟩:=jh (es:=es) (c:=c) r hni (es':=es.push ⟨k,v,c⟩) (c':=c+1)
      refine jK (w':={w with heap:=bW w.heap b (es.push ⟨k,v,c⟩) (c+1)}) hdst ?_ ⟨st,p1,p2,rfl,Keep.refl _ _,d2 g2⟩
      rcases ho with ho | ho<;>simp[execOp,ho,e1,e2,e3,Instr.mapUpdate,run_underlying hm,MapKept.run_getObj_map hb,MapKept.run_checkKey hdd hkk,MapKept.run_findKey hdd g1,MapKept.run_setObj_map _ hb,bW]
     ·obtain⟨p1,p2⟩:=jh (es:=es) (c:=c) r hni (es':=es.modify j fun e=>{e with key:=k,val:=v}) (c':=c)
      refine jK (w':={w with heap:=bW w.heap b (es.modify j fun e=>{e with key:=k,val:=v}) c}) hdst ?_ ⟨st,p1,p2,rfl,Keep.refl _ _,d1 j e g2 g3⟩
      rcases ho with ho | ho<;>simp[execOp,ho,e1,e2,e3,Instr.mapUpdate,run_underlying hm,MapKept.run_getObj_map hb,MapKept.run_checkKey hdd hkk,MapKept.run_findKey hdd g1,g2,g3,MapKept.run_keyThatStays hkk,MapKept.run_setObj_map _ hb,bW]
    ·exact d.elim
   ·exact d.elim
  ·exact d.elim
 ·exact d.elim
theorem sD (hT:bc P T) (r:Rel st a w) (hd:bs ro a.tmps.size o.dst=true) (d:EU T st w.heap o K):ct P ro st o a w K Q:=by
 unfold EU at d
 split at d
 ·rename_i t x i ok ho
  obtain⟨kt,et,ki,ei,hm,hki,hei,d⟩:=jI hT d
  split at d
  ·rename_i q h1
   obtain⟨b,rfl,d⟩:=d
   have e1:=bh r.fr h1
   split at d
   ·rename_i k h2
    have e2:=bh r.fr h2
    obtain⟨hkb,d⟩:=jJ d
    obtain⟨X,z,hz,hX,es,c,hh,hks,d1,d2⟩:=vh hei d w
    have hb:=bu hh
    obtain⟨dd,hdd⟩:=mh hki
    rcases mi hki hdd hkb hks with⟨g1,g2⟩ | ⟨j,e,g1,g2,g3⟩
    ·refine aP (w':=w) ?_ (bx hd (Rest.refl w) r rfl (d2 g2))
     cases ok<;>simp[execOp,ho,e1,e2,Instr.lookup,run_underlying hm,MapKept.run_getObj_map hb,MapKept.run_checkKey hdd (hO hki hdd hkb),MapKept.run_findKey hdd g1,hz]
    ·obtain⟨u,hu,hk⟩:=hX _ (d1 e (by grind) g3)
     subst hu
     refine aP (w':=w) ?_ (bx hd (Rest.refl w) r rfl hk)
     cases ok<;>simp[execOp,ho,e1,e2,Instr.lookup,run_underlying hm,MapKept.run_getObj_map hb,MapKept.run_checkKey hdd (hO hki hdd hkb),MapKept.run_findKey hdd g1]
   ·exact d.elim
  ·exact d.elim
 ·grind [mj]
 ·rename_i t x i y ho
  exact mj hT r hd (.inr ho) d
 ·rename_i t x i ho
  obtain⟨kt,et,ki,ei,hm,hki,hei,d⟩:=jI hT d
  split at d
  ·rename_i q h1
   obtain⟨b,rfl,d⟩:=d
   have e1:=bh r.fr h1
   split at d
   ·rename_i k h2
    have e2:=bh r.fr h2
    obtain⟨hkb,d⟩:=jJ d
    obtain⟨sh,z,hz,d⟩:=nT hei d w
    obtain⟨hni,es,c,hh,hks,d1,d2⟩:=gv d
    have hb:=bu hh
    obtain⟨dd,hdd⟩:=mh hki
    have hkk:=hO hki hdd hkb
    rcases mi hki hdd hkb hks with⟨g1,g2⟩ | ⟨j,e,g1,g2,g3⟩
    ·obtain⟨p1,p2⟩:=jh (es:=es) (c:=c) r hni (es':=es.push ⟨k,z,c⟩) (c':=c+1)
     refine aP (w':={w with heap:=bW w.heap b (es.push ⟨k,z,c⟩) (c+1)}) ?_ (bx hd p2 p1 rfl (d2 g2))
     simp[execOp,ho,e1,e2,Instr.mapEntry,run_underlying hm,MapKept.run_getObj_map hb,MapKept.run_checkKey hdd hkk,MapKept.run_findKey hdd g1,hz,MapKept.run_setObj_map _ hb,bW,goInt]
    ·obtain⟨p1,p2⟩:=jh (es:=es) (c:=c) r hni (es':=es.modify j fun e=>{e with key:=k}) (c':=c)
     obtain⟨u,_,hu,hk⟩:=Sh.ex_elim (d1 j e g2 g3)
     subst hu
     refine aP (w':={w with heap:=bW w.heap b (es.modify j fun e=>{e with key:=k}) c}) ?_ (bx hd p2 p1 rfl hk)
     simp[execOp,ho,e1,e2,Instr.mapEntry,run_underlying hm,MapKept.run_getObj_map hb,MapKept.run_checkKey hdd hkk,MapKept.run_findKey hdd g1,g2,g3,MapKept.run_keyThatStays hkk,MapKept.run_setObj_map _ hb,bW,goInt]
   ·exact d.elim
  ·exact d.elim
 ·rename_i t x i y ho
  split at d
  ·rename_i hdst
   split at d
   ·rename_i q h1
    obtain⟨b,rfl,d⟩:=d
    have e1:=bh r.fr h1
    split at d
    ·rename_i kk n h2
     have e2:=bh r.fr h2
     split at d
     ·rename_i v h3
      have e3:=bh r.fr h3
      obtain⟨hni,es,c,hh,j,hj,d⟩:=gv d
      have hb:=bu hh
      obtain⟨p1,p2⟩:=jh (es:=es) (c:=c) r hni (es':=es.modify j fun e=>{e with val:=v}) (c':=c)
      refine jK (w':={w with heap:=bW w.heap b (es.modify j fun e=>{e with val:=v}) c}) hdst ?_ ⟨st,p1,p2,rfl,Keep.refl _ _,d⟩
      simp[execOp,ho,e1,e2,e3,Instr.entryStore,MapKept.run_getObj_map hb,asInt,asIntOf,hj,MapKept.run_setObj_map _ hb,bW]
     ·exact d.elim
    ·exact d.elim
   ·exact d.elim
  ·exact d.elim
 ·exact d.elim
end
def aw (P:Program) (f:FuncId) (args:Array Value) (h:ab) (R Rp:Value->ab->Prop):Prop:=
 ∀w:World,w.heap=h->Calls P f args w fun e w'=>Rest w w'/\((∃v,e= .returned v/\R v w'.heap)\/∃v,e= .panicked [{v:=v,recovered:=false}]/\Rp v w'.heap)
theorem aw.mono {P:Program} {f:FuncId} {args:Array Value} {h:ab} {R Rp R' Rp':Value->ab->Prop} (c:aw P f args h R Rp) (k1:∀v h',R v h'->R' v h') (k2:∀v h',Rp v h'->Rp' v h'):aw P f args h R' Rp':=
 fun w hw=>(c w hw).mono fun _ _ ⟨e2,e3⟩=>⟨e2,e3.imp (fun⟨v,a,b⟩=>⟨v,a,k1 _ _ b⟩) fun⟨v,a,b⟩=>⟨v,a,k2 _ _ b⟩⟩
def az (P:Program) (f:FuncId) (args:Array Value) (h:ab) (H:List Nat) (K E:Value->ab->Prop):Prop:=
 ∃(M:List Nat) (R Rp:Value->ab->Prop),aw P f args h (fun v h'=>Fr M h h'/\R v h') (fun v h'=>Fr M h h'/\Rp v h')/\(∀b∈H,b∉M)/\(∀v h',Fr M h h'->R v h'->K v h')/\∀v h',Fr M h h'->Rp v h'->E v h'
def fj (P:Program) (F FP:List Nat) (pn:Option (Value->ab->Prop)) (fn:Fn) (first captured:Array Value) (vs:List Value) (h:ab) (H:List Nat) (K:Value->ab->Prop):Prop:=
 match fn with
 | .func g=>(match mem FP g with
  | true=>(match pn with
   | some E=>az P g (first.toList++(vs++captured.toList)).toArray h H K E
   | none=>False)
  | false=>(match mem F g with
   | true=>ah P g (first.toList++(vs++captured.toList)).toArray h H K
   | false=>bo P g (first.toList++(vs++captured.toList)).toArray fun v=>K v h))
 | _=>False
def PQ (pn:Option (Value->ab->Prop)) (w0:World) (ch:List PanicEntry) (a:Act) (w:World):Prop:=
 ∃E v,pn=some E/\ch=[{v:=v,recovered:=false}]/\a.defers=[]/\Rest w0 w/\E v w.heap
theorem PQ.back {pn:Option (Value->ab->Prop)} {w0 w1:World} {ch:List PanicEntry} {a:Act} {w:World} (h:PQ pn w1 ch a w) (r:Rest w0 w1):PQ pn w0 ch a w:=
 let ⟨E,v,a1,a2,a3,a4,a5⟩:=h;⟨E,v,a1,a2,a3,r.trans a4,a5⟩
def EQ (T:TAB) (st:St) (h:ab) (o:Oper) (c:Call) (K:St->ab->Prop) (A:Prop):Prop:=
 match c.args.toList with
 | [x]=>(match c.argTypes.toList with
  | [t]=>(match tl T t with
   | some ti=>(match ti.kids with
    | .map _ _=>(match evo st x with
     | some (.map q)=>∃r,q=some r/\∃es c,bV h r=some (es,c)/\K (st.put o.dst (.val (.int .i64 (es.size:Int)))) h
     | _=>False)
    | _=>A)
   | none=>A)
  | _=>A)
 | _=>A
def lN (P:Program) (T:TAB) (F FP:List Nat) (pn:Option (Value->ab->Prop)) (privs:List Nat) (ro:RO) (st:St) (h:ab) (o:Oper) (K:St->ab->Prop):Prop:=
 match o.op with
 | .panic x=>(match pn with
  | some E=>(match evo st x with
   | some (.iface t v)=>E (.iface t v) h
   | _=>False)
  | none=>False)
 | .makeMap _ none=>K (st.put o.dst (.val (.map (some h.size)))) (h.push (.map #[] 0))
 | .call c=>(match c.callee with
  | .value f=>(match ev st f with
   | some (.val (.func fn first captured))=>(match mQ st c.args.toList with
    | some vs=>fj P F FP pn fn first captured vs h (hid st.lc) fun v h'=>qg T o.type fun v'=>v=v'/\K (st.put o.dst (.val v')) h'
    | none=>False)
   | _=>False)
  | .builtin .len=>EQ T st h o c K (act P T F privs ro st h o K)
  | _=>act P T F privs ro st h o K)
 | .convert s t x=>(match evo st x with
  | some (.int _ n)=>(match tl T s with
   | some _=>(match tl T t with
    | some ti=>(match Nat.beq ti.tag 5 with
     | true=>K (st.put o.dst (.val (.string (Utf8.encode n)))) h
     | false=>False)
    | none=>False)
   | none=>False)
  | _=>act P T F privs ro st h o K)
 | .lookup .. | .mapUpdate .. | .mapEntry .. | .entryStore .. | .insert .. =>EU T st h o K
 | _=>act P T F privs ro st h o K
section
variable {P:Program} {T:TAB} {F FP:List Nat} {pn:Option (Value->ab->Prop)} {privs:List Nat} {ro:RO} {st:St} {a:Act} {w:World} {K:St->ab->Prop} {o:Oper} {Q:Exit->Act->World->Prop}
theorem rS {x:Operand} (hP:∀ch a' w',PQ pn w ch a' w'->Q (.panic ch) a' w') (r:Rel st a w) (ho:o.op= .panic x) (d:lN P T F FP pn privs ro st w.heap o K):ct P ro st o a w K Q:=by
 unfold lN at d
 simp only[ho]at d
 split at d
 ·rename_i E
  split at d
  ·rename_i t v h1
   have e1:=bh r.fr h1
   unfold ct Oper.wp
   have hrun:(execOp a.eval o).run P w= .halt (.panic (.iface t v)) w:=by
    simp[execOp,ho,e1,Instr.panic]
   rw[hrun]
   exact hP _ _ _ ⟨E,_,rfl,rfl,r.df,Rest.refl w,d⟩
  ·exact d.elim
 ·exact d.elim
theorem oO {t:TypeId} (r:Rel st a w) (hd:bs ro a.tmps.size o.dst=true) (ho:o.op= .makeMap t none) (d:lN P T F FP pn privs ro st w.heap o K):ct P ro st o a w K Q:=by
 unfold lN at d
 simp only[ho]at d
 have hf:Fr [] w.heap (w.alloc (.map #[] 0)).heap:=Fr.push _ _
 refine aP (v:=.map (some w.heap.size)) (w':=w.alloc (.map #[] 0)) ?_ (bx (w:=w) (w':=w.alloc (.map #[] 0)) hd (Rest.alloc _ _) (r.fr_later (Rest.alloc _ _) hf fun _ _ h=>by cases h) (x:=.val (.map (some w.heap.size))) rfl d)
 simp only[execOp,ho,Option.map_none]
 rw[bp (show(Instr.makeMap t none).run P w= .ok (.map (some w.heap.size)) (w.alloc (.map #[] 0))from rfl)]
 rfl
theorem oP {s t:TypeId} {x:Operand} (hT:bc P T) (hF:bS P F) (r:Rel st a w) (hd:bs ro a.tmps.size o.dst=true) (ho:o.op= .convert s t x) (d:lN P T F FP pn privs ro st w.heap o K):ct P ro st o a w K Q:=by
 unfold lN at d
 simp only[ho]at d
 split at d
 ·rename_i k n h1
  have e1:=bh r.fr h1
  split at d
  ·rename_i si h0
   obtain⟨ds,_,_,hds,_⟩:=(hT.tl h0).ex
   split at d
   ·rename_i ti h2
    split at d
    ·rename_i h3
     have hu:=cp (hT.tl h2) h3
     refine aP (v:=.string (Utf8.encode n)) (w':=w) ?_ (bx hd (Rest.refl w) r rfl d)
     simp[execOp,ho,e1,convert,run_underlying hds,run_underlying hu,Conv.intToString]
    ·exact d.elim
   ·exact d.elim
  ·exact d.elim
 ·exact dJ hT hF r hd d
theorem zt {c:Call} (hT:bc P T) (hF:bS P F) (r:Rel st a w) (hd:bs ro a.tmps.size o.dst=true) (ho:o.op= .call c) (hc:c.callee= .builtin .len)
  (d:EQ T st w.heap o c K (act P T F privs ro st w.heap o K)):ct P ro st o a w K Q:=by
 have single:∀{α:Type} {l:Array α} {x:α},l.toList=[x]->l=#[x]:=fun h=>by grind
 unfold EQ at d
 split at d
 ·rename_i x hx
  split at d
  ·rename_i t htt
   split at d
   ·rename_i ti h1
    split at d
    ·rename_i kt et hk
     have hm:=qI (hT.tl h1) hk
     split at d
     ·rename_i q h2
      have e1:=bh r.fr h2
      obtain⟨b,rfl,es,cc,hh,d⟩:=d
      refine aP (v:=.int .i64 (es.size:Int)) (w':=w) ?_ (bx hd (Rest.refl w) r rfl d)
      simp[execOp,ho,resolve,hc,single hx,single htt,e1,invoke,builtin,Builtin.len_,run_underlying hm,MapKept.run_getObj_map (bu hh),goInt]
     ·exact d.elim
    ·exact dJ hT hF r hd d
   ·exact dJ hT hF r hd d
  ·exact dJ hT hF r hd d
 ·exact dJ hT hF r hd d
theorem uS {c:Call} (hT:bc P T) (hF:bS P F) (hFP:bS P FP) (hP:∀ch a' w',PQ pn w ch a' w'->Q (.panic ch) a' w') (r:Rel st a w) (hd:bs ro a.tmps.size o.dst=true) (ho:o.op= .call c)
  (d:lN P T F FP pn privs ro st w.heap o K):ct P ro st o a w K Q:=by
 unfold lN at d
 simp only[ho]at d
 split at d
 ·rename_i f hc
  split at d
  ·rename_i fn first captured h1
   have e1:=aU r.toL h1
   split at d
   ·rename_i vs h2
    have e2:=ja r.toL h2
    unfold fj at d
    split at d
    ·rename_i g
     have hres:(resolve a.eval c o.type).run P w= .ok {target:=.fn (.func g) captured,args:=first++vs.toArray} w:=by
      simp[resolve,hc,e1,Deferred.ofValue,e2]
     have hargs:(first++vs.toArray)++captured=(first.toList++(vs++captured.toList)).toArray:=by
      simp_all
     have hrunG:∀{L:List Nat},bS P L->mem L g=true->(execOp a.eval o).run P w= .ok (.enter g (first.toList++(vs++captured.toList)).toArray) w:=fun{L} hL hm=>by
      grind [bS.mem,execOp,bp,invoke]
     split at d
     ·rename_i hm
      split at d
      ·rename_i E
       obtain⟨M,R,Rp,hcall,hH,hk,hkp⟩:=d
       unfold ct Oper.wp
       rw[hrunG hFP hm]
       refine(hcall w rfl).mono ?_
       rintro e w' ⟨hrest,⟨v,rfl,hfr,hR⟩ | ⟨v,rfl,hfr,hR⟩⟩
       ·obtain⟨v',rfl,hK⟩:=ec (hk v w'.heap hfr hR)
        exact bx hd hrest (r.fr_later hrest hfr hH) (x:=.val v) rfl hK
       ·exact hP _ _ _ ⟨E,v,rfl,rfl,r.df,hrest,hkp v w'.heap hfr hR⟩
      ·exact d.elim
     ·split at d
      ·rename_i hm
       obtain⟨M,R,hcall,hH,hk⟩:=d
       unfold ct Oper.wp
       rw[hrunG hF hm]
       refine(hcall w rfl).mono ?_
       rintro e w' ⟨v,rfl,hrest,hfr,hR⟩
       obtain⟨v',rfl,hK⟩:=ec (hk v w'.heap hfr hR)
       exact bx hd hrest (r.fr_later hrest hfr hH) (x:=.val v) rfl hK
      ·obtain⟨R,hext,hk⟩:=d
       obtain⟨v,w',hcf,hheap,hrest,hR⟩:=hext w
       obtain⟨v',rfl,hK⟩:=ec (hk v hR)
       refine aP (v:=v) (w':=w') ?_ (bx hd hrest (r.later hrest fun _ _ _=>by rw[hheap]) (x:=.val v) rfl (by grind))
       grind [execOp,bp,invoke]
    ·exact d.elim
   ·exact d.elim
  ·exact d.elim
 ·grind [zt]
 ·exact qj hT hF r hd ho d
theorem rT (hT:bc P T) (hF:bS P F) (hFP:bS P FP) (hP:∀ch a' w',PQ pn w ch a' w'->Q (.panic ch) a' w') (r:Rel st a w) (hd:bs ro a.tmps.size o.dst=true) (d:lN P T F FP pn privs ro st w.heap o K):ct P ro st o a w K Q:=by
 grind [rS,uS,oO,dJ,lN,oP,sD]
end
structure Env where
 P:Program
 T:TAB
 F:List Nat
 privs:List Nat
 n:Nat
 FP:List Nat:=[]
 pn:Option (Value->ab->Prop):=none
def mC (T:TAB) (op:Op):Bool:=
 match op with
 | .box _ _ | .alloc _ | .buildSlice _ _ _ | .makeSlice _ _ _ | .store _ _ _ | .panic _ | .makeMap _ _ | .lookup .. | .mapUpdate .. | .mapEntry .. | .entryStore .. | .insert .. =>true
 | .binOp op t _ _ _=>(match op with
  | .add | .sub | .mul | .quo=>(match tl T t with
   | some ti=>(match ti.kids with
    | .float _=>true
    | _=>false)
   | none=>false)
  | _=>false)
 | .convert s t _=>(match tl T s with
  | some si=>(match si.kids with
   | .float _=>(match tl T t with
    | some ti=>(match ti.kids with
     | .int _=>true
     | _=>false)
    | none=>false)
   | .slice _=>(match tl T t with
    | some ti=>(match ti.kids with
     | .none=>Nat.beq ti.tag 5
     | .slice _=>true
     | _=>false)
    | none=>false)
   | .none=>(match tl T t with
    | some ti=>(match ti.kids with
     | .slice _=>true
     | _=>false)
    | none=>false)
   | .int _=>(match tl T t with
    | some ti=>(match ti.kids with
     | .none=>Nat.beq ti.tag 5
     | _=>false)
    | none=>false)
   | _=>false)
  | none=>false)
 | .call c=>(match c.callee with
  | .builtin .append=>true
  | .builtin .len=>(match c.argTypes.toList with
   | [t]=>(match tl T t with
    | some ti=>(match ti.kids with
     | .map _ _=>true
     | _=>false)
    | none=>false)
   | _=>false)
  | .value _=>true
  | _=>false)
 | _=>false
def cnd (c:Bool) (p q:Prop):Prop:=(c=true->p)/\(c=false->q)
def splitB (x:AVal) (K:AVal->Prop):Prop:=
 match x with
 | .val (.bool c)=>cnd c (K (.lit true)) (K (.lit false))
 | x=>K x
theorem qM {x:AVal} {K:AVal->Prop} (h:splitB x K) (lc:List Priv):∃y,y.conc lc=x.conc lc/\K y:=by
 unfold splitB at h
 split at h
 ·rename_i c
  cases c
  ·exact⟨.lit false,rfl,h.2 rfl⟩
  ·exact⟨.lit true,rfl,h.1 rfl⟩
 grind
def jo (ops:List Oper) (i:Nat):Bool:=
 match ops with
 | []=>false
 | o::r=>match o.guard with
  | some (j,_)=>(match Nat.beq j i with
   | true=>true
   | false=>jo r i)
  | none=>jo r i
def tW (ops:List Oper) (st:St) (o:Oper):Option Bool:=
 match o.guard with
 | none=>some true
 | some (j,want)=>match ops[j]? with
  | some oj=>(match oj.dst with
   | some d=>(match look st.fr d with
    | some (.lit b)=>some (match b with
     | true=>want
     | false=> !want)
    | some (.val (.tuple _))=>some false
    | _=>none)
   | none=>none)
  | none=>none
theorem jp {ops:List Oper} {st:St} {o:Oper} {a:Act} {b:Bool} (hf:sE st a) (h:tW ops st o=some b):Region.wanted o (yielded ops.toArray a.tmps)=b:=by
 unfold tW at h
 unfold Region.wanted
 split at h
 ·grind
 ·rename_i j want hg
  simp only[hg]
  split at h
  ·rename_i oj hj
   split at h
   ·rename_i d hd
    have hy:yielded ops.toArray a.tmps j=(match a.tmps[d]? with | some (.bool b)=>some b | _=>none):=by
     grind [yielded]
    rw[hy]
    split at h
    ·rename_i c hl
     obtain⟨v,hv,ht⟩:=hf _ _ hl
     grind [AVal.conc,Option.some.injEq]
    ·rename_i hl
     obtain⟨v,hv,ht⟩:=hf _ _ hl
     grind [AVal.conc]
    ·cases h
   ·cases h
  ·cases h
def mD (g:Bool) (dst:Option Nat) (st:St) (K:St->Prop):Prop:=
 match g with
 | false=>K st
 | true=>match dst with
  | some d=>(match look st.fr d with
   | some x=>splitB x fun x'=>K (st.put dst x')
   | none=>False)
  | none=>False
theorem gM {g:Bool} {ro:RO} {n:Nat} {dst:Option Nat} {st:St} {K:St->Prop} {a:Act} {w:World} (h:mD g dst st K) (r:Rel st a w) (hok:bs ro n dst=true):
  ∃st',Rel st' a w/\Keep ro st st'/\K st':=by
 cases g with
 | false=>exact⟨st,r,Keep.refl _ _,h⟩
 | true=>
  simp only[mD]at h
  split at h
  ·rename_i d
   split at h
   ·rename_i x hx
    obtain⟨y,hy,hk⟩:=qM h st.lc
    refine⟨st.put (some d) y,⟨fun t z hz=>?_,r.pr,r.ap,r.df⟩,Keep.put hok y,hk⟩
    simp only[St.put,look]at hz
    cases hb:Nat.beq d t with
    | true=>
     simp only[hb,Option.some.injEq]at hz
     have:=Nat.eq_of_beq_eq_true hb
     subst this
     subst hz
     obtain⟨v,h1,h2⟩:=r.fr _ _ hx
     exact⟨v,hy.trans h1,h2⟩
    | false=>simp only[hb]at hz;exact r.fr t z hz
   ·exact h.elim
  ·exact h.elim
def tX (E:Env) (ro:RO) (ops:List Oper) (i:Nat) (o:Oper) (st:St) (h:ab) (K:St->ab->Prop):Prop:=
 match bs ro E.n o.dst with
 | false=>False
 | true=>match tW ops st o with
  | some true=>(match mC E.T o.op with
   | true=>lN E.P E.T E.F E.FP E.pn E.privs ro st h o fun st' h'=>mD (jo ops i) o.dst st' fun st''=>K st'' h'
   | false=>det E.T st.lc none st h o.op fun x=>mD (jo ops i) o.dst (st.put o.dst x) fun st''=>K st'' h)
  | some false=>K (st.put o.dst (.val undef)) h
  | none=>False
structure Env.OK (E:Env):Prop where
 T:bc E.P E.T
 F:bS E.P E.F
 FP:bS E.P E.FP
 m:E.P.follows .mixedOrders=true
theorem jV {E:Env} (hE:E.OK) {ro:RO} {ops:List Oper} {i:Nat} {o:Oper} {st:St} {K:St->ab->Prop} {a:Act} {w:World} {Q:Exit->Act->World->Prop}
  (hP:∀ch a' w',PQ E.pn w ch a' w'->Q (.panic ch) a' w') (d:tX E ro ops i o st w.heap K) (r:Rel st a w) (hn:a.tmps.size=E.n):
  if Region.wanted o (yielded ops.toArray a.tmps)then o.wp E.P a w (Nx ro st K a.tmps.size w) Q else Nx ro st K a.tmps.size w (a.put o.dst undef) w:=by
 unfold tX at d
 split at d
 ·exact d.elim
 ·rename_i hok
  have hok':bs ro a.tmps.size o.dst=true:=by grind
  split at d
  ·rename_i hw
   rw[if_pos (jp r.fr hw)]
   split at d
   ·refine Oper.wp_mono (fun a' w'=>?_) (rT hE.T hE.F hE.FP hP r hok' d)
    rintro⟨st',r',h1,h2,h3,h4⟩
    obtain⟨st'',r'',k1,k2⟩:=gM h4 r' (h2▸hok')
    exact⟨st'',r'',h1,h2,h3.trans k1,k2⟩
   ·obtain⟨x,v,hc,hrun,hk⟩:=jF hE.T r.toL (Fr.refl _ _) d
    have hr':=r.put (dZ hok') hc
    obtain⟨st'',r'',k1,k2⟩:=gM hk hr' (show bs ro (a.put o.dst v).tmps.size o.dst=true by rw[cn];exact hok')
    unfold Oper.wp
    rw[hrun]
    exact⟨st'',r'',Rest.refl w,cn _ _ _,(Keep.put hok' x).trans k1,k2⟩
  ·rename_i hw
   rw[if_neg (by rw[jp r.fr hw];simp)]
   exact⟨_,r.put (dZ hok') rfl,Rest.refl w,cn _ _ _,Keep.put hok' _,d⟩
  ·exact d.elim
def XR (E:Env) (ro:RO) (ops:List Oper):List Oper->Nat->St->ab->(St->ab->Prop)->Prop
 | [],_,st,h,K=>K st h
 | o::r,i,st,h,K=>tX E ro ops i o st h fun st' h'=>XR E ro ops r (i+1) st' h' K
theorem mE {E:Env} (hE:E.OK) {ro:RO} {ops:List Oper} {K:St->ab->Prop} {Q:Exit->Act->World->Prop} {s0:St} {w0:World}
  (hQ:∀a w,Nx ro s0 K E.n w0 a w->Q .normal a w) (hP:∀ch a' w',PQ E.pn w0 ch a' w'->Q (.panic ch) a' w'):
  ∀(l:List Oper) (i:Nat) (st:St) (a:Act) (w:World),XR E ro ops l i st w.heap K->Rel st a w->a.tmps.size=E.n->Rest w0 w->Keep ro s0 st->wpList E.P ops.toArray Q l a w
 | [],_,st,a,w,d,r,hn,hr,hk=>hQ a w ⟨st,r,hr,hn,hk,d⟩
 | o::l,i,st,a,w,d,r,hn,hr,hk=>by
  have h:=jV hE (Q:=Q) (fun ch a' w' q=>hP ch a' w' (q.back hr)) d r hn
  have hnext:∀a' w',Nx ro st (fun st' h'=>XR E ro ops l (i+1) st' h' K) a.tmps.size w a' w'->wpList E.P ops.toArray Q l a' w':=by
   rintro a' w' ⟨st',r',h1,h2,h3,h4⟩
   exact mE hE hQ hP l (i+1) st' a' w' h4 r' (h2.trans hn) (hr.trans h1) (hk.trans h3)
  unfold wpList
  split
  ·rename_i hw
   rw[if_pos hw]at h
   exact .inl (Oper.wp_mono hnext h)
  grind
structure LD where
 keepT:List Nat
 varT:List Nat
 keepP:List Nat
 varP:List Nat
def shA (x:AVal):Option Sh:=
 match x with
 | .val v=>some (fu v)
 | .lit _=>some .bool
 | .ptr _ _=>some .ptr
 | .sl _ _ _ _=>some .slice
 | _=>none
def ET (s:Sh) (v:Value) (K:Prop):Prop:=
 match s,v with
 | .int k,.int k' _=>iE k k' K
 | .bool,.bool _=>K
 | .slice,.slice _ _ _=>K
 | .ptr,.pointer _=>K
 | .float k,.float k' _=>fl k k' K
 | .str,.string _=>K
 | .func,.func _ _ _=>K
 | .ifc,.nilIface=>K
 | .ifc,.iface _ _=>K
 | .map,.map _=>K
 | _,_=>False
theorem vf {s:Sh} {v:Value} {K:Prop} (h:ET s v K):(∀L:Value->Prop,s.all L->L v)/\K:=by
 cases s<;>cases v<;>simp only[ET]at h<;>first
  | exact h.elim
  | (have h0:=jT h;obtain⟨rfl,h1⟩:=h0;exact⟨fun L hL=>hL _,h1⟩)
  | (have h0:=fM h;obtain⟨rfl,h1⟩:=h0;exact⟨fun L hL=>hL _,h1⟩)
  | exact⟨fun L hL=>hL _,h⟩
  | exact⟨fun L hL=>hL _ _ _,h⟩
  | exact⟨fun L hL=>hL.1,h⟩
  | exact⟨fun L hL=>hL.2 _ _,h⟩
def CO (ps:List Nat) (x:AVal):Bool:=
 match x with
 | .loc s _=>mem ps s
 | .row s _=>mem ps s
 | _=>true
def eI (st:St) (ps:List Nat):List Nat->Option (List (Nat × AVal))
 | []=>some []
 | t::r=>match look st.fr t with
  | some x=>(match CO ps x with
   | true=>(match eI st ps r with
    | some q=>some ((t,x)::q)
    | none=>none)
   | false=>none)
  | none=>none
def fv (lc:List Priv):List Nat->Option (List Priv)
 | []=>some []
 | s::r=>match aq lc s with
  | some p=>(match fv lc r with
   | some q=>some (⟨s,p.blk,p.elem,p.cells⟩::q)
   | none=>none)
  | none=>none
def qE (st:St):List Nat->Option (List (Sh × Value))
 | []=>some []
 | t::r=>match look st.fr t with
  | some x=>(match x.out with
   | some v=>(match shA x with
    | some s=>(match qE st r with
     | some q=>some ((s,v)::q)
     | none=>none)
    | none=>none)
   | none=>none)
  | none=>none
def gI (lc:List Priv):List Nat->Option (List (List (Sh × Value)))
 | []=>some []
 | s::r=>match aq lc s with
  | some p=>(match gI lc r with
   | some q=>some ((p.cells.map fun v=>(fu v,v))::q)
   | none=>none)
  | none=>none
def ma :List (Sh × Value)->(List Value->Prop)->Prop
 | [],K=>K []
 | (s,_)::r,K=>s.all fun v=>ma r fun vs=>K (v::vs)
def mO :List (List (Sh × Value))->(List (List Value)->Prop)->Prop
 | [],K=>K []
 | l::r,K=>ma l fun v=>mO r fun vs=>K (v::vs)
def qF :List (Sh × Value)->List (Sh × Value)->(List Value->Prop)->Prop
 | [],[],K=>K []
 | (s,_)::r,(_,v)::q,K=>ET s v (qF r q fun vs=>K (v::vs))
 | _,_,_=>False
def qG :List (List (Sh × Value))->List (List (Sh × Value))->(List (List Value)->Prop)->Prop
 | [],[],K=>K []
 | l::r,m::q,K=>qF l m fun v=>qG r q fun vs=>K (v::vs)
 | _,_,_=>False
def iz (l:List (Sh × Value)):List Value:=l.map (·.2)
def di (l:List (List (Sh × Value))):List (List Value):=l.map iz
theorem eJ :∀{l q:List (Sh × Value)} {K:List Value->Prop},qF l q K->K (iz q)/\∀L:List Value->Prop,ma l L->L (iz q)
 | [],[],_,h=>⟨h,fun _ hL=>hL⟩
 | (s,_)::r,(_,v)::q,K,h=>by
  obtain⟨h1,h2⟩:=vf h
  obtain⟨h3,h4⟩:=eJ h2
  exact⟨h3,fun L hL=>h4 _ (h1 _ hL)⟩
 | [],_::_,_,h=>h.elim
 | _::_,[],_,h=>h.elim
theorem iA :∀{l q:List (List (Sh × Value))} {K:List (List Value)->Prop},qG l q K->K (di q)/\∀L:List (List Value)->Prop,mO l L->L (di q)
 | [],[],_,h=>⟨h,fun _ hL=>hL⟩
 | l::r,m::q,K,h=>by
  obtain⟨h1,h2⟩:=eJ h
  obtain⟨h3,h4⟩:=iA h1
  exact⟨h3,fun L hL=>h4 _ (h2 _ hL)⟩
 | [],_::_,_,h=>h.elim
 | _::_,[],_,h=>h.elim
def mP :List Nat->List Value->List (Nat × AVal)->List (Nat × AVal)
 | t::r,v::vs,fr=>(t,.val v)::mP r vs fr
 | _,_,fr=>fr
def iB (lc:List Priv):List Nat->List (List Value)->List Priv->List Priv
 | s::r,v::vs,q=>match aq lc s with
  | some p=>⟨s,p.blk,p.elem,v⟩::iB lc r vs q
  | none=>q
 | _,_,q=>q
def vg :List Nat->List Nat->Bool
 | [],_=>true
 | t::r,l=>match mem l t with
  | true=>vg r l
  | false=>false
def zG :List Nat->List Nat->Bool
 | [],_=>true
 | t::r,l=>match mem l t with
  | true=>false
  | false=>zG r l
def LD.ok (d:LD) (ro:RO):Bool:=vg ro.t d.keepT&&vg ro.p d.keepP&&vg ro.a (d.keepP++d.varP)&&zG d.keepT d.varT&&zG d.keepP d.varP
def LD.ro (d:LD):RO:=⟨d.keepT,d.keepP,d.keepP++d.varP⟩
def jH (d:LD) (st:St) (kf:List (Nat × AVal)) (kl:List Priv) (v:List Value) (vp:List (List Value)):St:=⟨mP d.varT v kf,iB st.lc d.varP vp kl⟩
def mb (d:LD) (sh:List (Sh × Value)) (shp:List (List (Sh × Value))) (st:St) (K:List Value->List (List Value)->Prop):Prop:=
 match qE st d.varT with
 | some v1=>(match gI st.lc d.varP with
  | some v2=>qF sh v1 fun v=>qG shp v2 fun vp=>K v vp
  | none=>False)
 | none=>False
def tQ (ro:RO) (d:LD) (st:St) (K:List (Nat × AVal)->List Priv->List (Sh × Value)->List (List (Sh × Value))->Prop):Prop:=
 match d.ok ro with
 | false=>False
 | true=>match eI st (d.keepP++d.varP) d.keepT with
  | none=>False
  | some kf=>match fv st.lc d.keepP with
   | none=>False
   | some kl=>match qE st d.varT with
    | none=>False
    | some v1=>match gI st.lc d.varP with
     | none=>False
     | some v2=>qF v1 v1 fun _=>qG v2 v2 fun _=>K kf kl v1 v2
def II (ro:RO) (d:LD) (st:St) (h:ab) (body:RO->St->ab->(St->ab->Prop)->Prop):Prop:=
 tQ ro d st fun kf kl v1 v2=>∃(I:List Value->ab->Prop) (μ:List Value->ab->Nat),I (iz v1++(di v2).flatten) h/\
  ma v1 fun v=>mO v2 fun vp=>∀h',I (v++vp.flatten) h'->body d.ro (jH d st kf kl v vp) h' fun st'' h''=>mb d v1 v2 st'' fun u up=>I (u++up.flatten) h''/\μ (u++up.flatten) h''<μ (v++vp.flatten) h'
def CP (ro:RO) (d:LD) (st:St) (ways:RO->(St->ab->Prop)->Prop) (k:St->ab->Prop):Prop:=
 tQ ro d st fun kf kl v1 v2=>∃J:List Value->ab->Prop,ways d.ro (fun st'' h''=>mb d v1 v2 st'' fun u up=>J (u++up.flatten) h'')/\
  ma v1 fun v=>mO v2 fun vp=>∀h',J (v++vp.flatten) h'->k (jH d st kf kl v vp) h'
theorem mc {l m:List Nat} (h:vg l m=true) {t:Nat} (ht:mem l t=true):mem m t=true:=by
 induction l<;>grind [mem,vg,Nat.eq_of_beq_eq_true]
theorem jS {st:St} {ps:List Nat}:∀{l:List Nat} {q:List (Nat × AVal)},eI st ps l=some q->∀t x,look q t=some x->look st.fr t=some x/\mem l t=true/\CO ps x=true
 | [],q,h=>by grind [eI,look]
 | t::r,q,h=>by
  unfold eI at h
  split at h
  ·rename_i x h1
   split at h
   ·rename_i hl
    split at h
    ·rename_i q' h2
     simp only[Option.some.injEq]at h
     subst h
     intro u y hy
     simp only[look]at hy
     cases hb:Nat.beq t u with
     | true=>
      have:=Nat.eq_of_beq_eq_true hb
      subst this
      simp only[hb,Option.some.injEq]at hy
      subst hy
      exact⟨h1,by simp[mem],hl⟩
     | false=>
      simp only[hb]at hy
      obtain⟨k1,k2,k3⟩:=jS h2 u y hy
      exact⟨k1,by simp[mem,hb,k2],k3⟩
    ·cases h
   ·cases h
  ·cases h
theorem gJ {lc:List Priv}:∀{l:List Nat} {q:List Priv},fv lc l=some q->(∀s p,aq q s=some p->∃p',aq lc s=some p'/\p.blk=p'.blk/\p.elem=p'.elem/\p.cells=p'.cells/\mem l s=true)/\
  ∀s,mem l s=true->∃p p',aq q s=some p/\aq lc s=some p'/\p.blk=p'.blk/\p.elem=p'.elem/\p.cells=p'.cells
 | [],q,h=>by grind [fv,aq,mem]
 | s::r,q,h=>by
  unfold fv at h
  cases h1:aq lc s with
  | none=>simp[h1]at h
  | some p=>
   cases h2:fv lc r with
   | none=>simp[h1,h2]at h
   | some q'=>
    simp only[h1,h2,Option.some.injEq]at h
    subst h
    obtain⟨e1,e2⟩:=gJ h2
    constructor
    ·intro u y hy
     simp only[aq]at hy
     cases hb:Nat.beq s u with
     | true=>
      have:=Nat.eq_of_beq_eq_true hb
      subst this
      simp only[hb,Option.some.injEq]at hy
      subst hy
      exact⟨p,h1,rfl,rfl,rfl,by simp[mem]⟩
     | false=>
      simp only[hb]at hy
      obtain⟨p',k1,k2,k3,k4,k5⟩:=e1 u y hy
      exact⟨p',k1,k2,k3,k4,by simp[mem,hb,k5]⟩
    ·intro u hu
     simp only[mem]at hu
     simp only[aq]
     cases hb:Nat.beq s u with
     | true=>have:=Nat.eq_of_beq_eq_true hb;subst this;exact⟨_,p,rfl,h1,rfl,rfl,rfl⟩
     | false=>simp only[hb]at hu;exact e2 u hu
theorem jf {l m:List Nat} (h:zG l m=true) {t:Nat} (ht:mem l t=true):mem m t=false:=by
 induction l<;>grind [mem,zG,Nat.eq_of_beq_eq_true]
theorem eM (l m:List Nat) (t:Nat):mem (l++m) t=(mem l t||mem m t):=by
 induction l<;>grind [mem]
theorem nQ {st:St}:∀{l:List Nat} {q:List (Sh × Value)},qE st l=some q->∀{kf:List (Nat × AVal)} {t:Nat} {x:AVal},look (mP l (iz q) kf) t=some x->
  (mem l t=true/\∃y v,look st.fr t=some y/\y.out=some v/\x= .val v)\/(mem l t=false/\look kf t=some x)
 | [],q,h,kf,t,x,hx=>by simp[qE]at h;subst h;exact .inr ⟨rfl,by simpa[mP,iz]using hx⟩
 | s::r,q,h,kf,t,x,hx=>by
  unfold qE at h
  split at h
  ·rename_i y hy
   split at h
   ·rename_i v hv
    split at h
    ·rename_i sh hsh
     split at h
     ·rename_i q' hq'
      simp only[Option.some.injEq]at h
      subst h
      simp only[iz,List.map_cons,mP,look]at hx
      simp only[mem]
      cases hb:Nat.beq s t with
      | true=>
       simp_all
      | false=>simp only[hb]at hx;exact nQ hq' hx
     ·cases h
    ·cases h
   ·cases h
  ·cases h
theorem me {kf:List (Nat × AVal)} {t:Nat}:∀{l:List Nat} {q:List Value},mem l t=false->look (mP l q kf) t=look kf t
 | [],_,_=>by simp[mP]
 | s::r,[],_=>by simp[mP]
 | s::r,v::q,h=>by
  simp only[mem]at h
  simp only[mP,look]
  cases hb:Nat.beq s t with
  | true=>simp[hb]at h
  | false=>simp only[hb]at h;exact me h
theorem iC {lc kl:List Priv} {s:Nat}:∀{l:List Nat} {q:List (List Value)},mem l s=false->(∀t,mem l t=true->∃p,aq lc t=some p)->aq (iB lc l q kl) s=aq kl s
 | [],_,_,_=>by simp[iB]
 | t::r,[],_,_=>by simp[iB]
 | t::r,v::q,h,hall=>by
  simp only[mem]at h
  simp only[iB]
  obtain⟨p,hp⟩:=hall t (by simp[mem])
  simp only[hp]
  cases hb:Nat.beq t s with
  | true=>simp[hb]at h
  | false=>
   simp only[hb]at h
   simp only[aq,hb]
   exact iC h (fun u hu=>hall u (by simp only[mem];cases Nat.beq t u<;>simp_all))
theorem mf {lc:List Priv}:∀{l:List Nat} {q:List (List (Sh × Value))},gI lc l=some q->∀t,mem l t=true->∃p,aq lc t=some p
 | [],_,_,t,ht=>by simp[mem]at ht
 | s::r,q,h,t,ht=>by
  unfold gI at h
  split at h
  ·rename_i p hp
   split at h
   ·rename_i q' hq'
    simp only[mem]at ht
    cases hb:Nat.beq s t with
    | true=>have:=Nat.eq_of_beq_eq_true hb;subst this;exact⟨p,hp⟩
    | false=>simp only[hb]at ht;exact mf hq' t ht
   ·cases h
  ·cases h
theorem nR {lc lc' kl:List Priv}:∀{l:List Nat} {q:List (List (Sh × Value))},gI lc' l=some q->(∀t,mem l t=true->(aq lc' t).map Priv.place=(aq lc t).map Priv.place)->
  ∀{s:Nat} {p:Priv},aq (iB lc l (di q) kl) s=some p->
  (mem l s=true/\∃p',aq lc' s=some p'/\p.blk=p'.blk/\p.elem=p'.elem/\p.cells=p'.cells)\/(mem l s=false/\aq kl s=some p)
 | [],q,h,_,s,p,hx=>by simp[gI]at h;subst h;exact .inr ⟨rfl,by simpa[iB,di]using hx⟩
 | t::r,q,h,hpl,s,p,hx=>by
  unfold gI at h
  split at h
  ·rename_i p1 hp1
   split at h
   ·rename_i q' hq'
    simp only[Option.some.injEq]at h
    subst h
    have hpt:=hpl t (by simp[mem])
    rw[hp1]at hpt
    cases hp2:aq lc t with
    | none=>grind
    | some p2=>
     simp only[hp2,Option.map_some,Option.some.injEq,Priv.place,Prod.mk.injEq]at hpt
     simp only[di,List.map_cons,iB,hp2,aq]at hx
     simp only[mem]
     cases hb:Nat.beq t s with
     | true=>
      have:=Nat.eq_of_beq_eq_true hb
      subst this
      simp only[hb,Option.some.injEq]at hx
      subst hx
      exact .inl ⟨rfl,p1,hp1,hpt.1.symm,hpt.2.symm,by simp[iz,Function.comp_def]⟩
     | false=>
      simp only[hb]at hx
      exact nR hq' (fun u hu=>hpl u (by grind [mem])) hx
   ·cases h
  ·cases h
theorem qH {lc lc' kl:List Priv}:∀{l:List Nat} {q:List (List (Sh × Value))},gI lc' l=some q->(∀t,mem l t=true->(aq lc' t).map Priv.place=(aq lc t).map Priv.place)->
  ∀{s:Nat},mem l s=true->∃p p',aq (iB lc l (di q) kl) s=some p/\aq lc' s=some p'/\p.blk=p'.blk
 | [],q,h,_,s,hs=>by simp[mem]at hs
 | t::r,q,h,hpl,s,hs=>by
  unfold gI at h
  split at h
  ·rename_i p1 hp1
   split at h
   ·rename_i q' hq'
    simp only[Option.some.injEq]at h
    subst h
    have hpt:=hpl t (by simp[mem])
    rw[hp1]at hpt
    cases hp2:aq lc t with
    | none=>grind
    | some p2=>
     simp only[hp2,Option.map_some,Option.some.injEq,Priv.place,Prod.mk.injEq]at hpt
     simp only[di,List.map_cons,iB,hp2,aq]
     cases hb:Nat.beq t s with
     | true=>
      simp_all
     | false=>
      simp only[mem,hb]at hs
      exact qH hq' (fun u hu=>hpl u (by grind [mem])) hs
   ·cases h
  ·cases h
theorem zH {ro:RO} {d:LD} {st st':St} {kf:List (Nat × AVal)} {kl:List Priv} (hok:d.ok ro=true) (hkf:eI st (d.keepP++d.varP) d.keepT=some kf) (hkl:fv st.lc d.keepP=some kl)
  {q0:List (List (Sh × Value))} (h0:gI st.lc d.varP=some q0)
  (hK:∀t,mem d.keepT t=true->look st'.fr t=look st.fr t) (hP:∀s,mem d.keepP s=true->aq st'.lc s=aq st.lc s)
  (hA:∀s,mem (d.keepP++d.varP) s=true->(aq st'.lc s).map Priv.place=(aq st.lc s).map Priv.place)
  {v1:List (Sh × Value)} {v2:List (List (Sh × Value))} (h1:qE st' d.varT=some v1) (h2:gI st'.lc d.varP=some v2) {a:Act} {w:World} (r:Rel st' a w):
  Rel (jH d st kf kl (iz v1) (di v2)) a w:=by
 simp only[LD.ok,Bool.and_eq_true]at hok
 obtain⟨⟨⟨⟨_,_⟩,_⟩,hdT⟩,hdP⟩:=hok
 have k1:=jS hkf
 obtain⟨l1,l2⟩:=gJ hkl
 have hA':∀t,mem d.varP t=true->(aq st'.lc t).map Priv.place=(aq st.lc t).map Priv.place:=fun t ht=>hA t (by rw[eM,ht,Bool.or_true])
 have hpl:∀s p,aq (jH d st kf kl (iz v1) (di v2)).lc s=some p->∃p',aq st'.lc s=some p'/\p.blk=p'.blk/\p.elem=p'.elem/\p.cells=p'.cells:=by
  intro s p hp
  rcases nR h2 hA' hp with⟨_,h⟩ | ⟨_,h⟩
  ·exact h
  grind
 refine⟨fun t x hx=>?_,fun s p hp=>?_,fun s t p q hp hq hst=>?_,r.df⟩
 ·rcases nQ h1 hx with⟨_,y,v,e1,e2,rfl⟩ | ⟨_,e⟩
  ·obtain⟨u,c1,c2⟩:=r.fr t y e1
   rw[AVal.conc_out e2]at c1
   exact⟨v,rfl,by grind⟩
  ·obtain⟨e1,e2,e4⟩:=k1 t x e
   have e3:look st'.fr t=some x:=(hK t e2).trans e1
   obtain⟨u,c1,c2⟩:=r.fr t x e3
   refine⟨u,?_,c2⟩
   have has:∀s,mem (d.keepP++d.varP) s=true->∃p p',aq (jH d st kf kl (iz v1) (di v2)).lc s=some p/\aq st'.lc s=some p'/\p.blk=p'.blk:=by
    intro s hs
    rw[eM,Bool.or_eq_true]at hs
    cases hv:mem d.varP s with
    | true=>exact qH h2 hA' hv
    | false=>
     rw[hv]at hs
     have hs':mem d.keepP s=true:=by simpa using hs
     obtain⟨p,p',g1,g2,g3,_⟩:=l2 s hs'
     exact⟨p,p',(iC hv (fun u hu=>mf h0 u hu)).trans g1,(hP s hs').trans g2,g3⟩
   cases x with
   | loc s o=>
    obtain⟨p,p',g1,g2,g3⟩:=has s e4
    simpa[AVal.conc,g1,g2,g3]using c1
   | row s o=>
    obtain⟨p,p',g1,g2,g3⟩:=has s e4
    simpa[AVal.conc,g1,g2,g3]using c1
   | _=>exact c1
 ·obtain⟨p',e1,e2,e3,e4⟩:=hpl s p hp
  rw[e2,e3,e4]
  exact r.pr s p' e1
 ·obtain⟨p',e1,e2,_⟩:=hpl s p hp
  obtain⟨q',f1,f2,_⟩:=hpl t q hq
  rw[e2,f2]
  exact r.ap s t p' q' e1 f1 hst
theorem mg {st:St} {ps:List Nat}:∀{l:List Nat} {q:List (Nat × AVal)},eI st ps l=some q->∀t,mem l t=true->look q t=look st.fr t
 | [],q,h=>fun t ht=>by simp[mem]at ht
 | t::r,q,h=>by
  unfold eI at h
  split at h
  ·rename_i x h1
   split at h
   ·split at h
    ·rename_i q' h2
     simp only[Option.some.injEq]at h
     subst h
     intro u hu
     simp only[mem]at hu
     simp only[look]
     cases hb:Nat.beq t u with
     | true=>have:=Nat.eq_of_beq_eq_true hb;subst this;simp[h1]
     | false=>simp only[hb]at hu;exact mg h2 u hu
    ·cases h
   ·cases h
  ·cases h
end Go.X
