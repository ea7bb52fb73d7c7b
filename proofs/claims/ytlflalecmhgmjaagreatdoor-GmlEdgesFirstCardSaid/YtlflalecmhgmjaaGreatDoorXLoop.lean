/- Maps whose keys are whole numbers or strings: looked up, written, an entry's value changed. Conditions: the table of types is the program's. -/
import Derived.Test.YtlflalecmhgmjaaGreatDoorXAct4
import Derived.MapKept
import Derived.Carry
import Derived.OrdersIn
set_option linter.unusedVariables false
set_option linter.unusedSimpArgs false
namespace Go.X
open Go.MapKept
def hmap (h:Heap) (r:Nat):Option (Array MapEntry × Nat):=
 match h[r]? with
 | some (.map es c)=>some (es,c)
 | _=>none
def hput (h:Heap) (r:Nat) (es:Array MapEntry) (c:Nat):Heap:=h.setIfInBounds r (.map es c)
theorem hmap_some {h:Heap} {r:Nat} {es:Array MapEntry} {c:Nat} (e:hmap h r=some (es,c)):h[r]? =some (.map es c):=by
 unfold hmap at e
 split at e
 ·rename_i es' c' hb;simp only[Option.some.injEq,Prod.mk.injEq]at e;rw[hb,e.1,e.2]
 ·cases e
theorem hmap_of {h:Heap} {r:Nat} {es:Array MapEntry} {c:Nat} (e:h[r]? =some (.map es c)):hmap h r=some (es,c):=by simp[hmap,e]
theorem hput_fr (h:Heap) (r:Nat) (es:Array MapEntry) (c:Nat):Fr [r] h (hput h r es c):=
 ⟨by simp[hput],fun b _ hb=>by simp only[List.mem_singleton]at hb;simp[hput,Ne.symm hb]⟩
@[simp] theorem size_hput (h : Heap) (r : Nat) (es : Array MapEntry) (c : Nat) : (hput h r es c).size = h.size := by simp [hput]
def keyB (ti:TI):Value->Bool
 | .string _=>Nat.beq ti.tag 5
 | .int k _=>match ti.kids with
  | .int k'=>decide (k=k')
  | _=>false
 | _=>false
theorem keyB_ok {P:Program} {t:Nat} {ti:TI} (ht:TyOK P t ti) {d:TypeDesc} (hd:P.underlying t=some d) {v:Value} (h:keyB ti v=true):IsKey d v:=by
 obtain⟨d',i,z,q1,_,_,_,_,_,_,q2,q3⟩:=ht.ex
 rw[hd]at q1
 obtain rfl:=Option.some.inj q1
 cases v<;>simp only[keyB,reduceCtorEq]at h
 ·rename_i k n
  split at h
  ·rename_i k' hk
   rw[hk]at q2
   have:=of_decide_eq_true h
   subst this
   cases d<;>simp only[kidsOf,reduceCtorEq,Kids.int.injEq]at q2
   subst q2;rfl
  ·cases h
 ·have:=Nat.eq_of_beq_eq_true h
  rw[this]at q3
  cases d<;>simp only[tag2,tagOf,Nat.reduceEqDiff,reduceCtorEq]at q3
  ·exact trivial
  ·split at q3
   ·split at q3<;>simp at q3
   ·simp at q3
theorem key_some {P:Program} {t:Nat} {ti:TI} (ht:TyOK P t ti):∃d,P.underlying t=some d:=let ⟨d,_,_,q,_⟩:=ht.ex;⟨d,q⟩
theorem kids_map {P:Program} {t k e:Nat} {ti:TI} (ht:TyOK P t ti) (hk:ti.kids= .map k e):P.underlying t=some (.map k e):=by
 obtain⟨d,i,z,q1,_,_,_,_,_,_,q2,_⟩:=ht.ex
 rw[hk]at q2
 cases d<;>simp only[kidsOf,reduceCtorEq,Kids.map.injEq]at q2
 rw[q1,q2.1,q2.2]
def zero1 (ti:TI) (K:Sh->Value->Prop):Prop:=
 match ti.agg with
 | false=>(match ti.zero with
  | [z]=>(match ti.shs with
   | [sh]=>K sh z
   | _=>False)
  | _=>False)
 | true=>False
def tiStr :TI:=⟨[.str],false,16,[.string ByteArray.empty],.none,5⟩
def tiInt :TI:=⟨[.int .i64],false,8,[.int .i64 0],.int .i64,6⟩
def keysB (ti:TI) (es:Array MapEntry):Prop:=∀e∈es.toList,keyB ti e.key=true
def tMap (T:TAB) (t:Nat) (K:TI->TI->Prop):Prop:=
 match tl T t with
 | some ti=>(match ti.kids with
  | .map kt et=>(match tl T kt with
   | some ki=>(match tl T et with
    | some ei=>K ki ei
    | none=>False)
   | none=>False)
  | _=>False)
 | none=>False
def keyT (b:Bool) (K:Prop):Prop:=
 match b with
 | true=>K
 | false=>False
def actM (T:TAB) (st:St) (h:Heap) (o:Oper) (K:St->Heap->Prop):Prop:=
 match o.op with
 | .lookup t x i ok=>tMap T t fun ki ei=>(match evo st x with
  | some (.map q)=>∃r,q=some r/\(match evo st i with
   | some k=>keyT (keyB ki k) (zero1 ei fun sh z=>∃es c,hmap h r=some (es,c)/\keysB ki es/\
    (∀e∈es.toList,e.key=k->sh.ex fun u=>e.val=u/\K (st.put o.dst (.val (match ok with
     | true=>.tuple #[u,.bool true]
     | false=>u))) h)/\
    ((∀e∈es.toList,e.key≠k)->K (st.put o.dst (.val (match ok with
     | true=>.tuple #[z,.bool false]
     | false=>z))) h))
   | none=>False)
  | _=>False)
 | .mapUpdate t x i y=>(match o.dst with
  | none=>tMap T t fun ki _=>(match evo st x with
   | some (.map q)=>∃r,q=some r/\(match evo st i with
    | some k=>(match evo st y with
     | some v=>keyT (keyB ki k) (nin r (hid st.lc) (∃es c,hmap h r=some (es,c)/\keysB ki es/\
      (∀(j:Nat) (e:MapEntry),es[j]? =some e->e.key=k->K st (hput h r (es.modify j fun e=>{e with key:=k,val:=v}) c))/\
      ((∀e∈es.toList,e.key≠k)->K st (hput h r (es.push ⟨k,v,c⟩) (c+1)))))
     | none=>False)
    | none=>False)
   | _=>False)
  | some _=>False)
 | .mapEntry t x i=>tMap T t fun ki ei=>(match evo st x with
  | some (.map q)=>∃r,q=some r/\(match evo st i with
   | some k=>keyT (keyB ki k) (zero1 ei fun sh z=>nin r (hid st.lc) (∃es c,hmap h r=some (es,c)/\keysB ki es/\
    (∀(j:Nat) (e:MapEntry),es[j]? =some e->e.key=k->sh.ex fun u=>e.val=u/\K (st.put o.dst (.val (.tuple #[u,.int .i64 (e.born:Int)]))) (hput h r (es.modify j fun e=>{e with key:=k}) c))/\
    ((∀e∈es.toList,e.key≠k)->K (st.put o.dst (.val (.tuple #[z,.int .i64 (c:Int)]))) (hput h r (es.push ⟨k,z,c⟩) (c+1)))))
   | none=>False)
  | _=>False)
 | .entryStore _ x i y=>(match o.dst with
  | none=>(match evo st x with
   | some (.map q)=>∃r,q=some r/\(match evo st i with
    | some (.int _ n)=>(match evo st y with
     | some v=>nin r (hid st.lc) (∃es c,hmap h r=some (es,c)/\∃j,es.findIdx? (fun e=>(e.born:Int)==n)=some j/\K st (hput h r (es.modify j fun e=>{e with val:=v}) c))
     | none=>False)
    | _=>False)
   | _=>False)
  | some _=>False)
 | _=>False
theorem tMap_elim {P:Program} {T:TAB} (hT:TabOK P T) {t:Nat} {K:TI->TI->Prop} (h:tMap T t K):∃kt et ki ei,P.underlying t=some (.map kt et)/\TyOK P kt ki/\TyOK P et ei/\K ki ei:=by
 unfold tMap at h
 split at h
 ·rename_i ti h1
  split at h
  ·rename_i kt et h2
   split at h
   ·rename_i ki h3
    split at h
    ·rename_i ei h4
     exact⟨kt,et,ki,ei,kids_map (hT.tl h1) h2,hT.tl h3,hT.tl h4,h⟩
    ·exact h.elim
   ·exact h.elim
  ·exact h.elim
 ·exact h.elim
theorem keyT_elim {b:Bool} {K:Prop} (h:keyT b K):b=true/\K:=by
 cases b
 ·exact h.elim
 ·exact ⟨rfl,h⟩
theorem run_zero1 {P:Program} {t:Nat} {ti:TI} (ht:TyOK P t ti) {K:Sh->Value->Prop} (h:zero1 ti K) (w:World):∃sh z,(zeroValue t).run P w= .ok z w/\K sh z:=by
 obtain⟨d,i,z,q1,q2,_,_,q3,q4,q5,_,_⟩:=ht.ex
 unfold zero1 at h
 split at h
 ·rename_i ha
  split at h
  ·rename_i u hz
   split at h
   case h_2=>exact h.elim
   rename_i sh _
   have hrun:(zeroValue t).run P w= .ok z w:=by simp[zeroValue,typeInfo,q2,q3]
   refine⟨sh,z,hrun,?_⟩
   rw[hz]at q4
   cases z with
   | agg cs=>exact absurd rfl (ht.na i _ q2 q3 ha cs)
   | _=>simp only[Value.cells,List.cons.injEq,and_true]at q4;rw[q4];exact h
  ·exact h.elim
 ·exact h.elim
section
variable {P:Program} {T:TAB} {ro:RO} {st:St} {a:Act} {w:World} {K:St->Heap->Prop} {o:Oper} {Q:Exit->Act->World->Prop}
theorem find_key {kt:Nat} {ki:TI} {d:TypeDesc} (hk:TyOK P kt ki) (hd:P.underlying kt=some d) {k:Value} {es:Array MapEntry} (h1:keyB ki k=true) (h2:keysB ki es):
  (Instr.findNow d k es.toList 0=some none/\∀x∈es.toList,x.key≠k)\/∃j e,Instr.findNow d k es.toList 0=some (some (j,e.val))/\es[j]? =some e/\e.key=k:=by
 rcases findNow_spec (keyB_ok hk hd h1) es.toList 0 (fun x hx=>keyB_ok hk hd (h2 x hx))with h | ⟨j,e,g1,g2,g3⟩
 ·exact .inl h
 ·exact .inr ⟨j,e,by rw[g1,Nat.zero_add],by simpa using g2,g3⟩
theorem unit_next {w':World} (hdst:o.dst=none) (hr:(execOp a.eval o).run P w= .ok .skip w') (h:Nx ro st K a.tmps.size w (a.put none undef) w'):Goal P ro st o a w K Q:=by
 unfold Goal Oper.wp
 rw[hr]
 rw[<-hdst]at h
 exact h
theorem put_map (r:Rel st a w) {b:Nat} {es es':Array MapEntry} {c c':Nat} (hni:b∉hid st.lc):Rel st a {w with heap:=hput w.heap b es' c'}/\Rest w {w with heap:=hput w.heap b es' c'}:=by
 have hrest:Rest w {w with heap:=hput w.heap b es' c'}:=⟨rfl,rfl,rfl,by simp⟩
 exact⟨r.fr_later hrest (hput_fr w.heap b es' c') (fun x hx=>by rintro hh;simp only[List.mem_singleton]at hh;subst hh;exact hni hx),hrest⟩
theorem actM_sound (hT:TabOK P T) (r:Rel st a w) (hd:dstOK ro a.tmps.size o.dst=true) (d:actM T st w.heap o K):Goal P ro st o a w K Q:=by
 unfold actM at d
 split at d
 ·rename_i t x i ok ho
  obtain⟨kt,et,ki,ei,hm,hki,hei,d⟩:=tMap_elim hT d
  split at d
  ·rename_i q h1
   obtain⟨b,rfl,d⟩:=d
   have e1:=evo_eval r.fr h1
   split at d
   ·rename_i k h2
    have e2:=evo_eval r.fr h2
    obtain⟨hkb,d⟩:=keyT_elim d
    obtain⟨sh,z,hz,es,c,hh,hks,d1,d2⟩:=run_zero1 hei d w
    have hb:=hmap_some hh
    obtain⟨dd,hdd⟩:=key_some hki
    rcases find_key hki hdd hkb hks with⟨g1,g2⟩ | ⟨j,e,g1,g2,g3⟩
    ·refine goal_val (w':=w) ?_ (nx_put hd (Rest.refl w) r rfl (d2 g2))
     cases ok<;>simp[execOp,ho,e1,e2,Instr.lookup,run_underlying hm,MapKept.run_getObj_map hb,MapKept.run_checkKey hdd (keyB_ok hki hdd hkb),MapKept.run_findKey hdd g1,hz]
    ·obtain ⟨u,_,hu,hk⟩:=Sh.ex_elim (d1 e (by rw[Array.mem_toList_iff];exact Array.mem_of_getElem? g2) g3)
     subst hu
     refine goal_val (w':=w) ?_ (nx_put hd (Rest.refl w) r rfl hk)
     cases ok<;>simp[execOp,ho,e1,e2,Instr.lookup,run_underlying hm,MapKept.run_getObj_map hb,MapKept.run_checkKey hdd (keyB_ok hki hdd hkb),MapKept.run_findKey hdd g1]
   ·exact d.elim
  ·exact d.elim
 ·rename_i t x i y ho
  split at d
  ·rename_i hdst
   obtain⟨kt,et,ki,ei,hm,hki,hei,d⟩:=tMap_elim hT d
   split at d
   ·rename_i q h1
    obtain⟨b,rfl,d⟩:=d
    have e1:=evo_eval r.fr h1
    split at d
    ·rename_i k h2
     have e2:=evo_eval r.fr h2
     split at d
     ·rename_i v h3
      have e3:=evo_eval r.fr h3
      obtain⟨hkb,d⟩:=keyT_elim d
      obtain⟨hni,es,c,hh,hks,d1,d2⟩:=nin_elim d
      have hb:=hmap_some hh
      obtain⟨dd,hdd⟩:=key_some hki
      have hkk:=keyB_ok hki hdd hkb
      rcases find_key hki hdd hkb hks with⟨g1,g2⟩ | ⟨j,e,g1,g2,g3⟩
      ·obtain ⟨p1,p2⟩:=put_map (es:=es) (c:=c) r hni (es':=es.push ⟨k,v,c⟩) (c':=c+1)
       refine unit_next (w':={w with heap:=hput w.heap b (es.push ⟨k,v,c⟩) (c+1)}) hdst ?_ ⟨st,p1,p2,rfl,Keep.refl _ _,d2 g2⟩
       simp[execOp,ho,e1,e2,e3,Instr.mapUpdate,run_underlying hm,MapKept.run_getObj_map hb,MapKept.run_checkKey hdd hkk,MapKept.run_findKey hdd g1,MapKept.run_setObj_map _ hb,hput]
      ·obtain ⟨p1,p2⟩:=put_map (es:=es) (c:=c) r hni (es':=es.modify j fun e=>{e with key:=k,val:=v}) (c':=c)
       refine unit_next (w':={w with heap:=hput w.heap b (es.modify j fun e=>{e with key:=k,val:=v}) c}) hdst ?_ ⟨st,p1,p2,rfl,Keep.refl _ _,d1 j e g2 g3⟩
       simp[execOp,ho,e1,e2,e3,Instr.mapUpdate,run_underlying hm,MapKept.run_getObj_map hb,MapKept.run_checkKey hdd hkk,MapKept.run_findKey hdd g1,g2,g3,MapKept.run_keyThatStays hkk,MapKept.run_setObj_map _ hb,hput]
     ·exact d.elim
    ·exact d.elim
   ·exact d.elim
  ·exact d.elim
 ·rename_i t x i ho
  obtain⟨kt,et,ki,ei,hm,hki,hei,d⟩:=tMap_elim hT d
  split at d
  ·rename_i q h1
   obtain⟨b,rfl,d⟩:=d
   have e1:=evo_eval r.fr h1
   split at d
   ·rename_i k h2
    have e2:=evo_eval r.fr h2
    obtain⟨hkb,d⟩:=keyT_elim d
    obtain⟨sh,z,hz,d⟩:=run_zero1 hei d w
    obtain⟨hni,es,c,hh,hks,d1,d2⟩:=nin_elim d
    have hb:=hmap_some hh
    obtain⟨dd,hdd⟩:=key_some hki
    have hkk:=keyB_ok hki hdd hkb
    rcases find_key hki hdd hkb hks with⟨g1,g2⟩ | ⟨j,e,g1,g2,g3⟩
    ·obtain ⟨p1,p2⟩:=put_map (es:=es) (c:=c) r hni (es':=es.push ⟨k,z,c⟩) (c':=c+1)
     refine goal_val (w':={w with heap:=hput w.heap b (es.push ⟨k,z,c⟩) (c+1)}) ?_ (nx_put hd p2 p1 rfl (d2 g2))
     simp[execOp,ho,e1,e2,Instr.mapEntry,run_underlying hm,MapKept.run_getObj_map hb,MapKept.run_checkKey hdd hkk,MapKept.run_findKey hdd g1,hz,MapKept.run_setObj_map _ hb,hput,goInt]
    ·obtain ⟨p1,p2⟩:=put_map (es:=es) (c:=c) r hni (es':=es.modify j fun e=>{e with key:=k}) (c':=c)
     obtain⟨u,_,hu,hk⟩:=Sh.ex_elim (d1 j e g2 g3)
     subst hu
     refine goal_val (w':={w with heap:=hput w.heap b (es.modify j fun e=>{e with key:=k}) c}) ?_ (nx_put hd p2 p1 rfl hk)
     simp[execOp,ho,e1,e2,Instr.mapEntry,run_underlying hm,MapKept.run_getObj_map hb,MapKept.run_checkKey hdd hkk,MapKept.run_findKey hdd g1,g2,g3,MapKept.run_keyThatStays hkk,MapKept.run_setObj_map _ hb,hput,goInt]
   ·exact d.elim
  ·exact d.elim
 ·rename_i t x i y ho
  split at d
  ·rename_i hdst
   split at d
   ·rename_i q h1
    obtain⟨b,rfl,d⟩:=d
    have e1:=evo_eval r.fr h1
    split at d
    ·rename_i kk n h2
     have e2:=evo_eval r.fr h2
     split at d
     ·rename_i v h3
      have e3:=evo_eval r.fr h3
      obtain⟨hni,es,c,hh,j,hj,d⟩:=nin_elim d
      have hb:=hmap_some hh
      obtain⟨p1,p2⟩:=put_map (es:=es) (c:=c) r hni (es':=es.modify j fun e=>{e with val:=v}) (c':=c)
      refine unit_next (w':={w with heap:=hput w.heap b (es.modify j fun e=>{e with val:=v}) c}) hdst ?_ ⟨st,p1,p2,rfl,Keep.refl _ _,d⟩
      simp[execOp,ho,e1,e2,e3,Instr.entryStore,MapKept.run_getObj_map hb,asInt,asIntOf,hj,MapKept.run_setObj_map _ hb,hput]
     ·exact d.elim
    ·exact d.elim
   ·exact d.elim
  ·exact d.elim
 ·exact d.elim
end
end Go.X
namespace Go.X
def CallsP (P:Program) (f:FuncId) (args:Array Value) (h:Heap) (R Rp:Value->Heap->Prop):Prop:=
 ∀w:World,w.heap=h->Calls P f args w fun e w'=>Rest w w'/\((∃v,e= .returned v/\R v w'.heap)\/∃v,e= .panicked [{v:=v,recovered:=false}]/\Rp v w'.heap)
theorem CallsP.mono {P:Program} {f:FuncId} {args:Array Value} {h:Heap} {R Rp R' Rp':Value->Heap->Prop} (c:CallsP P f args h R Rp) (k1:∀v h',R v h'->R' v h') (k2:∀v h',Rp v h'->Rp' v h'):CallsP P f args h R' Rp':=
 fun w hw=>(c w hw).mono fun _ _ ⟨e2,e3⟩=>⟨e2,e3.imp (fun⟨v,a,b⟩=>⟨v,a,k1 _ _ b⟩) fun⟨v,a,b⟩=>⟨v,a,k2 _ _ b⟩⟩
def callP (P:Program) (f:FuncId) (args:Array Value) (h:Heap) (H:List Nat) (K E:Value->Heap->Prop):Prop:=
 ∃(M:List Nat) (R Rp:Value->Heap->Prop),CallsP P f args h (fun v h'=>Fr M h h'/\R v h') (fun v h'=>Fr M h h'/\Rp v h')/\(∀b∈H,b∉M)/\(∀v h',Fr M h h'->R v h'->K v h')/\∀v h',Fr M h h'->Rp v h'->E v h'
def callV (P:Program) (F FP:List Nat) (pn:Option (Value->Heap->Prop)) (fn:Fn) (first captured:Array Value) (vs:List Value) (h:Heap) (H:List Nat) (K:Value->Heap->Prop):Prop:=
 match fn with
 | .func g=>(match mem FP g with
  | true=>(match pn with
   | some E=>callP P g (first.toList++(vs++captured.toList)).toArray h H K E
   | none=>False)
  | false=>(match mem F g with
   | true=>callX P g (first.toList++(vs++captured.toList)).toArray h H K
   | false=>callE P g (first.toList++(vs++captured.toList)).toArray fun v=>K v h))
 | _=>False
def PQ (pn:Option (Value->Heap->Prop)) (w0:World) (ch:List PanicEntry) (a:Act) (w:World):Prop:=
 ∃E v,pn=some E/\ch=[{v:=v,recovered:=false}]/\a.defers=[]/\Rest w0 w/\E v w.heap
theorem PQ.back {pn:Option (Value->Heap->Prop)} {w0 w1:World} {ch:List PanicEntry} {a:Act} {w:World} (h:PQ pn w1 ch a w) (r:Rest w0 w1):PQ pn w0 ch a w:=
 let ⟨E,v,a1,a2,a3,a4,a5⟩:=h;⟨E,v,a1,a2,a3,r.trans a4,a5⟩
def act2 (P:Program) (T:TAB) (F FP:List Nat) (pn:Option (Value->Heap->Prop)) (privs:List Nat) (ro:RO) (st:St) (h:Heap) (o:Oper) (K:St->Heap->Prop):Prop:=
 match o.op with
 | .panic x=>(match pn with
  | some E=>(match evo st x with
   | some (.iface t v)=>E (.iface t v) h
   | _=>False)
  | none=>False)
 | .makeMap _ none=>K (st.put o.dst (.val (.map (some h.size)))) (h.push (.map #[] 0))
 | .call c=>(match c.callee with
  | .value f=>(match ev st f with
   | some (.val (.func fn first captured))=>(match evos st c.args.toList with
    | some vs=>callV P F FP pn fn first captured vs h (hid st.lc) fun v h'=>exRes T o.type fun v'=>v=v'/\K (st.put o.dst (.val v')) h'
    | none=>False)
   | _=>False)
  | _=>act P T F privs ro st h o K)
 | .lookup .. | .mapUpdate .. | .mapEntry .. | .entryStore .. =>actM T st h o K
 | _=>act P T F privs ro st h o K
section
variable {P:Program} {T:TAB} {F FP:List Nat} {pn:Option (Value->Heap->Prop)} {privs:List Nat} {ro:RO} {st:St} {a:Act} {w:World} {K:St->Heap->Prop} {o:Oper} {Q:Exit->Act->World->Prop}
theorem act2_panic {x:Operand} (hP:∀ch a' w',PQ pn w ch a' w'->Q (.panic ch) a' w') (r:Rel st a w) (ho:o.op= .panic x) (d:act2 P T F FP pn privs ro st w.heap o K):Goal P ro st o a w K Q:=by
 unfold act2 at d
 simp only[ho]at d
 split at d
 ·rename_i E
  split at d
  ·rename_i t v h1
   have e1:=evo_eval r.fr h1
   unfold Goal Oper.wp
   have hrun:(execOp a.eval o).run P w= .halt (.panic (.iface t v)) w:=by
    simp[execOp,ho,e1,Instr.panic]
   rw[hrun]
   exact hP _ _ _ ⟨E,_,rfl,rfl,r.df,Rest.refl w,d⟩
  ·exact d.elim
 ·exact d.elim
theorem act2_makeMap {t:TypeId} (r:Rel st a w) (hd:dstOK ro a.tmps.size o.dst=true) (ho:o.op= .makeMap t none) (d:act2 P T F FP pn privs ro st w.heap o K):Goal P ro st o a w K Q:=by
 unfold act2 at d
 simp only[ho]at d
 have hf:Fr [] w.heap (w.alloc (.map #[] 0)).heap:=Fr.push _ _
 refine goal_val (v:=.map (some w.heap.size)) (w':=w.alloc (.map #[] 0)) ?_ (nx_put (w:=w) (w':=w.alloc (.map #[] 0)) hd (Rest.alloc _ _) (r.fr_later (Rest.alloc _ _) hf fun _ _ h=>by cases h) (x:=.val (.map (some w.heap.size))) rfl d)
 simp only[execOp,ho,Option.map_none]
 rw[bind_ok (show(Instr.makeMap t none).run P w= .ok (.map (some w.heap.size)) (w.alloc (.map #[] 0))from rfl)]
 rfl
theorem act2_call {c:Call} (hT:TabOK P T) (hF:FnsOK P F) (hFP:FnsOK P FP) (hP:∀ch a' w',PQ pn w ch a' w'->Q (.panic ch) a' w') (r:Rel st a w) (hd:dstOK ro a.tmps.size o.dst=true) (ho:o.op= .call c)
  (d:act2 P T F FP pn privs ro st w.heap o K):Goal P ro st o a w K Q:=by
 unfold act2 at d
 simp only[ho]at d
 split at d
 ·rename_i f hc
  split at d
  ·rename_i fn first captured h1
   have e1:=ev_val r.toL h1
   split at d
   ·rename_i vs h2
    have e2:=evos_map r.toL h2
    unfold callV at d
    split at d
    ·rename_i g
     have hres:(resolve a.eval c o.type).run P w= .ok {target:=.fn (.func g) captured,args:=first++vs.toArray} w:=by
      simp[resolve,hc,e1,Deferred.ofValue,e2]
     have hargs:(first++vs.toArray)++captured=(first.toList++(vs++captured.toList)).toArray:=by
      apply Array.ext';simp
     have hrunG:∀{L:List Nat},FnsOK P L->mem L g=true->(execOp a.eval o).run P w= .ok (.enter g (first.toList++(vs++captured.toList)).toArray) w:=fun{L} hL hm=>by
      have hcf:=FnsOK.mem hL hm (first.toList++(vs++captured.toList)).toArray w
      simp only[execOp,ho]
      rw[bind_ok hres]
      simp only[invoke,hargs]
      exact hcf
     split at d
     ·rename_i hm
      split at d
      ·rename_i E
       obtain⟨M,R,Rp,hcall,hH,hk,hkp⟩:=d
       unfold Goal Oper.wp
       rw[hrunG hFP hm]
       refine(hcall w rfl).mono ?_
       rintro e w' ⟨hrest,⟨v,rfl,hfr,hR⟩ | ⟨v,rfl,hfr,hR⟩⟩
       ·obtain ⟨v',rfl,hK⟩:=exRes_elim (hk v w'.heap hfr hR)
        exact nx_put hd hrest (r.fr_later hrest hfr hH) (x:=.val v) rfl hK
       ·exact hP _ _ _ ⟨E,v,rfl,rfl,r.df,hrest,hkp v w'.heap hfr hR⟩
      ·exact d.elim
     ·split at d
      ·rename_i hm
       obtain⟨M,R,hcall,hH,hk⟩:=d
       unfold Goal Oper.wp
       rw[hrunG hF hm]
       refine(hcall w rfl).mono ?_
       rintro e w' ⟨v,rfl,hrest,hfr,hR⟩
       obtain⟨v',rfl,hK⟩:=exRes_elim (hk v w'.heap hfr hR)
       exact nx_put hd hrest (r.fr_later hrest hfr hH) (x:=.val v) rfl hK
      ·obtain ⟨R,hext,hk⟩:=d
       obtain⟨v,w',hcf,hheap,hrest,hR⟩:=hext w
       obtain⟨v',rfl,hK⟩:=exRes_elim (hk v hR)
       refine goal_val (v:=v) (w':=w') ?_ (nx_put hd hrest (r.later hrest fun _ _ _=>by rw[hheap]) (x:=.val v) rfl (by rw[hheap];exact hK))
       simp only[execOp,ho]
       rw[bind_ok hres]
       simp only[invoke,hargs]
       exact hcf
    ·exact d.elim
   ·exact d.elim
  ·exact d.elim
 ·exact act_call hT hF r hd ho d
theorem act2_sound (hT:TabOK P T) (hF:FnsOK P F) (hFP:FnsOK P FP) (hP:∀ch a' w',PQ pn w ch a' w'->Q (.panic ch) a' w') (r:Rel st a w) (hd:dstOK ro a.tmps.size o.dst=true) (d:act2 P T F FP pn privs ro st w.heap o K):Goal P ro st o a w K Q:=by
 cases ho:o.op
 case panic=>exact act2_panic hP r ho d
 case call=>exact act2_call hT hF hFP hP r hd ho d
 case makeMap t s=>
  cases s with
  | none=>exact act2_makeMap r hd ho d
  | some _=>exact act_sound hT hF r hd (by unfold act2 at d;simpa only[ho]using d)
 case lookup | mapUpdate | mapEntry | entryStore=>exact actM_sound hT r hd (by unfold act2 at d;simpa only[ho]using d)
 all_goals exact act_sound hT hF r hd (by unfold act2 at d;simpa only[ho]using d)
end
end Go.X
namespace Go.X
structure Env where
 P:Program
 T:TAB
 F:List Nat
 privs:List Nat
 n:Nat
 FP:List Nat:=[]
 pn:Option (Value->Heap->Prop):=none
def isAct (T:TAB) (op:Op):Bool:=
 match op with
 | .box _ _ | .alloc _ | .buildSlice _ _ _ | .makeSlice _ _ _ | .store _ _ _ | .panic _ | .makeMap _ _ | .lookup .. | .mapUpdate .. | .mapEntry .. | .entryStore .. =>true
 | .binOp op t _ _ _=>(match op with
  | .add | .sub | .mul | .quo=>(match tl T t with
   | some ti=>(match ti.kids with
    | .float _=>true
    | _=>false)
   | none=>false)
  | _=>false)
 | .convert s t _=>(match tl T s with
  | some si=>(match si.kids with
   | .float _=>(match tl T t with
    | some ti=>(match ti.kids with
     | .int _=>true
     | _=>false)
    | none=>false)
   | .slice _=>(match tl T t with
    | some ti=>(match ti.kids with
     | .none=>Nat.beq ti.tag 5
     | .slice _=>true
     | _=>false)
    | none=>false)
   | .none=>(match tl T t with
    | some ti=>(match ti.kids with
     | .slice _=>true
     | _=>false)
    | none=>false)
   | _=>false)
  | none=>false)
 | .call c=>(match c.callee with
  | .builtin .append=>true
  | .value _=>true
  | _=>false)
 | _=>false
def cnd (c:Bool) (p q:Prop):Prop:=(c=true->p)/\(c=false->q)
def splitB (x:AVal) (K:AVal->Prop):Prop:=
 match x with
 | .val (.bool c)=>cnd c (K (.lit true)) (K (.lit false))
 | x=>K x
theorem splitB_elim {x:AVal} {K:AVal->Prop} (h:splitB x K) (lc:List Priv):∃y,y.conc lc=x.conc lc/\K y:=by
 unfold splitB at h
 split at h
 ·rename_i c
  cases c
  ·exact ⟨.lit false,rfl,h.2 rfl⟩
  ·exact ⟨.lit true,rfl,h.1 rfl⟩
 ·exact ⟨_,rfl,h⟩
def isGuard (ops:List Oper) (i:Nat):Bool:=
 match ops with
 | []=>false
 | o::r=>match o.guard with
  | some (j,_)=>(match Nat.beq j i with
   | true=>true
   | false=>isGuard r i)
  | none=>isGuard r i
def wantX (ops:List Oper) (st:St) (o:Oper):Option Bool:=
 match o.guard with
 | none=>some true
 | some (j,want)=>match ops[j]? with
  | some oj=>(match oj.dst with
   | some d=>(match look st.fr d with
    | some (.lit b)=>some (match b with
     | true=>want
     | false=> !want)
    | some (.val (.tuple _))=>some false
    | _=>none)
   | none=>none)
  | none=>none
theorem wantX_ok {ops:List Oper} {st:St} {o:Oper} {a:Act} {b:Bool} (hf:FrOK st a) (h:wantX ops st o=some b):Region.wanted o (yielded ops.toArray a.tmps)=b:=by
 unfold wantX at h
 unfold Region.wanted
 split at h
 ·rename_i hg;simp[hg]at h ⊢;exact h
 ·rename_i j want hg
  simp only[hg]
  split at h
  ·rename_i oj hj
   split at h
   ·rename_i d hd
    have hy:yielded ops.toArray a.tmps j=(match a.tmps[d]? with | some (.bool b)=>some b | _=>none):=by
     unfold yielded
     simp[hj,hd]
     rfl
    rw[hy]
    split at h
    ·rename_i c hl
     obtain⟨v,hv,ht⟩:=hf _ _ hl
     simp only[AVal.conc,Option.some.injEq]at hv
     rw[ht,<-hv]
     simp only[Option.some.injEq]at h
     rw[<-h]
     cases c<;>cases want<;>rfl
    ·rename_i hl
     obtain⟨v,hv,ht⟩:=hf _ _ hl
     simp only[AVal.conc,Option.some.injEq]at hv
     rw[ht,<-hv]
     simp only[Option.some.injEq]at h
     rw[<-h]
     rfl
    ·cases h
   ·cases h
  ·cases h
def afterX (g:Bool) (dst:Option Nat) (st:St) (K:St->Prop):Prop:=
 match g with
 | false=>K st
 | true=>match dst with
  | some d=>(match look st.fr d with
   | some x=>splitB x fun x'=>K (st.put dst x')
   | none=>False)
  | none=>False
theorem afterX_elim {g:Bool} {ro:RO} {n:Nat} {dst:Option Nat} {st:St} {K:St->Prop} {a:Act} {w:World} (h:afterX g dst st K) (r:Rel st a w) (hok:dstOK ro n dst=true):
  ∃st',Rel st' a w/\Keep ro st st'/\K st':=by
 cases g with
 | false=>exact⟨st,r,Keep.refl _ _,h⟩
 | true=>
  simp only[afterX]at h
  split at h
  ·rename_i d
   split at h
   ·rename_i x hx
    obtain⟨y,hy,hk⟩:=splitB_elim h st.lc
    refine⟨st.put (some d) y,⟨fun t z hz=>?_,r.pr,r.ap,r.df⟩,Keep.put hok y,hk⟩
    simp only[St.put,look]at hz
    cases hb:Nat.beq d t with
    | true=>
     simp only[hb,Option.some.injEq]at hz
     have:=Nat.eq_of_beq_eq_true hb
     subst this
     subst hz
     obtain⟨v,h1,h2⟩:=r.fr _ _ hx
     exact⟨v,hy.trans h1,h2⟩
    | false=>simp only[hb]at hz;exact r.fr t z hz
   ·exact h.elim
  ·exact h.elim
def stepX (E:Env) (ro:RO) (ops:List Oper) (i:Nat) (o:Oper) (st:St) (h:Heap) (K:St->Heap->Prop):Prop:=
 match dstOK ro E.n o.dst with
 | false=>False
 | true=>match wantX ops st o with
  | some true=>(match isAct E.T o.op with
   | true=>act2 E.P E.T E.F E.FP E.pn E.privs ro st h o fun st' h'=>afterX (isGuard ops i) o.dst st' fun st''=>K st'' h'
   | false=>det E.T st.lc none st h o.op fun x=>afterX (isGuard ops i) o.dst (st.put o.dst x) fun st''=>K st'' h)
  | some false=>K (st.put o.dst (.val undef)) h
  | none=>False
structure Env.OK (E:Env):Prop where
 T:TabOK E.P E.T
 F:FnsOK E.P E.F
 FP:FnsOK E.P E.FP
 m:E.P.follows .mixedOrders=true
theorem stepX_sound {E:Env} (hE:E.OK) {ro:RO} {ops:List Oper} {i:Nat} {o:Oper} {st:St} {K:St->Heap->Prop} {a:Act} {w:World} {Q:Exit->Act->World->Prop}
  (hP:∀ch a' w',PQ E.pn w ch a' w'->Q (.panic ch) a' w') (d:stepX E ro ops i o st w.heap K) (r:Rel st a w) (hn:a.tmps.size=E.n):
  if Region.wanted o (yielded ops.toArray a.tmps)then o.wp E.P a w (Nx ro st K a.tmps.size w) Q else Nx ro st K a.tmps.size w (a.put o.dst undef) w:=by
 unfold stepX at d
 split at d
 ·exact d.elim
 ·rename_i hok
  have hok':dstOK ro a.tmps.size o.dst=true:=by rw[hn];exact hok
  split at d
  ·rename_i hw
   rw[if_pos (wantX_ok r.fr hw)]
   split at d
   ·refine Oper.wp_mono (fun a' w'=>?_) (act2_sound hE.T hE.F hE.FP hP r hok' d)
    rintro⟨st',r',h1,h2,h3,h4⟩
    obtain⟨st'',r'',k1,k2⟩:=afterX_elim h4 r' (h2▸hok')
    exact⟨st'',r'',h1,h2,h3.trans k1,k2⟩
   ·obtain ⟨x,v,hc,hrun,hk⟩:=det_sound hE.T r.toL (Fr.refl _ _) d
    have hr':=r.put (dstOK_lt hok') hc
    obtain⟨st'',r'',k1,k2⟩:=afterX_elim hk hr' (show dstOK ro (a.put o.dst v).tmps.size o.dst=true by rw[size_put];exact hok')
    unfold Oper.wp
    rw[hrun]
    exact⟨st'',r'',Rest.refl w,size_put _ _ _,(Keep.put hok' x).trans k1,k2⟩
  ·rename_i hw
   rw[if_neg (by rw[wantX_ok r.fr hw];simp)]
   exact⟨_,r.put (dstOK_lt hok') rfl,Rest.refl w,size_put _ _ _,Keep.put hok' _,d⟩
  ·exact d.elim
def XR (E:Env) (ro:RO) (ops:List Oper):List Oper->Nat->St->Heap->(St->Heap->Prop)->Prop
 | [],_,st,h,K=>K st h
 | o::r,i,st,h,K=>stepX E ro ops i o st h fun st' h'=>XR E ro ops r (i+1) st' h' K
theorem XR_sound {E:Env} (hE:E.OK) {ro:RO} {ops:List Oper} {K:St->Heap->Prop} {Q:Exit->Act->World->Prop} {s0:St} {w0:World}
  (hQ:∀a w,Nx ro s0 K E.n w0 a w->Q .normal a w) (hP:∀ch a' w',PQ E.pn w0 ch a' w'->Q (.panic ch) a' w'):
  ∀(l:List Oper) (i:Nat) (st:St) (a:Act) (w:World),XR E ro ops l i st w.heap K->Rel st a w->a.tmps.size=E.n->Rest w0 w->Keep ro s0 st->wpList E.P ops.toArray Q l a w
 | [],_,st,a,w,d,r,hn,hr,hk=>hQ a w ⟨st,r,hr,hn,hk,d⟩
 | o::l,i,st,a,w,d,r,hn,hr,hk=>by
  have h:=stepX_sound hE (Q:=Q) (fun ch a' w' q=>hP ch a' w' (q.back hr)) d r hn
  have hnext:∀a' w',Nx ro st (fun st' h'=>XR E ro ops l (i+1) st' h' K) a.tmps.size w a' w'->wpList E.P ops.toArray Q l a' w':=by
   rintro a' w' ⟨st',r',h1,h2,h3,h4⟩
   exact XR_sound hE hQ hP l (i+1) st' a' w' h4 r' (h2.trans hn) (hr.trans h1) (hk.trans h3)
  unfold wpList
  split
  ·rename_i hw
   rw[if_pos hw]at h
   exact .inl (Oper.wp_mono hnext h)
  ·rename_i hw
   rw[if_neg hw]at h
   exact hnext _ _ h
end Go.X
namespace Go.X
structure LD where
 keepT:List Nat
 varT:List Nat
 keepP:List Nat
 varP:List Nat
def shA (x:AVal):Option Sh:=
 match x with
 | .val v=>some (shOf v)
 | .lit _=>some .bool
 | .ptr _ _=>some .ptr
 | .sl _ _ _ _=>some .slice
 | _=>none
def shIs (s:Sh) (v:Value) (K:Prop):Prop:=
 match s,v with
 | .int k,.int k' _=>kindEq k k' K
 | .bool,.bool _=>K
 | .slice,.slice _ _ _=>K
 | .ptr,.pointer _=>K
 | .float k,.float k' _=>fkindEq k k' K
 | .str,.string _=>K
 | .func,.func _ _ _=>K
 | .ifc,.nilIface=>K
 | .ifc,.iface _ _=>K
 | .map,.map _=>K
 | _,_=>False
theorem shIs_elim {s:Sh} {v:Value} {K:Prop} (h:shIs s v K):(∀L:Value->Prop,s.all L->L v)/\K:=by
 cases s<;>cases v<;>simp only[shIs]at h<;>first
  | exact h.elim
  | (have h0:=kindEq_elim h;obtain⟨rfl,h1⟩:=h0;exact⟨fun L hL=>hL _,h1⟩)
  | (have h0:=fkindEq_elim h;obtain⟨rfl,h1⟩:=h0;exact⟨fun L hL=>hL _,h1⟩)
  | exact⟨fun L hL=>hL _,h⟩
  | exact⟨fun L hL=>hL _ _ _,h⟩
  | exact⟨fun L hL=>hL.1,h⟩
  | exact⟨fun L hL=>hL.2 _ _,h⟩
def locIn (ps:List Nat) (x:AVal):Bool:=
 match x with
 | .loc s _=>mem ps s
 | .row s _=>mem ps s
 | _=>true
def keepFr (st:St) (ps:List Nat):List Nat->Option (List (Nat × AVal))
 | []=>some []
 | t::r=>match look st.fr t with
  | some x=>(match locIn ps x with
   | true=>(match keepFr st ps r with
    | some q=>some ((t,x)::q)
    | none=>none)
   | false=>none)
  | none=>none
def keepLc (lc:List Priv):List Nat->Option (List Priv)
 | []=>some []
 | s::r=>match plook lc s with
  | some p=>(match keepLc lc r with
   | some q=>some (⟨s,p.blk,p.elem,p.cells⟩::q)
   | none=>none)
  | none=>none
def curT (st:St):List Nat->Option (List (Sh × Value))
 | []=>some []
 | t::r=>match look st.fr t with
  | some x=>(match x.out with
   | some v=>(match shA x with
    | some s=>(match curT st r with
     | some q=>some ((s,v)::q)
     | none=>none)
    | none=>none)
   | none=>none)
  | none=>none
def curP (lc:List Priv):List Nat->Option (List (List (Sh × Value)))
 | []=>some []
 | s::r=>match plook lc s with
  | some p=>(match curP lc r with
   | some q=>some ((p.cells.map fun v=>(shOf v,v))::q)
   | none=>none)
  | none=>none
def allV :List (Sh × Value)->(List Value->Prop)->Prop
 | [],K=>K []
 | (s,_)::r,K=>s.all fun v=>allV r fun vs=>K (v::vs)
def allP :List (List (Sh × Value))->(List (List Value)->Prop)->Prop
 | [],K=>K []
 | l::r,K=>allV l fun v=>allP r fun vs=>K (v::vs)
def sameV :List (Sh × Value)->List (Sh × Value)->(List Value->Prop)->Prop
 | [],[],K=>K []
 | (s,_)::r,(_,v)::q,K=>shIs s v (sameV r q fun vs=>K (v::vs))
 | _,_,_=>False
def sameP :List (List (Sh × Value))->List (List (Sh × Value))->(List (List Value)->Prop)->Prop
 | [],[],K=>K []
 | l::r,m::q,K=>sameV l m fun v=>sameP r q fun vs=>K (v::vs)
 | _,_,_=>False
def vals (l:List (Sh × Value)):List Value:=l.map (·.2)
def valsP (l:List (List (Sh × Value))):List (List Value):=l.map vals
theorem sameV_elim :∀{l q:List (Sh × Value)} {K:List Value->Prop},sameV l q K->K (vals q)/\∀L:List Value->Prop,allV l L->L (vals q)
 | [],[],_,h=>⟨h,fun _ hL=>hL⟩
 | (s,_)::r,(_,v)::q,K,h=>by
  obtain⟨h1,h2⟩:=shIs_elim h
  obtain⟨h3,h4⟩:=sameV_elim h2
  exact⟨h3,fun L hL=>h4 _ (h1 _ hL)⟩
 | [],_::_,_,h=>h.elim
 | _::_,[],_,h=>h.elim
theorem sameP_elim :∀{l q:List (List (Sh × Value))} {K:List (List Value)->Prop},sameP l q K->K (valsP q)/\∀L:List (List Value)->Prop,allP l L->L (valsP q)
 | [],[],_,h=>⟨h,fun _ hL=>hL⟩
 | l::r,m::q,K,h=>by
  obtain⟨h1,h2⟩:=sameV_elim h
  obtain⟨h3,h4⟩:=sameP_elim h1
  exact⟨h3,fun L hL=>h4 _ (h2 _ hL)⟩
 | [],_::_,_,h=>h.elim
 | _::_,[],_,h=>h.elim
def putT :List Nat->List Value->List (Nat × AVal)->List (Nat × AVal)
 | t::r,v::vs,fr=>(t,.val v)::putT r vs fr
 | _,_,fr=>fr
def putP (lc:List Priv):List Nat->List (List Value)->List Priv->List Priv
 | s::r,v::vs,q=>match plook lc s with
  | some p=>⟨s,p.blk,p.elem,v⟩::putP lc r vs q
  | none=>q
 | _,_,q=>q
def subs :List Nat->List Nat->Bool
 | [],_=>true
 | t::r,l=>match mem l t with
  | true=>subs r l
  | false=>false
def disj :List Nat->List Nat->Bool
 | [],_=>true
 | t::r,l=>match mem l t with
  | true=>false
  | false=>disj r l
def LD.ok (d:LD) (ro:RO):Bool:=subs ro.t d.keepT&&subs ro.p d.keepP&&subs ro.a (d.keepP++d.varP)&&disj d.keepT d.varT&&disj d.keepP d.varP
def LD.ro (d:LD):RO:=⟨d.keepT,d.keepP,d.keepP++d.varP⟩
def mkSt (d:LD) (st:St) (kf:List (Nat × AVal)) (kl:List Priv) (v:List Value) (vp:List (List Value)):St:=⟨putT d.varT v kf,putP st.lc d.varP vp kl⟩
def backV (d:LD) (sh:List (Sh × Value)) (shp:List (List (Sh × Value))) (st:St) (K:List Value->List (List Value)->Prop):Prop:=
 match curT st d.varT with
 | some v1=>(match curP st.lc d.varP with
  | some v2=>sameV sh v1 fun v=>sameP shp v2 fun vp=>K v vp
  | none=>False)
 | none=>False
def headX (ro:RO) (d:LD) (st:St) (K:List (Nat × AVal)->List Priv->List (Sh × Value)->List (List (Sh × Value))->Prop):Prop:=
 match d.ok ro with
 | false=>False
 | true=>match keepFr st (d.keepP++d.varP) d.keepT with
  | none=>False
  | some kf=>match keepLc st.lc d.keepP with
   | none=>False
   | some kl=>match curT st d.varT with
    | none=>False
    | some v1=>match curP st.lc d.varP with
     | none=>False
     | some v2=>sameV v1 v1 fun _=>sameP v2 v2 fun _=>K kf kl v1 v2
def loopX (ro:RO) (d:LD) (st:St) (h:Heap) (body:RO->St->Heap->(St->Heap->Prop)->Prop):Prop:=
 headX ro d st fun kf kl v1 v2=>∃(I:List Value->Heap->Prop) (μ:List Value->Heap->Nat),I (vals v1++(valsP v2).flatten) h/\
  allV v1 fun v=>allP v2 fun vp=>∀h',I (v++vp.flatten) h'->body d.ro (mkSt d st kf kl v vp) h' fun st'' h''=>backV d v1 v2 st'' fun u up=>I (u++up.flatten) h''/\μ (u++up.flatten) h''<μ (v++vp.flatten) h'
def joinX (ro:RO) (d:LD) (st:St) (ways:RO->(St->Heap->Prop)->Prop) (k:St->Heap->Prop):Prop:=
 headX ro d st fun kf kl v1 v2=>∃J:List Value->Heap->Prop,ways d.ro (fun st'' h''=>backV d v1 v2 st'' fun u up=>J (u++up.flatten) h'')/\
  allV v1 fun v=>allP v2 fun vp=>∀h',J (v++vp.flatten) h'->k (mkSt d st kf kl v vp) h'
theorem mem_subs {l m:List Nat} (h:subs l m=true) {t:Nat} (ht:mem l t=true):mem m t=true:=by
 induction l with
 | nil=>simp[mem]at ht
 | cons x r ih=>
  simp only[subs]at h
  cases hx:mem m x with
  | false=>simp[hx]at h
  | true=>
   simp only[hx]at h
   simp only[mem]at ht
   cases hb:Nat.beq x t with
   | true=>have:=Nat.eq_of_beq_eq_true hb;subst this;exact hx
   | false=>simp only[hb]at ht;exact ih h ht
theorem keepFr_look {st:St} {ps:List Nat}:∀{l:List Nat} {q:List (Nat × AVal)},keepFr st ps l=some q->∀t x,look q t=some x->look st.fr t=some x/\mem l t=true/\locIn ps x=true
 | [],q,h=>by simp[keepFr]at h;subst h;exact fun t x hx=>by simp[look]at hx
 | t::r,q,h=>by
  unfold keepFr at h
  split at h
  ·rename_i x h1
   split at h
   ·rename_i hl
    split at h
    ·rename_i q' h2
     simp only[Option.some.injEq]at h
     subst h
     intro u y hy
     simp only[look]at hy
     cases hb:Nat.beq t u with
     | true=>
      have:=Nat.eq_of_beq_eq_true hb
      subst this
      simp only[hb,Option.some.injEq]at hy
      subst hy
      exact⟨h1,by simp[mem],hl⟩
     | false=>
      simp only[hb]at hy
      obtain⟨k1,k2,k3⟩:=keepFr_look h2 u y hy
      exact⟨k1,by simp[mem,hb,k2],k3⟩
    ·cases h
   ·cases h
  ·cases h
theorem keepLc_look {lc:List Priv}:∀{l:List Nat} {q:List Priv},keepLc lc l=some q->(∀s p,plook q s=some p->∃p',plook lc s=some p'/\p.blk=p'.blk/\p.elem=p'.elem/\p.cells=p'.cells/\mem l s=true)/\
  ∀s,mem l s=true->∃p p',plook q s=some p/\plook lc s=some p'/\p.blk=p'.blk/\p.elem=p'.elem/\p.cells=p'.cells
 | [],q,h=>by simp[keepLc]at h;subst h;exact⟨fun t x hx=>by simp[plook]at hx,fun t ht=>by simp[mem]at ht⟩
 | s::r,q,h=>by
  unfold keepLc at h
  cases h1:plook lc s with
  | none=>simp[h1]at h
  | some p=>
   cases h2:keepLc lc r with
   | none=>simp[h1,h2]at h
   | some q'=>
    simp only[h1,h2,Option.some.injEq]at h
    subst h
    obtain⟨e1,e2⟩:=keepLc_look h2
    constructor
    ·intro u y hy
     simp only[plook]at hy
     cases hb:Nat.beq s u with
     | true=>
      have:=Nat.eq_of_beq_eq_true hb
      subst this
      simp only[hb,Option.some.injEq]at hy
      subst hy
      exact⟨p,h1,rfl,rfl,rfl,by simp[mem]⟩
     | false=>
      simp only[hb]at hy
      obtain⟨p',k1,k2,k3,k4,k5⟩:=e1 u y hy
      exact⟨p',k1,k2,k3,k4,by simp[mem,hb,k5]⟩
    ·intro u hu
     simp only[mem]at hu
     simp only[plook]
     cases hb:Nat.beq s u with
     | true=>have:=Nat.eq_of_beq_eq_true hb;subst this;exact⟨_,p,rfl,h1,rfl,rfl,rfl⟩
     | false=>simp only[hb]at hu;exact e2 u hu
theorem not_mem_disj {l m:List Nat} (h:disj l m=true) {t:Nat} (ht:mem l t=true):mem m t=false:=by
 induction l with
 | nil=>simp[mem]at ht
 | cons x r ih=>
  simp only[disj]at h
  cases hx:mem m x with
  | true=>simp[hx]at h
  | false=>
   simp only[hx]at h
   simp only[mem]at ht
   cases hb:Nat.beq x t with
   | true=>have:=Nat.eq_of_beq_eq_true hb;subst this;exact hx
   | false=>simp only[hb]at ht;exact ih h ht
theorem mem_append (l m:List Nat) (t:Nat):mem (l++m) t=(mem l t||mem m t):=by
 induction l with
 | nil=>simp[mem]
 | cons x r ih=>
  simp only[List.cons_append,mem]
  cases Nat.beq x t with
  | true=>simp
  | false=>exact ih
theorem curT_look {st:St}:∀{l:List Nat} {q:List (Sh × Value)},curT st l=some q->∀{kf:List (Nat × AVal)} {t:Nat} {x:AVal},look (putT l (vals q) kf) t=some x->
  (mem l t=true/\∃y v,look st.fr t=some y/\y.out=some v/\x= .val v)\/(mem l t=false/\look kf t=some x)
 | [],q,h,kf,t,x,hx=>by simp[curT]at h;subst h;exact .inr ⟨rfl,by simpa[putT,vals]using hx⟩
 | s::r,q,h,kf,t,x,hx=>by
  unfold curT at h
  split at h
  ·rename_i y hy
   split at h
   ·rename_i v hv
    split at h
    ·rename_i sh hsh
     split at h
     ·rename_i q' hq'
      simp only[Option.some.injEq]at h
      subst h
      simp only[vals,List.map_cons,putT,look]at hx
      simp only[mem]
      cases hb:Nat.beq s t with
      | true=>
       have:=Nat.eq_of_beq_eq_true hb
       subst this
       simp only[hb,Option.some.injEq]at hx
       exact .inl ⟨rfl,y,v,hy,hv,hx.symm⟩
      | false=>simp only[hb]at hx;exact curT_look hq' hx
     ·cases h
    ·cases h
   ·cases h
  ·cases h
theorem putT_other {kf:List (Nat × AVal)} {t:Nat}:∀{l:List Nat} {q:List Value},mem l t=false->look (putT l q kf) t=look kf t
 | [],_,_=>by simp[putT]
 | s::r,[],_=>by simp[putT]
 | s::r,v::q,h=>by
  simp only[mem]at h
  simp only[putT,look]
  cases hb:Nat.beq s t with
  | true=>simp[hb]at h
  | false=>simp only[hb]at h;exact putT_other h
theorem putP_other {lc kl:List Priv} {s:Nat}:∀{l:List Nat} {q:List (List Value)},mem l s=false->(∀t,mem l t=true->∃p,plook lc t=some p)->plook (putP lc l q kl) s=plook kl s
 | [],_,_,_=>by simp[putP]
 | t::r,[],_,_=>by simp[putP]
 | t::r,v::q,h,hall=>by
  simp only[mem]at h
  simp only[putP]
  obtain⟨p,hp⟩:=hall t (by simp[mem])
  simp only[hp]
  cases hb:Nat.beq t s with
  | true=>simp[hb]at h
  | false=>
   simp only[hb]at h
   simp only[plook,hb]
   exact putP_other h (fun u hu=>hall u (by simp only[mem];cases Nat.beq t u<;>simp_all))
theorem curP_all {lc:List Priv}:∀{l:List Nat} {q:List (List (Sh × Value))},curP lc l=some q->∀t,mem l t=true->∃p,plook lc t=some p
 | [],_,_,t,ht=>by simp[mem]at ht
 | s::r,q,h,t,ht=>by
  unfold curP at h
  split at h
  ·rename_i p hp
   split at h
   ·rename_i q' hq'
    simp only[mem]at ht
    cases hb:Nat.beq s t with
    | true=>have:=Nat.eq_of_beq_eq_true hb;subst this;exact⟨p,hp⟩
    | false=>simp only[hb]at ht;exact curP_all hq' t ht
   ·cases h
  ·cases h
theorem curP_look {lc lc' kl:List Priv}:∀{l:List Nat} {q:List (List (Sh × Value))},curP lc' l=some q->(∀t,mem l t=true->(plook lc' t).map Priv.place=(plook lc t).map Priv.place)->
  ∀{s:Nat} {p:Priv},plook (putP lc l (valsP q) kl) s=some p->
  (mem l s=true/\∃p',plook lc' s=some p'/\p.blk=p'.blk/\p.elem=p'.elem/\p.cells=p'.cells)\/(mem l s=false/\plook kl s=some p)
 | [],q,h,_,s,p,hx=>by simp[curP]at h;subst h;exact .inr ⟨rfl,by simpa[putP,valsP]using hx⟩
 | t::r,q,h,hpl,s,p,hx=>by
  unfold curP at h
  split at h
  ·rename_i p1 hp1
   split at h
   ·rename_i q' hq'
    simp only[Option.some.injEq]at h
    subst h
    have hpt:=hpl t (by simp[mem])
    rw[hp1]at hpt
    cases hp2:plook lc t with
    | none=>simp[hp2]at hpt
    | some p2=>
     simp only[hp2,Option.map_some,Option.some.injEq,Priv.place,Prod.mk.injEq]at hpt
     simp only[valsP,List.map_cons,putP,hp2,plook]at hx
     simp only[mem]
     cases hb:Nat.beq t s with
     | true=>
      have:=Nat.eq_of_beq_eq_true hb
      subst this
      simp only[hb,Option.some.injEq]at hx
      subst hx
      exact .inl ⟨rfl,p1,hp1,hpt.1.symm,hpt.2.symm,by simp[vals,Function.comp_def]⟩
     | false=>
      simp only[hb]at hx
      exact curP_look hq' (fun u hu=>hpl u (by simp only[mem];cases Nat.beq t u<;>simp_all)) hx
   ·cases h
  ·cases h
theorem curP_has {lc lc' kl:List Priv}:∀{l:List Nat} {q:List (List (Sh × Value))},curP lc' l=some q->(∀t,mem l t=true->(plook lc' t).map Priv.place=(plook lc t).map Priv.place)->
  ∀{s:Nat},mem l s=true->∃p p',plook (putP lc l (valsP q) kl) s=some p/\plook lc' s=some p'/\p.blk=p'.blk
 | [],q,h,_,s,hs=>by simp[mem]at hs
 | t::r,q,h,hpl,s,hs=>by
  unfold curP at h
  split at h
  ·rename_i p1 hp1
   split at h
   ·rename_i q' hq'
    simp only[Option.some.injEq]at h
    subst h
    have hpt:=hpl t (by simp[mem])
    rw[hp1]at hpt
    cases hp2:plook lc t with
    | none=>simp[hp2]at hpt
    | some p2=>
     simp only[hp2,Option.map_some,Option.some.injEq,Priv.place,Prod.mk.injEq]at hpt
     simp only[valsP,List.map_cons,putP,hp2,plook]
     cases hb:Nat.beq t s with
     | true=>
      have:=Nat.eq_of_beq_eq_true hb
      subst this
      exact⟨_,p1,rfl,hp1,hpt.1.symm⟩
     | false=>
      simp only[mem,hb]at hs
      exact curP_has hq' (fun u hu=>hpl u (by simp only[mem];cases Nat.beq t u<;>simp_all)) hs
   ·cases h
  ·cases h
theorem mk_rel {ro:RO} {d:LD} {st st':St} {kf:List (Nat × AVal)} {kl:List Priv} (hok:d.ok ro=true) (hkf:keepFr st (d.keepP++d.varP) d.keepT=some kf) (hkl:keepLc st.lc d.keepP=some kl)
  {q0:List (List (Sh × Value))} (h0:curP st.lc d.varP=some q0)
  (hK:∀t,mem d.keepT t=true->look st'.fr t=look st.fr t) (hP:∀s,mem d.keepP s=true->plook st'.lc s=plook st.lc s)
  (hA:∀s,mem (d.keepP++d.varP) s=true->(plook st'.lc s).map Priv.place=(plook st.lc s).map Priv.place)
  {v1:List (Sh × Value)} {v2:List (List (Sh × Value))} (h1:curT st' d.varT=some v1) (h2:curP st'.lc d.varP=some v2) {a:Act} {w:World} (r:Rel st' a w):
  Rel (mkSt d st kf kl (vals v1) (valsP v2)) a w:=by
 simp only[LD.ok,Bool.and_eq_true]at hok
 obtain⟨⟨⟨⟨_,_⟩,_⟩,hdT⟩,hdP⟩:=hok
 have k1:=keepFr_look hkf
 obtain⟨l1,l2⟩:=keepLc_look hkl
 have hA':∀t,mem d.varP t=true->(plook st'.lc t).map Priv.place=(plook st.lc t).map Priv.place:=fun t ht=>hA t (by rw[mem_append,ht,Bool.or_true])
 have hpl:∀s p,plook (mkSt d st kf kl (vals v1) (valsP v2)).lc s=some p->∃p',plook st'.lc s=some p'/\p.blk=p'.blk/\p.elem=p'.elem/\p.cells=p'.cells:=by
  intro s p hp
  rcases curP_look h2 hA' hp with⟨_,h⟩ | ⟨_,h⟩
  ·exact h
  ·obtain ⟨p',e1,e2,e3,e4,e5⟩:=l1 s p h
   exact⟨p',(hP s e5).trans e1,e2,e3,e4⟩
 refine⟨fun t x hx=>?_,fun s p hp=>?_,fun s t p q hp hq hst=>?_,r.df⟩
 ·rcases curT_look h1 hx with⟨_,y,v,e1,e2,rfl⟩ | ⟨_,e⟩
  ·obtain ⟨u,c1,c2⟩:=r.fr t y e1
   rw[AVal.conc_out e2]at c1
   exact⟨v,rfl,by rw[c2];exact c1.symm⟩
  ·obtain ⟨e1,e2,e4⟩:=k1 t x e
   have e3:look st'.fr t=some x:=(hK t e2).trans e1
   obtain⟨u,c1,c2⟩:=r.fr t x e3
   refine⟨u,?_,c2⟩
   have has:∀s,mem (d.keepP++d.varP) s=true->∃p p',plook (mkSt d st kf kl (vals v1) (valsP v2)).lc s=some p/\plook st'.lc s=some p'/\p.blk=p'.blk:=by
    intro s hs
    rw[mem_append,Bool.or_eq_true]at hs
    cases hv:mem d.varP s with
    | true=>exact curP_has h2 hA' hv
    | false=>
     rw[hv]at hs
     have hs':mem d.keepP s=true:=by simpa using hs
     obtain⟨p,p',g1,g2,g3,_⟩:=l2 s hs'
     exact⟨p,p',(putP_other hv (fun u hu=>curP_all h0 u hu)).trans g1,(hP s hs').trans g2,g3⟩
   cases x with
   | loc s o=>
    obtain⟨p,p',g1,g2,g3⟩:=has s e4
    simpa[AVal.conc,g1,g2,g3]using c1
   | row s o=>
    obtain⟨p,p',g1,g2,g3⟩:=has s e4
    simpa[AVal.conc,g1,g2,g3]using c1
   | _=>exact c1
 ·obtain ⟨p',e1,e2,e3,e4⟩:=hpl s p hp
  rw[e2,e3,e4]
  exact r.pr s p' e1
 ·obtain ⟨p',e1,e2,_⟩:=hpl s p hp
  obtain⟨q',f1,f2,_⟩:=hpl t q hq
  rw[e2,f2]
  exact r.ap s t p' q' e1 f1 hst
theorem keepFr_has {st:St} {ps:List Nat}:∀{l:List Nat} {q:List (Nat × AVal)},keepFr st ps l=some q->∀t,mem l t=true->look q t=look st.fr t
 | [],q,h=>fun t ht=>by simp[mem]at ht
 | t::r,q,h=>by
  unfold keepFr at h
  split at h
  ·rename_i x h1
   split at h
   ·split at h
    ·rename_i q' h2
     simp only[Option.some.injEq]at h
     subst h
     intro u hu
     simp only[mem]at hu
     simp only[look]
     cases hb:Nat.beq t u with
     | true=>have:=Nat.eq_of_beq_eq_true hb;subst this;simp[h1]
     | false=>simp only[hb]at hu;exact keepFr_has h2 u hu
    ·cases h
   ·cases h
  ·cases h
end Go.X
