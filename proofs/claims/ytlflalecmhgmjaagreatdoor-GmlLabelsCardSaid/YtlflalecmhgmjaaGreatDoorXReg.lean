/- Maps whose keys are whole numbers or strings: looked up, written, an entry's value changed. Conditions: the table of types is the program's. -/
import Derived.Test.YtlflalecmhgmjaaGreatDoorXAct4
import Derived.MapKept
import Derived.Carry
import Derived.OrdersIn
set_option linter.unusedVariables false
set_option linter.unusedSimpArgs false
namespace Go.X
open Go.MapKept
def hmap (h : Heap) (r : Nat) : Option (Array MapEntry × Nat) :=
 match h[r]? with
 | some (.map es c) => some (es, c)
 | _ => none
def hput (h : Heap) (r : Nat) (es : Array MapEntry) (c : Nat) : Heap := h.setIfInBounds r (.map es c)
theorem hmap_some {h : Heap} {r : Nat} {es : Array MapEntry} {c : Nat} (e : hmap h r = some (es, c)) : h[r]? = some (.map es c) := by
 unfold hmap at e
 split at e
 ·rename_i es' c' hb; simp only [Option.some.injEq, Prod.mk.injEq] at e; rw [hb, e.1, e.2]
 ·cases e
theorem hmap_of {h : Heap} {r : Nat} {es : Array MapEntry} {c : Nat} (e : h[r]? = some (.map es c)) : hmap h r = some (es, c) := by simp [hmap, e]
theorem hput_fr (h : Heap) (r : Nat) (es : Array MapEntry) (c : Nat) : Fr [r] h (hput h r es c) :=
 ⟨by simp [hput], fun b _ hb => by simp only [List.mem_singleton] at hb; simp [hput, Ne.symm hb]⟩
@[simp] theorem size_hput (h : Heap) (r : Nat) (es : Array MapEntry) (c : Nat) : (hput h r es c).size = h.size := by simp [hput]
def keyB (ti : TI) : Value -> Bool
 | .string _ => Nat.beq ti.tag 5
 | .int k _ => match ti.kids with
  | .int k' => decide (k = k')
  | _ => false
 | _ => false
theorem keyB_ok {P : Program} {t : Nat} {ti : TI} (ht : TyOK P t ti) {d : TypeDesc} (hd : P.underlying t = some d) {v : Value} (h : keyB ti v = true) : IsKey d v := by
 obtain ⟨d', i, z, q1, _, _, _, _, _, _, q2, q3⟩ := ht.ex
 rw [hd] at q1
 obtain rfl := Option.some.inj q1
 cases v <;> simp only [keyB, reduceCtorEq] at h
 ·rename_i k n
  split at h
  ·rename_i k' hk
   rw [hk] at q2
   have := of_decide_eq_true h
   subst this
   cases d <;> simp only [kidsOf, reduceCtorEq, Kids.int.injEq] at q2
   subst q2; rfl
  ·cases h
 ·have := Nat.eq_of_beq_eq_true h
  rw [this] at q3
  cases d <;> simp only [tag2, tagOf, Nat.reduceEqDiff, reduceCtorEq] at q3
  ·exact trivial
  ·split at q3
   ·split at q3 <;> simp at q3
   ·simp at q3
theorem key_some {P : Program} {t : Nat} {ti : TI} (ht : TyOK P t ti) : ∃ d, P.underlying t = some d := let ⟨d, _, _, q, _⟩ := ht.ex; ⟨d, q⟩
theorem kids_map {P : Program} {t k e : Nat} {ti : TI} (ht : TyOK P t ti) (hk : ti.kids = .map k e) : P.underlying t = some (.map k e) := by
 obtain ⟨d, i, z, q1, _, _, _, _, _, _, q2, _⟩ := ht.ex
 rw [hk] at q2
 cases d <;> simp only [kidsOf, reduceCtorEq, Kids.map.injEq] at q2
 rw [q1, q2.1, q2.2]
def zero1 (ti : TI) (K : Sh -> Value -> Prop) : Prop :=
 match ti.agg with
 | false => (match ti.zero with
  | [z] => (match ti.shs with
   | [sh] => K sh z
   | _ => False)
  | _ => False)
 | true => False
def tiStr : TI := ⟨[.str], false, 16, [.string ByteArray.empty], .none, 5⟩
def tiInt : TI := ⟨[.int .i64], false, 8, [.int .i64 0], .int .i64, 6⟩
def keysB (ti : TI) (es : Array MapEntry) : Prop := ∀ e ∈ es.toList, keyB ti e.key = true
def tMap (T : TAB) (t : Nat) (K : TI -> TI -> Prop) : Prop :=
 match tl T t with
 | some ti => (match ti.kids with
  | .map kt et => (match tl T kt with
   | some ki => (match tl T et with
    | some ei => K ki ei
    | none => False)
   | none => False)
  | _ => False)
 | none => False
def keyT (b : Bool) (K : Prop) : Prop :=
 match b with
 | true => K
 | false => False
def actM (T : TAB) (st : St) (h : Heap) (o : Oper) (K : St -> Heap -> Prop) : Prop :=
 match o.op with
 | .lookup t x i ok => tMap T t fun ki ei => (match evo st x with
  | some (.map q) => ∃ r, q = some r /\ (match evo st i with
   | some k => keyT (keyB ki k) (zero1 ei fun sh z => ∃ es c, hmap h r = some (es, c) /\ keysB ki es /\
    (∀ e ∈ es.toList, e.key = k -> sh.ex fun u => e.val = u /\ K (st.put o.dst (.val (match ok with
     | true => .tuple #[u, .bool true]
     | false => u))) h) /\
    ((∀ e ∈ es.toList, e.key ≠ k) -> K (st.put o.dst (.val (match ok with
     | true => .tuple #[z, .bool false]
     | false => z))) h))
   | none => False)
  | _ => False)
 | .mapUpdate t x i y => (match o.dst with
  | none => tMap T t fun ki _ => (match evo st x with
   | some (.map q) => ∃ r, q = some r /\ (match evo st i with
    | some k => (match evo st y with
     | some v => keyT (keyB ki k) (nin r (hid st.lc) (∃ es c, hmap h r = some (es, c) /\ keysB ki es /\
      (∀ (j : Nat) (e : MapEntry), es[j]? = some e -> e.key = k -> K st (hput h r (es.modify j fun e => { e with key := k, val := v }) c)) /\
      ((∀ e ∈ es.toList, e.key ≠ k) -> K st (hput h r (es.push ⟨k, v, c⟩) (c + 1)))))
     | none => False)
    | none => False)
   | _ => False)
  | some _ => False)
 | .mapEntry t x i => tMap T t fun ki ei => (match evo st x with
  | some (.map q) => ∃ r, q = some r /\ (match evo st i with
   | some k => keyT (keyB ki k) (zero1 ei fun sh z => nin r (hid st.lc) (∃ es c, hmap h r = some (es, c) /\ keysB ki es /\
    (∀ (j : Nat) (e : MapEntry), es[j]? = some e -> e.key = k -> sh.ex fun u => e.val = u /\ K (st.put o.dst (.val (.tuple #[u, .int .i64 (e.born : Int)]))) (hput h r (es.modify j fun e => { e with key := k }) c)) /\
    ((∀ e ∈ es.toList, e.key ≠ k) -> K (st.put o.dst (.val (.tuple #[z, .int .i64 (c : Int)]))) (hput h r (es.push ⟨k, z, c⟩) (c + 1)))))
   | none => False)
  | _ => False)
 | .entryStore _ x i y => (match o.dst with
  | none => (match evo st x with
   | some (.map q) => ∃ r, q = some r /\ (match evo st i with
    | some (.int _ n) => (match evo st y with
     | some v => nin r (hid st.lc) (∃ es c, hmap h r = some (es, c) /\ ∃ j, es.findIdx? (fun e => (e.born : Int) == n) = some j /\ K st (hput h r (es.modify j fun e => { e with val := v }) c))
     | none => False)
    | _ => False)
   | _ => False)
  | some _ => False)
 | _ => False
theorem tMap_elim {P : Program} {T : TAB} (hT : TabOK P T) {t : Nat} {K : TI -> TI -> Prop} (h : tMap T t K) : ∃ kt et ki ei, P.underlying t = some (.map kt et) /\ TyOK P kt ki /\ TyOK P et ei /\ K ki ei := by
 unfold tMap at h
 split at h
 ·rename_i ti h1
  split at h
  ·rename_i kt et h2
   split at h
   ·rename_i ki h3
    split at h
    ·rename_i ei h4
     exact ⟨kt, et, ki, ei, kids_map (hT.tl h1) h2, hT.tl h3, hT.tl h4, h⟩
    ·exact h.elim
   ·exact h.elim
  ·exact h.elim
 ·exact h.elim
theorem keyT_elim {b : Bool} {K : Prop} (h : keyT b K) : b = true /\ K := by
 cases b
 ·exact h.elim
 ·exact ⟨rfl, h⟩
theorem run_zero1 {P : Program} {t : Nat} {ti : TI} (ht : TyOK P t ti) {K : Sh -> Value -> Prop} (h : zero1 ti K) (w : World) : ∃ sh z, (zeroValue t).run P w = .ok z w /\ K sh z := by
 obtain ⟨d, i, z, q1, q2, _, _, q3, q4, q5, _, _⟩ := ht.ex
 unfold zero1 at h
 split at h
 ·rename_i ha
  split at h
  ·rename_i u hz
   split at h
   case h_2 => exact h.elim
   rename_i sh _
   have hrun : (zeroValue t).run P w = .ok z w := by simp [zeroValue, typeInfo, q2, q3]
   refine ⟨sh, z, hrun, ?_⟩
   rw [hz] at q4
   cases z with
   | agg cs => exact absurd rfl (ht.na i _ q2 q3 ha cs)
   | _ => simp only [Value.cells, List.cons.injEq, and_true] at q4; rw [q4]; exact h
  ·exact h.elim
 ·exact h.elim
section
variable {P : Program} {T : TAB} {ro : RO} {st : St} {a : Act} {w : World} {K : St -> Heap -> Prop} {o : Oper} {Q : Exit -> Act -> World -> Prop}
theorem find_key {kt : Nat} {ki : TI} {d : TypeDesc} (hk : TyOK P kt ki) (hd : P.underlying kt = some d) {k : Value} {es : Array MapEntry} (h1 : keyB ki k = true) (h2 : keysB ki es) :
  (Instr.findNow d k es.toList 0 = some none /\ ∀ x ∈ es.toList, x.key ≠ k) \/ ∃ j e, Instr.findNow d k es.toList 0 = some (some (j, e.val)) /\ es[j]? = some e /\ e.key = k := by
 rcases findNow_spec (keyB_ok hk hd h1) es.toList 0 (fun x hx => keyB_ok hk hd (h2 x hx)) with h | ⟨j, e, g1, g2, g3⟩
 ·exact .inl h
 ·exact .inr ⟨j, e, by rw [g1, Nat.zero_add], by simpa using g2, g3⟩
theorem unit_next {w' : World} (hdst : o.dst = none) (hr : (execOp a.eval o).run P w = .ok .skip w') (h : Nx ro st K a.tmps.size w (a.put none undef) w') : Goal P ro st o a w K Q := by
 unfold Goal Oper.wp
 rw [hr]
 rw [<- hdst] at h
 exact h
theorem put_map (r : Rel st a w) {b : Nat} {es es' : Array MapEntry} {c c' : Nat} (hni : b ∉ hid st.lc) : Rel st a { w with heap := hput w.heap b es' c' } /\ Rest w { w with heap := hput w.heap b es' c' } := by
 have hrest : Rest w { w with heap := hput w.heap b es' c' } := ⟨rfl, rfl, rfl, by simp⟩
 exact ⟨r.fr_later hrest (hput_fr w.heap b es' c') (fun x hx => by rintro hh; simp only [List.mem_singleton] at hh; subst hh; exact hni hx), hrest⟩
theorem actM_sound (hT : TabOK P T) (r : Rel st a w) (hd : dstOK ro a.tmps.size o.dst = true) (d : actM T st w.heap o K) : Goal P ro st o a w K Q := by
 unfold actM at d
 split at d
 ·rename_i t x i ok ho
  obtain ⟨kt, et, ki, ei, hm, hki, hei, d⟩ := tMap_elim hT d
  split at d
  ·rename_i q h1
   obtain ⟨b, rfl, d⟩ := d
   have e1 := evo_eval r.fr h1
   split at d
   ·rename_i k h2
    have e2 := evo_eval r.fr h2
    obtain ⟨hkb, d⟩ := keyT_elim d
    obtain ⟨sh, z, hz, es, c, hh, hks, d1, d2⟩ := run_zero1 hei d w
    have hb := hmap_some hh
    obtain ⟨dd, hdd⟩ := key_some hki
    rcases find_key hki hdd hkb hks with ⟨g1, g2⟩ | ⟨j, e, g1, g2, g3⟩
    ·refine goal_val (w' := w) ?_ (nx_put hd (Rest.refl w) r rfl (d2 g2))
     cases ok <;> simp [execOp, ho, e1, e2, Instr.lookup, run_underlying hm, MapKept.run_getObj_map hb, MapKept.run_checkKey hdd (keyB_ok hki hdd hkb), MapKept.run_findKey hdd g1, hz]
    ·obtain ⟨u, _, hu, hk⟩ := Sh.ex_elim (d1 e (by rw [Array.mem_toList_iff]; exact Array.mem_of_getElem? g2) g3)
     subst hu
     refine goal_val (w' := w) ?_ (nx_put hd (Rest.refl w) r rfl hk)
     cases ok <;> simp [execOp, ho, e1, e2, Instr.lookup, run_underlying hm, MapKept.run_getObj_map hb, MapKept.run_checkKey hdd (keyB_ok hki hdd hkb), MapKept.run_findKey hdd g1]
   ·exact d.elim
  ·exact d.elim
 ·rename_i t x i y ho
  split at d
  ·rename_i hdst
   obtain ⟨kt, et, ki, ei, hm, hki, hei, d⟩ := tMap_elim hT d
   split at d
   ·rename_i q h1
    obtain ⟨b, rfl, d⟩ := d
    have e1 := evo_eval r.fr h1
    split at d
    ·rename_i k h2
     have e2 := evo_eval r.fr h2
     split at d
     ·rename_i v h3
      have e3 := evo_eval r.fr h3
      obtain ⟨hkb, d⟩ := keyT_elim d
      obtain ⟨hni, es, c, hh, hks, d1, d2⟩ := nin_elim d
      have hb := hmap_some hh
      obtain ⟨dd, hdd⟩ := key_some hki
      have hkk := keyB_ok hki hdd hkb
      rcases find_key hki hdd hkb hks with ⟨g1, g2⟩ | ⟨j, e, g1, g2, g3⟩
      ·obtain ⟨p1, p2⟩ := put_map (es := es) (c := c) r hni (es' := es.push ⟨k, v, c⟩) (c' := c + 1)
       refine unit_next (w' := { w with heap := hput w.heap b (es.push ⟨k, v, c⟩) (c + 1) }) hdst ?_ ⟨st, p1, p2, rfl, Keep.refl _ _, d2 g2⟩
       simp [execOp, ho, e1, e2, e3, Instr.mapUpdate, run_underlying hm, MapKept.run_getObj_map hb, MapKept.run_checkKey hdd hkk, MapKept.run_findKey hdd g1, MapKept.run_setObj_map _ hb, hput]
      ·obtain ⟨p1, p2⟩ := put_map (es := es) (c := c) r hni (es' := es.modify j fun e => { e with key := k, val := v }) (c' := c)
       refine unit_next (w' := { w with heap := hput w.heap b (es.modify j fun e => { e with key := k, val := v }) c }) hdst ?_ ⟨st, p1, p2, rfl, Keep.refl _ _, d1 j e g2 g3⟩
       simp [execOp, ho, e1, e2, e3, Instr.mapUpdate, run_underlying hm, MapKept.run_getObj_map hb, MapKept.run_checkKey hdd hkk, MapKept.run_findKey hdd g1, g2, g3, MapKept.run_keyThatStays hkk, MapKept.run_setObj_map _ hb, hput]
     ·exact d.elim
    ·exact d.elim
   ·exact d.elim
  ·exact d.elim
 ·rename_i t x i ho
  obtain ⟨kt, et, ki, ei, hm, hki, hei, d⟩ := tMap_elim hT d
  split at d
  ·rename_i q h1
   obtain ⟨b, rfl, d⟩ := d
   have e1 := evo_eval r.fr h1
   split at d
   ·rename_i k h2
    have e2 := evo_eval r.fr h2
    obtain ⟨hkb, d⟩ := keyT_elim d
    obtain ⟨sh, z, hz, d⟩ := run_zero1 hei d w
    obtain ⟨hni, es, c, hh, hks, d1, d2⟩ := nin_elim d
    have hb := hmap_some hh
    obtain ⟨dd, hdd⟩ := key_some hki
    have hkk := keyB_ok hki hdd hkb
    rcases find_key hki hdd hkb hks with ⟨g1, g2⟩ | ⟨j, e, g1, g2, g3⟩
    ·obtain ⟨p1, p2⟩ := put_map (es := es) (c := c) r hni (es' := es.push ⟨k, z, c⟩) (c' := c + 1)
     refine goal_val (w' := { w with heap := hput w.heap b (es.push ⟨k, z, c⟩) (c + 1) }) ?_ (nx_put hd p2 p1 rfl (d2 g2))
     simp [execOp, ho, e1, e2, Instr.mapEntry, run_underlying hm, MapKept.run_getObj_map hb, MapKept.run_checkKey hdd hkk, MapKept.run_findKey hdd g1, hz, MapKept.run_setObj_map _ hb, hput, goInt]
    ·obtain ⟨p1, p2⟩ := put_map (es := es) (c := c) r hni (es' := es.modify j fun e => { e with key := k }) (c' := c)
     obtain ⟨u, _, hu, hk⟩ := Sh.ex_elim (d1 j e g2 g3)
     subst hu
     refine goal_val (w' := { w with heap := hput w.heap b (es.modify j fun e => { e with key := k }) c }) ?_ (nx_put hd p2 p1 rfl hk)
     simp [execOp, ho, e1, e2, Instr.mapEntry, run_underlying hm, MapKept.run_getObj_map hb, MapKept.run_checkKey hdd hkk, MapKept.run_findKey hdd g1, g2, g3, MapKept.run_keyThatStays hkk, MapKept.run_setObj_map _ hb, hput, goInt]
   ·exact d.elim
  ·exact d.elim
 ·rename_i t x i y ho
  split at d
  ·rename_i hdst
   split at d
   ·rename_i q h1
    obtain ⟨b, rfl, d⟩ := d
    have e1 := evo_eval r.fr h1
    split at d
    ·rename_i kk n h2
     have e2 := evo_eval r.fr h2
     split at d
     ·rename_i v h3
      have e3 := evo_eval r.fr h3
      obtain ⟨hni, es, c, hh, j, hj, d⟩ := nin_elim d
      have hb := hmap_some hh
      obtain ⟨p1, p2⟩ := put_map (es := es) (c := c) r hni (es' := es.modify j fun e => { e with val := v }) (c' := c)
      refine unit_next (w' := { w with heap := hput w.heap b (es.modify j fun e => { e with val := v }) c }) hdst ?_ ⟨st, p1, p2, rfl, Keep.refl _ _, d⟩
      simp [execOp, ho, e1, e2, e3, Instr.entryStore, MapKept.run_getObj_map hb, asInt, asIntOf, hj, MapKept.run_setObj_map _ hb, hput]
     ·exact d.elim
    ·exact d.elim
   ·exact d.elim
  ·exact d.elim
 ·exact d.elim
end
end Go.X
namespace Go.X
def CallsP (P : Program) (f : FuncId) (args : Array Value) (h : Heap) (R Rp : Value -> Heap -> Prop) : Prop :=
 ∀ w : World, w.heap = h -> Calls P f args w fun e w' => Rest w w' /\ ((∃ v, e = .returned v /\ R v w'.heap) \/ ∃ v, e = .panicked [{ v := v, recovered := false }] /\ Rp v w'.heap)
theorem CallsP.mono {P : Program} {f : FuncId} {args : Array Value} {h : Heap} {R Rp R' Rp' : Value -> Heap -> Prop} (c : CallsP P f args h R Rp) (k1 : ∀ v h', R v h' -> R' v h') (k2 : ∀ v h', Rp v h' -> Rp' v h') : CallsP P f args h R' Rp' :=
 fun w hw => (c w hw).mono fun _ _ ⟨e2, e3⟩ => ⟨e2, e3.imp (fun ⟨v, a, b⟩ => ⟨v, a, k1 _ _ b⟩) fun ⟨v, a, b⟩ => ⟨v, a, k2 _ _ b⟩⟩
def callP (P : Program) (f : FuncId) (args : Array Value) (h : Heap) (H : List Nat) (K E : Value -> Heap -> Prop) : Prop :=
 ∃ (M : List Nat) (R Rp : Value -> Heap -> Prop), CallsP P f args h (fun v h' => Fr M h h' /\ R v h') (fun v h' => Fr M h h' /\ Rp v h') /\ (∀ b ∈ H, b ∉ M) /\ (∀ v h', Fr M h h' -> R v h' -> K v h') /\ ∀ v h', Fr M h h' -> Rp v h' -> E v h'
def callV (P : Program) (F FP : List Nat) (pn : Option (Value -> Heap -> Prop)) (fn : Fn) (first captured : Array Value) (vs : List Value) (h : Heap) (H : List Nat) (K : Value -> Heap -> Prop) : Prop :=
 match fn with
 | .func g => (match mem FP g with
  | true => (match pn with
   | some E => callP P g (first.toList ++ (vs ++ captured.toList)).toArray h H K E
   | none => False)
  | false => (match mem F g with
   | true => callX P g (first.toList ++ (vs ++ captured.toList)).toArray h H K
   | false => callE P g (first.toList ++ (vs ++ captured.toList)).toArray fun v => K v h))
 | _ => False
def PQ (pn : Option (Value -> Heap -> Prop)) (w0 : World) (ch : List PanicEntry) (a : Act) (w : World) : Prop :=
 ∃ E v, pn = some E /\ ch = [{ v := v, recovered := false }] /\ a.defers = [] /\ Rest w0 w /\ E v w.heap
theorem PQ.back {pn : Option (Value -> Heap -> Prop)} {w0 w1 : World} {ch : List PanicEntry} {a : Act} {w : World} (h : PQ pn w1 ch a w) (r : Rest w0 w1) : PQ pn w0 ch a w :=
 let ⟨E, v, a1, a2, a3, a4, a5⟩ := h; ⟨E, v, a1, a2, a3, r.trans a4, a5⟩
def act2 (P : Program) (T : TAB) (F FP : List Nat) (pn : Option (Value -> Heap -> Prop)) (privs : List Nat) (ro : RO) (st : St) (h : Heap) (o : Oper) (K : St -> Heap -> Prop) : Prop :=
 match o.op with
 | .panic x => (match pn with
  | some E => (match evo st x with
   | some (.iface t v) => E (.iface t v) h
   | _ => False)
  | none => False)
 | .makeMap _ none => K (st.put o.dst (.val (.map (some h.size)))) (h.push (.map #[] 0))
 | .call c => (match c.callee with
  | .value f => (match ev st f with
   | some (.val (.func fn first captured)) => (match evos st c.args.toList with
    | some vs => callV P F FP pn fn first captured vs h (hid st.lc) fun v h' => exRes T o.type fun v' => v = v' /\ K (st.put o.dst (.val v')) h'
    | none => False)
   | _ => False)
  | _ => act P T F privs ro st h o K)
 | .lookup .. | .mapUpdate .. | .mapEntry .. | .entryStore .. => actM T st h o K
 | _ => act P T F privs ro st h o K
section
variable {P : Program} {T : TAB} {F FP : List Nat} {pn : Option (Value -> Heap -> Prop)} {privs : List Nat} {ro : RO} {st : St} {a : Act} {w : World} {K : St -> Heap -> Prop} {o : Oper} {Q : Exit -> Act -> World -> Prop}
theorem act2_panic {x : Operand} (hP : ∀ ch a' w', PQ pn w ch a' w' -> Q (.panic ch) a' w') (r : Rel st a w) (ho : o.op = .panic x) (d : act2 P T F FP pn privs ro st w.heap o K) : Goal P ro st o a w K Q := by
 unfold act2 at d
 simp only [ho] at d
 split at d
 ·rename_i E
  split at d
  ·rename_i t v h1
   have e1 := evo_eval r.fr h1
   unfold Goal Oper.wp
   have hrun : (execOp a.eval o).run P w = .halt (.panic (.iface t v)) w := by
    simp [execOp, ho, e1, Instr.panic]
   rw [hrun]
   exact hP _ _ _ ⟨E, _, rfl, rfl, r.df, Rest.refl w, d⟩
  ·exact d.elim
 ·exact d.elim
theorem act2_makeMap {t : TypeId} (r : Rel st a w) (hd : dstOK ro a.tmps.size o.dst = true) (ho : o.op = .makeMap t none) (d : act2 P T F FP pn privs ro st w.heap o K) : Goal P ro st o a w K Q := by
 unfold act2 at d
 simp only [ho] at d
 have hf : Fr [] w.heap (w.alloc (.map #[] 0)).heap := Fr.push _ _
 refine goal_val (v := .map (some w.heap.size)) (w' := w.alloc (.map #[] 0)) ?_ (nx_put (w := w) (w' := w.alloc (.map #[] 0)) hd (Rest.alloc _ _) (r.fr_later (Rest.alloc _ _) hf fun _ _ h => by cases h) (x := .val (.map (some w.heap.size))) rfl d)
 simp only [execOp, ho, Option.map_none]
 rw [bind_ok (show (Instr.makeMap t none).run P w = .ok (.map (some w.heap.size)) (w.alloc (.map #[] 0)) from rfl)]
 rfl
theorem act2_call {c : Call} (hT : TabOK P T) (hF : FnsOK P F) (hFP : FnsOK P FP) (hP : ∀ ch a' w', PQ pn w ch a' w' -> Q (.panic ch) a' w') (r : Rel st a w) (hd : dstOK ro a.tmps.size o.dst = true) (ho : o.op = .call c)
  (d : act2 P T F FP pn privs ro st w.heap o K) : Goal P ro st o a w K Q := by
 unfold act2 at d
 simp only [ho] at d
 split at d
 ·rename_i f hc
  split at d
  ·rename_i fn first captured h1
   have e1 := ev_val r.toL h1
   split at d
   ·rename_i vs h2
    have e2 := evos_map r.toL h2
    unfold callV at d
    split at d
    ·rename_i g
     have hres : (resolve a.eval c o.type).run P w = .ok { target := .fn (.func g) captured, args := first ++ vs.toArray } w := by
      simp [resolve, hc, e1, Deferred.ofValue, e2]
     have hargs : (first ++ vs.toArray) ++ captured = (first.toList ++ (vs ++ captured.toList)).toArray := by
      apply Array.ext'; simp
     have hrunG : ∀ {L : List Nat}, FnsOK P L -> mem L g = true -> (execOp a.eval o).run P w = .ok (.enter g (first.toList ++ (vs ++ captured.toList)).toArray) w := fun {L} hL hm => by
      have hcf := FnsOK.mem hL hm (first.toList ++ (vs ++ captured.toList)).toArray w
      simp only [execOp, ho]
      rw [bind_ok hres]
      simp only [invoke, hargs]
      exact hcf
     split at d
     ·rename_i hm
      split at d
      ·rename_i E
       obtain ⟨M, R, Rp, hcall, hH, hk, hkp⟩ := d
       unfold Goal Oper.wp
       rw [hrunG hFP hm]
       refine (hcall w rfl).mono ?_
       rintro e w' ⟨hrest, ⟨v, rfl, hfr, hR⟩ | ⟨v, rfl, hfr, hR⟩⟩
       ·obtain ⟨v', rfl, hK⟩ := exRes_elim (hk v w'.heap hfr hR)
        exact nx_put hd hrest (r.fr_later hrest hfr hH) (x := .val v) rfl hK
       ·exact hP _ _ _ ⟨E, v, rfl, rfl, r.df, hrest, hkp v w'.heap hfr hR⟩
      ·exact d.elim
     ·split at d
      ·rename_i hm
       obtain ⟨M, R, hcall, hH, hk⟩ := d
       unfold Goal Oper.wp
       rw [hrunG hF hm]
       refine (hcall w rfl).mono ?_
       rintro e w' ⟨v, rfl, hrest, hfr, hR⟩
       obtain ⟨v', rfl, hK⟩ := exRes_elim (hk v w'.heap hfr hR)
       exact nx_put hd hrest (r.fr_later hrest hfr hH) (x := .val v) rfl hK
      ·obtain ⟨R, hext, hk⟩ := d
       obtain ⟨v, w', hcf, hheap, hrest, hR⟩ := hext w
       obtain ⟨v', rfl, hK⟩ := exRes_elim (hk v hR)
       refine goal_val (v := v) (w' := w') ?_ (nx_put hd hrest (r.later hrest fun _ _ _ => by rw [hheap]) (x := .val v) rfl (by rw [hheap]; exact hK))
       simp only [execOp, ho]
       rw [bind_ok hres]
       simp only [invoke, hargs]
       exact hcf
    ·exact d.elim
   ·exact d.elim
  ·exact d.elim
 ·exact act_call hT hF r hd ho d
theorem act2_sound (hT : TabOK P T) (hF : FnsOK P F) (hFP : FnsOK P FP) (hP : ∀ ch a' w', PQ pn w ch a' w' -> Q (.panic ch) a' w') (r : Rel st a w) (hd : dstOK ro a.tmps.size o.dst = true) (d : act2 P T F FP pn privs ro st w.heap o K) : Goal P ro st o a w K Q := by
 cases ho : o.op
 case panic => exact act2_panic hP r ho d
 case call => exact act2_call hT hF hFP hP r hd ho d
 case makeMap t s =>
  cases s with
  | none => exact act2_makeMap r hd ho d
  | some _ => exact act_sound hT hF r hd (by unfold act2 at d; simpa only [ho] using d)
 case lookup | mapUpdate | mapEntry | entryStore => exact actM_sound hT r hd (by unfold act2 at d; simpa only [ho] using d)
 all_goals exact act_sound hT hF r hd (by unfold act2 at d; simpa only [ho] using d)
end
end Go.X
namespace Go.X
structure Env where
 P : Program
 T : TAB
 F : List Nat
 privs : List Nat
 n : Nat
 FP : List Nat := []
 pn : Option (Value -> Heap -> Prop) := none
def isAct (T : TAB) (op : Op) : Bool :=
 match op with
 | .box _ _ | .alloc _ | .buildSlice _ _ _ | .makeSlice _ _ _ | .store _ _ _ | .panic _ | .makeMap _ _ | .lookup .. | .mapUpdate .. | .mapEntry .. | .entryStore .. => true
 | .binOp op t _ _ _ => (match op with
  | .add | .sub | .mul | .quo => (match tl T t with
   | some ti => (match ti.kids with
    | .float _ => true
    | _ => false)
   | none => false)
  | _ => false)
 | .convert s t _ => (match tl T s with
  | some si => (match si.kids with
   | .float _ => (match tl T t with
    | some ti => (match ti.kids with
     | .int _ => true
     | _ => false)
    | none => false)
   | .slice _ => (match tl T t with
    | some ti => (match ti.kids with
     | .none => Nat.beq ti.tag 5
     | .slice _ => true
     | _ => false)
    | none => false)
   | .none => (match tl T t with
    | some ti => (match ti.kids with
     | .slice _ => true
     | _ => false)
    | none => false)
   | _ => false)
  | none => false)
 | .call c => (match c.callee with
  | .builtin .append => true
  | .value _ => true
  | _ => false)
 | _ => false
def cnd (c : Bool) (p q : Prop) : Prop := (c = true -> p) /\ (c = false -> q)
def splitB (x : AVal) (K : AVal -> Prop) : Prop :=
 match x with
 | .val (.bool c) => cnd c (K (.lit true)) (K (.lit false))
 | x => K x
theorem splitB_elim {x : AVal} {K : AVal -> Prop} (h : splitB x K) (lc : List Priv) : ∃ y, y.conc lc = x.conc lc /\ K y := by
 unfold splitB at h
 split at h
 ·rename_i c
  cases c
  ·exact ⟨.lit false, rfl, h.2 rfl⟩
  ·exact ⟨.lit true, rfl, h.1 rfl⟩
 ·exact ⟨_, rfl, h⟩
def isGuard (ops : List Oper) (i : Nat) : Bool :=
 match ops with
 | [] => false
 | o :: r => match o.guard with
  | some (j, _) => (match Nat.beq j i with
   | true => true
   | false => isGuard r i)
  | none => isGuard r i
def wantX (ops : List Oper) (st : St) (o : Oper) : Option Bool :=
 match o.guard with
 | none => some true
 | some (j, want) => match ops[j]? with
  | some oj => (match oj.dst with
   | some d => (match look st.fr d with
    | some (.lit b) => some (match b with
     | true => want
     | false => !want)
    | some (.val (.tuple _)) => some false
    | _ => none)
   | none => none)
  | none => none
theorem wantX_ok {ops : List Oper} {st : St} {o : Oper} {a : Act} {b : Bool} (hf : FrOK st a) (h : wantX ops st o = some b) : Region.wanted o (yielded ops.toArray a.tmps) = b := by
 unfold wantX at h
 unfold Region.wanted
 split at h
 ·rename_i hg; simp [hg] at h ⊢; exact h
 ·rename_i j want hg
  simp only [hg]
  split at h
  ·rename_i oj hj
   split at h
   ·rename_i d hd
    have hy : yielded ops.toArray a.tmps j = (match a.tmps[d]? with | some (.bool b) => some b | _ => none) := by
     unfold yielded
     simp [hj, hd]
     rfl
    rw [hy]
    split at h
    ·rename_i c hl
     obtain ⟨v, hv, ht⟩ := hf _ _ hl
     simp only [AVal.conc, Option.some.injEq] at hv
     rw [ht, <- hv]
     simp only [Option.some.injEq] at h
     rw [<- h]
     cases c <;> cases want <;> rfl
    ·rename_i hl
     obtain ⟨v, hv, ht⟩ := hf _ _ hl
     simp only [AVal.conc, Option.some.injEq] at hv
     rw [ht, <- hv]
     simp only [Option.some.injEq] at h
     rw [<- h]
     rfl
    ·cases h
   ·cases h
  ·cases h
def afterX (g : Bool) (dst : Option Nat) (st : St) (K : St -> Prop) : Prop :=
 match g with
 | false => K st
 | true => match dst with
  | some d => (match look st.fr d with
   | some x => splitB x fun x' => K (st.put dst x')
   | none => False)
  | none => False
theorem afterX_elim {g : Bool} {ro : RO} {n : Nat} {dst : Option Nat} {st : St} {K : St -> Prop} {a : Act} {w : World} (h : afterX g dst st K) (r : Rel st a w) (hok : dstOK ro n dst = true) :
  ∃ st', Rel st' a w /\ Keep ro st st' /\ K st' := by
 cases g with
 | false => exact ⟨st, r, Keep.refl _ _, h⟩
 | true =>
  simp only [afterX] at h
  split at h
  ·rename_i d
   split at h
   ·rename_i x hx
    obtain ⟨y, hy, hk⟩ := splitB_elim h st.lc
    refine ⟨st.put (some d) y, ⟨fun t z hz => ?_, r.pr, r.ap, r.df⟩, Keep.put hok y, hk⟩
    simp only [St.put, look] at hz
    cases hb : Nat.beq d t with
    | true =>
     simp only [hb, Option.some.injEq] at hz
     have := Nat.eq_of_beq_eq_true hb
     subst this
     subst hz
     obtain ⟨v, h1, h2⟩ := r.fr _ _ hx
     exact ⟨v, hy.trans h1, h2⟩
    | false => simp only [hb] at hz; exact r.fr t z hz
   ·exact h.elim
  ·exact h.elim
def stepX (E : Env) (ro : RO) (ops : List Oper) (i : Nat) (o : Oper) (st : St) (h : Heap) (K : St -> Heap -> Prop) : Prop :=
 match dstOK ro E.n o.dst with
 | false => False
 | true => match wantX ops st o with
  | some true => (match isAct E.T o.op with
   | true => act2 E.P E.T E.F E.FP E.pn E.privs ro st h o fun st' h' => afterX (isGuard ops i) o.dst st' fun st'' => K st'' h'
   | false => det E.T st.lc none st h o.op fun x => afterX (isGuard ops i) o.dst (st.put o.dst x) fun st'' => K st'' h)
  | some false => K (st.put o.dst (.val undef)) h
  | none => False
structure Env.OK (E : Env) : Prop where
 T : TabOK E.P E.T
 F : FnsOK E.P E.F
 FP : FnsOK E.P E.FP
 m : E.P.follows .mixedOrders = true
theorem stepX_sound {E : Env} (hE : E.OK) {ro : RO} {ops : List Oper} {i : Nat} {o : Oper} {st : St} {K : St -> Heap -> Prop} {a : Act} {w : World} {Q : Exit -> Act -> World -> Prop}
  (hP : ∀ ch a' w', PQ E.pn w ch a' w' -> Q (.panic ch) a' w') (d : stepX E ro ops i o st w.heap K) (r : Rel st a w) (hn : a.tmps.size = E.n) :
  if Region.wanted o (yielded ops.toArray a.tmps) then o.wp E.P a w (Nx ro st K a.tmps.size w) Q else Nx ro st K a.tmps.size w (a.put o.dst undef) w := by
 unfold stepX at d
 split at d
 ·exact d.elim
 ·rename_i hok
  have hok' : dstOK ro a.tmps.size o.dst = true := by rw [hn]; exact hok
  split at d
  ·rename_i hw
   rw [if_pos (wantX_ok r.fr hw)]
   split at d
   ·refine Oper.wp_mono (fun a' w' => ?_) (act2_sound hE.T hE.F hE.FP hP r hok' d)
    rintro ⟨st', r', h1, h2, h3, h4⟩
    obtain ⟨st'', r'', k1, k2⟩ := afterX_elim h4 r' (h2 ▸ hok')
    exact ⟨st'', r'', h1, h2, h3.trans k1, k2⟩
   ·obtain ⟨x, v, hc, hrun, hk⟩ := det_sound hE.T r.toL (Fr.refl _ _) d
    have hr' := r.put (dstOK_lt hok') hc
    obtain ⟨st'', r'', k1, k2⟩ := afterX_elim hk hr' (show dstOK ro (a.put o.dst v).tmps.size o.dst = true by rw [size_put]; exact hok')
    unfold Oper.wp
    rw [hrun]
    exact ⟨st'', r'', Rest.refl w, size_put _ _ _, (Keep.put hok' x).trans k1, k2⟩
  ·rename_i hw
   rw [if_neg (by rw [wantX_ok r.fr hw]; simp)]
   exact ⟨_, r.put (dstOK_lt hok') rfl, Rest.refl w, size_put _ _ _, Keep.put hok' _, d⟩
  ·exact d.elim
def XR (E : Env) (ro : RO) (ops : List Oper) : List Oper -> Nat -> St -> Heap -> (St -> Heap -> Prop) -> Prop
 | [], _, st, h, K => K st h
 | o :: r, i, st, h, K => stepX E ro ops i o st h fun st' h' => XR E ro ops r (i + 1) st' h' K
theorem XR_sound {E : Env} (hE : E.OK) {ro : RO} {ops : List Oper} {K : St -> Heap -> Prop} {Q : Exit -> Act -> World -> Prop} {s0 : St} {w0 : World}
  (hQ : ∀ a w, Nx ro s0 K E.n w0 a w -> Q .normal a w) (hP : ∀ ch a' w', PQ E.pn w0 ch a' w' -> Q (.panic ch) a' w') :
  ∀ (l : List Oper) (i : Nat) (st : St) (a : Act) (w : World), XR E ro ops l i st w.heap K -> Rel st a w -> a.tmps.size = E.n -> Rest w0 w -> Keep ro s0 st -> wpList E.P ops.toArray Q l a w
 | [], _, st, a, w, d, r, hn, hr, hk => hQ a w ⟨st, r, hr, hn, hk, d⟩
 | o :: l, i, st, a, w, d, r, hn, hr, hk => by
  have h := stepX_sound hE (Q := Q) (fun ch a' w' q => hP ch a' w' (q.back hr)) d r hn
  have hnext : ∀ a' w', Nx ro st (fun st' h' => XR E ro ops l (i + 1) st' h' K) a.tmps.size w a' w' -> wpList E.P ops.toArray Q l a' w' := by
   rintro a' w' ⟨st', r', h1, h2, h3, h4⟩
   exact XR_sound hE hQ hP l (i + 1) st' a' w' h4 r' (h2.trans hn) (hr.trans h1) (hk.trans h3)
  unfold wpList
  split
  ·rename_i hw
   rw [if_pos hw] at h
   exact .inl (Oper.wp_mono hnext h)
  ·rename_i hw
   rw [if_neg hw] at h
   exact hnext _ _ h
end Go.X
