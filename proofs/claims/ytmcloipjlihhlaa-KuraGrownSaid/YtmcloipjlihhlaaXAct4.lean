/- 'act' is sound. Conditions: the table of types is the program's; the called functions have bodies; the slots written are slots of the frame. -/
import Derived.Test.YtmcloipjlihhlaaXAct3
namespace Go.X
section
variable {P : Program} {T : TAB} {F : List Nat} {privs : List Nat} {ro : RO} {st : St} {a : Act} {w : World} {K : St → Heap → Prop} {o : Oper} {Q : Exit → Act → World → Prop}

abbrev Goal (P : Program) (ro : RO) (st : St) (o : Oper) (a : Act) (w : World) (K : St → Heap → Prop) (Q : Exit → Act → World → Prop) : Prop := o.wp P a w (Nx ro st K a.tmps.size w) Q
theorem goal_val {v : Value} {w' : World} (hr : (execOp a.eval o).run P w = .ok (.value v) w') (h : Nx ro st K a.tmps.size w (a.put o.dst v) w') : Goal P ro st o a w K Q := by
  unfold Goal Oper.wp
  rw [hr]
  exact h
theorem nx_put {w' : World} (hd : dstOK ro a.tmps.size o.dst = true) (hw : Rest w w') (hp : Rel st a w') {x : AVal} {v : Value} (hx : x.conc st.lc = some v)
    (hk : K (st.put o.dst x) w'.heap) : Nx ro st K a.tmps.size w (a.put o.dst v) w' :=
  ⟨_, hp.put (dstOK_lt hd) hx, hw, size_put _ _ _, Keep.put hd _, hk⟩
theorem act_box {e : Nat} {x : Operand} (r : Rel st a w) (hd : dstOK ro a.tmps.size o.dst = true) (ho : o.op = .box e x) (d : act P T F privs ro st w.heap o K) : Goal P ro st o a w K Q := by
  unfold act at d
  simp only [ho] at d
  split at d
  · rename_i v h1
    have e1 := evo_eval r.fr h1
    have hc : v.cells = (vcells v).toArray := by rw [← vcells_eq]
    refine goal_val (v := .pointer (some ⟨w.heap.size, 0, none⟩)) (w' := w.alloc (.cells (vcells v).toArray e)) ?_ (newBlk_next d r hd rfl (fun d l => by simp [AVal.conc, plook]))
    simp [execOp, ho, e1, Instr.box, newVar, newRow, hc]
  · exact d.elim
theorem act_alloc {e : Nat} (hT : TabOK P T) (r : Rel st a w) (hd : dstOK ro a.tmps.size o.dst = true) (ho : o.op = .alloc e) (d : act P T F privs ro st w.heap o K) : Goal P ro st o a w K Q := by
  unfold act at d
  simp only [ho] at d
  split at d
  · rename_i ti h1
    obtain ⟨z, hz, hzc⟩ := run_zeroValue (hT.tl h1) w
    refine goal_val (v := .pointer (some ⟨w.heap.size, 0, none⟩)) (w' := w.alloc (.cells ti.zero.toArray e)) ?_ (newBlk_next d r hd rfl (fun d l => by simp [AVal.conc, plook]))
    simp [execOp, ho, Instr.alloc, newVar, newRow, hz, hzc]
  · exact d.elim
theorem zrep_eq (zero : List Value) (n : Nat) (hz : 0 < zero.length ∨ n = 0) : ((Array.range n).map (zero.toArray[· % zero.toArray.size]!)) = (zrep zero n).toArray := by
  apply Array.ext'
  simp only [Array.toList_map, Array.toList_range, zrep, List.size_toArray]
  apply List.map_congr_left
  intro i hi
  have hi' := List.mem_range.1 hi
  have hlt : i % zero.length < zero.length := Nat.mod_lt _ (by omega)
  simp [hlt, List.getD]
theorem run_buildSlice {t e len : Nat} {ei : TI} {parts : Array (Nat × Value)} {cells : List Value} (hu : P.underlying t = some (.slice e)) (he : TyOK P e ei) (hle : len * ei.shs.length ≤ 16777216)
    (hf : fillL (fun i => some (i * ei.shs.length, ei.shs.length)) (zrep ei.zero (len * ei.shs.length)) parts.toList = some cells) :
    (Instr.buildSlice t len parts).run P w = .ok (.slice (some ⟨w.heap.size, 0, none⟩) len len) (w.alloc (.cells cells.toArray e)) := by
  have hf := fill_of hf
  have hle' : ¬ (len * ei.shs.length > 2 ^ 24) := by omega
  obtain ⟨z, hz, hzc⟩ := run_zeroValue he w
  unfold Instr.buildSlice
  rw [bind_ok (run_underlying hu w)]
  simp only []
  rw [bind_ok (run_sizeOf he w)]
  rw [if_neg hle']
  by_cases hn : len * ei.shs.length = 0
  · rw [if_pos hn, bind_ok (v := #[]) (by rfl)]
    have hrep : (Array.range (len * ei.shs.length)).map ((#[] : Array Value)[· % (#[] : Array Value).size]!) = (zrep ei.zero (len * ei.shs.length)).toArray := by
      rw [hn]; simp [zrep]
    rw [hrep, hf]
    simp [newRow]
  · have hrep := zrep_eq ei.zero (len * ei.shs.length) (.inl (by rw [he.zl]; exact Nat.pos_of_ne_zero fun h0 => hn (by simp [h0])))
    rw [if_neg hn, bind_ok hz, bind_ok (v := z.cells) (by rfl), hzc, hrep, hf]
    simp [newRow]
theorem act_buildSlice {t len : Nat} {parts : Array (Nat × Operand)} (hT : TabOK P T) (r : Rel st a w) (hd : dstOK ro a.tmps.size o.dst = true) (ho : o.op = .buildSlice t len parts)
    (d : act P T F privs ro st w.heap o K) : Goal P ro st o a w K Q := by
  unfold act at d
  simp only [ho] at d
  split at d
  · rename_i ti h1
    split at d
    · rename_i e hk
      have hu := kids_slice (hT.tl h1) hk
      split at d
      · rename_i ei h3
        have he := hT.tl h3
        split at d
        · rename_i ps h4
          have hps := evps_eval r.fr h4
          split at d
          · rename_i hb
            have hle := Nat.le_of_ble_eq_true hb
            split at d
            · rename_i cells h5
              have hps' : (parts.map fun x => (x.1, a.eval x.2)).toList = ps := by rw [Array.toList_map]; exact hps
              have hrun := run_buildSlice (P := P) (w := w) (parts := parts.map fun x => (x.1, a.eval x.2)) hu he hle (by rw [hps']; exact h5)
              refine goal_val (v := .slice (some ⟨w.heap.size, 0, none⟩) len len) (w' := w.alloc (.cells cells.toArray e)) ?_ (newBlk_next d r hd rfl (fun d l => by simp [AVal.conc, plook]))
              simp only [execOp, ho]
              rw [bind_ok hrun]
              rfl
            · exact d.elim
          · exact d.elim
        · exact d.elim
      · exact d.elim
    · exact d.elim
  · exact d.elim
theorem act_makeSlice {t : Nat} {l c : Operand} (hT : TabOK P T) (r : Rel st a w) (hd : dstOK ro a.tmps.size o.dst = true) (ho : o.op = .makeSlice t l c)
    (d : act P T F privs ro st w.heap o K) : Goal P ro st o a w K Q := by
  unfold act at d
  simp only [ho] at d
  split at d
  · rename_i ti h1
    split at d
    · rename_i e hk
      have hu := kids_slice (hT.tl h1) hk
      split at d
      · rename_i ei h3
        have he := hT.tl h3
        split at d
        · rename_i kn n h4
          split at d
          · rename_i km m h5
            obtain ⟨d0, d1, d2, d3, d⟩ := d
            obtain ⟨dd, i, z, q1, q2, q3, q4, q5, q6, q7, q8, q9⟩ := he.ex
            have hrun := run_make (P := P) w t e i z hu q2 q5 kn km n m d0 d1 (by rw [q4]; exact d2) d3
            have hz : z.cells = ei.zero.toArray := by rw [← q6]
            rw [q3, hz] at hrun
            have hf : Fr [] w.heap (w.alloc (.cells (madeCells ei.zero.toArray (m.toNat * ei.shs.length)) e)).heap := Fr.push _ _
            refine goal_val (v := .slice (some ⟨w.heap.size, 0, none⟩) n.toNat m.toNat) (w' := w.alloc (.cells (madeCells ei.zero.toArray (m.toNat * ei.shs.length)) e)) ?_ (nx_put (w := w) (w' := w.alloc (.cells (madeCells ei.zero.toArray (m.toNat * ei.shs.length)) e)) hd ⟨rfl, rfl, rfl⟩ (r.fr_later (M := []) hf (fun _ _ => by simp)) (x := .sl w.heap.size 0 n.toNat m.toNat) rfl d)
            simp only [execOp, ho, ev_val r.toL h4, ev_val r.toL h5]
            rw [bind_ok hrun]
            rfl
          · exact d.elim
        · exact d.elim
      · exact d.elim
    · exact d.elim
  · exact d.elim
theorem plook_pset {l : List Priv} {s : Nat} {p : Priv} {cs : List Value} (h : plook l s = some p) (t : Nat) :
    plook (pset l s cs) t = if t = s then some ⟨p.slot, p.blk, p.elem, cs⟩ else plook l t := by
  induction l with
  | nil => simp [plook] at h
  | cons q r ih =>
    simp only [plook] at h
    simp only [pset]
    cases hk : Nat.beq q.slot s with
    | true =>
      have hk' := Nat.eq_of_beq_eq_true hk
      simp only [hk, Option.some.injEq] at h
      subst h
      simp only [plook]
      by_cases hts : t = s
      · subst hts; simp [hk]
      · have : Nat.beq q.slot t = false := by rw [← Bool.not_eq_true]; intro hh; exact hts ((Nat.eq_of_beq_eq_true hh).symm.trans hk')
        simp [this, hts]
    | false =>
      simp only [hk] at h
      simp only [plook]
      cases hkt : Nat.beq q.slot t with
      | true =>
        have : t ≠ s := fun e => by subst e; rw [hk] at hkt; cases hkt
        simp [this]
      | false => simp only [ih h]
theorem act_store {t : Nat} {x y : Operand} (hT : TabOK P T) (r : Rel st a w) (ho : o.op = .store t x y)
    (d : act P T F privs ro st w.heap o K) : Goal P ro st o a w K Q := by
  unfold act at d
  simp only [ho] at d
  split at d
  · rename_i hdst
    split at d
    · rename_i ti h1
      have ht := hT.tl h1
      split at d
      · rename_i v h2
        have e2 := evo_eval r.fr h2
        split at d
        · rename_i hb
          have hlen := Nat.eq_of_beq_eq_true hb
          have hcs : v.cells.size = ti.shs.length := by rw [← hlen, ← vcells_eq]; simp
          split at d
          · rename_i ya h3
            obtain ⟨u, hcu, hu⟩ := ev_eval r.fr h3
            have run : ∀ b off, (∀ v' ∈ vcells v, v'.oneCell' = true) → (∀ j, j < (vcells v).length → (∃ u, hcell w.heap b (off + j) = some u) ∧ hfree w.heap b (off + j) = true) →
                u = .pointer (some ⟨b, off, none⟩) → ∃ w', (execOp a.eval o).run P w = .ok .skip w' ∧ w'.heap = hsets w.heap b off (vcells v) ∧ Rest w w' := by
              intro b off g1 g2 hub
              obtain ⟨w', f1, f2, f3⟩ := run_storeCells_h (P := P) b off (vcells v) 0 w g1 (by simpa using g2)
              refine ⟨w', ?_, by simpa using f2, f3⟩
              simp [execOp, ho, hu, hub, e2, Instr.storeAt, Instr.sureAddr, storeVar, run_sizeOf ht, hcs, vcells_eq, f1]
            have fin : ∀ w', (execOp a.eval o).run P w = .ok .skip w' → Nx ro st K a.tmps.size w (a.put o.dst undef) w' → Goal P ro st o a w K Q := by
              intro w' hr hn
              unfold Goal Oper.wp
              rw [hr]
              exact hn
            rcases deref_elim d hcu with ⟨b, off, hub, _, hk⟩ | ⟨s, off, p, hp, rfl, hub, hk⟩
            · obtain ⟨hni, hk⟩ := nin_elim hk
              obtain ⟨g1, g2, hk⟩ := stW_elim hk
              obtain ⟨w', f1, f2, f3⟩ := run b off g1 g2 hub
              refine fin w' f1 ?_
              have hf : Fr [b] w.heap w'.heap := by rw [f2]; exact hsets_fr b _ off _
              rw [hdst]
              exact ⟨st, r.fr_later hf (fun x hx => by rintro hh; simp at hh; subst hh; exact hni hx), f3, rfl, Keep.refl _ _, by rw [f2]; exact hk⟩
            · simp only [hp] at hk
              split at hk
              · rename_i hle0
                simp only [Bool.and_eq_true, Bool.not_eq_true'] at hle0
                obtain ⟨hle, hnp⟩ := hle0
                have hle' := Nat.le_of_ble_eq_true hle
                obtain ⟨g1, hk⟩ := stP_elim hk
                have hblk := r.pr s p hp
                obtain ⟨w', f1, f2, f3⟩ := run p.blk off g1 (fun j hj => ⟨⟨p.cells[off + j]'(by omega), by rw [hcell_of hblk]; simp⟩, hfree_of hblk _⟩) hub
                refine fin w' f1 ?_
                rw [hdst]
                have hf : Fr [p.blk] w.heap w'.heap := by rw [f2]; exact hsets_fr _ _ off _
                refine ⟨⟨st.fr, pset st.lc s (put1 p.cells off (vcells v))⟩, ⟨fun t' x' hx' => ?_, fun s' p' hp' => ?_, fun s1 s2 p1 p2 hp1 hp2 hne => ?_, r.df⟩, f3, rfl, ⟨fun _ _ => rfl, fun s' hs' => ?_, fun s' _ => ?_⟩, by rw [f2]; exact hk⟩
                · obtain ⟨u', k1, k2⟩ := r.fr t' x' hx'
                  refine ⟨u', ?_, k2⟩
                  rw [← k1]
                  cases x' <;> simp only [AVal.conc] <;> rename_i s' o' <;> simp only [plook_pset hp] <;> by_cases hs' : s' = s <;> simp [hs', hp]
                · simp only [plook_pset hp] at hp'
                  by_cases hs' : s' = s
                  · simp only [hs', if_true, Option.some.injEq] at hp'
                    subst hp'
                    rw [f2]
                    exact hsets_blk (vcells v) off w.heap p.cells hblk
                  · simp only [hs', if_false] at hp'
                    rw [hf.blk p'.blk (Array.getElem?_eq_some_iff.1 (r.pr s' p' hp')).1 (by simpa using r.ap s' s p' p hp' hp hs')]
                    exact r.pr s' p' hp'
                · simp only [plook_pset hp] at hp1 hp2
                  by_cases e1 : s1 = s
                  · have e2 : s2 ≠ s := fun e => hne (e1.trans e.symm)
                    simp only [e1, e2, if_true, if_false, Option.some.injEq] at hp1 hp2
                    subst hp1
                    exact r.ap s s2 p p2 hp hp2 (fun e => e2 e.symm)
                  · by_cases e2 : s2 = s
                    · simp only [e1, e2, if_true, if_false, Option.some.injEq] at hp1 hp2
                      subst hp2
                      exact r.ap s1 s p1 p hp1 hp e1
                    · simp only [e1, e2, if_false] at hp1 hp2
                      exact r.ap s1 s2 p1 p2 hp1 hp2 hne
                · have hss : s' ≠ s := fun e => by subst e; rw [hnp] at hs'; cases hs'
                  simp [plook_pset hp, hss]
                · by_cases hss : s' = s <;> simp [plook_pset hp, hss, hp, Priv.place]
              · exact hk.elim
          · exact d.elim
        · exact d.elim
      · exact d.elim
    · exact d.elim
  · exact d.elim
theorem act_float {op : BinOp} {t u : Nat} {x y : Operand} (r : Rel st a w) (hd : dstOK ro a.tmps.size o.dst = true) (ho : o.op = .binOp op t x y u)
    (d : act P T F privs ro st w.heap o K) : Goal P ro st o a w K Q := by
  unfold act at d
  simp only [ho] at d
  split at d
  · rename_i k xa h1
    split at d
    · rename_i k' ya h2
      have h0 := fkindEq_elim d
      clear d
      obtain ⟨he, d⟩ := h0
      subst he
      have fin : ∀ (res : Option Nat), (∀ r, FRes k xa ya res r → K (st.put o.dst (.val (.float k r))) w.heap) →
          (binOp op t (.float k xa) (.float k ya)).run P w = (match res with | some r => .ok (.float k r) w | none => ((choose (.nanBits k xa ya)).run P w).andThen fun n w' => .ok (.float k n) w') → Goal P ro st o a w K Q := by
        intro res hk hrun
        cases res with
        | some s =>
          refine goal_val (v := .float k s) (w' := w) ?_ (nx_put hd (Rest.refl w) r (x := .val (.float k s)) rfl (hk s rfl))
          simp only [execOp, ho, ev_val r.toL h1, ev_val r.toL h2, guard_run op t x y (.float k xa) (.float k ya) trivial]
          simp [hrun]
        | none =>
          have hf : (Question.nanBits k xa ya).forced = false := by cases k <;> rfl
          refine goal_val (v := .float k ((Question.nanBits k xa ya).cut (w.tape w.drawn (.nanBits k xa ya)))) (w' := w.drew) ?_
            (nx_put (w := w) (w' := w.drew) hd ⟨rfl, rfl, rfl⟩ (r.later fun _ _ _ => rfl) (x := .val (.float k ((Question.nanBits k xa ya).cut (w.tape w.drawn (.nanBits k xa ya))))) rfl (hk _ ⟨_, rfl⟩))
          simp only [execOp, ho, ev_val r.toL h1, ev_val r.toL h2, guard_run op t x y (.float k xa) (.float k ya) trivial]
          simp [hrun, hf]
      cases op <;> simp only [farith] at d <;> try exact d.elim
      · refine fin _ d ?_
        simp only [binOp, Op.floatArith]
        cases k.format.add xa ya <;> simp
      · refine fin _ d ?_
        simp only [binOp, Op.floatArith]
        cases k.format.sub xa ya <;> simp
      · refine fin _ d ?_
        simp only [binOp, Op.floatArith]
        cases k.format.mul xa ya <;> simp
      · refine fin _ d ?_
        simp only [binOp, Op.floatArith]
        cases k.format.div xa ya <;> simp
    · exact d.elim
  · exact d.elim
theorem act_convert {s t : Nat} {x : Operand} (hT : TabOK P T) (r : Rel st a w) (hd : dstOK ro a.tmps.size o.dst = true) (ho : o.op = .convert s t x)
    (d : act P T F privs ro st w.heap o K) : Goal P ro st o a w K Q := by
  unfold act at d
  simp only [ho] at d
  split at d
  · rename_i si h0
    obtain ⟨ds, _, _, hds, _⟩ := (hT.tl h0).ex
    split at d
    · rename_i ti h1
      obtain ⟨dd, i, z, q1, q2, q3, q4, q5, q6, q7, q8, q9⟩ := (hT.tl h1).ex
      split at d
      · rename_i k hk
        rw [hk] at q8
        have hdd : dd = .int k := by cases dd <;> simp [kidsOf] at q8; rw [q8]
        subst hdd
        split at d
        · rename_i f b h2
          have e1 := ev_val r.toL h2
          have hf : (Question.floatToInt f b k).forced = false := rfl
          have hconv : (convert s t (.float f b)).run P w = (Conv.floatToInt f b k).run P w := by
            simp [convert, run_underlying hds, run_underlying q1]
          have any : ∀ n : Int, n = k.wrap ((Question.floatToInt f b k).cut (w.tape w.drawn (.floatToInt f b k)) : Nat) → F2I f b k n →
              (Conv.floatToInt f b k).run P w = .ok (.int k n) w.drew → Goal P ro st o a w K Q := by
            intro n _ hn hr
            refine goal_val (v := .int k n) (w' := w.drew) ?_ (nx_put (w := w) (w' := w.drew) hd ⟨rfl, rfl, rfl⟩ (r.later fun _ _ _ => rfl) (x := .val (.int k n)) rfl (d n hn))
            simp only [execOp, ho, e1]
            rw [bind_ok (hconv.trans hr)]
            rfl
          cases hm : (f.decode b).toInt .zero with
          | none =>
            refine any _ rfl (.inr ⟨by simp [hm], _, rfl⟩) ?_
            simp [Conv.floatToInt, hm, hf]
          | some m =>
            by_cases hr : k.min ≤ m ∧ m ≤ k.max
            · refine goal_val (v := .int k m) (w' := w) ?_ (nx_put hd (Rest.refl w) r (x := .val (.int k m)) rfl (d m (.inl ⟨m, hm, hr.1, hr.2, rfl⟩)))
              simp only [execOp, ho, e1]
              rw [bind_ok (hconv.trans (by simp only [Conv.floatToInt, hm]; rw [if_pos hr]; rfl))]
              rfl
            · refine any _ rfl (.inr ⟨fun m' hm' => by rw [hm] at hm'; cases hm'; exact hr, _, rfl⟩) ?_
              simp only [Conv.floatToInt, hm]
              rw [if_neg hr]
              simp [hf]
        · exact d.elim
      · exact d.elim
    · exact d.elim
  · exact d.elim
theorem single {α : Type} {l : Array α} {x : α} (h : l.toList = [x]) : l = #[x] := by apply Array.ext'; simpa using h
theorem pair {α : Type} {l : Array α} {x y : α} (h : l.toList = [x, y]) : l = #[x, y] := by apply Array.ext'; simpa using h
theorem appX_goal {c : Call} {t e : Nat} {ei : TI} {s x : Operand} (r : Rel st a w) (hd : dstOK ro a.tmps.size o.dst = true) (ho : o.op = .call c) (hc : c.callee = .builtin .append)
    (hargs : c.args.toList = [s, x]) (hts : c.argTypes.toList = [t, t]) (hu : P.underlying t = some (.slice e)) (he : TyOK P e ei) {sa xa : Option Addr} {n cc m xc : Nat}
    (hs : a.eval s = .slice sa n cc) (hx : a.eval x = .slice xa m xc) {xs : List Value} (hr : Reads w.heap ei.shs.length xa m xs) (hxc : xa = none → xc = 0) (h1 : ∀ v ∈ xs, v.oneCell' = true)
    (d : appX e ei w.heap (hid st.lc) sa n cc m xs fun v h' => K (st.put o.dst v) h') : Goal P ro st o a w K Q := by
  obtain ⟨old, hown, hH, hb, hm, hk⟩ := d
  obtain ⟨a', c', w', hrun, hown', hfr, hrest, hfresh, hgrow⟩ := append_run (P := P) (t := t) (ty := o.type) hu he w hown hr hxc h1 hb hm
  refine goal_val (v := .slice a' (n + m) c') (w' := w') ?_ (nx_put hd hrest (r.fr_later hfr hH) (x := .val (.slice a' (n + m) c')) rfl (hk a' c' w'.heap hown' hfr hfresh hgrow))
  simp [execOp, ho, resolve, hc, pair hargs, pair hts, hs, hx, invoke, builtin, hrun]
theorem act_call {c : Call} (hT : TabOK P T) (hF : FnsOK P F) (r : Rel st a w) (hd : dstOK ro a.tmps.size o.dst = true) (ho : o.op = .call c)
    (d : act P T F privs ro st w.heap o K) : Goal P ro st o a w K Q := by
  unfold act at d
  simp only [ho] at d
  split at d
  · rename_i hc
    split at d
    · rename_i s x hargs
      split at d
      · rename_i t t' hts
        split at d
        · rename_i htt
          have := Nat.eq_of_beq_eq_true htt
          subst this
          split at d
          · rename_i ti h1
            split at d
            · rename_i e hk
              have hu := kids_slice (hT.tl h1) hk
              split at d
              · rename_i ei h3
                have he := hT.tl h3
                split at d
                · rename_i ys h4
                  obtain ⟨vs, hcs, hvs⟩ := ev_eval r.fr h4
                  obtain ⟨sa, n, cc, rfl, d⟩ := asSlice_elim d hcs
                  split at d
                  · rename_i q m h5
                    obtain ⟨vx, hcx, hvx⟩ := ev_eval r.fr h5
                    split at d
                    · rename_i p hp
                      split at d
                      · rename_i hl
                        have hl' := Nat.eq_of_beq_eq_true hl
                        obtain ⟨g1, d⟩ := stP_elim d
                        simp only [AVal.conc, hp, Option.map_some, Option.some.injEq] at hcx
                        refine appX_goal r hd ho hc hargs hts hu he hvs (hvx.trans hcx.symm) ⟨hl', .inr ⟨p.blk, 0, rfl, fun j v hv => ?_⟩⟩ (fun h => by cases h) g1 d
                        rw [hcell_of (r.pr q p hp)]
                        simpa using hv
                      · exact d.elim
                    · exact d.elim
                  · rename_i yx _ h5
                    obtain ⟨vx, hcx, hvx⟩ := ev_eval r.fr h5
                    obtain ⟨xa, m, xc, rfl, xs, hr, hxc, g1, d⟩ := asSlice_elim d hcx
                    exact appX_goal r hd ho hc hargs hts hu he hvs hvx hr hxc g1 d
                  · exact d.elim
                · exact d.elim
              · exact d.elim
            · exact d.elim
          · exact d.elim
        · exact d.elim
      · exact d.elim
    · exact d.elim
  · rename_i f hc
    split at d
    · rename_i g first captured h1
      have e1 := ev_val r.toL h1
      split at d
      · rename_i vs h2
        have e2 := evos_map r.toL h2
        have hres : (resolve a.eval c o.type).run P w = .ok { target := .fn (.func g) captured, args := first ++ vs.toArray } w := by
          simp [resolve, hc, e1, Deferred.ofValue, e2]
        have hargs : (first ++ vs.toArray) ++ captured = (first.toList ++ (vs ++ captured.toList)).toArray := by
          apply Array.ext'; simp
        split at d
        · rename_i hm
          obtain ⟨M, R, hcall, hH, hk⟩ := d
          have hcf := FnsOK.mem hF hm (first.toList ++ (vs ++ captured.toList)).toArray w
          unfold Goal Oper.wp
          have hrun : (execOp a.eval o).run P w = .ok (.enter g (first.toList ++ (vs ++ captured.toList)).toArray) w := by
            simp only [execOp, ho]
            rw [bind_ok hres]
            simp only [invoke, hargs]
            exact hcf
          rw [hrun]
          refine (hcall w rfl).mono ?_
          rintro e w' ⟨v, rfl, hrest, hfr, hR⟩
          obtain ⟨v', rfl, hK⟩ := exRes_elim (hk v w'.heap hfr hR)
          exact nx_put hd hrest (r.fr_later hfr hH) (x := .val v) rfl hK
        · obtain ⟨R, hext, hk⟩ := d
          obtain ⟨v, w', hcf, hheap, hrest, hR⟩ := hext w
          obtain ⟨v', rfl, hK⟩ := exRes_elim (hk v hR)
          refine goal_val (v := v) (w' := w') ?_ (nx_put hd hrest (r.later fun _ _ _ => by rw [hheap]) (x := .val v) rfl (by rw [hheap]; exact hK))
          simp only [execOp, ho]
          rw [bind_ok hres]
          simp only [invoke, hargs]
          exact hcf
      · exact d.elim
    · exact d.elim
  · exact d.elim
theorem act_sound (hT : TabOK P T) (hF : FnsOK P F) (r : Rel st a w) (hd : dstOK ro a.tmps.size o.dst = true) (d : act P T F privs ro st w.heap o K) : Goal P ro st o a w K Q := by
  cases ho : o.op
  case box => exact act_box r hd ho d
  case alloc => exact act_alloc hT r hd ho d
  case buildSlice => exact act_buildSlice hT r hd ho d
  case makeSlice => exact act_makeSlice hT r hd ho d
  case store => exact act_store hT r ho d
  case binOp => exact act_float r hd ho d
  case convert => exact act_convert hT r hd ho d
  case call => exact act_call hT hF r hd ho d
  all_goals (unfold act at d; simp only [ho] at d)
end
end Go.X
