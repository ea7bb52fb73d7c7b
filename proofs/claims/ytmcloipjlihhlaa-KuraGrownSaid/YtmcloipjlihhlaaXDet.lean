/- The model's operation yields what 'det' says. Conditions: the table of types is the program's; the heap of the world at hand is the one looked at, or a later one. -/
import Derived.Test.YtmcloipjlihhlaaXOps
namespace Go.X

theorem deref_elim {x : AVal} {K L : Nat → Nat → Prop} {lc : List Priv} {v : Value} (h : deref x K L) (hc : x.conc lc = some v) :
    (∃ b o, v = .pointer (some ⟨b, o, none⟩) ∧ (∀ lc', (AVal.ptr b o).conc lc' = some v) ∧ K b o) ∨
    (∃ s o p, plook lc s = some p ∧ x = .loc s o ∧ v = .pointer (some ⟨p.blk, o, none⟩) ∧ L s o) := by
  cases x with
  | ptr b o => simp [AVal.conc] at hc; exact .inl ⟨b, o, hc.symm, fun _ => by simp [AVal.conc, hc], h⟩
  | loc s o =>
    simp only [AVal.conc, Option.map_eq_some_iff] at hc
    obtain ⟨p, h1, h2⟩ := hc
    exact .inr ⟨s, o, p, h1, rfl, h2.symm, h⟩
  | val u =>
    cases u with
    | pointer pa =>
      obtain ⟨b, o, rfl, hk⟩ := h
      simp [AVal.conc] at hc
      exact .inl ⟨b, o, hc.symm, fun _ => by simp [AVal.conc, hc], hk⟩
    | _ => exact h.elim
  | lit => exact h.elim
  | sl => exact h.elim
  | row => exact h.elim
theorem asSlice_elim {x : AVal} {K : Option Addr → Nat → Nat → Prop} {lc : List Priv} {v : Value} (h : asSlice x K) (hc : x.conc lc = some v) :
    ∃ a l c, v = .slice a l c ∧ K a l c := by
  cases x with
  | val u =>
    cases u with
    | slice a l c => simp [AVal.conc] at hc; exact ⟨a, l, c, hc.symm, h⟩
    | _ => exact h.elim
  | sl b o l c => simp [AVal.conc] at hc; exact ⟨_, l, c, hc.symm, h⟩
  | _ => exact h.elim
theorem bind_ok {P : Program} {α β : Type} {x : Sem α} {f : α → Sem β} {w w' : World} {v : α} (h : x.run P w = .ok v w') :
    (x >>= f).run P w = (f v).run P w' := by simp [h]
section
variable {P : Program} {T : TAB} {st : St} {h : Heap} {a : Act} {w : World} {K : AVal → Prop} {o : Oper} {L : List Priv} {mo : Option (List Nat)}

def Out (P : Program) (st : St) (a : Act) (w : World) (o : Oper) (K : AVal → Prop) : Prop :=
  ∃ x v, x.conc st.lc = some v ∧ (execOp a.eval o).run P w = .ok (.value v) w ∧ K x
theorem out_val {v : Value} (hr : (execOp a.eval o).run P w = .ok (.value v) w) (hk : K (.val v)) : Out P st a w o K := ⟨.val v, v, rfl, hr, hk⟩
theorem seg_priv {p : Priv} {s : Nat} (r : RelL L st a w) (hp : plook L s = some p) {i : Nat} {v : Value} (hv : p.cells[i]? = some v) : hcell w.heap p.blk i = some v := by
  have := (r.pl s p hp).2
  simp [hcell, this, hv]
theorem det_load {t : Nat} {x : Operand} (hT : TabOK P T) (r : RelL L st a w) (hh : Fr (mo.getD []) h w.heap) (ho : o.op = .load t x) (d : det T L mo st h (.load t x) K) : Out P st a w o K := by
  simp only [det] at d
  cases h1 : tl T t with
  | none => simp [h1] at d
  | some ti =>
    have ht := hT.tl h1
    cases h2 : ev st x with
    | none => simp [h1, h2] at d
    | some y =>
      simp only [h1, h2] at d
      obtain ⟨v, hc, hv⟩ := ev_eval r.fr h2
      have hrun : (execOp a.eval o).run P w = (((do pure (.value (← Instr.loadAt t v))) : Sem Next)).run P w := by
        simp only [execOp, ho, hv]
      rcases deref_elim d hc with ⟨b, of, hb, _, hk⟩ | ⟨s, of, p, hp, rfl, hb, hk⟩
      · subst hb
        obtain ⟨hbm, hk⟩ := nob_elim hk
        unfold ldVar at hk
        cases hagg : ti.agg with
        | true =>
          simp only [hagg] at hk
          obtain ⟨vs, e1, e2, e3⟩ := ldCells_elim hk
          have := run_loadVar_agg ht hagg w b of vs e1 (fun j u hu => hh.cell (e2 j u hu) hbm)
          exact out_val (by rw [hrun]; simp [Instr.loadAt, Instr.sureAddr, this]) e3
        | false =>
          simp only [hagg] at hk
          split at hk
          · obtain ⟨u, _, e2, e3⟩ := Sh.ex_elim hk
            have := run_loadVar_one ht hagg w b of u (hh.cell e2 hbm)
            exact out_val (by rw [hrun]; simp [Instr.loadAt, Instr.sureAddr, this]) e3
          · exact hk.elim
      · subst hb
        cases hpL : plook L s with
        | none => simp [hpL] at hk
        | some pL =>
        have : p = pL := by have := (r.pl s pL hpL).1; rw [hp] at this; exact Option.some.inj this
        subst this
        simp only [hpL] at hk
        unfold ldPriv at hk
        cases hagg : ti.agg with
        | true =>
          simp only [hagg] at hk
          cases hs : seg p.cells of ti.shs.length with
          | none => simp [hs] at hk
          | some vs =>
            simp only [hs] at hk
            obtain ⟨e1, e2⟩ := seg_spec hs
            have := run_loadVar_agg ht hagg w p.blk of vs e1 (fun j u hu => seg_priv r hpL (e2 j u hu))
            exact out_val (by rw [hrun]; simp [Instr.loadAt, Instr.sureAddr, this]) hk
        | false =>
          simp only [hagg] at hk
          cases hs : p.cells[of]? with
          | none => simp [hs] at hk
          | some u =>
            simp only [hs] at hk
            have := run_loadVar_one ht hagg w p.blk of u (seg_priv r hpL hs)
            exact out_val (by rw [hrun]; simp [Instr.loadAt, Instr.sureAddr, this]) hk
theorem det_nilCheck {x : Operand} (r : RelL L st a w) (ho : o.op = .nilCheck x) (d : det T L mo st h (.nilCheck x) K) : Out P st a w o K := by
  simp only [det] at d
  cases h2 : ev st x with
  | none => simp [h2] at d
  | some y =>
    simp only [h2] at d
    obtain ⟨v, hc, hv⟩ := ev_eval r.fr h2
    rcases deref_elim d hc with ⟨b, of, hb, _, hk⟩ | ⟨s, of, p, hp, rfl, hb, hk⟩
    · subst hb
      exact ⟨.ptr b of, _, rfl, by simp [execOp, ho, hv], hk⟩
    · subst hb
      exact ⟨.loc s of, _, hc, by simp [execOp, ho, hv], hk⟩
theorem map_get {F : Array Field} {i : Nat} {off ft : Nat} (h : (F.toList.map fun f => (f.offset, f.type))[i]? = some (off, ft)) : ∃ f, F[i]? = some f ∧ f.offset = off ∧ f.type = ft := by
  rw [List.getElem?_map] at h
  cases hf : F.toList[i]? with
  | none => simp [hf] at h
  | some f => simp [hf] at h; exact ⟨f, by simpa using hf, h.1, h.2⟩
theorem det_fieldAddr {t f : Nat} {x : Operand} (hT : TabOK P T) (r : RelL L st a w) (ho : o.op = .fieldAddr t x f) (d : det T L mo st h (.fieldAddr t x f) K) : Out P st a w o K := by
  simp only [det] at d
  split at d
  · rename_i shs agg by_ ze fs tg h1
    have ht := hT.tl h1
    split at d
    · rename_i off ft h2
      split at d
      · rename_i fi h3
        have hft := hT.tl h3
        split at d
        · exact d.elim
        · rename_i s0 rest hshs
          split at d
          · rename_i y h4
            obtain ⟨v, hc, hv⟩ := ev_eval r.fr h4
            obtain ⟨dd, i, z, q1, q2, q3, q4, q5, q6, q7, q8, q9⟩ := ht.ex
            have hd : ∃ F, dd = .struct F ∧ fs = F.toList.map fun f => (f.offset, f.type) := by
              cases dd <;> simp [kidsOf] at q8
              exact ⟨_, rfl, q8.symm⟩
            obtain ⟨F, rfl, hfs⟩ := hd
            rw [hfs] at h2
            obtain ⟨fd, hfd, e1, e2⟩ := map_get h2
            have hne : ¬ (fi.shs.length = 0) := by rw [hshs]; simp
            have key : ∀ b of : Nat, (Instr.fieldAt t (.pointer (some ⟨b, of, none⟩)) f).run P w = .ok (.pointer (some ⟨b, addo of off, none⟩)) w := by
              intro b of
              have hs := run_sizeOf (P := P) hft w
              rw [← e2] at hs
              simp [Instr.fieldAt, run_underlying q1, hfd, Instr.sureAddr, fieldPlace, hs, hne, add_none, e1]
            rcases deref_elim d hc with ⟨b, of, hb, _, hk⟩ | ⟨s, of, p, hp, rfl, hb, hk⟩
            · subst hb
              exact ⟨.ptr b (addo of off), _, rfl, by simp only [execOp, ho, hv]; rw [bind_ok (key b of)]; rfl, hk⟩
            · subst hb
              exact ⟨.loc s (addo of off), .pointer (some ⟨p.blk, addo of off, none⟩), by simp [AVal.conc, hp], by simp only [execOp, ho, hv]; rw [bind_ok (key p.blk of)]; rfl, hk⟩
          · exact d.elim
      · exact d.elim
    · exact d.elim
  · exact d.elim
theorem run_indexAt_sl {t e : Nat} {ei : TI} {a' : Option Addr} {l c : Nat} {k : IntKind} {n : Int} {b of : Nat} {w : World} (hu : P.underlying t = some (.slice e)) (he : TyOK P e ei)
    (ha : a' = some ⟨b, of, none⟩) (h0 : 0 ≤ n) (h1 : n < (l : Int)) :
    (Instr.indexAt t (.slice a' l c) (.int k n)).run P w = .ok (.pointer (some ⟨b, of + n.toNat * ei.shs.length, none⟩)) w := by
  subst ha
  simp [Instr.indexAt, run_underlying hu, asIntOf, h0, h1, run_sizeOf he, add_none]
theorem run_indexAt_ar {t e len : Nat} {ei : TI} {k : IntKind} {n : Int} {b of : Nat} {w : World} (hu : P.underlying t = some (.array len e)) (he : TyOK P e ei)
    (h0 : 0 ≤ n) (h1 : n < (len : Int)) :
    (Instr.indexAt t (.pointer (some ⟨b, of, none⟩)) (.int k n)).run P w = .ok (.pointer (some ⟨b, of + n.toNat * ei.shs.length, none⟩)) w := by
  simp [Instr.indexAt, run_underlying hu, Instr.sureAddr, asIntOf, h0, h1, run_sizeOf he, add_none]
theorem kids_slice {t e : Nat} {ti : TI} (ht : TyOK P t ti) (hk : ti.kids = .slice e) : P.underlying t = some (.slice e) := by
  obtain ⟨dd, i, z, q1, q2, q3, q4, q5, q6, q7, q8, q9⟩ := ht.ex
  rw [hk] at q8
  cases dd <;> simp [kidsOf] at q8
  rw [q1, q8]
theorem kids_array {t e len : Nat} {ti : TI} (ht : TyOK P t ti) (hk : ti.kids = .array len e) : P.underlying t = some (.array len e) := by
  obtain ⟨dd, i, z, q1, q2, q3, q4, q5, q6, q7, q8, q9⟩ := ht.ex
  rw [hk] at q8
  cases dd <;> simp [kidsOf] at q8
  rw [q1, q8.1, q8.2]
theorem det_indexAddr {t : Nat} {x i : Operand} (hT : TabOK P T) (r : RelL L st a w) (ho : o.op = .indexAddr t x i) (d : det T L mo st h (.indexAddr t x i) K) : Out P st a w o K := by
  simp only [det] at d
  split at d
  · rename_i ti h1
    have ht := hT.tl h1
    split at d
    · rename_i e hk
      split at d
      · rename_i ei h3
        have he := hT.tl h3
        have hu := kids_slice ht hk
        split at d
        · rename_i k n h4
          obtain ⟨vi, hci, hvi⟩ := ev_eval r.fr h4
          simp [AVal.conc] at hci
          split at d
          · rename_i s len h5
            obtain ⟨v, hc, hv⟩ := ev_eval r.fr h5
            obtain ⟨⟨b0, b1⟩, hK⟩ := inb_elim d
            simp only [AVal.conc, Option.map_eq_some_iff] at hc
            obtain ⟨p, hp, hpv⟩ := hc
            refine ⟨_, .pointer (some ⟨p.blk, 0 + n.toNat * ei.shs.length, none⟩), by simp [AVal.conc, hp], ?_, hK⟩
            simp only [execOp, ho, hv, hvi, ← hci, ← hpv]
            rw [bind_ok (run_indexAt_sl hu he rfl b0 b1)]; rfl
          · rename_i y _ h5
            obtain ⟨v, hc, hv⟩ := ev_eval r.fr h5
            obtain ⟨a', l, c, hsv, b, of, ha, b0, b1, hK⟩ := asSlice_elim d hc
            refine ⟨.ptr b _, _, rfl, ?_, hK⟩
            simp only [execOp, ho, hv, hvi, ← hci, hsv]
            rw [bind_ok (run_indexAt_sl hu he ha b0 b1)]; rfl
          · exact d.elim
        · exact d.elim
      · exact d.elim
    · rename_i len e hk
      split at d
      · rename_i ei h3
        have he := hT.tl h3
        have hu := kids_array ht hk
        split at d
        · rename_i k n h4
          obtain ⟨vi, hci, hvi⟩ := ev_eval r.fr h4
          simp [AVal.conc] at hci
          split at d
          · rename_i y h5
            obtain ⟨v, hc, hv⟩ := ev_eval r.fr h5
            rcases deref_elim d hc with ⟨b, of, hb, _, hk2⟩ | ⟨s, of, p, hp, rfl, hb, hk2⟩
            · obtain ⟨⟨b0, b1⟩, hK⟩ := inb_elim hk2
              refine ⟨.ptr b _, _, rfl, ?_, hK⟩
              simp only [execOp, ho, hv, hvi, ← hci, hb]
              rw [bind_ok (run_indexAt_ar hu he b0 b1)]; rfl
            · obtain ⟨⟨b0, b1⟩, hK⟩ := inb_elim hk2
              refine ⟨.loc s _, .pointer (some ⟨p.blk, of + n.toNat * ei.shs.length, none⟩), by simp [AVal.conc, hp], ?_, hK⟩
              simp only [execOp, ho, hv, hvi, ← hci, hb]
              rw [bind_ok (run_indexAt_ar hu he b0 b1)]; rfl
          · exact d.elim
        · exact d.elim
      · exact d.elim
    · exact d.elim
  · exact d.elim
end
end Go.X
