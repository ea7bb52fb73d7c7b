/- The model's operation yields what 'det' says: comparisons, arithmetic, the rest; all together. Conditions: the table of types is the program's. -/
import Derived.Test.YtmcloipjlihhlaaXEq
namespace Go.X
section
variable {P : Program} {T : TAB} {st : St} {h : Heap} {a : Act} {w : World} {K : AVal → Prop} {o : Oper} {L : List Priv} {mo : Option (List Nat)}

theorem tag2_lt {t n : Nat} {d : TypeDesc} (h : tag2 P t d = n) (hn : 0 < n) (h9 : n < 9) : tagOf d = n := by
  cases d <;> simp only [tag2] at h <;> try exact h
  split at h
  · split at h <;> omega
  · omega
theorem tag2_9 {t : Nat} {d : TypeDesc} (h : tag2 P t d = 9) : ∃ f0 f1 : Field, d = .struct #[f0, f1] ∧ f0.name ≠ "_" ∧ f1.name ≠ "_" ∧ P.stoodInHeld t = false := by
  cases d <;> simp only [tag2, tagOf] at h <;> try omega
  rename_i fs
  split at h
  · rename_i f0 f1 hl
    split at h
    · rename_i hc
      simp only [Bool.and_eq_true, bne_iff_ne, ne_eq, Bool.not_eq_true'] at hc
      refine ⟨f0, f1, ?_, hc.1.1, hc.1.2, hc.2⟩
      cases fs; simp_all
    · omega
  · omega
theorem tag_bool {t : Nat} {ti : TI} (ht : TyOK P t ti) (hk : Nat.beq ti.tag 1 = true) : P.underlying t = some .bool := by
  obtain ⟨dd, i, z, q1, q2, q3, q4, q5, q6, q7, q8, q9⟩ := ht.ex
  have := Nat.eq_of_beq_eq_true hk
  have q9 := tag2_lt (q9.trans this) (by omega) (by omega)
  cases dd <;> simp [tagOf] at q9
  exact q1
theorem tag_slice {t : Nat} {ti : TI} (ht : TyOK P t ti) (hk : Nat.beq ti.tag 2 = true) : ∃ e, P.underlying t = some (.slice e) := by
  obtain ⟨dd, i, z, q1, q2, q3, q4, q5, q6, q7, q8, q9⟩ := ht.ex
  have := Nat.eq_of_beq_eq_true hk
  have q9 := tag2_lt (q9.trans this) (by omega) (by omega)
  cases dd <;> simp [tagOf] at q9
  exact ⟨_, q1⟩
theorem tag_pointer {t : Nat} {ti : TI} (ht : TyOK P t ti) (hk : Nat.beq ti.tag 3 = true) : ∃ e, P.underlying t = some (.pointer e) := by
  obtain ⟨dd, i, z, q1, q2, q3, q4, q5, q6, q7, q8, q9⟩ := ht.ex
  have := Nat.eq_of_beq_eq_true hk
  have q9 := tag2_lt (q9.trans this) (by omega) (by omega)
  cases dd <;> simp [tagOf] at q9
  exact ⟨_, q1⟩
theorem tag_func {t : Nat} {ti : TI} (ht : TyOK P t ti) (hk : Nat.beq ti.tag 4 = true) : ∃ p r v, P.underlying t = some (.func p r v) := by
  obtain ⟨dd, i, z, q1, q2, q3, q4, q5, q6, q7, q8, q9⟩ := ht.ex
  have := Nat.eq_of_beq_eq_true hk
  have q9 := tag2_lt (q9.trans this) (by omega) (by omega)
  cases dd <;> simp [tagOf] at q9
  exact ⟨_, _, _, q1⟩
theorem bop_int {op : BinOp} {t : Nat} {k k' : IntKind} {x y : Int} (h : kindEq k k' (iop op k x y K)) :
    ∃ v, (binOp op t (.int k x) (.int k' y)).run P w = .ok v w ∧ K (.val v) := by
  have h0 := kindEq_elim h; clear h; obtain ⟨he, h⟩ := h0; subst he
  cases op <;> simp only [iop] at h
  case add => exact ⟨_, by simp [binOp_add, Op.intArith], h⟩
  case sub => exact ⟨_, by simp [binOp_sub, Op.intArith], h⟩
  case mul => exact ⟨_, by simp [binOp_mul, Op.intArith], h⟩
  case quo => exact ⟨_, by simp [binOp_quo, Op.intDiv, h.1], h.2⟩
  case rem => exact ⟨_, by simp [binOp_rem, Op.intDiv, h.1], h.2⟩
  case eql => exact ⟨_, by simp [binOp_eql], h⟩
  case neq => exact ⟨_, by simp [binOp_neq], h⟩
  case lss => exact ⟨_, by simp [binOp_lss], h⟩
  case leq => exact ⟨_, by simp [binOp_leq], h⟩
  case gtr => exact ⟨_, by simp [binOp_gtr], h⟩
  case geq => exact ⟨_, by simp [binOp_geq], h⟩
  case and => exact ⟨_, by simp [binOp_and, intBits_and], h⟩
  case or => exact ⟨_, by simp [binOp_or, intBits_or], h⟩
  case xor => exact ⟨_, by simp [binOp_xor, intBits_xor], h⟩
  case andNot => exact ⟨_, by simp [binOp_andNot, intBits_andNot], h⟩
  case shl =>
    have hn : ¬ y < 0 := by omega
    exact ⟨_, by simp [binOp_shl, Op.shift, hn], h.2⟩
  case shr =>
    have hn : ¬ y < 0 := by omega
    exact ⟨_, by simp [binOp_shr, Op.shift, hn], h.2⟩
theorem bop_float {op : BinOp} {t : Nat} {k k' : FloatKind} {x y : Nat} (h : fkindEq k k' (fcmp op k x y K)) :
    ∃ v, (binOp op t (.float k x) (.float k' y)).run P w = .ok v w ∧ K (.val v) := by
  have h0 := fkindEq_elim h; clear h; obtain ⟨he, h⟩ := h0; subst he
  cases op <;> simp only [fcmp] at h <;> first | exact h.elim | exact ⟨_, by simp [binOp, Op.floatCmp], h⟩
theorem run_eqd_bool (d : Nat) {t : Nat} (hu : P.underlying t = some .bool) (x y : Bool) : (Op.equalIn (d + 1) t (.bool x) (.bool y)).run P w = .ok (x == y) w := by
  simp [Op.equalIn, run_underlying hu]
theorem run_eqd_slice (d : Nat) {t e : Nat} (hu : P.underlying t = some (.slice e)) (x : Option Addr) (l c l' c' : Nat) : (Op.equalIn (d + 1) t (.slice x l c) (.slice none l' c')).run P w = .ok x.isNone w := by
  cases x <;> simp [Op.equalIn, run_underlying hu]
theorem run_eqd_pointer (d : Nat) {t e : Nat} (hu : P.underlying t = some (.pointer e)) (x : Option Addr) : (Op.equalIn (d + 1) t (.pointer x) (.pointer none)).run P w = .ok x.isNone w := by
  cases x <;> simp [Op.equalIn, run_underlying hu]
theorem run_eqd_func (d : Nat) {t : Nat} {p r : Array Nat} {v : Bool} (hu : P.underlying t = some (.func p r v)) (f : Fn) (x y : Array Value) : (Op.equalIn (d + 1) t (.func f x y) .nilFunc).run P w = .ok false w := by
  simp [Op.equalIn, run_underlying hu]
theorem run_eq_bool {t : Nat} (hu : P.underlying t = some .bool) (x y : Bool) : (Op.equal t (.bool x) (.bool y)).run P w = .ok (x == y) w := run_eqd_bool 9999 hu x y
theorem run_eq_slice {t e : Nat} (hu : P.underlying t = some (.slice e)) (x : Option Addr) (l c l' c' : Nat) : (Op.equal t (.slice x l c) (.slice none l' c')).run P w = .ok x.isNone w := run_eqd_slice 9999 hu x l c l' c'
theorem run_eq_pointer {t e : Nat} (hu : P.underlying t = some (.pointer e)) (x : Option Addr) : (Op.equal t (.pointer x) (.pointer none)).run P w = .ok x.isNone w := run_eqd_pointer 9999 hu x
theorem run_eq_func {t : Nat} {p r : Array Nat} {v : Bool} (hu : P.underlying t = some (.func p r v)) (f : Fn) (x y : Array Value) : (Op.equal t (.func f x y) .nilFunc).run P w = .ok false w := run_eqd_func 9999 hu f x y
theorem beq_run {op : BinOp} {t : Nat} {x y : Value} {r : Bool} (h : beqB op r K) (he : (Op.equal t x y).run P w = .ok r w)
    (hb : binOp .eql t x y = (do pure (.bool (← Op.equal t x y)))) (hb' : binOp .neq t x y = (do pure (.bool (!(← Op.equal t x y))))) :
    ∃ v, (binOp op t x y).run P w = .ok v w ∧ K (.val v) := by
  cases op <;> simp only [beqB] at h <;> try exact h.elim
  · exact ⟨_, by rw [hb]; simp [he], h⟩
  · exact ⟨_, by rw [hb']; simp [he], h⟩
theorem pairOf_elim {e : Nat} {ei : TI} {a b : Array Value} {r : Bool} (ht : TyOK P e ei) (h : pairOf ei a.toList b.toList = some r) :
    ∃ d x0 x1 y0 y1 r0 r1, P.underlying e = some d ∧ a = #[x0, x1] ∧ b = #[y0, y1] ∧ plainC d x0 y0 = some r0 ∧ plainC d x1 y1 = some r1 ∧ r = (r0 && r1) := by
  obtain ⟨dd, i, z, q1, q2, q3, q4, q5, q6, q7, q8, q9⟩ := ht.ex
  obtain ⟨a⟩ := a
  obtain ⟨b⟩ := b
  simp only at h
  unfold pairOf at h
  split at h
  · rename_i hk
    rw [hk] at q8
    cases dd <;> simp [kidsOf] at q8
    subst q8
    split at h
    · simp at h; subst h
      refine ⟨_, _, _, _, _, _, _, q1, rfl, rfl, rfl, rfl, rfl⟩
    · simp at h
  · rename_i hk
    rw [hk] at q8
    cases dd <;> simp [kidsOf] at q8
    subst q8
    split at h
    · simp at h; subst h
      refine ⟨_, _, _, _, _, _, _, q1, rfl, rfl, rfl, rfl, rfl⟩
    · simp at h
  · simp at h
def plainV (u : Value) : Prop := match u with | .nilIface | .agg _ => False | _ => True
theorem guard_run (op : BinOp) (t : Nat) (x y : Operand) (u v : Value) (hu : plainV u) :
    eqGuard op t x y u v = pure () := by
  cases u <;> simp only [plainV] at hu <;> cases op <;> rfl
theorem det_binOp {op : BinOp} {t u : Nat} {x y : Operand} (hT : TabOK P T) (r : RelL L st a w) (ho : o.op = .binOp op t x y u) (d : det T L mo st h (.binOp op t x y u) K) : Out P st a w o K := by
  simp only [det] at d
  split at d
  · rename_i ti h1
    have ht := hT.tl h1
    split at d
    · rename_i vx h2
      split at d
      · rename_i vy h3
        split at d
        · rename_i hty
          obtain ⟨ux, hcx, hx⟩ := ev_eval r.fr h2
          obtain ⟨uy, hcy, hy⟩ := ev_eval r.fr h3
          have key : ∀ (g : plainV ux) (v : Value), (binOp op t ux uy).run P w = .ok v w → K (.val v) → Out P st a w o K := by
            intro g v hv hk
            exact out_val (by simp only [execOp, ho, hx, hy, guard_run op t x y ux uy g]; simp [hv]) hk
          unfold bopA at d
          split at d
          · split at d
            · split at d
              · split at d
                · rename_i n e _ hk _ hn
                  split at d
                  · rename_i ei he
                    split at d
                    · rename_i hc
                      split at d
                      · rename_i ax ay r hp
                        simp [AVal.conc] at hcx hcy; subst hcx; subst hcy
                        simp only [Bool.and_eq_true, Bool.not_eq_true'] at hc
                        have hn := Nat.eq_of_beq_eq_true hn; subst hn
                        have hc1 := Nat.eq_of_beq_eq_true hc.1
                        obtain ⟨d', x0, x1, y0, y1, r0, r1, g1, g2, g3, g4, g5, g6⟩ := pairOf_elim (hT.tl he) hp
                        have hu := kids_array ht hk
                        have hq : (Op.equal t (.agg _) (.agg _)).run P w = .ok (r0 && r1) w := run_equal2 (n := 9998) hu (hT.tl he) hc1 hc.2 g1 g2 g3 g4 g5
                        subst g6
                        obtain ⟨v, e1, e2⟩ := beq_run (P := P) (w := w) (t := t) d hq (by rfl) (by rfl)
                        refine out_val ?_ e2
                        simp only [execOp, ho, hx, hy]
                        simp [run_eqGuard2 (op := op) (w := w) (x := x) (y := y) hu (hT.tl he) hc1 hc.2 g1 g2 g3 g4 g5, e1]
                      · exact d.elim
                    · exact d.elim
                  · exact d.elim
                · exact d.elim
              · rename_i o0 e0 o1 e1 hk
                split at d
                · rename_i hcs
                  simp only [Bool.and_eq_true] at hcs
                  obtain ⟨⟨⟨c9, c0⟩, c1⟩, ce⟩ := hcs
                  have c9 := Nat.eq_of_beq_eq_true c9
                  have c0 := Nat.eq_of_beq_eq_true c0
                  have c1 := Nat.eq_of_beq_eq_true c1
                  have ce := Nat.eq_of_beq_eq_true ce
                  subst c0; subst c1; subst ce
                  split at d
                  · rename_i ei he
                    split at d
                    · rename_i hc
                      split at d
                      · rename_i ax ay r hp
                        simp [AVal.conc] at hcx hcy; subst hcx; subst hcy
                        simp only [Bool.and_eq_true, Bool.not_eq_true'] at hc
                        obtain ⟨d', x0, x1, y0, y1, r0, r1, g1, g2, g3, g4, g5, g6⟩ := pairOf_elim (hT.tl he) hp
                        obtain ⟨dd, i, z, q1, q2, q3, q4, q5, q6, q7, q8, q9⟩ := ht.ex
                        obtain ⟨f0, f1, e1, n0, n1, hst⟩ := tag2_9 (q9.trans c9)
                        subst e1
                        rw [hk] at q8
                        simp [kidsOf] at q8
                        obtain ⟨⟨o0, t0⟩, o1, t1⟩ := q8
                        have hq : (Op.equal t (.agg _) (.agg _)).run P w = .ok (r0 && r1) w := run_equal2s (n := 9998) q1 hst n0 n1 o0 o1 t0 t1 (hT.tl he) hc.2 g1 g2 g3 g4 g5
                        subst g6
                        obtain ⟨v, e1, e2⟩ := beq_run (P := P) (w := w) (t := t) d hq (by rfl) (by rfl)
                        refine out_val ?_ e2
                        simp only [execOp, ho, hx, hy]
                        simp [run_eqGuard2s (op := op) (w := w) (x := x) (y := y) q1 n0 n1 o0 o1 t0 t1 (hT.tl he) hc.2 g1 g2 g3 g4 g5, e1]
                      · exact d.elim
                    · exact d.elim
                  · exact d.elim
                · exact d.elim
              · exact d.elim
            · exact d.elim
          unfold bop at d
          split at d
          · simp [AVal.conc] at hcx hcy; subst hcx; subst hcy
            obtain ⟨v, e1, e2⟩ := bop_int (P := P) (w := w) (t := t) d
            exact key trivial v e1 e2
          · simp [AVal.conc] at hcx hcy; subst hcx; subst hcy
            obtain ⟨v, e1, e2⟩ := bop_float (P := P) (w := w) (t := t) d
            exact key trivial v e1 e2
          · simp [AVal.conc] at hcx hcy; subst hcx; subst hcy
            have hu : P.underlying t = some .bool := by
              refine tag_bool ht ?_
              cases op <;> simp [beqB] at d <;> simpa [eqTy] using hty
            obtain ⟨v, e1, e2⟩ := beq_run (P := P) (w := w) (t := t) d (run_eq_bool hu _ _) (by rfl) (by rfl)
            exact key trivial v e1 e2
          · simp [AVal.conc] at hcx hcy; subst hcx; subst hcy
            have hu : P.underlying t = some .bool := by
              refine tag_bool ht ?_
              cases op <;> simp [beqB] at d <;> simpa [eqTy] using hty
            obtain ⟨v, e1, e2⟩ := beq_run (P := P) (w := w) (t := t) d (run_eq_bool hu _ _) (by rfl) (by rfl)
            exact key trivial v e1 e2
          · simp [AVal.conc] at hcx hcy; subst hcx; subst hcy
            have hu : P.underlying t = some .bool := by
              refine tag_bool ht ?_
              cases op <;> simp [beqB] at d <;> simpa [eqTy] using hty
            obtain ⟨v, e1, e2⟩ := beq_run (P := P) (w := w) (t := t) d (run_eq_bool hu _ _) (by rfl) (by rfl)
            exact key trivial v e1 e2
          · simp [AVal.conc] at hcx hcy; subst hcx; subst hcy
            have hu : P.underlying t = some .bool := by
              refine tag_bool ht ?_
              cases op <;> simp [beqB] at d <;> simpa [eqTy] using hty
            obtain ⟨v, e1, e2⟩ := beq_run (P := P) (w := w) (t := t) d (run_eq_bool hu _ _) (by rfl) (by rfl)
            exact key trivial v e1 e2
          · simp [AVal.conc] at hcx hcy; subst hcx; subst hcy
            cases op <;> simp only [beqB] at d <;> try exact d.elim
            · exact key trivial _ (by simp [binOp, Op.stringOp]) d
            · exact key trivial _ (by simp [binOp, Op.stringOp]) d
          · simp [AVal.conc] at hcx hcy; subst hcx; subst hcy
            obtain ⟨e, hu⟩ : ∃ e, P.underlying t = some (.slice e) := by
              refine tag_slice ht ?_
              cases op <;> simp [beqB] at d <;> simpa [eqTy] using hty
            obtain ⟨v, e1, e2⟩ := beq_run (P := P) (w := w) (t := t) d (run_eq_slice hu _ _ _ _ _) (by rfl) (by rfl)
            exact key trivial v e1 e2
          · simp [AVal.conc] at hcx hcy; subst hcx; subst hcy
            obtain ⟨e, hu⟩ : ∃ e, P.underlying t = some (.slice e) := by
              refine tag_slice ht ?_
              cases op <;> simp [beqB] at d <;> simpa [eqTy] using hty
            obtain ⟨v, e1, e2⟩ := beq_run (P := P) (w := w) (t := t) d (run_eq_slice hu (some _) _ _ _ _) (by rfl) (by rfl)
            exact key trivial v e1 e2
          · simp [AVal.conc] at hcx hcy; subst hcx; subst hcy
            obtain ⟨e, hu⟩ : ∃ e, P.underlying t = some (.pointer e) := by
              refine tag_pointer ht ?_
              cases op <;> simp [beqB] at d <;> simpa [eqTy] using hty
            obtain ⟨v, e1, e2⟩ := beq_run (P := P) (w := w) (t := t) d (run_eq_pointer hu _) (by rfl) (by rfl)
            exact key trivial v e1 e2
          · simp [AVal.conc] at hcx hcy; subst hcx; subst hcy
            obtain ⟨e, hu⟩ : ∃ e, P.underlying t = some (.pointer e) := by
              refine tag_pointer ht ?_
              cases op <;> simp [beqB] at d <;> simpa [eqTy] using hty
            obtain ⟨v, e1, e2⟩ := beq_run (P := P) (w := w) (t := t) d (run_eq_pointer hu (some _)) (by rfl) (by rfl)
            exact key trivial v e1 e2
          · simp only [AVal.conc, Option.map_eq_some_iff, Option.some.injEq] at hcx hcy
            obtain ⟨p, _, rfl⟩ := hcx
            subst hcy
            obtain ⟨e, hu⟩ : ∃ e, P.underlying t = some (.pointer e) := by
              refine tag_pointer ht ?_
              cases op <;> simp [beqB] at d <;> simpa [eqTy] using hty
            obtain ⟨v, e1, e2⟩ := beq_run (P := P) (w := w) (t := t) d (run_eq_pointer hu (some _)) (by rfl) (by rfl)
            exact key trivial v e1 e2
          · simp [AVal.conc] at hcx hcy; subst hcx; subst hcy
            obtain ⟨p, q, s, hu⟩ : ∃ p q s, P.underlying t = some (.func p q s) := by
              refine tag_func ht ?_
              cases op <;> simp [beqB] at d <;> simpa [eqTy] using hty
            obtain ⟨v, e1, e2⟩ := beq_run (P := P) (w := w) (t := t) d (run_eq_func hu _ _ _) (by rfl) (by rfl)
            exact key trivial v e1 e2
          · exact d.elim
        · exact d.elim
      · exact d.elim
    · exact d.elim
  · exact d.elim
end
end Go.X
