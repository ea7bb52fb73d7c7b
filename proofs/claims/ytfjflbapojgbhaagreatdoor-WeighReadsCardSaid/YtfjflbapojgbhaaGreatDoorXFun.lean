/- A function's contract out of what is left to be shown of its code. Conditions: the table of types is the program's; the called functions have bodies. -/
import Derived.Test.YtfjflbapojgbhaaGreatDoorXCode
namespace Go.X
variable {B : Option Nat}

def argFr : List Value → Nat → List (Nat × AVal)
  | [], _ => []
  | v :: r, i => (i, .val v) :: argFr r (i + 1)
def resV (T : TAB) (st : St) (h : Heap) : List ResultVar → (List Value → Prop) → Prop
  | [], K => K []
  | .tmp t :: r, K => (match evo st (.tmp t) with
    | some v => resV T st h r fun vs => K (v :: vs)
    | none => False)
  | .cell a t :: r, K => det T st.lc none st h (.load t (.tmp a)) fun x => match x.out with
    | some v => resV T st h r fun vs => K (v :: vs)
    | none => False
def one (vs : List Value) : Value :=
  match vs with
  | [v] => v
  | vs => .tuple vs.toArray
def resOf (tmps : Array Value) : ResultVar → Sem Value
  | .tmp t => pure (tmps.getD t undef)
  | .cell a t => do loadVar t (← asAddr (tmps.getD a undef))
theorem load_run {P : Program} {T : TAB} {st : St} {a : Act} {w : World} {t s : Nat} {K : AVal → Prop} (hT : TabOK P T) (r : Rel B st a w) (d : det T st.lc none st w.heap (.load t (.tmp s)) K) :
    ∃ x v, x.conc st.lc = some v ∧ (do loadVar t (← asAddr (a.tmps.getD s undef)) : Sem Value).run P w = .ok v w ∧ K x := by
  let o : Oper := { dst := none, op := .load t (.tmp s), type := 0, pos := "", after := #[], guard := none }
  obtain ⟨x, v, h1, h2, h3⟩ := det_load (o := o) hT r.toL (Fr.refl _ _) rfl d
  refine ⟨x, v, h1, ?_, h3⟩
  have h2' : ((Instr.loadAt t (a.eval (.tmp s))).run P w).andThen (fun v w => .ok (Next.value v) w) = .ok (.value v) w := by
    have : (execOp a.eval o) = (do pure (Next.value (← Instr.loadAt t (a.eval (.tmp s))))) := rfl
    rw [this] at h2
    simpa using h2
  show Sem.run P (asAddr (a.eval (.tmp s)) >>= fun y => loadVar t y) w = _
  have e : (Instr.loadAt t (a.eval (.tmp s))) = (Instr.sureAddr (a.eval (.tmp s)) >>= fun y => loadVar t y) := rfl
  rw [e] at h2'
  cases hv : a.eval (.tmp s) with
  | pointer pa =>
    cases pa with
    | none => rw [hv] at h2'; simp [Instr.sureAddr] at h2'
    | some ad =>
      rw [hv] at h2'
      simp only [Instr.sureAddr, asAddr, Sem.run_bind, Sem.run_pure, Result.andThen_ok] at h2' ⊢
      cases hr : (loadVar t ad).run P w with
      | ok u w' => rw [hr] at h2'; simp at h2'; rw [h2'.1, h2'.2]
      | halt x w' => rw [hr] at h2'; simp at h2'
  | _ => rw [hv] at h2'; simp [Instr.sureAddr] at h2'
theorem resV_run {P : Program} {T : TAB} {st : St} {a : Act} {w : World} (hT : TabOK P T) (r : Rel B st a w) : ∀ {l : List ResultVar} {K : List Value → Prop}, resV T st w.heap l K →
    ∃ vs : List Value, (l.mapM (resOf a.tmps)).run P w = .ok vs w ∧ vs.length = l.length ∧ K vs
  | [], _, h => ⟨[], by simp, rfl, h⟩
  | .tmp t :: l, K, h => by
    simp only [resV] at h
    split at h
    · rename_i v hv
      obtain ⟨vs, h1, h2, h3⟩ := resV_run hT r h
      have e := evo_eval r.fr hv
      simp only [Act.eval] at e
      exact ⟨v :: vs, by simp [List.mapM_cons, resOf, e, h1], by simp [h2], h3⟩
    · exact h.elim
  | .cell s t :: l, K, h => by
    simp only [resV] at h
    obtain ⟨x, v, h1, h2, h3⟩ := load_run hT r h
    split at h3
    · rename_i u hu
      obtain ⟨vs, g1, g2, g3⟩ := resV_run hT r h3
      have := AVal.conc_out hu st.lc
      rw [this] at h1
      obtain rfl := Option.some.inj h1
      refine ⟨u :: vs, ?_, by simp [g2], g3⟩
      simp only [List.mapM_cons]
      rw [bind_ok (show (resOf a.tmps (.cell s t)).run P w = .ok u w from h2), bind_ok g1]
      rfl
    · exact h3.elim
theorem results_run {P : Program} {T : TAB} {st : St} {a : Act} {w : World} {fn : Func} {R : Value → Prop} (hT : TabOK P T) (r : Rel B st a w) (h : resV T st w.heap fn.results.toList fun vs => R (one vs)) :
    ∃ v, (results fn a.tmps).run P w = .ok v w ∧ R v := by
  obtain ⟨vs, h1, h2, h3⟩ := resV_run hT r h
  refine ⟨one vs, ?_, h3⟩
  have e : results fn a.tmps = (fn.results.mapM (resOf a.tmps) >>= fun vs => pure (if h : vs.size = 1 then vs[0] else .tuple vs)) := rfl
  rw [e, Array.mapM_eq_mapM_toList]
  simp only [Sem.run_bind, Sem.run_map, h1, Result.andThen_ok, Sem.run_pure]
  congr 1
  cases vs with
  | nil => rfl
  | cons v l => cases l <;> simp [one]
theorem argFr_look : ∀ {l : List Value} {i t : Nat} {x : AVal}, look (argFr l i) t = some x → ∃ v, x = .val v ∧ i ≤ t ∧ l[t - i]? = some v
  | [], _, _, _, h => by simp [argFr, look] at h
  | v :: r, i, t, x, h => by
    simp only [argFr, look] at h
    cases hb : Nat.beq i t with
    | true =>
      have := Nat.eq_of_beq_eq_true hb
      subst this
      simp only [hb, Option.some.injEq] at h
      exact ⟨v, h.symm, Nat.le_refl _, by simp⟩
    | false =>
      simp only [hb] at h
      obtain ⟨u, h1, h2, h3⟩ := argFr_look h
      exact ⟨u, h1, by omega, by rw [show t - i = (t - (i + 1)) + 1 by omega]; simpa using h3⟩
/-- What is left to be shown of a call. -/
def FX (E : Env) (D : Desc) (fn : Func) (c : Code) (args : List Value) (h : Heap) (R : Value → Heap → Prop) : Prop :=
  XC E D c ⟨[], [], []⟩ 0 ⟨argFr args 0, []⟩ h (fun st h' => resV E.T st h' fn.results.toList fun vs => R (one vs) h') (fun _ _ _ => False) (fun st h' => resV E.T st h' fn.results.toList fun vs => R (one vs) h')
theorem calls_of_FX {E : Env} (hE : E.OK) {D : Desc} {f : FuncId} {fn : Func} {c : Code} (hf : E.P.funcs[f]? = some fn) (hb : fn.body = some c) (hn : Nat.beq fn.ntmps E.n = true) {args : List Value} (hl : Nat.ble args.length E.n = true)
    {h : Heap} {R : Value → Heap → Prop} (H : FX E D fn c args h R) (hrng : D.rng = [] := by rfl) : CallsH E.P f args.toArray h R := by
  intro w hw
  subst hw
  have hn' := Nat.eq_of_beq_eq_true hn
  have hl' := Nat.le_of_ble_eq_true hl
  refine calls_of_wp hf hb ?_
  have hsize : (args.toArray ++ Array.replicate (fn.ntmps - args.toArray.size) undef).size = E.n := by simp; omega
  have hr : Rel none ⟨argFr args 0, []⟩ { tmps := args.toArray ++ Array.replicate (fn.ntmps - args.toArray.size) undef, defers := [] } w := by
    refine ⟨fun t x hx => ?_, fun s p hp => by simp [plook] at hp, fun s t p q hp => by simp [plook] at hp, rfl⟩
    obtain ⟨v, rfl, _, h3⟩ := argFr_look hx
    refine ⟨v, rfl, ?_⟩
    have h3' : args[t]? = some v := by simpa using h3
    have hlt : t < args.length := (List.getElem?_eq_some_iff.1 h3').1
    rw [Array.getElem?_append_left (by simpa using hlt)]
    simpa using h3'
  refine Code.wp_mono (fun e a' w' hp => ?_) ((wpIn_wide (n := 0)).1 (XC_soundIn hE c D none 0 (.inl rfl) (fun z => absurd hrng z) _ _ _ _ _ _ _ w (fun b e => by cases e) H hr hsize))
  cases e with
  | normal =>
    obtain ⟨st, r, h1, h2, _, h4⟩ := hp
    obtain ⟨v, e1, e2⟩ := results_run (fn := fn) (R := fun v => R v w'.heap) hE.T r h4
    exact ⟨r.df, v, e1, v, rfl, h1, e2⟩
  | ret =>
    obtain ⟨st, r, h1, h2, _, h4⟩ := hp
    obtain ⟨v, e1, e2⟩ := results_run (fn := fn) (R := fun v => R v w'.heap) hE.T r h4
    exact ⟨r.df, v, e1, v, rfl, h1, e2⟩
  | exit j => obtain ⟨_, _, _, _, _, h⟩ := hp; exact h.elim
  | _ => exact hp.elim
end Go.X
