/- Functions in whose body a scope stands with jumps ahead to labels. Conditions: none. -/
import Derived.Test.YtfjflbapojgbhaaGreatDoorXFun
import Derived.ScopeJumps
namespace Go.X

def hasGoto : Code → Bool
  | .goto _ => true
  | .seq a b => hasGoto a || hasGoto b
  | .cond _ a b => hasGoto a || hasGoto b
  | _ => false
/-- What stands on the spine of a scope: as XC, jumps too. -/
def XG (E : Env) (D : Desc) : Code → RO → Nat → St → Heap → (St → Heap → Prop) → (Nat → St → Heap → Prop) → (Nat → St → Heap → Prop) → (St → Heap → Prop) → Prop
  | .seq a b, ro, cur, st, h, k, gt, ex, rt => XG E D a ro cur st h (fun st' h' => XG E D b ro cur st' h' k gt ex rt) gt ex rt
  | .cond c t e, ro, cur, st, h, k, gt, ex, rt => (match hasGoto (.cond c t e) with
    | true => (match ev st c with
      | some (.val (.bool b)) => cnd b (XG E D t ro cur st h k gt ex rt) (XG E D e ro cur st h k gt ex rt)
      | _ => False)
    | false => XC E D (.cond c t e) ro cur st h k ex rt)
  | .goto l, _, _, st, h, _, gt, _, _ => gt l st h
  | c, ro, cur, st, h, k, _, ex, rt => XC E D c ro cur st h k ex rt
/-- Behind a label. -/
def XS (E : Env) (D : Desc) (c : Code) (ro : RO) (cur : Nat) (k : St → Heap → Prop) (ex : Nat → St → Heap → Prop) (rt : St → Heap → Prop) : Nat → Nat → St → Heap → Prop
  | 0, _, _, _ => False
  | n + 1, l, st, h => match findLabel c l with
    | some r => XG E D r ro cur st h k (XS E D c ro cur k ex rt n) ex rt
    | none => False
def XT (E : Env) (D : Desc) : Code → RO → Nat → St → Heap → (St → Heap → Prop) → (Nat → St → Heap → Prop) → (St → Heap → Prop) → Prop
  | .seq a b, ro, cur, st, h, k, ex, rt => XC E D a ro cur st h (fun st' h' => XT E D b ro cur st' h' k ex rt) ex rt
  | .scope c, ro, cur, st, h, k, ex, rt => XG E D c ro cur st h k (XS E D c ro cur k ex rt 2) ex rt
  | c, ro, cur, st, h, k, ex, rt => XC E D c ro cur st h k ex rt
def PG (ro : RO) (n : Nat) (s0 : St) (w0 : World) (k : St → Heap → Prop) (gt ex : Nat → St → Heap → Prop) (rt : St → Heap → Prop) : Exit → Act → World → Prop
  | .normal, a, w => Nx none ro s0 k n w0 a w
  | .goto j, a, w => Nx none ro s0 (gt j) n w0 a w
  | .exit j, a, w => Nx none ro s0 (ex j) n w0 a w
  | .ret, a, w => Nx none ro s0 rt n w0 a w
  | _, _, _ => False
theorem PG.mono {ro : RO} {n : Nat} {s0 s1 : St} {w0 w1 : World} {k : St → Heap → Prop} {gt ex : Nat → St → Heap → Prop} {rt : St → Heap → Prop} (h3 : Keep ro s1 s0) (h1 : Rest w1 w0) {e : Exit} {a : Act} {w : World} (h : PG ro n s0 w0 k gt ex rt e a w) : PG ro n s1 w1 k gt ex rt e a w := by
  cases e <;> first | exact Nx.mono h (fun _ q => h3.trans q) h1 (fun _ _ q => q) | exact h.elim
theorem XC_wp {E : Env} (hE : E.OK) {D : Desc} (hrng : D.rng = []) {c : Code} {ro : RO} {cur : Nat} {st : St} {k : St → Heap → Prop} {gt ex : Nat → St → Heap → Prop} {rt : St → Heap → Prop} {a : Act} {w : World}
    (d : XC E D c ro cur st w.heap k ex rt) (r : Rel none st a w) (hn : a.tmps.size = E.n) : c.wp E.P (PG ro E.n st w k gt ex rt) a w := by
  refine Code.wp_mono (fun e a' w' hp => ?_) ((wpIn_wide (n := 0)).1 (XC_soundIn hE c D none 0 (.inl rfl) (fun z => absurd hrng z) ro cur st k ex rt a w (fun b e => by cases e) d r hn))
  cases e <;> first | exact hp | exact hp.elim
theorem XG_sound {E : Env} (hE : E.OK) {D : Desc} (hrng : D.rng = []) (c : Code) : ∀ (ro : RO) (cur : Nat) (st : St) (k : St → Heap → Prop) (gt ex : Nat → St → Heap → Prop) (rt : St → Heap → Prop) (a : Act) (w : World),
    XG E D c ro cur st w.heap k gt ex rt → Rel none st a w → a.tmps.size = E.n → c.wp E.P (PG ro E.n st w k gt ex rt) a w := by
  induction c with
  | seq x y ihx ihy =>
    intro ro cur st k gt ex rt a w d r hn
    unfold XG at d
    refine wp_seq (Code.wp_mono (fun e a' w' h => ?_) (ihx ro cur st _ gt ex rt a w d r hn))
    cases e with
    | normal =>
      obtain ⟨st', r', h1, h2, h3, h4⟩ := h
      exact Code.wp_mono (fun e a'' w'' h' => PG.mono h3 h1 h') (ihy ro cur st' k gt ex rt a' w' h4 r' h2)
    | goto j => exact h
    | exit j => exact h
    | ret => exact h
    | _ => exact h.elim
  | cond c t e iht ihe =>
    intro ro cur st k gt ex rt a w d r hn
    unfold XG at d
    split at d
    · split at d
      · rename_i b h1
        obtain ⟨v, hc, hv⟩ := ev_eval r.fr h1
        simp only [AVal.conc, Option.some.injEq] at hc
        refine wpIn_wide.1 (wpIn_cond (F := Fence.wide) (n := 0) (hv.trans hc.symm) ?_)
        cases b with
        | true => exact wpIn_wide.2 (iht ro cur st k gt ex rt a w (d.1 rfl) r hn)
        | false => exact wpIn_wide.2 (ihe ro cur st k gt ex rt a w (d.2 rfl) r hn)
      · exact d.elim
    · exact XC_wp hE hrng d r hn
  | goto l =>
    intro ro cur st k gt ex rt a w d r hn
    unfold XG at d
    exact wp_goto ⟨st, r, Rest.refl w, hn, Keep.refl _ _, d⟩
  | _ => intro ro cur st k gt ex rt a w d r hn; unfold XG at d; exact XC_wp hE hrng d r hn
/-- By a jump to label l: G l. -/
def Exit.gts (G : Nat → Act → World → Prop) (Q : Exit → Act → World → Prop) : Exit → Act → World → Prop
  | .goto l, a, w => G l a w
  | e, a, w => Q e a w
theorem wp_scope_gotos {P : Program} {Q : Exit → Act → World → Prop} {c : Code} (G : Nat → Nat → Act → World → Prop) (h0 : ∀ l a w, ¬ G 0 l a w)
    (pass : ∀ n l a w, G (n + 1) l a w → ∃ rest, findLabel c l = some rest ∧ rest.wp P (Exit.gts (G n) Q) a w) {N : Nat} {a : Act} {w : World} (first : c.wp P (Exit.gts (G N) Q) a w) : (Code.scope c).wp P Q a w := by
  intro b k cs
  have key : ∀ n l a w, G n l a w → ∃ rest, findLabel c l = some rest ∧ ∃ e a' w', Q e a' w' ∧ Arrives P (lone (b.at a (.code rest :: .inScope c :: k)) cs w) b k cs e a' w' := by
    intro n
    induction n with
    | zero => exact fun l a w h => absurd h (h0 l a w)
    | succ n ih =>
      intro l a w hG
      obtain ⟨rest, hf, hw⟩ := pass n l a w hG
      refine ⟨rest, hf, ?_⟩
      obtain ⟨e, a₁, w₁, hq, harr⟩ := hw b (.inScope c :: k) cs
      cases e with
      | normal => exact ⟨.normal, a₁, w₁, hq, Steps.trans harr (.one step_inScope)⟩
      | exit id => exact ⟨.exit id, a₁, w₁, hq, fun k' hk => harr k' (by simp [exitTo, hk])⟩
      | goto l' =>
        obtain ⟨rest', hf', e₂, a₂, w₂, hq₂, harr₂⟩ := ih l' a₁ w₁ hq
        exact ⟨e₂, a₂, w₂, hq₂, .of_steps (harr _ (by simp [gotoIn, hf'])) harr₂⟩
      | ret => exact ⟨_, a₁, w₁, hq, harr⟩
      | panic ch => exact ⟨_, a₁, w₁, hq, harr⟩
      | outgrown => exact ⟨_, a₁, w₁, hq, harr⟩
  obtain ⟨e, a₁, w₁, hq, harr⟩ := first b (.inScope c :: k) cs
  cases e with
  | normal => exact ⟨.normal, a₁, w₁, hq, .head step_scope (Steps.trans harr (.one step_inScope))⟩
  | exit id => exact ⟨.exit id, a₁, w₁, hq, fun k' hk => .head step_scope (harr k' (by simp [exitTo, hk]))⟩
  | goto l' =>
    obtain ⟨rest', hf', e₂, a₂, w₂, hq₂, harr₂⟩ := key _ l' a₁ w₁ hq
    exact ⟨e₂, a₂, w₂, hq₂, .of_steps (.head step_scope (harr _ (by simp [gotoIn, hf']))) harr₂⟩
  | ret => exact ⟨_, a₁, w₁, hq, .of_steps (.one step_scope) harr⟩
  | panic ch => exact ⟨_, a₁, w₁, hq, .of_steps (.one step_scope) harr⟩
  | outgrown => exact ⟨_, a₁, w₁, hq, .of_steps (.one step_scope) harr⟩
theorem XT_sound {E : Env} (hE : E.OK) {D : Desc} (hrng : D.rng = []) (c : Code) : ∀ (ro : RO) (cur : Nat) (st : St) (k : St → Heap → Prop) (ex : Nat → St → Heap → Prop) (rt : St → Heap → Prop) (a : Act) (w : World),
    XT E D c ro cur st w.heap k ex rt → Rel none st a w → a.tmps.size = E.n → c.wp E.P (PG ro E.n st w k (fun _ _ _ => False) ex rt) a w := by
  induction c with
  | seq x y _ ihy =>
    intro ro cur st k ex rt a w d r hn
    unfold XT at d
    refine wp_seq (Code.wp_mono (fun e a' w' h => ?_) (XC_wp (gt := fun _ _ _ => False) hE hrng d r hn))
    cases e with
    | normal =>
      obtain ⟨st', r', h1, h2, h3, h4⟩ := h
      exact Code.wp_mono (fun e a'' w'' h' => PG.mono h3 h1 h') (ihy ro cur st' k ex rt a' w' h4 r' h2)
    | goto j => exact h
    | exit j => exact h
    | ret => exact h
    | _ => exact h.elim
  | scope c _ =>
    intro ro cur st k ex rt a w d r hn
    unfold XT at d
    refine wp_scope_gotos (fun n l a' w' => Nx none ro st (XS E D c ro cur k ex rt n l) E.n w a' w') (fun l a' w' h => ?_) (fun n l a' w' h => ?_) (N := 2) (Code.wp_mono (fun e a' w' h => ?_) (XG_sound hE hrng c ro cur st k _ ex rt a w d r hn))
    · obtain ⟨_, _, _, _, _, h⟩ := h; exact h
    · obtain ⟨st', r', h1, h2, h3, h4⟩ := h
      unfold XS at h4
      split at h4
      · rename_i rest hf
        refine ⟨rest, hf, Code.wp_mono (fun e a'' w'' h' => ?_) (XG_sound hE hrng rest ro cur st' k _ ex rt a' w' h4 r' h2)⟩
        have := PG.mono h3 h1 h'
        cases e <;> first | exact this | exact this.elim
      · exact h4.elim
    · cases e <;> first | exact h | exact h.elim
  | _ => intro ro cur st k ex rt a w d r hn; unfold XT at d; exact XC_wp hE hrng d r hn
/-- What is left to be shown of a call. -/
def FXg (E : Env) (D : Desc) (fn : Func) (c : Code) (args : List Value) (h : Heap) (R : Value → Heap → Prop) : Prop :=
  XT E D c ⟨[], [], []⟩ 0 ⟨argFr args 0, []⟩ h (fun st h' => resV E.T st h' fn.results.toList fun vs => R (one vs) h') (fun _ _ _ => False) (fun st h' => resV E.T st h' fn.results.toList fun vs => R (one vs) h')
theorem calls_of_FXg {E : Env} (hE : E.OK) {D : Desc} {f : FuncId} {fn : Func} {c : Code} (hf : E.P.funcs[f]? = some fn) (hb : fn.body = some c) (hn : Nat.beq fn.ntmps E.n = true) {args : List Value} (hl : Nat.ble args.length E.n = true)
    {h : Heap} {R : Value → Heap → Prop} (H : FXg E D fn c args h R) (hrng : D.rng = [] := by rfl) : CallsH E.P f args.toArray h R := by
  intro w hw
  subst hw
  have hn' := Nat.eq_of_beq_eq_true hn
  have hl' := Nat.le_of_ble_eq_true hl
  refine calls_of_wp hf hb ?_
  have hsize : (args.toArray ++ Array.replicate (fn.ntmps - args.toArray.size) undef).size = E.n := by simp; omega
  have hr : Rel none ⟨argFr args 0, []⟩ { tmps := args.toArray ++ Array.replicate (fn.ntmps - args.toArray.size) undef, defers := [] } w := by
    refine ⟨fun t x hx => ?_, fun s p hp => by simp [plook] at hp, fun s t p q hp => by simp [plook] at hp, rfl⟩
    obtain ⟨v, rfl, _, h3⟩ := argFr_look hx
    refine ⟨v, rfl, ?_⟩
    have h3' : args[t]? = some v := by simpa using h3
    have hlt : t < args.length := (List.getElem?_eq_some_iff.1 h3').1
    rw [Array.getElem?_append_left (by simpa using hlt)]
    simpa using h3'
  refine Code.wp_mono (fun e a' w' hp => ?_) (XT_sound hE hrng c _ _ _ _ _ _ _ w H hr hsize)
  cases e with
  | normal =>
    obtain ⟨st, r, h1, h2, _, h4⟩ := hp
    obtain ⟨v, e1, e2⟩ := results_run (fn := fn) (R := fun v => R v w'.heap) hE.T r h4
    exact ⟨r.df, v, e1, v, rfl, h1, e2⟩
  | ret =>
    obtain ⟨st, r, h1, h2, _, h4⟩ := hp
    obtain ⟨v, e1, e2⟩ := results_run (fn := fn) (R := fun v => R v w'.heap) hE.T r h4
    exact ⟨r.df, v, e1, v, rfl, h1, e2⟩
  | exit j => obtain ⟨_, _, _, _, _, h⟩ := hp; exact h.elim
  | goto j => obtain ⟨_, _, _, _, _, h⟩ := hp; exact h.elim
  | _ => exact hp.elim
end Go.X
