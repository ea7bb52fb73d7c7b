/- A function's whole code over abstract states: what is left to be shown of it; that this suffices. Conditions: the table of types is the program's; the called functions have bodies. -/
import Derived.Test.YtfjflbapojgbhaaGreatDoorXDraw
namespace Go.X
variable {B : Option Nat}

structure Desc where
  /-- by the block that stands around a loop -/
  loops : List (Nat × LD)
  /-- by the slot that a test looks at -/
  joins : List (Nat × LD)
  /-- by a block that several ways leave -/
  blocks : List (Nat × LD)
  /-- by a region's number -/
  draws : List (Nat × DD)
  /-- by the block around a loop over a function: what is handed out -/
  rng : List (Nat × List Sh) := []
  /-- regions that are never reached -/
  cut : List Nat := []
def findD {α : Type} (l : List (Nat × α)) (k : Nat) : Option α :=
  match l with
  | [] => none
  | (i, v) :: r => match Nat.beq i k with
    | true => some v
    | false => findD r k
/-- A state behind moves alone. -/
def asgS (st : St) : Code → Option St
  | .skip => some st
  | .region _ ops false => (match ops.toList with
    | [o] => (match o.guard with
      | none => (match o.op with
        | .assign x => (match o.dst with
          | some d => (match ev st x with
            | some v => some (st.put (some d) v)
            | none => none)
          | none => none)
        | _ => none)
      | some _ => none)
    | _ => none)
  | .seq a b => (match asgS st a with
    | some st' => asgS st' b
    | none => none)
  | _ => none
def asgOK (n : Nat) : Code → Bool
  | .skip => true
  | .region _ ops false => (match ops.toList with
    | [o] => (match o.dst with
      | some d => Nat.blt d n
      | none => false)
    | _ => false)
  | .seq a b => asgOK n a && asgOK n b
  | _ => false
def putPs (st : St) : List Nat → List Value → St
  | p :: ps, v :: vs => putPs (st.put (some p) (.val v)) ps vs
  | _, _ => st
/-- What a round that goes on keeps of what lay below B: all but M. -/
def KpM (M : List Nat) (B : Nat) (W W' : World) : Prop := W.heap.size ≤ W'.heap.size ∧ ∀ b, b < B → b ∉ M → W'.heap[b]? = W.heap[b]?
/-- Over this heap the closure hands out these, as long as of what lies there M alone is changed. -/
def IterH (P : Program) (gf : FuncId) (lb : Array Value) (xs : List (List Value)) (M : List Nat) (h : Heap) : Prop :=
  ∀ (n : Nat) (w : World), w.heap = h → SeqStopsK Fence.wide n P gf lb (fun j : Fin xs.length => (xs[j]).toArray) (KpM M h.size) (fun ys => ys = List.finRange xs.length) (fun pre => pre <+: List.finRange xs.length) xs.length w
def shAll : List Sh → (List Value → Prop) → Prop
  | [], K => K []
  | s :: r, K => s.all fun v => shAll r fun vs => K (v :: vs)
theorem shAll_mono : ∀ {l : List Sh} {K K' : List Value → Prop}, (∀ x, K x → K' x) → shAll l K → shAll l K'
  | [], _, _, h, k => h _ k
  | s :: r, K, K', h, k => by
    simp only [shAll] at k ⊢
    cases s <;> simp only [Sh.all] at k ⊢
    case ifc => exact ⟨shAll_mono (fun x hx => h _ hx) k.1, fun t v => shAll_mono (fun x hx => h _ hx) (k.2 t v)⟩
    all_goals intros; exact shAll_mono (fun x hx => h _ hx) (k ..)
theorem shAll_len : ∀ (l : List Sh), shAll l fun x => x.length = l.length
  | [] => rfl
  | s :: r => by
    have := shAll_len r
    simp only [shAll]
    cases s <;> simp only [Sh.all]
    case ifc => exact ⟨shAll_mono (fun x hx => by simp [hx]) this, fun _ _ => shAll_mono (fun x hx => by simp [hx]) this⟩
    all_goals intros; exact shAll_mono (fun x hx => by simp [hx]) this
/-- The next place of a walk in order; none: it has strayed. -/
def nxt (o : Option Nat) (j : Nat) : Option Nat := if o = some j then some (j + 1) else none
theorem nxt_on (j : Nat) : nxt (some j) j = some (j + 1) := if_pos rfl
theorem nxt_off {i j : Nat} (h : j ≠ i) : nxt (some i) j = none := if_neg fun e => h (Option.some.inj e).symm
theorem nxt_none (j : Nat) : nxt none j = none := if_neg fun e => by cases e
def trk {n : Nat} (pre : List (Fin n)) : Option Nat := if pre = (List.finRange n).take pre.length then some pre.length else none
theorem trk_step {n : Nat} {pre : List (Fin n)} (h : pre.length < n) (x : Fin n) : trk (pre ++ [x]) = nxt (trk pre) x := by
  have e : (List.finRange n).take (pre ++ [x]).length = (List.finRange n).take pre.length ++ [⟨pre.length, h⟩] := by
    rw [List.length_append, List.length_singleton, List.take_add_one, List.getElem?_eq_getElem (by simpa using h), List.getElem_finRange]; rfl
  unfold trk
  rw [e]
  by_cases hp : pre = (List.finRange n).take pre.length
  · rw [if_pos hp]
    by_cases hx : x = ⟨pre.length, h⟩
    · subst hx
      rw [if_pos (by rw [← hp]), nxt_on]; simp
    · rw [if_neg (fun q => hx (by have := List.append_inj_right' q rfl; simpa using this)), nxt_off (fun q => hx (Fin.ext q))]
  · rw [if_neg hp, nxt_none, if_neg fun q : pre ++ [x] = (List.finRange n).take pre.length ++ [⟨pre.length, h⟩] => hp (List.append_inj_left' q rfl)]
/-- What is left to be shown of a loop over a function. -/
def rangeX (P : Program) (gf : FuncId) (lb : Array Value) (shs : List Sh) (h : Heap) (run : List Value → Heap → (Heap → Prop) → (Nat → Heap → Prop) → (Heap → Prop) → Prop) (k : Heap → Prop) (ex : Nat → Heap → Prop) (rt : Heap → Prop) : Prop :=
  ∃ (xs : List (List Value)) (M : List Nat) (I : Option Nat → Heap → Prop), (∀ x ∈ xs, ∀ K, shAll shs K → K x) ∧ IterH P gf lb xs M h ∧ I (some 0) h ∧
    (∀ (i : Option Nat) (j : Nat) (h1 H : Heap), (∀ m, i = some m → m < xs.length) → I i h1 → h1.size = h.size → Fr [] h1 H → shAll shs fun x => xs[j]? = some x → run x H
      (fun H' => Fr M H H' ∧ ∃ h2, h2.size = h.size ∧ Fr [] h2 H' ∧ I (nxt i j) h2)
      (fun id H' => ∃ h2, h2.size = h.size ∧ Fr [] h2 H' ∧ (i = some j → ∀ H2, Fr [] h2 H2 → ex id H2))
      (fun H' => ∃ h2, h2.size = h.size ∧ Fr [] h2 H' ∧ (i = some j → ∀ H2, Fr [] h2 H2 → rt H2))) ∧
    ∀ (h1 H : Heap), I (some xs.length) h1 → h1.size = h.size → Fr [] h1 H → k H
def rngX (E : Env) (shs : List Sh) (st : St) (h : Heap) (g : Operand) (ps : Array Tmp) (assign : Code) (run : St → Heap → (St → Heap → Prop) → (Nat → St → Heap → Prop) → (St → Heap → Prop) → Prop) (k : St → Heap → Prop) (ex : Nat → St → Heap → Prop) (rt : St → Heap → Prop) : Prop :=
  match st.lc with
  | [] => (match evo st g with
    | some v => (match asgOK E.n assign && (ps.toList.all fun p => Nat.blt p E.n) && Nat.beq shs.length ps.toList.length with
      | true => ∃ (gf : Nat) (lb : Array Value), v = .func (.func gf) #[] lb ∧ mem E.F gf = true ∧ rangeX E.P gf lb shs h (fun x H kn kx kr => match asgS (putPs st ps.toList x) assign with
        | some st2 => run st2 H (fun _ H' => kn H') (fun id _ H' => kx id H') (fun _ H' => kr H')
        | none => False) (fun H => k st H) (fun id H => ex id st H) (fun H => rt st H)
      | false => False)
    | none => False)
  | _ => False
def roE : RO := ⟨[], [], []⟩
def XC (E : Env) : Desc → Code → RO → Nat → St → Heap → (St → Heap → Prop) → (Nat → St → Heap → Prop) → (St → Heap → Prop) → Prop
  | _, .skip, _, _, st, h, k, _, _ => k st h
  | D, .region id ops draw, ro, _, st, h, k, _, _ => (match draw with
    | false => (match mem D.cut id with
      | true => False
      | false => XR E ro ops.toList ops.toList 0 st h k)
    | true => match findD D.draws id with
      | some d => XD E ro d ops st h k
      | none => False)
  | D, .seq a b, ro, cur, st, h, k, ex, rt => XC E D a ro cur st h (fun st' h' => XC E D b ro cur st' h' k ex rt) ex rt
  | D, .cond c t e, ro, cur, st, h, k, ex, rt => (match ev st c with
    | some (.lit true) => XC E D t ro cur st h k ex rt
    | some (.lit false) => XC E D e ro cur st h k ex rt
    | some (.val (.bool b)) => (match c with
      | .tmp s => (match findD D.joins s with
        | some d => joinX ro d st (fun ro' K => cnd b (XC E D t ro' cur st h K ex rt) (XC E D e ro' cur st h K ex rt)) k
        | none => cnd b (XC E D t ro cur st h k ex rt) (XC E D e ro cur st h k ex rt))
      | _ => False)
    | _ => False)
  | D, .block id c, ro, _, st, h, k, ex, rt => (match findD D.blocks id with
    | some d => joinX ro d st (fun ro' K => XC E D c ro' id st h K (fun j st' h' => match Nat.beq j id with
      | true => K st' h'
      | false => ex j st' h') rt) k
    | none => XC E D c ro id st h k (fun j st' h' => match Nat.beq j id with
      | true => k st' h'
      | false => ex j st' h') rt)
  | D, .loop c, ro, cur, st, h, _, ex, rt => (match findD D.loops cur with
    | some d => loopX ro d st h fun ro' st' h' K => XC E D c ro' cur st' h' K ex rt
    | none => False)
  | D, .scope c, ro, cur, st, h, k, ex, rt => XC E D c ro cur st h k ex rt
  | _, .label _, _, _, st, h, k, _, _ => k st h
  | D, .exit id, _, _, st, h, _, ex, _ => ex id st h
  | D, .ret, _, _, st, h, _, _, rt => rt st h
  | D, .rangeFunc g ps assign body, _, cur, st, h, k, ex, rt => (match findD D.rng cur with
    | some shs => rngX E shs st h g ps assign (fun st2 H kn kx kr => XC E { loops := [], joins := [], blocks := [], draws := [], rng := [] } body roE cur st2 H kn kx kr) k ex rt
    | none => False)
  | _, _, _, _, _, _, _, _, _ => False
/-- What stands behind a piece of code. -/
def PX (B : Option Nat) (ro : RO) (n : Nat) (s0 : St) (w0 : World) (k : St → Heap → Prop) (ex : Nat → St → Heap → Prop) (rt : St → Heap → Prop) : Exit → Act → World → Prop
  | .normal, a, w => Nx B ro s0 k n w0 a w
  | .exit j, a, w => Nx B ro s0 (ex j) n w0 a w
  | .ret, a, w => Nx B ro s0 rt n w0 a w
  | _, _, _ => False
theorem Nx.mono {ro ro' : RO} {s0 s1 : St} {K K' : St → Heap → Prop} {n : Nat} {w0 w1 : World} {a : Act} {w : World} (h : Nx B ro s0 K n w0 a w) (hk : ∀ st, Keep ro s0 st → Keep ro' s1 st) (hw : Rest w1 w0) (hK : ∀ st h, K st h → K' st h) : Nx B ro' s1 K' n w1 a w := by
  obtain ⟨st, r, h1, h2, h3, h4⟩ := h
  exact ⟨st, r, hw.trans h1, h2, hk st h3, hK _ _ h4⟩
theorem LD.ok_weaken {ro : RO} {d : LD} (hok : d.ok ro = true) {st st' : St} (h : Keep d.ro st st') : Keep ro st st' := by
  simp only [LD.ok, Bool.and_eq_true] at hok
  obtain ⟨⟨⟨⟨h1, h2⟩, h3⟩, _⟩, _⟩ := hok
  exact h.weaken (fun t ht => mem_subs h1 ht) (fun t ht => mem_subs h2 ht) (fun t ht => mem_subs h3 ht)
/-- The made state keeps what is kept. -/
theorem mk_keep {ro : RO} {d : LD} {st : St} {kf : List (Nat × AVal)} {kl : List Priv} (hok : d.ok ro = true) (hkf : keepFr st (d.keepP ++ d.varP) d.keepT = some kf) (hkl : keepLc st.lc d.keepP = some kl)
    {q0 : List (List (Sh × Value))} (h0 : curP st.lc d.varP = some q0) (v : List Value) (vp : List (List Value)) (hvp : vp.length = q0.length) : Keep d.ro st (mkSt d st kf kl v vp) := by
  simp only [LD.ok, Bool.and_eq_true] at hok
  obtain ⟨⟨⟨⟨_, _⟩, _⟩, hdT⟩, hdP⟩ := hok
  have slot : ∀ {l : List Priv} {s : Nat} {p : Priv}, plook l s = some p → p.slot = s := by
    intro l s p h
    induction l with
    | nil => simp [plook] at h
    | cons q r ih =>
      simp only [plook] at h
      cases hb : Nat.beq q.slot s with
      | true => simp only [hb, Option.some.injEq] at h; subst h; exact Nat.eq_of_beq_eq_true hb
      | false => simp only [hb] at h; exact ih h
  obtain ⟨_, l2⟩ := keepLc_look hkl
  have hp : ∀ s, mem d.keepP s = true → plook (mkSt d st kf kl v vp).lc s = plook st.lc s := by
    intro s hs
    have hv : mem d.varP s = false := not_mem_disj hdP hs
    show plook (putP st.lc d.varP vp kl) s = _
    rw [putP_other hv (fun u hu => curP_all h0 u hu)]
    obtain ⟨p, p', g1, g2, g3, g4, g5⟩ := l2 s hs
    rw [g1, g2]
    have e1 := slot g1
    have e2 := slot g2
    cases p; cases p'
    simp_all
  refine ⟨fun t ht => ?_, hp, fun s hs => ?_⟩
  · show look (putT d.varT v kf) t = _
    rw [putT_other (not_mem_disj hdT ht)]
    exact keepFr_has hkf t ht
  · have hs' : mem (d.keepP ++ d.varP) s = true := hs
    rw [mem_append, Bool.or_eq_true] at hs'
    rcases hs' with hs' | hs'
    · rw [hp s hs']
    · show (plook (putP st.lc d.varP vp kl) s).map Priv.place = _
      have gen : ∀ {l : List Nat} {q : List (List (Sh × Value))} {vp : List (List Value)}, curP st.lc l = some q → vp.length = q.length → mem l s = true → (plook (putP st.lc l vp kl) s).map Priv.place = (plook st.lc s).map Priv.place := by
        intro l
        induction l with
        | nil => intro q vp _ _ h; simp [mem] at h
        | cons t r ih =>
          intro q vp hq hl hm
          unfold curP at hq
          split at hq
          · rename_i p hp
            split at hq
            · rename_i q' hq'
              simp only [Option.some.injEq] at hq
              subst hq
              cases vp with
              | nil => simp at hl
              | cons x vp =>
                simp only [putP, hp, plook]
                cases hb : Nat.beq t s with
                | true => have := Nat.eq_of_beq_eq_true hb; subst this; simp [hp, Priv.place]
                | false =>
                  simp only [mem, hb] at hm
                  exact ih hq' (by simpa using hl) hm
            · cases hq
          · cases hq
      exact gen h0 hvp hs'
theorem valsP_len (l : List (List (Sh × Value))) : (valsP l).length = l.length := by simp [valsP]
theorem sameP_len : ∀ {l q : List (List (Sh × Value))} {K : List (List Value) → Prop}, sameP l q K → q.length = l.length
  | [], [], _, _ => rfl
  | l :: r, m :: q, K, h => by obtain ⟨h1, _⟩ := sameV_elim h; simp [sameP_len h1]
  | [], _ :: _, _, h => h.elim
  | _ :: _, [], _, h => h.elim
theorem headX_elim {ro : RO} {d : LD} {st : St} {K : List (Nat × AVal) → List Priv → List (Sh × Value) → List (List (Sh × Value)) → Prop} (h : headX ro d st K) :
    d.ok ro = true ∧ ∃ kf kl v1 v2, keepFr st (d.keepP ++ d.varP) d.keepT = some kf ∧ keepLc st.lc d.keepP = some kl ∧ curT st d.varT = some v1 ∧ curP st.lc d.varP = some v2 ∧
      (∀ L : List Value → Prop, allV v1 L → L (vals v1)) ∧ (∀ L : List (List Value) → Prop, allP v2 L → L (valsP v2)) ∧ K kf kl v1 v2 := by
  unfold headX at h
  split at h
  · exact h.elim
  · rename_i hok
    split at h
    · exact h.elim
    · rename_i kf h1
      split at h
      · exact h.elim
      · rename_i kl h2
        split at h
        · exact h.elim
        · rename_i v1 h3
          split at h
          · exact h.elim
          · rename_i v2 h4
            obtain ⟨e1, e2⟩ := sameV_elim h
            obtain ⟨e3, e4⟩ := sameP_elim e1
            exact ⟨hok, kf, kl, v1, v2, h1, h2, h3, h4, e2, e4, e3⟩
/-- Back at the place where ways meet. -/
theorem back_rel {ro : RO} {d : LD} {st : St} {kf : List (Nat × AVal)} {kl : List Priv} {v1 : List (Sh × Value)} {v2 : List (List (Sh × Value))} (hok : d.ok ro = true) (hkf : keepFr st (d.keepP ++ d.varP) d.keepT = some kf)
    (hkl : keepLc st.lc d.keepP = some kl) (h2 : curP st.lc d.varP = some v2) {st' : St} (hk : Keep d.ro st st') {K : List Value → List (List Value) → Prop} (hb : backV d v1 v2 st' K) {a : Act} {w : World} (r : Rel B st' a w) :
    ∃ u up, Rel B (mkSt d st kf kl u up) a w ∧ up.length = v2.length ∧ K u up ∧ (∀ L : List Value → Prop, allV v1 L → L u) ∧ (∀ L : List (List Value) → Prop, allP v2 L → L up) := by
  unfold backV at hb
  split at hb
  · rename_i u1 hu1
    split at hb
    · rename_i u2 hu2
      obtain ⟨e1, e2⟩ := sameV_elim hb
      have el := sameP_len e1
      obtain ⟨e3, e4⟩ := sameP_elim e1
      exact ⟨vals u1, valsP u2, mk_rel hok hkf hkl h2 hk.t hk.p hk.a hu1 hu2 r, by rw [valsP_len, el], e3, e2, e4⟩
    · exact hb.elim
  · exact hb.elim
theorem least {p : Nat → Prop} (h : ∃ m, p m) : ∃ m, p m ∧ ∀ k, p k → m ≤ k := by
  obtain ⟨m, hm⟩ := h
  induction m using Nat.strongRecOn with
  | _ m ih =>
    by_cases hk : ∃ k, k < m ∧ p k
    · obtain ⟨k, h1, h2⟩ := hk; exact ih k h1 h2
    · exact ⟨m, hm, fun k h => Nat.le_of_not_lt fun hlt => hk ⟨k, hlt, h⟩⟩
theorem Rest.grown {w W W' : World} {row : Option Nat} (r : Rest w W) (hg : W.grownBy W' row) (hr : ∀ k, row = some k → w.heap.size ≤ k) : Rest w W' :=
  ⟨hg.os.trans r.os, hg.tape.trans r.tape, hg.output.trans r.output, Nat.le_trans r.ko.size hg.size, fun k o hk ho => by
    have h1 := r.ko.same k o hk ho
    have hlt := (Array.getElem?_eq_some_iff.1 hk).1
    exact (hg.block k (Array.getElem?_eq_some_iff.1 h1).1 fun e => by have := hr k e.symm; omega).trans h1⟩
theorem Fr.grown {h1 : Heap} {W W' : World} {row : Option Nat} (f : Fr [] h1 W.heap) (hg : W.grownBy W' row) (hr : ∀ k, row = some k → h1.size ≤ k) : Fr [] h1 W'.heap :=
  ⟨Nat.le_trans f.size hg.size, fun b hb _ => (hg.block b (Nat.lt_of_lt_of_le hb f.size) fun e => by have := hr b e.symm; omega).trans (f.blk b hb (by simp))⟩
theorem putPs_lc : ∀ (ps : List Nat) (vs : List Value) (st : St), (putPs st ps vs).lc = st.lc
  | [], _, _ => by simp [putPs]
  | _ :: _, [], _ => rfl
  | p :: ps, v :: vs, st => by rw [putPs, putPs_lc ps vs]; rfl
theorem FrOK.put {st : St} {a : Act} (r : FrOK st a) {d : Nat} (hd : d < a.tmps.size) {x : AVal} {v : Value} (hx : x.conc st.lc = some v) : FrOK (st.put (some d) x) (a.put (some d) v) := by
  intro t y hy
  simp only [St.put, look] at hy
  cases hb : Nat.beq d t with
  | true =>
    have := Nat.eq_of_beq_eq_true hb
    subst this
    simp only [hb, Option.some.injEq] at hy
    subst hy
    exact ⟨v, hx, by simp [Act.put, hd]⟩
  | false =>
    simp only [hb] at hy
    obtain ⟨u, h1, h2⟩ := r t y hy
    refine ⟨u, h1, ?_⟩
    have hne : d ≠ t := fun e => by subst e; simp at hb
    simp only [Act.put]
    rw [Array.getElem?_setIfInBounds_ne hne]
    exact h2
theorem putPs_fr : ∀ (ps : List Nat) (vs : List Value) (st : St) (t : Array Value) (ds : List Deferred), FrOK st { tmps := t, defers := ds } → (∀ p ∈ ps, p < t.size) →
    FrOK (putPs st ps vs) { tmps := (ps.zip vs).foldl (fun t pv => t.setIfInBounds pv.1 pv.2) t, defers := ds } ∧ ((ps.zip vs).foldl (fun t pv => t.setIfInBounds pv.1 pv.2) t).size = t.size
  | [], _, st, t, ds, r, _ => by simpa [putPs] using r
  | _ :: _, [], st, t, ds, r, _ => by simpa [putPs] using r
  | p :: ps, v :: vs, st, t, ds, r, h => by
    have r1 : FrOK (st.put (some p) (.val v)) { tmps := t.setIfInBounds p v, defers := ds } := r.put (a := { tmps := t, defers := ds }) (h p (by simp)) rfl
    have := putPs_fr ps vs (st.put (some p) (.val v)) (t.setIfInBounds p v) ds r1 (fun q hq => by simpa using h q (by simp [hq]))
    rw [putPs, List.zip_cons_cons, List.foldl_cons]
    exact ⟨this.1, by simpa using this.2⟩
theorem asg_sound {P : Program} {q : Option Nat} {lv : Nat} {Q : Exit → Act → World → Prop} (c : Code) : ∀ (st st2 : St) (a : Act) (w : World) (K : Act → World → Prop), asgS st c = some st2 → asgOK a.tmps.size c = true → FrOK st a →
    (∀ a', st2.lc = st.lc → FrOK st2 a' → a'.defers = a.defers → a'.tmps.size = a.tmps.size → K a' w) → c.wpIn (FF q) lv P (Exit.then K Q) a w := by
  induction c with
  | skip =>
    intro st st2 a w K h _ r k
    simp only [asgS, Option.some.injEq] at h
    subst h
    exact wpIn_skip (k a rfl r rfl rfl)
  | seq x y ihx ihy =>
    intro st st2 a w K h ho r k
    simp only [asgS] at h
    simp only [asgOK, Bool.and_eq_true] at ho
    split at h
    · rename_i st' h1
      refine wpIn_seq (Code.wpIn_mono (fun e a' w' z => ?_) (ihx st st' a w (fun a' w' => y.wpIn (FF q) lv P (Exit.then K Q) a' w') h1 ho.1 r fun a' e1 r' e2 e3 => ihy st' st2 a' w K h (by rw [e3]; exact ho.2) r' fun a'' f1 r'' f2 f3 => k a'' (f1.trans e1) r'' (f2.trans e2) (f3.trans e3)))
      cases e <;> exact z
    · cases h
  | region id ops draw =>
    intro st st2 a w K h ho r k
    cases draw with
    | true => simp [asgS] at h
    | false =>
      simp only [asgS] at h
      simp only [asgOK] at ho
      split at h
      · rename_i o hl
        rw [hl] at ho
        simp only at ho
        split at h
        · rename_i hg
          split at h
          · rename_i x hop
            split at h
            · rename_i d hd
              rw [hd] at ho
              simp only at ho
              have hlt : d < a.tmps.size := Nat.lt_of_lt_of_le (Nat.lt_of_lt_of_le (Nat.lt_succ_self d) (Nat.le_of_ble_eq_true ho)) (Nat.le_refl _)
              split at h
              · rename_i y hy
                simp only [Option.some.injEq] at h
                subst h
                obtain ⟨v, hc, hv⟩ := ev_eval r hy
                refine wpIn_region_list ?_
                rw [hl]
                unfold wpListIn
                rw [if_pos (by simp [Region.wanted, hg])]
                refine Oper.wpIn_of (fun c e => by rw [hop] at e; cases e) ?_
                unfold Oper.wp
                have e1 : (execOp a.eval o).run P w = .ok (.value v) w := by
                  simp [execOp, hop, hv]
                rw [e1, Oper.upon_value, hd]
                exact k (a.put (some d) v) rfl (r.put hlt hc) rfl (by simp [Act.put])
              · cases h
            · cases h
          · cases h
        · cases h
      · cases h
  | _ => intro st st2 a w K h; simp [asgS] at h
/-- A further mark. -/
theorem marked {b D : Nat} {ds : List Deferred} {w W : World} (hD : w.heap.size ≤ D) (hb : b ≤ w.heap.size) (m : Mk (some b) ds w) (r : Rest w W) (hK : W.heap[D]? = some (.deferred (some []))) : Mk (some b) ({ target := .collected D, args := #[] } :: ds) W := by
  refine ⟨List.nodup_cons.2 ⟨fun h => ?_, m.1⟩, fun d hd => ?_⟩
  · obtain ⟨D', e, _, h3⟩ := m.2 _ h
    have h4 := (Array.getElem?_eq_some_iff.1 h3).1
    cases e
    omega
  · rcases List.mem_cons.1 hd with rfl | hd
    · exact ⟨D, rfl, by omega, hK⟩
    · exact (m.rest r).2 d hd
theorem stepR_scope {P : Program} {b : Frame} {a : Act} {k : List Item} {cs : List Frame} {w : World} {c : Code} : step P (lone (b.atR a (.code (.scope c) :: k)) cs w) = .next (lone (b.atR a (.code c :: .inScope c :: k)) cs w) :=
  step_lone_go (by simp [stepG, stepG.exec, Frame.atR])
theorem stepR_inScope {P : Program} {b : Frame} {a : Act} {k : List Item} {cs : List Frame} {w : World} {c : Code} : step P (lone (b.atR a (.inScope c :: k)) cs w) = .next (lone (b.atR a k) cs w) :=
  step_lone_go (by simp [stepG, stepG.exec, Frame.atR])
/-- A scope through which the run goes without a jump. -/
theorem wpIn_scope {F : Fence} {n : Nat} {P : Program} {Q : Exit → Act → World → Prop} {a : Act} {w : World} {c : Code} (h : c.wpIn F n P Q a w) (hg : ∀ l a w, ¬ Q (.goto l) a w) : (Code.scope c).wpIn F n P Q a w := by
  intro b k cs hro hb hr
  have h0 : (lone (b.atR a (.code (.scope c) :: k)) cs w).fenced P F := fenced_calm hb hr rfl
  obtain ⟨e, a₁, w₁, hq, harr⟩ := h b (.inScope c :: k) cs hro hb hr
  cases e with
  | normal => exact ⟨.normal, a₁, w₁, hq, .head h0 stepR_scope (StepsIn.trans harr (.one (fenced_calm hb hr rfl) stepR_inScope))⟩
  | exit id' =>
    have hx : exitTo id' (.inScope c :: k) = exitTo id' k := by simp [exitTo]
    exact ⟨.exit id', a₁, w₁, hq, fun k' hk => .head h0 stepR_scope (harr.1 k' (by rw [hx]; exact hk)),
      fun hr' hk => let ⟨k₁, h1, h2⟩ := harr.2 hr' (by rw [hx]; exact hk); ⟨k₁, h1, .head h0 stepR_scope h2⟩⟩
  | goto l => exact absurd hq (hg l _ _)
  | ret => exact ⟨_, a₁, w₁, hq, .of_steps (.one h0 stepR_scope) harr⟩
  | panic ch => exact ⟨_, a₁, w₁, hq, .of_steps (.one h0 stepR_scope) harr⟩
  | outgrown => exact ⟨_, a₁, w₁, hq, .of_steps (.one h0 stepR_scope) harr⟩
theorem XC_soundIn {E : Env} (hE : E.OK) (c : Code) : ∀ (D : Desc) (q : Option Nat) (lv : Nat) (_ : q = none ∨ (D.draws = [] ∧ D.rng = [])) (_ : D.rng ≠ [] → ∃ b, B = some b) (ro : RO) (cur : Nat) (st : St) (k : St → Heap → Prop) (ex : Nat → St → Heap → Prop) (rt : St → Heap → Prop) (a : Act) (w : World),
    (∀ b, B = some b → b ≤ w.heap.size) → XC E D c ro cur st w.heap k ex rt → Rel B st a w → a.tmps.size = E.n → c.wpIn (FF q) lv E.P (PX B ro E.n st w k ex rt) a w := by
  induction c with
  | skip => exact fun D q lv hq hB ro cur st k ex rt a w hw d r hn => wpIn_skip ⟨st, r, Rest.refl w, hn, Keep.refl _ _, d⟩
  | region id ops draw =>
    intro D q lv hq hB ro cur st k ex rt a w hw d r hn
    unfold XC at d
    cases draw with
    | false =>
      simp only at d
      split at d
      · exact d.elim
      refine wpIn_region_list ?_
      have := XR_soundIn hE (q := q) (n := lv) (ro := ro) (ops := ops.toList) (K := k) (Q := PX B ro E.n st w k ex rt) (s0 := st) (w0 := w) (fun a w h => h) ops.toList 0 st a w d r hn (Rest.refl w) (Keep.refl _ _)
      simpa using this
    | true =>
      simp only at d
      split at d
      · rename_i dd _
        have hops : ops = ops.toList.toArray := by simp
        rw [hops] at d ⊢
        rcases hq with rfl | hq
        · exact wpIn_wide.2 (Code.wp_mono (fun e a w h => by cases e <;> first | exact h | exact h.elim) (XD_sound hE (id := id) d r hn))
        · rename_i hf
          rw [hq.1] at hf
          cases hf
      · exact d.elim
  | seq x y ihx ihy =>
    intro D q lv hq hB ro cur st k ex rt a w hw d r hn
    unfold XC at d
    refine wpIn_seq (Code.wpIn_mono (fun e a' w' h => ?_) (ihx D q lv hq hB ro cur st _ ex rt a w hw d r hn))
    cases e with
    | normal =>
      obtain ⟨st', r', h1, h2, h3, h4⟩ := h
      refine Code.wpIn_mono (fun e a'' w'' h' => ?_) (ihy D q lv hq hB ro cur st' k ex rt a' w' (fun b e => Nat.le_trans (hw b e) h1.ko.size) h4 r' h2)
      cases e <;> first | exact Nx.mono h' (fun _ q => h3.trans q) h1 (fun _ _ q => q) | exact h'.elim
    | exit j => exact h
    | ret => exact h
    | _ => exact h.elim
  | cond c t e iht ihe =>
    intro D q lv hq hB ro cur st k ex rt a w hw d r hn
    unfold XC at d
    split at d
    · rename_i h1
      obtain ⟨v, hc, hv⟩ := ev_eval r.fr h1
      simp only [AVal.conc, Option.some.injEq] at hc
      exact wpIn_cond_true (hv.trans hc.symm) (iht D q lv hq hB ro cur st k ex rt a w hw d r hn)
    · rename_i h1
      obtain ⟨v, hc, hv⟩ := ev_eval r.fr h1
      simp only [AVal.conc, Option.some.injEq] at hc
      exact wpIn_cond_false (hv.trans hc.symm) (ihe D q lv hq hB ro cur st k ex rt a w hw d r hn)
    · rename_i b h1
      obtain ⟨v, hc, hv⟩ := ev_eval r.fr h1
      simp only [AVal.conc, Option.some.injEq] at hc
      refine wpIn_cond (hv.trans hc.symm) ?_
      split at d
      · rename_i s
        split at d
        · rename_i dl _
          obtain ⟨hok, kf, kl, v1, v2, h1, h2, h3, h4, _, _, J, hways, hk⟩ := headX_elim d
          have hk' : ∀ u up, (∀ L : List Value → Prop, allV v1 L → L u) → (∀ L : List (List Value) → Prop, allP v2 L → L up) → ∀ h', J (u ++ up.flatten) h' → k (mkSt dl st kf kl u up) h' := fun u up hu hup h' hj => hup _ (hu _ hk) h' hj
          have fin : ∀ e (a' : Act) (w' : World), PX B dl.ro E.n st w (fun st'' h'' => backV dl v1 v2 st'' fun u up => J (u ++ up.flatten) h'') ex rt e a' w' → PX B ro E.n st w k ex rt e a' w' := by
            intro e a' w' h
            cases e with
            | normal =>
              obtain ⟨st', r', g1, g2, g3, g4⟩ := h
              obtain ⟨u, up, r'', hlen, hj, hu, hup⟩ := back_rel hok h1 h2 h4 g3 g4 r'
              exact ⟨_, r'', g1, g2, LD.ok_weaken hok (mk_keep hok h1 h2 h4 u up hlen), hk' u up hu hup _ hj⟩
            | exit j => exact Nx.mono h (fun _ q => LD.ok_weaken hok q) (Rest.refl w) (fun _ _ q => q)
            | ret => exact Nx.mono h (fun _ q => LD.ok_weaken hok q) (Rest.refl w) (fun _ _ q => q)
            | _ => exact h.elim
          cases b with
          | true => exact Code.wpIn_mono fin (iht D q lv hq hB dl.ro cur st _ ex rt a w hw (hways.1 rfl) r hn)
          | false => exact Code.wpIn_mono fin (ihe D q lv hq hB dl.ro cur st _ ex rt a w hw (hways.2 rfl) r hn)
        · cases b with
          | true => exact iht D q lv hq hB ro cur st k ex rt a w hw (d.1 rfl) r hn
          | false => exact ihe D q lv hq hB ro cur st k ex rt a w hw (d.2 rfl) r hn
      · exact d.elim
    · exact d.elim
  | block id c ih =>
    intro D q lv hq hB ro cur st k ex rt a w hw d r hn
    unfold XC at d
    have fin : ∀ (ro' : RO) (k' : St → Heap → Prop) e (a' : Act) (w' : World), PX B ro' E.n st w k' (fun j st' h' => match Nat.beq j id with | true => k' st' h' | false => ex j st' h') rt e a' w' → Exit.inBlock id (PX B ro' E.n st w k' ex rt) e a' w' := by
      intro ro' k' e a' w' h
      cases e with
      | normal => exact h
      | exit j =>
        simp only [Exit.inBlock]
        obtain ⟨st', r', h1, h2, h3, h4⟩ := h
        by_cases hj : j = id
        · subst hj
          rw [if_pos rfl]
          simp only [show Nat.beq j j = true by simp] at h4
          exact ⟨st', r', h1, h2, h3, h4⟩
        · rw [if_neg hj]
          have : Nat.beq j id = false := by rw [← Bool.not_eq_true]; intro hh; exact hj (Nat.eq_of_beq_eq_true hh)
          simp only [this] at h4
          exact ⟨st', r', h1, h2, h3, h4⟩
      | ret => exact h
      | _ => exact h.elim
    split at d
    · rename_i dl _
      obtain ⟨hok, kf, kl, v1, v2, h1, h2, h3, h4, _, _, J, hways, hk⟩ := headX_elim d
      have hk' : ∀ u up, (∀ L : List Value → Prop, allV v1 L → L u) → (∀ L : List (List Value) → Prop, allP v2 L → L up) → ∀ h', J (u ++ up.flatten) h' → k (mkSt dl st kf kl u up) h' := fun u up hu hup h' hj => hup _ (hu _ hk) h' hj
      have fin2 : ∀ e (a' : Act) (w' : World), PX B dl.ro E.n st w (fun st'' h'' => backV dl v1 v2 st'' fun u up => J (u ++ up.flatten) h'') ex rt e a' w' → PX B ro E.n st w k ex rt e a' w' := by
        intro e a' w' h
        cases e with
        | normal =>
          obtain ⟨st', r', g1, g2, g3, g4⟩ := h
          obtain ⟨u, up, r'', hlen, hj, hu, hup⟩ := back_rel hok h1 h2 h4 g3 g4 r'
          exact ⟨_, r'', g1, g2, LD.ok_weaken hok (mk_keep hok h1 h2 h4 u up hlen), hk' u up hu hup _ hj⟩
        | exit j => exact Nx.mono h (fun _ q => LD.ok_weaken hok q) (Rest.refl w) (fun _ _ q => q)
        | ret => exact Nx.mono h (fun _ q => LD.ok_weaken hok q) (Rest.refl w) (fun _ _ q => q)
        | _ => exact h.elim
      exact Code.wpIn_mono fin2 (wpIn_block (Code.wpIn_mono (fin dl.ro _) (ih D q lv hq hB dl.ro id st _ _ rt a w hw hways r hn)))
    · exact wpIn_block (Code.wpIn_mono (fin ro k) (ih D q lv hq hB ro id st _ _ rt a w hw d r hn))
  | loop c ih =>
    intro D q lv hq hB ro cur st k ex rt a w hw d r hn
    unfold XC at d
    split at d
    · rename_i dl _
      obtain ⟨hok, kf, kl, v1, v2, h1, h2, h3, h4, hs1, hs2, I, μ, hI, hbody⟩ := headX_elim d
      have hb : ∀ u up, (∀ L : List Value → Prop, allV v1 L → L u) → (∀ L : List (List Value) → Prop, allP v2 L → L up) → ∀ h', I (u ++ up.flatten) h' →
          XC E D c dl.ro cur (mkSt dl st kf kl u up) h' (fun st'' h'' => backV dl v1 v2 st'' fun u' up' => I (u' ++ up'.flatten) h'' ∧ μ (u' ++ up'.flatten) h'' < μ (u ++ up.flatten) h') ex rt :=
        fun u up hu hup h' hi => hup _ (hu _ hbody) h' hi
      -- what holds at the head; the measure is the least that some reading of the state gives
      let Inv : Act → World → Nat → Prop := fun a' w' m => ∃ u up, Rel B (mkSt dl st kf kl u up) a' w' ∧ up.length = v2.length ∧ (∀ L : List Value → Prop, allV v1 L → L u) ∧ (∀ L : List (List Value) → Prop, allP v2 L → L up) ∧
          I (u ++ up.flatten) w'.heap ∧ a'.tmps.size = E.n ∧ Rest w w' ∧ μ (u ++ up.flatten) w'.heap = m
      have start : Inv a w (μ (vals v1 ++ (valsP v2).flatten) w.heap) :=
        ⟨vals v1, valsP v2, mk_rel hok h1 h2 h4 (fun _ _ => rfl) (fun _ _ => rfl) (fun _ _ => rfl) h3 h4 r, valsP_len _, hs1, hs2, hI, hn, Rest.refl w, rfl⟩
      have round : ∀ a' w' m, Inv a' w' m → c.wpIn (FF q) lv E.P (Exit.then (fun a'' w'' => ∃ m', Inv a'' w'' m' ∧ m' < m) (PX B ro E.n st w k ex rt)) a' w' := by
        rintro a' w' m ⟨u, up, r', hlen, hu, hup, hi, hn', hrest, rfl⟩
        have hmk : Keep dl.ro st (mkSt dl st kf kl u up) := mk_keep hok h1 h2 h4 u up hlen
        refine Code.wpIn_mono (fun e a'' w'' h => ?_) (ih D q lv hq hB dl.ro cur _ _ ex rt a' w' (fun b e => Nat.le_trans (hw b e) hrest.ko.size) (hb u up hu hup w'.heap hi) r' hn')
        cases e with
        | normal =>
          obtain ⟨st'', r'', g1, g2, g3, g4⟩ := h
          obtain ⟨u', up', r3, hlen', ⟨hi', hlt⟩, hu', hup'⟩ := back_rel hok h1 h2 h4 (hmk.trans g3) g4 r''
          exact ⟨_, ⟨u', up', r3, hlen', hu', hup', hi', g2, hrest.trans g1, rfl⟩, hlt⟩
        | exit j => exact Nx.mono h (fun _ q => LD.ok_weaken hok (hmk.trans q)) hrest (fun _ _ q => q)
        | ret => exact Nx.mono h (fun _ q => LD.ok_weaken hok (hmk.trans q)) hrest (fun _ _ q => q)
        | _ => exact h.elim
      -- the kit's rule, the measure behind a choice
      classical
      refine wpIn_loop (fun a' w' => ∃ m, Inv a' w' m) (fun a' w' => if h : ∃ m, Inv a' w' m then Classical.choose (least h) else 0) ⟨_, start⟩ ?_
      intro a' w' hex
      have hmin := (Classical.choose_spec (least hex)).1
      refine Code.wpIn_mono (fun e a'' w'' h => ?_) (round a' w' _ hmin)
      cases e with
      | normal =>
        obtain ⟨m', hm', hlt⟩ := h
        refine ⟨⟨m', hm'⟩, ?_⟩
        have hex' : ∃ m, Inv a'' w'' m := ⟨m', hm'⟩
        rw [dif_pos hex, dif_pos hex']
        exact Nat.lt_of_le_of_lt ((Classical.choose_spec (least hex')).2 _ hm') hlt
      | _ => exact h
    · exact d.elim
  | exit id => exact fun D q lv hq hB ro cur st k ex rt a w hw d r hn => wpIn_exit ⟨st, r, Rest.refl w, hn, Keep.refl _ _, d⟩
  | ret => exact fun D q lv hq hB ro cur st k ex rt a w hw d r hn => wpIn_ret ⟨st, r, Rest.refl w, hn, Keep.refl _ _, d⟩
  | rangeFunc g ps assign body _ ih =>
    intro D q lv hq hB ro cur st k ex rt a w hw d r hn
    unfold XC at d
    split at d
    · rename_i shs hfd
      have hrng : D.rng ≠ [] := fun e => by rw [e] at hfd; cases hfd
      obtain rfl : q = none := by
        rcases hq with hq | hq
        · exact hq
        · exact absurd hq.2 hrng
      obtain ⟨b, rfl⟩ := hB hrng
      unfold rngX at d
      split at d
      · rename_i hlc
        split at d
        · rename_i v hg
          split at d
          · rename_i hok
            simp only [Bool.and_eq_true] at hok
            obtain ⟨⟨hasg, hall⟩, hlen0⟩ := hok
            obtain ⟨gf, lb, rfl, hmem, xs, M, I, hfit, hit, hI0, hround0, hdone⟩ := d
            have hxs : ∀ x ∈ xs, x.length = ps.size := fun x hx => by
              have h1 := hfit x hx _ (shAll_len shs)
              have h2 := Nat.eq_of_beq_eq_true hlen0
              simpa using h1.trans h2
            have hround := fun (i : Option Nat) (j : Nat) (x : List Value) (h1 H : Heap) (hi : ∀ m, i = some m → m < xs.length) (hx : xs[j]? = some x) (q1 : I i h1) (q2 : h1.size = w.heap.size) (q3 : Fr [] h1 H) => hfit x (List.mem_of_getElem? hx) _ (hround0 i j h1 H hi q1 q2 q3) hx
            have hps : ∀ p ∈ ps.toList, p < E.n := fun p hp => Nat.le_of_ble_eq_true (List.all_eq_true.1 hall p hp)
            have hput : ∀ x : List Value, FrOK (putPs st ps.toList x) { tmps := (ps.zip x.toArray).foldl (fun t (p, v) => t.setIfInBounds p v) a.tmps, defers := [] } ∧ ((ps.zip x.toArray).foldl (fun t (p, v) => t.setIfInBounds p v) a.tmps).size = E.n := fun x => by
              have e : (ps.zip x.toArray).foldl (fun t (p, v) => t.setIfInBounds p v) a.tmps = (ps.toList.zip x).foldl (fun t pv => t.setIfInBounds pv.1 pv.2) a.tmps := by
                rw [← Array.foldl_toList]
                simp
              have := putPs_fr ps.toList x st a.tmps [] (fun t y hy => r.fr t y hy) (fun p hp => by rw [hn]; exact hps p hp)
              rw [e]
              exact ⟨this.1, this.2.trans hn⟩
            have hasgS : ∀ x : Fin xs.length, ∃ st2, asgS (putPs st ps.toList xs[x]) assign = some st2 := fun x => by
              have := hround (some 0) x xs[x] w.heap w.heap (fun m e => by have := x.2; have := Option.some.inj e; omega) (List.getElem?_eq_getElem x.2) hI0 rfl (Fr.refl _ _)
              dsimp only at this
              split at this
              · rename_i st2 h; exact ⟨st2, h⟩
              · exact this.elim
            refine wpIn_wide.2 ((wpIn_wide (n := 1)).1 ?_)
            refine wpIn_rangeFunc_ownH (F := Fence.wide) (n := 1) rfl (Nat.le_refl _) (evo_eval r.fr hg) trivial (fun args w => FnsOK.mem hE.F hmem args w) (hit 0 w rfl)
              (fun h k => ⟨Nat.le_trans h.1 k.1, fun c hc hM => (k.2 c hc hM).trans (h.2 c hc hM)⟩)
              (fun W l o o' hl _ _ _ => ⟨by simp, fun c hc _ => World.putObj_heap_other (by omega)⟩)
              (RowKit.Below.refl _ w) (fun x => by have := hxs _ (List.getElem_mem x.2); simpa using this)
              (fun pre W => Rest w W ∧ ∃ h1, h1.size = w.heap.size ∧ Fr [] h1 W.heap ∧ I (trk pre) h1)
              (fun c pre W => Rest w W ∧ ∃ h2 : Heap, h2.size = w.heap.size ∧ Fr [] h2 W.heap ∧ (pre <+: List.finRange xs.length → ∀ H2, Fr [] h2 H2 → (match c with | .ret => rt st H2 | .exit id => ex id st H2 | _ => False)))
              (fun pre W W' row ⟨h2, h3, h4, h5, h6⟩ hgr hr => ⟨h2.grown hgr (fun k e => (hr k e).1), h3, h4, h5.grown hgr (fun k e => by rw [h4]; exact (hr k e).1), h6⟩)
              (fun c pre W W' row ⟨h2, h3, h4, h5, h6⟩ hgr hr => ⟨h2.grown hgr (fun k e => (hr k e).1), h3, h4, h5.grown hgr (fun k e => by rw [h4]; exact (hr k e).1), h6⟩)
              ⟨Rest.refl w, w.heap, rfl, Fr.refl _ _, hI0⟩
              (fun x a' _ => ∃ st2, asgS (putPs st ps.toList xs[x]) assign = some st2 ∧ st2.lc = [] ∧ FrOK st2 a' ∧ a'.defers = [] ∧ a'.tmps.size = E.n)
              (fun _ _ _ _ _ _ h _ _ => h) ?_ ?_ ?_ ?_
            · intro l pre x W K hi hK
              obtain ⟨st2, h2⟩ := hasgS x
              have hp := hput xs[x]
              exact asg_sound (q := some l) assign _ _ _ W K h2 (by rw [hp.2]; exact hasg) hp.1 fun a' e1 r' e2 e3 =>
                hK a' W (KeepsFrom.refl _ _) ⟨Nat.le_refl _, fun _ _ _ => rfl⟩ hi ⟨st2, h2, e1.trans ((putPs_lc _ _ _).trans hlc), r', e2, e3.trans hp.2⟩
            · rintro l pre x a' W _ _ ⟨hrest, h1, hs1, hf1, hI1⟩ ⟨st2, h2, hlc2, hfr2, hdf2, hsz2⟩ hlen
              have R := hround (trk pre) x xs[x] h1 W.heap (fun m e => by unfold trk at e; split at e <;> cases e; exact hlen) (List.getElem?_eq_getElem x.2) hI1 hs1 hf1
              dsimp only at R
              rw [h2] at R
              dsimp only at R
              have key : ∀ i : Fin xs.length, pre ++ [i] <+: List.finRange xs.length → trk pre = some (i : Nat) := fun i hi => by
                have hp : pre = (List.finRange xs.length).take pre.length := List.prefix_iff_eq_take.1 ((List.prefix_append _ _).trans hi)
                obtain ⟨t, ht⟩ := hi
                have h3 := congrArg (fun l => l[pre.length]?) ht
                rw [List.append_assoc, List.getElem?_append_right (Nat.le_refl _), Nat.sub_self, List.singleton_append, List.getElem?_cons_zero, List.getElem?_eq_getElem (by simpa using hlen), List.getElem_finRange] at h3
                unfold trk
                rw [if_pos hp]
                exact congrArg some (congrArg Fin.val (Option.some.inj h3)).symm
              refine Code.wpIn_mono (fun e a'' W' h => ?_) (ih { loops := [], joins := [], blocks := [], draws := [], rng := [] } (some l) (1 - 1 - 1) (.inr ⟨rfl, rfl⟩) (fun z => absurd rfl z) roE cur st2 _ _ _ a' W
                (fun c e => Nat.le_trans (hw c e) hrest.ko.size) R ⟨hfr2, fun s p hp => by rw [hlc2] at hp; simp [plook] at hp, fun s t p q hp => by rw [hlc2] at hp; simp [plook] at hp, by rw [hdf2]; exact Mk.nil _ _⟩ hsz2)
              cases e with
              | normal =>
                obtain ⟨st', r', q1, _, _, hFM, h3, q2, q3, q4⟩ := h
                exact ⟨q1.ko.from _, ⟨hFM.size, fun c hc hM => hFM.blk c (Nat.lt_of_lt_of_le hc hrest.ko.size) hM⟩, hrest.trans q1, h3, q2, q3, by rw [trk_step hlen]; exact q4⟩
              | exit j =>
                obtain ⟨st', r', q1, _, _, h3, q2, q3, q4⟩ := h
                exact ⟨q1.ko.from _, hrest.trans q1, h3, q2, q3, fun hp => q4 (key x hp)⟩
              | ret =>
                obtain ⟨st', r', q1, _, _, h3, q2, q3, q4⟩ := h
                exact ⟨q1.ko.from _, hrest.trans q1, h3, q2, q3, fun hp => q4 (key x hp)⟩
              | _ => exact h.elim
            · rintro D' ys W hD hys ⟨hrest, h1, hs1, hf1, hI1⟩ hK
              subst hys
              have htr : trk (List.finRange xs.length) = some xs.length := by
                unfold trk
                rw [List.length_finRange, if_pos (List.take_of_length_le (by rw [List.length_finRange]; exact Nat.le_refl _)).symm]
              rw [htr] at hI1
              refine ⟨st, ⟨fun t y hy => r.fr t y hy, fun s p hp => by rw [hlc] at hp; simp [plook] at hp, fun s t p q hp => by rw [hlc] at hp; simp [plook] at hp, ?_⟩, hrest, hn, Keep.refl _ _, hdone h1 W.heap hI1 hs1 hf1⟩
              exact marked hD (hw b rfl) r.df hrest hK
            · rintro D' c pre W hD hp ⟨hrest, h1, hs1, hf1, hX⟩ hK
              have X := hX hp W.heap hf1
              have rel : Rel (some b) st { a with defers := { target := .collected D', args := #[] } :: a.defers } W := ⟨fun t y hy => r.fr t y hy, fun s p hp => by rw [hlc] at hp; simp [plook] at hp, fun s t p q hp => by rw [hlc] at hp; simp [plook] at hp, marked hD (hw b rfl) r.df hrest hK⟩
              cases c with
              | ret => exact wpIn_ret ⟨st, rel, hrest, hn, Keep.refl _ _, X⟩
              | exit j => exact wpIn_exit ⟨st, rel, hrest, hn, Keep.refl _ _, X⟩
              | _ => exact X.elim
          · exact d.elim
        · exact d.elim
      · exact d.elim
    · exact d.elim
  | label l => exact fun D q lv hq hB ro cur st k ex rt a w hw d r hn => wpIn_label ⟨st, r, Rest.refl w, hn, Keep.refl _ _, d⟩
  | scope c ih =>
    intro D q lv hq hB ro cur st k ex rt a w hw d r hn
    unfold XC at d
    exact wpIn_scope (ih D q lv hq hB ro cur st k ex rt a w hw d r hn) (fun l a' w' h => h)
  | _ => intro D q lv hq hB ro cur st k ex rt a w hw d; exact d.elim
end Go.X
