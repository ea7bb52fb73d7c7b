/- Depth first, as plain data: each edge joins a node with one above it. Conditions: none. -/
import Derived.Test.YtmcloipjlihhlaaNBfs
namespace Go.Proofs.Ytmcloipjlihhlaa.N
open Go.X Go.Proofs.Ytmcloipjlihhlaa
set_option maxRecDepth 100000

structure DS where
  t : BT
  place : List Int
  low : List Int
  next : List Int
  path : List Int
/-- The other half, of a number. -/
def mateI (h : Int) : Int := (mate h.toNat : Nat)
def lowStep (es : Es) (by' place low : List Int) (v : Int) (acc : Int) (h : Int) : Int :=
  if 0 ≤ by'.getD v.toNat 0 ∧ h = mateI (by'.getD v.toNat 0) then acc
  else if by'.getD (toH es h.toNat).toNat 0 = h then min acc (low.getD (toH es h.toNat).toNat 0) else min acc (place.getD (toH es h.toNat).toNat 0)
/-- How high the half-edges of a node reach. -/
def lowV (es : Es) (by' place low : List Int) (v : Int) : Int := (outV es v).foldl (lowStep es by' place low v) (place.getD v.toNat 0)
def dPop (es : Es) (v : Int) (p : List Int) (d : DS) : DS := ⟨d.t, d.place, d.low.set v.toNat (lowV es d.t.by' d.place d.low v), d.next, p⟩
def dOld (v : Int) (d : DS) : DS := ⟨d.t, d.place, d.low, d.next.set v.toNat (d.next.getD v.toNat 0 + 1), d.path⟩
def dNew (es : Es) (v h : Int) (d : DS) : DS :=
  ⟨⟨d.t.ord ++ [toH es h.toNat], d.t.by'.set (toH es h.toNat).toNat h, d.t.far.set (toH es h.toNat).toNat (d.t.far.getD v.toNat 0 + 1)⟩, d.place.set (toH es h.toNat).toNat d.t.ord.length, d.low, d.next.set v.toNat (d.next.getD v.toNat 0 + 1), d.path ++ [toH es h.toNat]⟩
def dStep (es : Es) (d : DS) : DS :=
  match d.path.getLast? with
  | none => d
  | some v =>
    if d.next.getD v.toNat 0 = ((outV es v).length : Int) then dPop es v d.path.dropLast d
    else if d.t.far.getD (toH es ((outV es v).getD (d.next.getD v.toNat 0).toNat 0).toNat).toNat 0 < 0 then dNew es v ((outV es v).getD (d.next.getD v.toNat 0).toNat 0) d
    else dOld v d
def dStart (g s : Int) : DS := ⟨bStart g s, (List.replicate g.toNat (-1)).set s.toNat 0, List.replicate g.toNat (-1), List.replicate g.toNat 0, [s]⟩
def dK (g : Int) (es : Es) (s : Int) : Nat → DS
  | 0 => dStart g s
  | k + 1 => dStep es (dK g es s k)
/-- One node is above another one, by the half-edges by which they were found. -/
inductive Anc (es : Es) (by' : List Int) (a : Int) : Int → Prop
  | here : Anc es by' a a
  | up {b : Int} (h : Nat) (e : by'.getD b.toNat 0 = h) (r : Anc es by' a (fromH es h)) : Anc es by' a b
theorem Anc.trans {es : Es} {by' : List Int} {a b c : Int} (x : Anc es by' a b) (y : Anc es by' b c) : Anc es by' a c := by
  induction y with
  | here => exact x
  | up h e _ ih => exact .up h e ih
theorem Anc.keep {g : Int} {es : Es} {s : Int} {t : BT} {a b : Int} {by' : List Int} (i : BI g es s t) (x : Anc es t.by' a b) : b ∈ t.ord → (∀ v ∈ t.ord, by'.getD v.toNat 0 = t.by'.getD v.toNat 0) → Anc es by' a b := by
  induction x with
  | here => exact fun _ _ => .here
  | up h e _ ih =>
    intro hb k
    rename_i b _
    refine .up h ((k b hb).trans e) (ih ?_ k)
    by_cases hs : b = s
    · subst hs
      rw [i.bs] at e; omega
    · obtain ⟨h2, e2, _, _, h4, _⟩ := i.tree b hb hs
      rw [e2] at e
      have : h2 = h := by omega
      subst this; exact h4
def Rel (es : Es) (by' : List Int) (a b : Int) : Prop := Anc es by' a b ∨ Anc es by' b a
structure DV (g : Int) (es : Es) (s : Int) (d : DS) : Prop where
  bi : BI g es s d.t
  lp : d.place.length = g.toNat
  ll : d.low.length = g.toNat
  ln : d.next.length = g.toNat
  nx : ∀ v : Int, 0 ≤ v → v < g → 0 ≤ d.next.getD v.toNat 0 ∧ d.next.getD v.toNat 0 ≤ (outV es v).length
  pm : ∀ v ∈ d.path, v ∈ d.t.ord
  p0 : d.path = [] ∨ d.path[0]? = some s
  chain : ∀ (i : Nat) (x y : Int), d.path[i]? = some x → d.path[i + 1]? = some y → y ≠ s ∧ ∃ h : Nat, d.t.by'.getD y.toNat 0 = h ∧ h < 2 * es.length ∧ fromH es h = x ∧ toH es h = y
  fin : ∀ v ∈ d.t.ord, v ∉ d.path → d.next.getD v.toNat 0 = (outV es v).length
  rel : ∀ v ∈ d.t.ord, ∀ (j : Nat) (h : Nat), (j : Int) < d.next.getD v.toNat 0 → (outV es v)[j]? = some (h : Int) → toH es h ∈ d.t.ord ∧ Rel es d.t.by' v (toH es h)
  pl : ∀ (i : Nat) (v : Int), d.t.ord[i]? = some v → d.place.getD v.toNat 0 = i
  pn : ∀ v : Int, 0 ≤ v → v < g → v ∉ d.t.ord → d.place.getD v.toNat 0 = -1
  lw : ∀ v ∈ d.t.ord, v ∉ d.path → d.low.getD v.toNat 0 ≤ d.place.getD v.toNat 0
  nz : ∀ v : Int, 0 ≤ v → v < g → v ∉ d.t.ord → d.next.getD v.toNat 0 = 0
theorem getD_rep {n i : Nat} {x y : Int} (h : i < n) : (List.replicate n x).getD i y = x := by simp [List.getD_eq_getElem?_getD, List.getElem?_replicate, h]
theorem DV.start {g s : Int} {es : Es} (h0 : 0 ≤ s) (h1 : s < g) : DV g es s (dStart g s) := by
  have ho : ∀ v : Int, v ∈ (dStart g s).t.ord ↔ v = s := fun v => by simp [dStart, bStart]
  have hn : ∀ v : Int, 0 ≤ v → v < g → (dStart g s).next.getD v.toNat 0 = 0 := fun v a b => getD_rep (by omega)
  have hp : ∀ v : Int, 0 ≤ v → v < g → (dStart g s).place.getD v.toNat 0 = if v = s then 0 else -1 := fun v a b => by
    unfold dStart
    rw [getD_set _ _ _ _ (by simp; omega)]
    by_cases h : v = s
    · simp [h]
    · rw [if_neg (by omega), if_neg h]; exact getD_rep (by omega)
  refine ⟨BI.start h0 h1, by simp [dStart], by simp [dStart], by simp [dStart], ?_, ?_, .inr rfl, ?_, ?_, ?_, ?_, ?_, ?_, fun v a b _ => hn v a b⟩
  · intro v a b; rw [hn v a b]; omega
  · intro v hv; rw [ho]; simpa [dStart] using hv
  · intro i x y hx hy
    have := (List.getElem?_eq_some_iff.1 hy).1
    simp [dStart] at this
  · intro v hv hnp
    rw [ho] at hv
    exact absurd (by simp [dStart, hv]) hnp
  · intro v hv j h hj
    rw [ho] at hv
    subst hv
    rw [hn v h0 h1] at hj; omega
  · intro i v hv
    have hi := (List.getElem?_eq_some_iff.1 hv).1
    simp [dStart, bStart] at hi
    subst hi
    have : v = s := by simpa [dStart, bStart] using hv.symm
    subst this
    rw [hp v h0 h1, if_pos rfl]; rfl
  · intro v a b hv
    rw [ho] at hv
    rw [hp v a b, if_neg hv]
  · intro v hv hnp
    rw [ho] at hv
    exact absurd (by simp [dStart, hv]) hnp
theorem mem_path {p : List Int} {v x : Int} : x ∈ p ++ [v] ↔ x ∈ p ∨ x = v := by simp
/-- What is on the path is above its end. -/
theorem DV.above {g : Int} {es : Es} {s v : Int} {d : DS} {p : List Int} (i : DV g es s d) (hp : d.path = p ++ [v]) : ∀ x ∈ d.path, Anc es d.t.by' x v := by
  have step : ∀ n k : Nat, k + n + 1 = d.path.length → ∀ x, d.path[k]? = some x → Anc es d.t.by' x v := by
    intro n
    induction n with
    | zero =>
      intro k hk x hx
      rw [hp] at hx hk
      simp at hk
      rw [List.getElem?_append_right (by omega), show k - p.length = 0 by omega] at hx
      have : x = v := by simpa using hx.symm
      subst this; exact .here
    | succ n ih =>
      intro k hk x hx
      have hy : d.path[k + 1]? = some (d.path[k + 1]'(by omega)) := List.getElem?_eq_getElem (by omega)
      obtain ⟨_, h, e, _, hf, _⟩ := i.chain k x _ hx hy
      have a := ih (k + 1) (by omega) _ hy
      exact Anc.trans (.up h e (hf ▸ .here)) a
  intro x hx
  obtain ⟨k, hk, e⟩ := List.getElem_of_mem hx
  exact step (d.path.length - k - 1) k (by omega) x (by rw [List.getElem?_eq_getElem hk, e])
theorem DV.pop {g : Int} {es : Es} {s v : Int} {d : DS} {p : List Int} (i : DV g es s d) (hp : d.path = p ++ [v]) (hn : d.next.getD v.toNat 0 = (outV es v).length) (hle : lowV es d.t.by' d.place d.low v ≤ d.place.getD v.toNat 0) : DV g es s (dPop es v p d) := by
  have hv : v ∈ d.t.ord := i.pm v (by rw [hp]; simp)
  have hvr := i.bi.rng v hv
  refine ⟨i.bi, i.lp, by simp [dPop, i.ll], i.ln, i.nx, ?_, ?_, ?_, ?_, i.rel, i.pl, i.pn, ?_, i.nz⟩
  · intro x hx; exact i.pm x (by rw [hp]; exact List.mem_append_left _ hx)
  · show p = [] ∨ p[0]? = some s
    cases p with
    | nil => exact .inl rfl
    | cons a q =>
      right
      rcases i.p0 with e | e
      · rw [hp] at e; simp at e
      · rw [hp] at e; simpa using e
  · intro k x y hx hy
    have hx : p[k]? = some x := hx
    have hy : p[k + 1]? = some y := hy
    have l1 := (List.getElem?_eq_some_iff.1 hx).1
    have l2 := (List.getElem?_eq_some_iff.1 hy).1
    exact i.chain k x y (by rw [hp, List.getElem?_append_left l1]; exact hx) (by rw [hp, List.getElem?_append_left l2]; exact hy)
  · intro x hx hnp
    have hnp : x ∉ p := hnp
    by_cases e : x = v
    · subst e; exact hn
    · exact i.fin x hx (by rw [hp, mem_path]; exact fun q => q.elim hnp e)
  · intro x hx hnp
    have hnp : x ∉ p := hnp
    have hxr := i.bi.rng x hx
    show (d.low.set v.toNat _).getD x.toNat 0 ≤ d.place.getD x.toNat 0
    rw [getD_set _ _ _ _ (by rw [i.ll]; omega)]
    by_cases e : x = v
    · subst e; rw [if_pos rfl]; exact hle
    · rw [if_neg (by omega)]
      exact i.lw x hx (by rw [hp, mem_path]; exact fun q => q.elim hnp e)
theorem lowV_le (es : Es) (by' place low : List Int) (v : Int) : lowV es by' place low v ≤ place.getD v.toNat 0 := by
  have : ∀ (l : List Int) (a : Int), l.foldl (lowStep es by' place low v) a ≤ a := fun l => by
    induction l with
    | nil => intro a; exact Int.le_refl _
    | cons h l ih =>
      intro a
      refine Int.le_trans (ih _) ?_
      unfold lowStep
      split
      · exact Int.le_refl _
      · split <;> omega
  exact this _ _
/-- The half-edge that is looked at next. -/
structure NextH (g : Int) (es : Es) (v : Int) (d : DS) (h : Nat) : Prop where
  hh : h < 2 * es.length
  hf : fromH es h = v
  at' : (outV es v)[(d.next.getD v.toNat 0).toNat]? = some (h : Int)
theorem DV.next {g : Int} {es : Es} {s v : Int} {d : DS} {p : List Int} (i : DV g es s d) (hp : d.path = p ++ [v]) (hn : d.next.getD v.toNat 0 ≠ (outV es v).length) : ∃ h : Nat, NextH g es v d h := by
  have hv : v ∈ d.t.ord := i.pm v (by rw [hp]; simp)
  have hvr := i.bi.rng v hv
  have hx := i.nx v hvr.1 hvr.2
  have hlt : (d.next.getD v.toNat 0).toNat < (outV es v).length := by omega
  have e : (outV es v)[(d.next.getD v.toNat 0).toNat]? = some ((outV es v)[(d.next.getD v.toNat 0).toNat]'hlt) := List.getElem?_eq_getElem hlt
  obtain ⟨n, h1, h2, h3⟩ := outV_mem hvr.1 (List.mem_of_getElem? e)
  exact ⟨n, h2, h3, by rw [e, h1]⟩
theorem DV.nextSet {g : Int} {es : Es} {s v : Int} {d : DS} (i : DV g es s d) (hv : v ∈ d.t.ord) : ∀ x : Int, 0 ≤ x → x < g → (d.next.set v.toNat (d.next.getD v.toNat 0 + 1)).getD x.toNat 0 = if x = v then d.next.getD v.toNat 0 + 1 else d.next.getD x.toNat 0 := fun x a b => by
  have hvr := i.bi.rng v hv
  rw [getD_set _ _ _ _ (by rw [i.ln]; omega)]
  by_cases e : x = v
  · rw [if_pos (by omega), if_pos e]
  · rw [if_neg (by omega), if_neg e]
theorem DV.old {g : Int} {es : Es} {s v : Int} {d : DS} {p : List Int} {h : Nat} (m : MayN g es) (i : DV g es s d) (hp : d.path = p ++ [v]) (hn : d.next.getD v.toNat 0 ≠ (outV es v).length) (nh : NextH g es v d h) (hw : ¬ d.t.far.getD (toH es h).toNat 0 < 0) : DV g es s (dOld v d) := by
  have hv : v ∈ d.t.ord := i.pm v (by rw [hp]; simp)
  have hvr := i.bi.rng v hv
  have ns := i.nextSet hv
  have hwr := toH_in m nh.hh
  have hwo : toH es h ∈ d.t.ord := (i.bi.mem _ hwr.1 hwr.2).1 (by omega)
  have nv := i.nx v hvr.1 hvr.2
  refine ⟨i.bi, i.lp, i.ll, by simp [dOld, i.ln], ?_, i.pm, i.p0, i.chain, ?_, ?_, i.pl, i.pn, i.lw, ?_⟩
  · intro x a b
    show 0 ≤ (d.next.set v.toNat _).getD x.toNat 0 ∧ (d.next.set v.toNat _).getD x.toNat 0 ≤ _
    rw [ns x a b]
    have := i.nx x a b
    split
    · rename_i e; subst e; omega
    · exact this
  · intro x hx hnp
    have hnp : x ∉ d.path := hnp
    have hxr := i.bi.rng x hx
    show (d.next.set v.toNat _).getD x.toNat 0 = _
    rw [ns x hxr.1 hxr.2, if_neg (fun e => hnp (by rw [hp, e]; simp))]
    exact i.fin x hx hnp
  · intro x hx j k hj hk
    have hxr := i.bi.rng x hx
    have hj : (j : Int) < (d.next.set v.toNat (d.next.getD v.toNat 0 + 1)).getD x.toNat 0 := hj
    rw [ns x hxr.1 hxr.2] at hj
    show toH es k ∈ d.t.ord ∧ Rel es d.t.by' x (toH es k)
    by_cases e : x = v
    · subst e
      rw [if_pos rfl] at hj
      by_cases q : (j : Int) < d.next.getD x.toNat 0
      · exact i.rel x hx j k q hk
      · have : j = (d.next.getD x.toNat 0).toNat := by omega
        subst this
        rw [nh.at'] at hk
        have : k = h := by have := Option.some.inj hk; omega
        subst this
        refine ⟨hwo, ?_⟩
        by_cases pw : toH es k ∈ d.path
        · exact .inr (i.above hp _ pw)
        · -- it is done with: the other half was looked at
          have hfin := i.fin _ hwo pw
          have hm := outV_of (mate_lt nh.hh) (from_mate es k) hwr.1
          obtain ⟨j2, hj2, e2⟩ := List.getElem_of_mem hm
          have r := i.rel _ hwo j2 (mate k) (by rw [hfin]; omega) (by rw [List.getElem?_eq_getElem hj2, e2])
          rw [to_mate, nh.hf] at r
          exact r.2.symm
    · rw [if_neg e] at hj
      exact i.rel x hx j k hj hk
  · intro x a b hx
    have hx : x ∉ d.t.ord := hx
    show (d.next.set v.toNat _).getD x.toNat 0 = 0
    rw [ns x a b, if_neg (show ¬ x = v from fun e => hx (e ▸ hv))]
    exact i.nz x a b hx
theorem DV.new {g : Int} {es : Es} {s v : Int} {d : DS} {p : List Int} {h : Nat} (m : MayN g es) (i : DV g es s d) (hp : d.path = p ++ [v]) (hn : d.next.getD v.toNat 0 ≠ (outV es v).length) (nh : NextH g es v d h) (hw : d.t.far.getD (toH es h).toNat 0 < 0) : DV g es s (dNew es v h d) := by
  have hv : v ∈ d.t.ord := i.pm v (by rw [hp]; simp)
  have hvr := i.bi.rng v hv
  have ns := i.nextSet hv
  have hwr := toH_in m nh.hh
  have hnm : toH es h ∉ d.t.ord := fun q => by have := (i.bi.mem _ hwr.1 hwr.2).2 q; omega
  have nv := i.nx v hvr.1 hvr.2
  have et : (dNew es v h d).t = bH es v d.t h := by
    unfold bH
    rw [Int.toNat_natCast, if_pos hw]; rfl
  have eo : (dNew es v h d).t.ord = d.t.ord ++ [toH es h] := by unfold dNew; rw [Int.toNat_natCast]
  have epath : (dNew es v h d).path = d.path ++ [toH es h] := by unfold dNew; rw [Int.toNat_natCast]
  have eby : ∀ x ∈ d.t.ord, (dNew es v h d).t.by'.getD x.toNat 0 = d.t.by'.getD x.toNat 0 := fun x hx => by
    have := i.bi.rng x hx
    unfold dNew
    dsimp only
    rw [Int.toNat_natCast, getD_set _ _ _ _ (by rw [i.bi.lb]; omega), if_neg]
    intro e
    have e2 : toH es h = x := by omega
    exact hnm (e2 ▸ hx)
  have ebw : (dNew es v h d).t.by'.getD (toH es h).toNat 0 = (h : Int) := by
    unfold dNew
    dsimp only
    rw [Int.toNat_natCast, getD_set _ _ _ _ (by rw [i.bi.lb]; omega), if_pos rfl]
  have epl : ∀ x : Int, 0 ≤ x → x < g → (dNew es v h d).place.getD x.toNat 0 = if x = toH es h then (d.t.ord.length : Int) else d.place.getD x.toNat 0 := fun x a b => by
    unfold dNew
    dsimp only
    rw [Int.toNat_natCast, getD_set _ _ _ _ (by rw [i.lp]; omega)]
    by_cases e : x = toH es h
    · rw [if_pos (by omega), if_pos e]
    · rw [if_neg (by omega), if_neg e]
  have bi : BI g es s (dNew es v h d).t := by rw [et]; exact i.bi.stepH m hv nh.hh nh.hf
  have hsw : toH es h ≠ s := fun e => hnm (e ▸ i.bi.s_mem)
  have keepA : ∀ a b, b ∈ d.t.ord → Anc es d.t.by' a b → Anc es (dNew es v h d).t.by' a b := fun a b hb x => x.keep i.bi hb eby
  refine ⟨bi, by simp [dNew, i.lp], by simp [dNew, i.ll], by simp [dNew, i.ln], ?_, ?_, ?_, ?_, ?_, ?_, ?_, ?_, ?_, ?_⟩
  · intro x a b
    show 0 ≤ (d.next.set v.toNat _).getD x.toNat 0 ∧ (d.next.set v.toNat _).getD x.toNat 0 ≤ _
    rw [ns x a b]
    have := i.nx x a b
    split
    · rename_i e; subst e; omega
    · exact this
  · intro x hx
    rw [epath, mem_path] at hx
    rw [eo, mem_path]
    exact hx.imp (i.pm x) id
  · right
    rw [epath]
    rcases i.p0 with e | e
    · rw [hp] at e; simp at e
    · rw [List.getElem?_append_left (List.getElem?_eq_some_iff.1 e).1]; exact e
  · intro k x y hx hy
    rw [epath] at hx hy
    by_cases q : k + 1 < d.path.length
    · rw [List.getElem?_append_left (by omega)] at hx hy
      obtain ⟨h1, k2, h2, h3, h4, h5⟩ := i.chain k x y hx hy
      exact ⟨h1, k2, by rw [eby y (i.pm y (List.mem_of_getElem? hy))]; exact h2, h3, h4, h5⟩
    · have hl := (List.getElem?_eq_some_iff.1 hy).1
      simp at hl
      have hk : k + 1 = d.path.length := by omega
      rw [List.getElem?_append_right (by omega), hk, Nat.sub_self] at hy
      have hy : y = toH es h := by simpa using hy.symm
      subst hy
      rw [List.getElem?_append_left (by omega), hp, List.getElem?_append_right (by rw [hp] at hk; simp at hk; omega)] at hx
      have : k - p.length = 0 := by rw [hp] at hk; simp at hk; omega
      rw [this] at hx
      have hx : x = v := by simpa using hx.symm
      subst hx
      exact ⟨hsw, h, ebw, nh.hh, nh.hf, rfl⟩
  · intro x hx hnp
    rw [eo, mem_path] at hx
    rw [epath, mem_path] at hnp
    have hx : x ∈ d.t.ord := hx.elim id fun q => absurd (.inr q) hnp
    have hxr := i.bi.rng x hx
    show (d.next.set v.toNat _).getD x.toNat 0 = _
    rw [ns x hxr.1 hxr.2, if_neg (fun e => hnp (.inl (by rw [hp, e]; simp)))]
    exact i.fin x hx fun q => hnp (.inl q)
  · intro x hx j k hj hk
    have hxr := bi.rng x hx
    rw [eo, mem_path] at hx
    have hj : (j : Int) < (d.next.set v.toNat (d.next.getD v.toNat 0 + 1)).getD x.toNat 0 := hj
    rw [ns x hxr.1 hxr.2] at hj
    rw [eo, mem_path]
    have old : x ∈ d.t.ord → (j : Int) < d.next.getD x.toNat 0 → (toH es k ∈ d.t.ord ∨ toH es k = toH es h) ∧ Rel es (dNew es v h d).t.by' x (toH es k) := fun hx q => by
      have r := i.rel x hx j k q hk
      exact ⟨.inl r.1, r.2.imp (keepA _ _ r.1) (keepA _ _ hx)⟩
    by_cases e : x = v
    · subst e
      rw [if_pos rfl] at hj
      by_cases q : (j : Int) < d.next.getD x.toNat 0
      · exact old hv q
      · have : j = (d.next.getD x.toNat 0).toNat := by omega
        subst this
        rw [nh.at'] at hk
        have : k = h := by have := Option.some.inj hk; omega
        subst this
        exact ⟨.inr rfl, .inl (.up k ebw (nh.hf ▸ .here))⟩
    · rw [if_neg e] at hj
      rcases hx with hx | hx
      · exact old hx hj
      · subst hx
        rw [i.nz _ hwr.1 hwr.2 hnm] at hj; omega
  · intro k x hx
    have hxr := bi.rng x (List.mem_of_getElem? hx)
    rw [eo] at hx
    rw [epl x hxr.1 hxr.2]
    by_cases q : k < d.t.ord.length
    · rw [List.getElem?_append_left q] at hx
      rw [if_neg (show ¬ x = toH es h from fun e => hnm (e ▸ List.mem_of_getElem? hx))]
      exact i.pl k x hx
    · have hl := (List.getElem?_eq_some_iff.1 hx).1
      simp at hl
      have hk : k = d.t.ord.length := by omega
      rw [hk, List.getElem?_append_right (Nat.le_refl _), Nat.sub_self] at hx
      have hx : x = toH es h := by simpa using hx.symm
      rw [if_pos hx, hk]
  · intro x a b hx
    rw [eo, mem_path] at hx
    rw [epl x a b, if_neg (fun e => hx (.inr e))]
    exact i.pn x a b fun q => hx (.inl q)
  · intro x hx hnp
    have hxr := bi.rng x hx
    rw [eo, mem_path] at hx
    rw [epath, mem_path] at hnp
    have hxo : x ∈ d.t.ord := hx.elim id fun q => absurd (.inr q) hnp
    rw [epl x hxr.1 hxr.2, if_neg (fun e => hnp (.inr e))]
    exact i.lw x hxo fun q => hnp (.inl q)
  · intro x a b hx
    rw [eo, mem_path] at hx
    show (d.next.set v.toNat _).getD x.toNat 0 = 0
    rw [ns x a b, if_neg (show ¬ x = v from fun e => hx (.inl (e ▸ hv)))]
    exact i.nz x a b fun q => hx (.inl q)
theorem dStep_pop {es : Es} {d : DS} {p : List Int} {v : Int} (hp : d.path = p ++ [v]) (hn : d.next.getD v.toNat 0 = (outV es v).length) : dStep es d = dPop es v p d := by
  unfold dStep
  rw [hp, List.getLast?_concat]
  simp only [if_pos hn, List.dropLast_concat]
theorem dStep_new {g : Int} {es : Es} {d : DS} {p : List Int} {v : Int} {h : Nat} (hp : d.path = p ++ [v]) (hn : d.next.getD v.toNat 0 ≠ (outV es v).length) (nh : NextH g es v d h) (hw : d.t.far.getD (toH es h).toNat 0 < 0) : dStep es d = dNew es v h d := by
  have e : (outV es v).getD (d.next.getD v.toNat 0).toNat 0 = h := by rw [List.getD_eq_getElem?_getD, nh.at']; rfl
  unfold dStep
  rw [hp, List.getLast?_concat]
  simp only [if_neg hn, e, Int.toNat_natCast, if_pos hw]
theorem dStep_old {g : Int} {es : Es} {d : DS} {p : List Int} {v : Int} {h : Nat} (hp : d.path = p ++ [v]) (hn : d.next.getD v.toNat 0 ≠ (outV es v).length) (nh : NextH g es v d h) (hw : ¬ d.t.far.getD (toH es h).toNat 0 < 0) : dStep es d = dOld v d := by
  have e : (outV es v).getD (d.next.getD v.toNat 0).toNat 0 = h := by rw [List.getD_eq_getElem?_getD, nh.at']; rfl
  unfold dStep
  rw [hp, List.getLast?_concat]
  simp only [if_neg hn, e, Int.toNat_natCast, if_neg hw]
theorem dStep_nil {es : Es} {d : DS} (hp : d.path = []) : dStep es d = d := by
  unfold dStep; rw [hp]; rfl
/-- What is left to be looked at. -/
def leftN (es : Es) (n : Nat) (next : List Int) : Nat := ((List.range n).map fun (v : Nat) => (outV es v).length - (next.getD v 0).toNat).sum
theorem sum_less (f f' : Nat → Nat) (k : Nat) : ∀ n, k < n → (∀ i, i ≠ k → f' i = f i) → f' k + 1 = f k → ((List.range n).map f').sum + 1 = ((List.range n).map f).sum
  | 0, h, _, _ => absurd h (by omega)
  | n + 1, h, e, e2 => by
    rw [List.range_succ, List.map_append, List.map_append, List.sum_append, List.sum_append]
    simp only [List.map_cons, List.map_nil, List.sum_cons, List.sum_nil, Nat.add_zero]
    by_cases q : k = n
    · subst q
      have : (List.range k).map f' = (List.range k).map f := by
        apply List.map_congr_left
        intro i hi
        exact e i (by have := List.mem_range.1 hi; omega)
      rw [this]; omega
    · have := sum_less f f' k n (by omega) e e2
      have := e n (fun z => q z.symm)
      omega
def meas (g : Int) (es : Es) (d : DS) : Nat := 2 * leftN es g.toNat d.next + d.path.length
theorem left_next {g : Int} {es : Es} {s v : Int} {d : DS} {p : List Int} (i : DV g es s d) (hp : d.path = p ++ [v]) (hn : d.next.getD v.toNat 0 ≠ (outV es v).length) : leftN es g.toNat (d.next.set v.toNat (d.next.getD v.toNat 0 + 1)) + 1 = leftN es g.toNat d.next := by
  have hv : v ∈ d.t.ord := i.pm v (by rw [hp]; simp)
  have hvr := i.bi.rng v hv
  have nv := i.nx v hvr.1 hvr.2
  unfold leftN
  refine sum_less _ _ v.toNat _ (by omega) (fun k hk => ?_) ?_
  · rw [getD_set _ _ _ _ (by rw [i.ln]; omega), if_neg (fun e => hk e.symm)]
  · rw [getD_set _ _ _ _ (by rw [i.ln]; omega), if_pos rfl, Int.toNat_of_nonneg hvr.1]
    omega
theorem DV.step {g : Int} {es : Es} {s : Int} {d : DS} (m : MayN g es) (i : DV g es s d) (hne : d.path ≠ []) : DV g es s (dStep es d) ∧ meas g es (dStep es d) < meas g es d := by
  obtain ⟨p, v, hp⟩ : ∃ p v, d.path = p ++ [v] := ⟨d.path.dropLast, d.path.getLast hne, (List.dropLast_concat_getLast hne).symm⟩
  by_cases hn : d.next.getD v.toNat 0 = (outV es v).length
  · rw [dStep_pop hp hn]
    refine ⟨i.pop hp hn (lowV_le _ _ _ _ _), ?_⟩
    unfold meas dPop
    rw [hp]; simp
  · obtain ⟨h, nh⟩ := i.next hp hn
    have hl := left_next i hp hn
    by_cases hw : d.t.far.getD (toH es h).toNat 0 < 0
    · rw [dStep_new hp hn nh hw]
      refine ⟨i.new m hp hn nh hw, ?_⟩
      unfold meas dNew
      dsimp only
      rw [List.length_append, List.length_singleton]
      omega
    · rw [dStep_old hp hn nh hw]
      refine ⟨i.old m hp hn nh hw, ?_⟩
      unfold meas dOld
      dsimp only
      omega
theorem dK_DV {g : Int} {es : Es} {s : Int} (m : MayN g es) (h0 : 0 ≤ s) (h1 : s < g) : ∀ k, DV g es s (dK g es s k)
  | 0 => DV.start h0 h1
  | k + 1 => by
    have i := dK_DV m h0 h1 k
    by_cases hne : (dK g es s k).path = []
    · rw [dK, dStep_nil hne]; exact i
    · exact (i.step m hne).1
/-- Where the walk ends. -/
def dfs (g : Int) (es : Es) (s : Int) : DS := dK g es s (meas g es (dStart g s))
theorem dK_stay {g : Int} {es : Es} {s : Int} {k : Nat} (hk : (dK g es s k).path = []) : ∀ j, dK g es s (k + j) = dK g es s k
  | 0 => rfl
  | j + 1 => by
    have e := dK_stay hk j
    rw [← Nat.add_assoc, dK, e, dStep_nil hk]
theorem dK_meas {g : Int} {es : Es} {s : Int} (m : MayN g es) (h0 : 0 ≤ s) (h1 : s < g) : ∀ k, (dK g es s k).path = [] ∨ meas g es (dK g es s k) + k ≤ meas g es (dStart g s)
  | 0 => .inr (Nat.le_refl _)
  | k + 1 => by
    by_cases hne : (dK g es s k).path = []
    · left; rw [dK, dStep_nil hne]; exact hne
    · rcases dK_meas m h0 h1 k with q | q
      · exact absurd q hne
      · right
        have := ((dK_DV m h0 h1 k).step m hne).2
        rw [dK]; omega
theorem dfs_nil {g : Int} {es : Es} {s : Int} (m : MayN g es) (h0 : 0 ≤ s) (h1 : s < g) : (dfs g es s).path = [] := by
  unfold dfs
  rcases dK_meas m h0 h1 (meas g es (dStart g s)) with q | q
  · exact q
  · have hle : ∀ d : DS, d.path.length ≤ meas g es d := fun d => by unfold meas; omega
    have : (dK g es s (meas g es (dStart g s))).path.length = 0 := by have := hle (dK g es s (meas g es (dStart g s))); omega
    exact List.eq_nil_of_length_eq_zero this
theorem dK_done {g : Int} {es : Es} {s : Int} (m : MayN g es) (h0 : 0 ≤ s) (h1 : s < g) {k : Nat} (hk : (dK g es s k).path = []) : dK g es s k = dfs g es s := by
  have hd := dfs_nil m h0 h1
  unfold dfs at *
  rcases Nat.le_total k (meas g es (dStart g s)) with q | q
  · rw [show meas g es (dStart g s) = k + (meas g es (dStart g s) - k) by omega, dK_stay hk]
  · have := dK_stay hd (k - meas g es (dStart g s))
    rw [show meas g es (dStart g s) + (k - meas g es (dStart g s)) = k by omega] at this
    exact this
theorem dfs_DV {g : Int} {es : Es} {s : Int} (m : MayN g es) (h0 : 0 ≤ s) (h1 : s < g) : DV g es s (dfs g es s) := dK_DV m h0 h1 _
theorem sum_bound (f : Nat → Nat) (c : Nat) (h : ∀ i, f i ≤ c) : ∀ n, ((List.range n).map f).sum ≤ n * c
  | 0 => by simp
  | n + 1 => by
    rw [List.range_succ, List.map_append, List.sum_append]
    simp only [List.map_cons, List.map_nil, List.sum_cons, List.sum_nil, Nat.add_zero]
    have := sum_bound f c h n
    have := h n
    rw [Nat.add_mul, Nat.one_mul]; omega
theorem dK_path {g : Int} {es : Es} {s : Int} (m : MayN g es) (h0 : 0 ≤ s) (h1 : s < g) (k : Nat) : (dK g es s k).path.length ≤ 20000000 := by
  rcases dK_meas m h0 h1 k with q | q
  · rw [q]; simp
  · have hs := sum_bound (fun (v : Nat) => (outV es v).length - ((dStart g s).next.getD v 0).toNat) 6144 (fun i => by
      have := outL_len es (2 * es.length) (i : Int).toNat
      have := m.m
      unfold outV
      omega) g.toNat
    have h2 : leftN es g.toNat (dStart g s).next ≤ g.toNat * 6144 := hs
    have h3 : g.toNat * 6144 ≤ 1024 * 6144 := Nat.mul_le_mul_right _ (by have := m.g1; omega)
    have hle : (dK g es s k).path.length ≤ meas g es (dK g es s k) := by unfold meas; omega
    have h4 : meas g es (dStart g s) = 2 * leftN es g.toNat (dStart g s).next + 1 := rfl
    omega
end Go.Proofs.Ytmcloipjlihhlaa.N
