/- Ways up, rounds: closed, odd, no edge twice; sides; components as the document finds them. Conditions: none. -/
import Derived.Test.YtmcloipjlihhlaaTWalkL
import Derived.Test.YtmcloipjlihhlaaNBegunW
namespace Go.Proofs.Ytmcloipjlihhlaa.N
open Go.X Go.Proofs.Ytmcloipjlihhlaa
set_option maxRecDepth 100000

/-! ### Walks of half-edges -/
inductive Chain (es : Es) : List Int → Int → Int → Prop
  | nil (u : Int) : Chain es [] u u
  | cons {l : List Int} {v : Int} (h : Nat) (hh : h < 2 * es.length) (c : Chain es l (toH es h) v) : Chain es ((h : Int) :: l) (fromH es h) v
theorem Chain.app {es : Es} {a b : List Int} {u v w : Int} (x : Chain es a u v) (y : Chain es b v w) : Chain es (a ++ b) u w := by
  induction x with
  | nil => exact y
  | cons h hh _ ih => exact .cons h hh (ih y)
theorem Chain.one {es : Es} {h : Nat} (hh : h < 2 * es.length) : Chain es [(h : Int)] (fromH es h) (toH es h) := .cons h hh (.nil _)
theorem Chain.back {es : Es} {a : List Int} {u v : Int} (x : Chain es a u v) : Chain es (a.reverse.map mateI) v u := by
  induction x with
  | nil => exact .nil _
  | cons h hh _ ih =>
    rw [List.reverse_cons, List.map_append]
    refine ih.app ?_
    have := Chain.one (mate_lt hh)
    rw [from_mate, to_mate] at this
    simpa [mateI_nat] using this
theorem Chain.split {es : Es} {b : List Int} : ∀ {a : List Int} {u v : Int}, Chain es (a ++ b) u v → ∃ w, Chain es a u w ∧ Chain es b w v
  | [], u, v, x => ⟨u, .nil _, x⟩
  | e :: a, u, v, x => by
    cases x with
    | cons h hh c =>
      obtain ⟨w, h1, h2⟩ := Chain.split c
      exact ⟨w, .cons h hh h1, h2⟩
theorem Chain.at' {es : Es} {l : List Int} {u v : Int} (x : Chain es l u v) : ∃ P : Nat → Int, P 0 = u ∧ P l.length = v ∧ ∀ (i : Nat) (y : Int), l[i]? = some y → ∃ n : Nat, y = n ∧ n < 2 * es.length ∧ fromH es n = P i ∧ toH es n = P (i + 1) := by
  induction x with
  | nil u => exact ⟨fun _ => u, rfl, rfl, fun i y h => by simp at h⟩
  | cons h hh c ih =>
    obtain ⟨P, h1, h2, h3⟩ := ih
    refine ⟨fun i => match i with | 0 => fromH es h | i + 1 => P i, rfl, by simpa using h2, fun i y hy => ?_⟩
    cases i with
    | zero => exact ⟨h, by simpa using hy.symm, hh, rfl, h1.symm⟩
    | succ i => exact h3 i y (by simpa using hy)
theorem okWalkT {g u : Int} {es : Es} {l : List Int} {R : Bool → Prop} (m : MayN g es) (c : Chain es l u u) (hl : l.length ≤ 1000000) (h : R true) : Ok91 g es l true R := by
  apply ok91
  unfold T91
  have m3 := m.m
  obtain ⟨P, p0, p1, hP⟩ := c.at'
  refine ⟨fun i => ∃ k : Nat, i = k ∧ k ≤ l.length, fun i => ((l.length : Int) - i).toNat, ⟨0, rfl, Nat.zero_le _⟩, ?_⟩
  rintro _ ⟨k, rfl, hk⟩
  refine cnd_dec (fun hlt => ⟨True, ⟨by omega, hlt, fun x hx => ?_⟩, fun _ => ?_⟩) fun _ => h
  · rw [Int.toNat_natCast] at hx
    obtain ⟨n, rfl, hn, hf, ht⟩ := hP k x hx
    rw [wr (x := (2 : Int) * _) (by omega) (by omega), wr (x := (k : Int) + 1) (by omega) (by omega)]
    refine cnd_dec (fun q => by omega) fun _ => cnd_dec (fun q => by omega) fun _ => ⟨fun nx => ∃ y, 0 ≤ nx ∧ nx < l.length ∧ l[nx.toNat]? = some y ∧ ∃ n2 : Nat, y = n2 ∧ n2 < 2 * es.length ∧ fromH es n2 = toH es n, ?_, ?_⟩
    · refine cnd_eq (fun q => cnd_not (fun q2 => by cases q2) fun _ => ?_) fun q => ?_
      · have hz : l[0]? = some (l[0]'(by omega)) := List.getElem?_eq_getElem (by omega)
        obtain ⟨n2, e2, hn2, hf2, _⟩ := hP 0 _ hz
        refine ⟨_, by omega, by omega, hz, n2, e2, hn2, ?_⟩
        rw [hf2, ht, p0, show k + 1 = l.length by omega, p1]
      · have hz : l[k + 1]? = some (l[k + 1]'(by omega)) := List.getElem?_eq_getElem (by omega)
        obtain ⟨n2, e2, hn2, hf2, _⟩ := hP (k + 1) _ hz
        refine ⟨_, by omega, by omega, by rw [show ((k : Int) + 1).toNat = k + 1 by omega]; exact hz, n2, e2, hn2, ?_⟩
        rw [hf2, ht]
    · rintro nx ⟨y, a1, a2, a3, n2, rfl, hn2, hf2⟩
      refine ⟨False, ⟨a1, a2, fun z hz => ?_⟩, False.elim⟩
      rw [a3] at hz
      obtain rfl := Option.some.inj hz
      refine cnd_dec (fun q => by omega) fun _ => cnd_dec (fun q => by omega) fun _ => okTo hn (by omega) (okFrom hn2 (by omega) (cnd_ne (fun q => absurd hf2.symm q) fun _ => trivial))
  · rw [wr (by omega) (by omega)]
    exact ⟨⟨k + 1, by simp, by omega⟩, by dsimp only; omega⟩
def edgesOf (l : List Int) : List Nat := l.map fun x => x.toNat / 2
theorem nodup_get {α : Type} {l : List α} (h : l.Nodup) {i j : Nat} {x y : α} (hij : i < j) (hi : l[i]? = some x) (hj : l[j]? = some y) : x ≠ y := by
  obtain ⟨h1, e1⟩ := List.getElem?_eq_some_iff.1 hi
  obtain ⟨h2, e2⟩ := List.getElem?_eq_some_iff.1 hj
  rw [← e1, ← e2]
  exact List.pairwise_iff_getElem.1 h i j h1 h2 hij
theorem okOnceT {g : Int} {es : Es} {l : List Int} {nodes : Bool} {R : Bool → Prop} (m : MayN g es) (hh : HalfIn es l) (hl : l.length ≤ 1000000) (nd : (edgesOf l).Nodup) (hn : nodes = true → (l.map fun x => fromH es x.toNat).Nodup) (h : R true) : Ok92 g es l nodes R := by
  apply ok92
  unfold T92
  have m3 := m.m
  refine ⟨fun i => ∃ k : Nat, i = k ∧ k ≤ l.length, fun i => ((l.length : Int) - i).toNat, ⟨0, rfl, Nat.zero_le _⟩, ?_⟩
  rintro _ ⟨i, rfl, hi⟩
  refine cnd_dec (fun hlt => ?_) fun _ => h
  refine ⟨fun i => ∃ k : Nat, i = k, fun k => ((i : Int) - k).toNat, ⟨0, rfl⟩, ?_⟩
  rintro _ ⟨k, rfl⟩
  refine cnd_dec (fun hlt2 => ⟨True, ⟨by omega, by omega, fun x hx => ⟨by decide, by omega, hlt, fun y hy => ⟨by decide, ?_⟩⟩⟩, fun _ => ?_⟩) fun hlt2 => ?_
  · rw [Int.toNat_natCast] at hx hy
    obtain ⟨n, rfl, hn1⟩ := hh x (List.mem_of_getElem? hx)
    obtain ⟨n2, rfl, hn2⟩ := hh y (List.mem_of_getElem? hy)
    rw [half_div n (by omega), half_div n2 (by omega)]
    refine cnd_eq (fun q => ?_) fun _ => cnd_b (fun q => ?_) fun _ => trivial
    · exfalso
      have := nodup_get nd (i := k) (j := i) (x := n / 2) (y := n2 / 2) (by omega) (by simp [edgesOf, hx]) (by simp [edgesOf, hy])
      omega
    · refine okFrom hn1 (by omega) (okFrom hn2 (by omega) (cnd_eq (fun q2 => ?_) fun _ => trivial))
      exfalso
      exact nodup_get (hn q) (i := k) (j := i) (x := fromH es n) (y := fromH es n2) (by omega) (by simp [hx]) (by simp [hy]) q2
  · rw [wr (by omega) (by omega)]
    exact ⟨⟨k + 1, by simp⟩, by dsimp only; omega⟩
  · rw [wr (by omega) (by omega)]
    exact ⟨⟨i + 1, by simp, by omega⟩, by dsimp only; omega⟩

/-! ### Ways up -/
def farN (t : BT) (v : Int) : Nat := (t.far.getD v.toNat 0).toNat
theorem BI.farB {g : Int} {es : Es} {s : Int} {t : BT} (i : BI g es s t) {v : Int} (hv : v ∈ t.ord) : (farN t v : Int) = t.far.getD v.toNat 0 ∧ farN t v < g.toNat := by
  have hr := i.rng v hv
  have h1 := (i.mem v hr.1 hr.2).2 hv
  have h2 := i.bnd v hr.1 hr.2
  have h3 := i.len
  unfold farN
  omega
/-- A node that is not where the walk began, and its half-edge. -/
structure Par (es : Es) (t : BT) (v : Int) (h : Nat) : Prop where
  e : t.by'.getD v.toNat 0 = h
  hh : h < 2 * es.length
  to' : toH es h = v
  fr : fromH es h ∈ t.ord
  far : farN t v = farN t (fromH es h) + 1
theorem BI.par {g : Int} {es : Es} {s : Int} {t : BT} (i : BI g es s t) {v : Int} (hv : v ∈ t.ord) (hs : v ≠ s) : ∃ h, Par es t v h := by
  obtain ⟨h, e1, e2, e3, e4, e5⟩ := i.tree v hv hs
  have a := i.farB hv
  have b := i.farB e4
  exact ⟨h, e1, e2, e3, e4, by omega⟩
theorem BI.far0 {g : Int} {es : Es} {s : Int} {t : BT} (i : BI g es s t) {v : Int} (hv : v ∈ t.ord) : farN t v = 0 ↔ v = s := by
  constructor
  · intro h
    apply Decidable.byContradiction
    intro hs
    obtain ⟨p, hp⟩ := i.par hv hs
    have := hp.far; omega
  · intro h
    subst h
    unfold farN; rw [i.fs]; rfl
theorem upL_root {g : Int} {es : Es} {s : Int} {t : BT} (i : BI g es s t) (k : Nat) : upL es t.by' k s = [] := by
  cases k with
  | zero => rfl
  | succ k => unfold upL; rw [if_neg (by rw [i.bs]; omega)]
theorem upL_par {es : Es} {t : BT} {v : Int} {h : Nat} (p : Par es t v h) (k : Nat) : upL es t.by' (k + 1) v = ((mate h : Nat) : Int) :: upL es t.by' k (fromH es h) := by
  rw [upL, p.e, if_pos (by omega), mateI_nat, Int.toNat_natCast]
theorem upL_fuel {g : Int} {es : Es} {s : Int} {t : BT} (i : BI g es s t) : ∀ (n k : Nat) (v : Int), v ∈ t.ord → farN t v = n → n ≤ k → upL es t.by' k v = upL es t.by' n v
  | 0, k, v, hv, hn, _ => by
    have := (i.far0 hv).1 hn
    subst this
    rw [upL_root i, upL_root i]
  | n + 1, k, v, hv, hn, hk => by
    obtain ⟨h, p⟩ := i.par hv fun e => by have := (i.far0 hv).2 e; omega
    obtain ⟨k', rfl⟩ : ∃ k', k = k' + 1 := ⟨k - 1, by omega⟩
    have pf := p.far
    rw [upL_par p, upL_par p, upL_fuel i n k' _ p.fr (by omega) (by omega)]
/-- The way up from a node. -/
def upF (es : Es) (t : BT) (v : Int) : List Int := upL es t.by' (farN t v) v
theorem upF_eq {g : Int} {es : Es} {s : Int} {t : BT} (i : BI g es s t) {v : Int} (hv : v ∈ t.ord) : upL es t.by' g.toNat v = upF es t v :=
  upL_fuel i _ _ v hv rfl (by have := i.farB hv; omega)
theorem upF_root {g : Int} {es : Es} {s : Int} {t : BT} (i : BI g es s t) : upF es t s = [] := upL_root i _
theorem upF_par {es : Es} {t : BT} {v : Int} {h : Nat} (p : Par es t v h) : upF es t v = ((mate h : Nat) : Int) :: upF es t (fromH es h) := by
  unfold upF
  rw [p.far, upL_par p]
theorem upF_ind {g : Int} {es : Es} {s : Int} {t : BT} (i : BI g es s t) {C : Int → Prop} (h0 : C s) (h1 : ∀ v h, v ∈ t.ord → v ≠ s → Par es t v h → C (fromH es h) → C v) : ∀ v ∈ t.ord, C v := by
  have : ∀ n v, v ∈ t.ord → farN t v = n → C v := fun n => by
    induction n with
    | zero => intro v hv hn; rw [(i.far0 hv).1 hn]; exact h0
    | succ n ih =>
      intro v hv hn
      have hs : v ≠ s := fun e => by have := (i.far0 hv).2 e; omega
      obtain ⟨h, p⟩ := i.par hv hs
      have := p.far
      exact h1 v h hv hs p (ih _ p.fr (by omega))
  exact fun v hv => this _ v hv rfl
theorem upF_len {g : Int} {es : Es} {s : Int} {t : BT} (i : BI g es s t) : ∀ v ∈ t.ord, (upF es t v).length = farN t v := by
  refine upF_ind i ?_ fun v h hv hs p ih => ?_
  · rw [upF_root i, (i.far0 i.s_mem).2 rfl]; rfl
  · rw [upF_par p, List.length_cons, ih, p.far]
theorem upF_chain {g : Int} {es : Es} {s : Int} {t : BT} (i : BI g es s t) : ∀ v ∈ t.ord, Chain es (upF es t v) v s := by
  refine upF_ind i ?_ fun v h hv hs p ih => ?_
  · rw [upF_root i]; exact .nil _
  · rw [upF_par p]
    have := Chain.cons (mate h) (mate_lt p.hh) (l := upF es t (fromH es h)) (v := s) (by rw [to_mate]; exact ih)
    rw [from_mate, p.to'] at this
    exact this
theorem upF_suf {g : Int} {es : Es} {s : Int} {t : BT} (i : BI g es s t) : ∀ v ∈ t.ord, ∀ (f : List Int) (x : Int) (r : List Int), upF es t v = f ++ x :: r → ∃ w h, w ∈ t.ord ∧ w ≠ s ∧ Par es t w h ∧ x = ((mate h : Nat) : Int) ∧ x :: r = upF es t w ∧ farN t w ≤ farN t v := by
  refine upF_ind i ?_ fun v h hv hs p ih => ?_
  · intro f x r e
    rw [upF_root i] at e
    simp at e
  · intro f x r e
    cases f with
    | nil =>
      have e : upF es t v = x :: r := e
      refine ⟨v, h, hv, hs, p, ?_, e.symm, Nat.le_refl _⟩
      rw [upF_par p] at e
      exact (List.cons.inj e).1.symm
    | cons a f =>
      rw [upF_par p] at e
      obtain ⟨w, h2, a1, a2, a3, a4, a5, a6⟩ := ih f x r (List.cons.inj e).2
      exact ⟨w, h2, a1, a2, a3, a4, a5, by have := p.far; omega⟩
/-- One edge leads up from one node. -/
theorem par_inj {es : Es} {t : BT} {v w : Int} {h k : Nat} (p : Par es t v h) (q : Par es t w k) (e : h / 2 = k / 2) : v = w := by
  have : k = h ∨ k = mate h := by unfold mate; split <;> omega
  rcases this with rfl | rfl
  · rw [← p.to', q.to']
  · have a := p.far
    have b := q.far
    have c := q.to'
    rw [to_mate] at c
    rw [from_mate, p.to'] at b
    rw [c] at a
    omega
theorem upF_nodup {g : Int} {es : Es} {s : Int} {t : BT} (i : BI g es s t) : ∀ v ∈ t.ord, (edgesOf (upF es t v)).Nodup := by
  refine upF_ind i ?_ fun v h hv hs p ih => ?_
  · rw [upF_root i]; exact List.nodup_nil
  · rw [upF_par p]
    show (((mate h : Nat) : Int).toNat / 2 :: edgesOf (upF es t (fromH es h))).Nodup
    rw [List.nodup_cons]
    refine ⟨fun hm => ?_, ih⟩
    obtain ⟨y, hy, e⟩ := List.mem_map.1 hm
    obtain ⟨f, r, e2⟩ := List.append_of_mem hy
    obtain ⟨w, k, a1, a2, a3, a4, a5, a6⟩ := upF_suf i _ p.fr f y r e2
    rw [a4, Int.toNat_natCast, Int.toNat_natCast, mate_div, mate_div] at e
    have := par_inj p a3 e.symm
    subst this
    have := p.far
    omega
theorem edgesOf_app (a b : List Int) : edgesOf (a ++ b) = edgesOf a ++ edgesOf b := List.map_append
theorem edgesOf_mate {es : Es} {l : List Int} (h : HalfIn es l) : edgesOf (l.map mateI) = edgesOf l := by
  unfold edgesOf
  rw [List.map_map]
  apply List.map_congr_left
  intro x hx
  obtain ⟨n, rfl, _⟩ := h x hx
  simp [mateI_nat, mate_div]
theorem upF_half {g : Int} {es : Es} {s : Int} {t : BT} (i : BI g es s t) {v : Int} (hv : v ∈ t.ord) : HalfIn es (upF es t v) := upL_half i _ v hv
/-- A round: closed, odd if both ends are alike, no edge twice. -/
theorem round_facts {g : Int} {es : Es} {s : Int} {t : BT} (i : BI g es s t) {h : Nat} (hh : h < 2 * es.length) (h1 : toH es h ∈ t.ord) (h2 : fromH es h ∈ t.ord) (hp : farN t (toH es h) % 2 = farN t (fromH es h) % 2) :
    Chain es (roundM g es t.by' h) (fromH es h) (fromH es h) ∧ (roundM g es t.by' h).length % 2 = 1 ∧ HalfIn es (roundM g es t.by' h) ∧ (edgesOf (roundM g es t.by' h)).Nodup ∧ (roundM g es t.by' h).length ≤ 2 * g.toNat := by
  unfold roundM
  rw [Int.toNat_natCast, upF_eq i h1, upF_eq i h2]
  have lF := upF_len i _ h1
  have lT := upF_len i _ h2
  have fF := i.farB h1
  have fT := i.farB h2
  have cF := upF_chain i _ h1
  have cT := upF_chain i _ h2
  have nF := upF_nodup i _ h1
  have nT := upF_nodup i _ h2
  have sF := upF_suf i _ h1
  have sT := upF_suf i _ h2
  have hF := upF_half i h1
  have hT := upF_half i h2
  obtain ⟨c, e1, e2, hmax⟩ := stripR_spec (upF es t (toH es h)).reverse (upF es t (fromH es h)).reverse
  generalize stripR (upF es t (toH es h)).reverse (upF es t (fromH es h)).reverse = S at *
  obtain ⟨fr, tr⟩ := S
  dsimp only at *
  have eF : upF es t (toH es h) = fr.reverse ++ c.reverse := by rw [← List.reverse_reverse (upF es t (toH es h)), e1, List.reverse_append]
  have eT : upF es t (fromH es h) = tr.reverse ++ c.reverse := by rw [← List.reverse_reverse (upF es t (fromH es h)), e2, List.reverse_append]
  rw [eF] at lF cF nF hF
  rw [eT] at lT cT nT hT
  have lF2 : fr.length + c.length = farN t (toH es h) := by simpa using lF
  have lT2 : tr.length + c.length = farN t (fromH es h) := by simpa using lT
  have hfr : HalfIn es fr.reverse := fun x hx => hF x (List.mem_append_left _ hx)
  have htr : HalfIn es tr := fun x hx => hT x (List.mem_append_left _ (by simpa using hx))
  refine ⟨?_, ?_, ?_, ?_, ?_⟩
  · obtain ⟨x, a1, a2⟩ := cF.split
    obtain ⟨y, b1, b2⟩ := cT.split
    have hxy : x = y := by
      cases hc : c.reverse with
      | nil =>
        rw [hc] at a2 b2
        cases a2; cases b2; rfl
      | cons z r =>
        rw [hc] at a2 b2
        cases a2 with
        | cons n hn q =>
          generalize hz : ((n : Nat) : Int) = z' at b2
          cases b2 with
          | cons n2 hn2 q2 =>
            have : n = n2 := by omega
            rw [this]
    subst hxy
    refine .cons h hh (a1.app ?_)
    have := b1.back
    rwa [List.reverse_reverse] at this
  · simp only [List.length_cons, List.length_append, List.length_reverse, List.length_map]
    omega
  · intro x hx
    rcases List.mem_cons.1 hx with rfl | hx
    · exact ⟨h, rfl, hh⟩
    · rcases List.mem_append.1 hx with hx | hx
      · exact hfr x hx
      · obtain ⟨y, hy, rfl⟩ := List.mem_map.1 hx
        obtain ⟨n, rfl, hn⟩ := htr y hy
        exact ⟨mate n, mateI_nat n, mate_lt hn⟩
  · have eE : edgesOf ((h : Int) :: (fr.reverse ++ tr.map mateI)) = h / 2 :: (edgesOf fr.reverse ++ edgesOf tr) := by
      show ((h : Int).toNat / 2 :: edgesOf (fr.reverse ++ tr.map mateI)) = _
      rw [Int.toNat_natCast, edgesOf_app, edgesOf_mate htr]
    rw [eE, List.nodup_cons]
    -- no edge of the tree joins what is alike
    have tree : ∀ (v : Int), v ∈ t.ord → ∀ y ∈ upF es t v, y.toNat / 2 ≠ h / 2 := fun v hv y hy e => by
      obtain ⟨f, r, e2⟩ := List.append_of_mem hy
      obtain ⟨w, k, a1, a2, a3, a4, a5, a6⟩ := upF_suf i v hv f y r e2
      rw [a4, Int.toNat_natCast, mate_div] at e
      have hk : h = k ∨ h = mate k := by unfold mate; split <;> omega
      have pf := a3.far
      rcases hk with rfl | rfl
      · rw [a3.to'] at hp; omega
      · rw [to_mate, from_mate, a3.to'] at hp; omega
    have memF : ∀ y ∈ fr.reverse, y ∈ upF es t (toH es h) := fun y hy => by rw [eF]; exact List.mem_append_left _ hy
    have memT : ∀ y ∈ tr, y ∈ upF es t (fromH es h) := fun y hy => by rw [eT]; exact List.mem_append_left _ (by simpa using hy)
    rw [edgesOf_app] at nF nT
    refine ⟨fun hm => ?_, List.nodup_append.2 ⟨(List.nodup_append.1 nF).1, ?_, ?_⟩⟩
    · rcases List.mem_append.1 hm with hm | hm
      · obtain ⟨y, hy, e⟩ := List.mem_map.1 hm
        exact tree _ h1 y (memF y hy) e
      · obtain ⟨y, hy, e⟩ := List.mem_map.1 hm
        exact tree _ h2 y (memT y hy) e
    · have := (List.nodup_append.1 nT).1
      unfold edgesOf at this ⊢
      rw [List.map_reverse] at this
      exact (List.pairwise_reverse.1 this).imp fun h => h.symm
    · intro a ha b hb hab
      subst hab
      obtain ⟨x, hx, ex⟩ := List.mem_map.1 ha
      obtain ⟨y, hy, ey⟩ := List.mem_map.1 hb
      have hy : y ∈ tr.reverse := by simpa using hy
      obtain ⟨f1, f2, ef⟩ := List.append_of_mem hx
      obtain ⟨t1, t2, et⟩ := List.append_of_mem hy
      obtain ⟨w, k, a1, a2, a3, a4, a5, _⟩ := sF f1 x (f2 ++ c.reverse) (by rw [eF, ef]; simp)
      obtain ⟨w2, k2, b1, b2, b3, b4, b5, _⟩ := sT t1 y (t2 ++ c.reverse) (by rw [eT, et]; simp)
      have hw : w = w2 := by
        refine par_inj a3 b3 ?_
        rw [a4, Int.toNat_natCast, mate_div] at ex
        rw [b4, Int.toNat_natCast, mate_div] at ey
        omega
      subst hw
      rw [← b5] at a5
      obtain ⟨e3, e4⟩ := List.cons.inj a5
      have e5 := List.append_cancel_right e4
      subst e3 e5
      have r1 : fr = (x :: f2).reverse ++ f1.reverse := by rw [← List.reverse_reverse fr, ef, List.reverse_append]
      have r2 : tr = (x :: f2).reverse ++ t1.reverse := by rw [← List.reverse_reverse tr, et, List.reverse_append]
      have hne : (x :: f2).reverse ≠ [] := by simp
      cases hr : (x :: f2).reverse with
      | nil => exact hne hr
      | cons z zs =>
        rw [hr] at r1 r2
        rcases hmax with q | q | ⟨a, b, p, q, hab, q1, q2⟩
        · rw [q] at r1; simp at r1
        · rw [q] at r2; simp at r2
        · rw [q1] at r1; rw [q2] at r2
          have z1 := (List.cons.inj r1).1
          have z2 := (List.cons.inj r2).1
          exact hab (z1.trans z2.symm)
  · simp only [List.length_cons, List.length_append, List.length_reverse, List.length_map]
    omega

/-! ### Sides -/
structure SI (g : Int) (es : Es) (k : Nat) (side : List Int) : Prop where
  len : side.length = g.toNat
  set : ∀ w : Nat, w < g.toNat → (0 ≤ side.getD w 0 ↔ ∃ u : Nat, u < k ∧ Reach es u w)
  two : ∀ w : Nat, w < g.toNat → side.getD w 0 = -1 ∨ side.getD w 0 = 0 ∨ side.getD w 0 = 1
  edge : ∀ h : Nat, h < 2 * es.length → 0 ≤ side.getD (fromH es h).toNat 0 → side.getD (toH es h).toNat 0 ≠ side.getD (fromH es h).toNat 0
  first : ∀ v : Nat, v < k → v < g.toNat → (∀ u : Nat, u < v → ¬ Reach es u v) → side.getD v 0 = 0
theorem sK_SI {g : Int} {es : Es} (m : MayN g es) : ∀ k, k ≤ g.toNat → ∀ {side : List Int}, sK g es k = .inl side → SI g es k side
  | 0, _, side, h => by
    have e0 : List.replicate g.toNat (-1) = side := Sum.inl.inj h
    have e : ∀ w : Nat, w < g.toNat → side.getD w 0 = -1 := fun w hw => by rw [← e0]; exact getD_rep hw
    refine ⟨by rw [← e0]; simp, fun w hw => ?_, fun w hw => .inl (e w hw), fun h hh q => ?_, fun v hv => by omega⟩
    · rw [e w hw]; exact ⟨fun q => by omega, fun ⟨u, q, _⟩ => by omega⟩
    · have := fromH_in m hh
      rw [e _ (by omega)] at q; omega
  | k + 1, hk, side, h => by
    rw [sK] at h
    split at h
    · rename_i s0 e
      have I := sK_SI m k (by omega) e
      unfold sStep at h
      split at h
      · rename_i hpos
        obtain rfl := Sum.inl.inj h
        refine ⟨I.len, fun w hw => ?_, I.two, I.edge, fun v hv hv2 hf => ?_⟩
        · rw [I.set w hw]
          refine ⟨fun ⟨u, hu, r⟩ => ⟨u, by omega, r⟩, fun ⟨u, hu, r⟩ => ?_⟩
          by_cases e : u < k
          · exact ⟨u, e, r⟩
          · obtain rfl : u = k := by omega
            obtain ⟨z, hz, r2⟩ := (I.set u (by omega)).1 hpos
            exact ⟨z, hz, r2.trans r⟩
        · by_cases e : v < k
          · exact I.first v e hv2 hf
          · obtain rfl : v = k := by omega
            obtain ⟨z, hz, r2⟩ := (I.set v hv2).1 hpos
            exact absurd r2 (hf z hz)
      · rename_i hneg
        have h0 : (0 : Int) ≤ (k : Int) := by omega
        have h1 : ((k : Nat) : Int) < g := by omega
        have b := bfs_BI m h0 h1
        have mem := fun v => bfs_mem (v := v) m h0 h1
        split at h
        · cases h
        · rename_i hbad
          obtain rfl := Sum.inl.inj h
          have hr : ∀ w ∈ (bfs g es k).ord, 0 ≤ w ∧ w.toNat < g.toNat := fun w hw => by have := b.rng w hw; omega
          have get := fun (v : Nat) (hv : v < g.toNat) => sFill_get (bfs g es k).far g.toNat (bfs g es k).ord s0 I.len hr v hv
          unfold firstBad at hbad
          rw [List.find?_eq_none] at hbad
          have nk : ∀ w : Nat, w < g.toNat → Reach es k w → s0.getD w 0 < 0 := fun w hw r => by
            apply Int.lt_of_not_ge
            intro q
            obtain ⟨z, hz, r2⟩ := (I.set w hw).1 q
            exact hneg ((I.set k (by omega)).2 ⟨z, hz, r2.trans r.symm⟩)
          have fpos : ∀ w : Nat, w < g.toNat → (w : Int) ∈ (bfs g es k).ord → 0 ≤ (bfs g es k).far.getD w 0 := fun w hw q => by
            have := (b.mem w (by omega) (by omega)).2 q
            rwa [Int.toNat_natCast] at this
          refine ⟨by rw [sFill_len]; exact I.len, fun w hw => ?_, fun w hw => ?_, fun h hh q => ?_, fun v hv hv2 hf => ?_⟩
          · by_cases r : Reach es k w
            · have hw2 := (mem w).2 r
              rw [(get w hw).1 hw2]
              have := fpos w hw hw2
              exact ⟨fun _ => ⟨k, by omega, r⟩, fun _ => by omega⟩
            · rw [(get w hw).2 fun q => r ((mem w).1 q), I.set w hw]
              refine ⟨fun ⟨u, hu, r⟩ => ⟨u, by omega, r⟩, fun ⟨u, hu, r2⟩ => ⟨u, ?_, r2⟩⟩
              by_cases e : u = k
              · subst e; exact absurd r2 r
              · omega
          · by_cases r : (w : Int) ∈ (bfs g es k).ord
            · rw [(get w hw).1 r]
              have := fpos w hw r
              omega
            · rw [(get w hw).2 r]; exact I.two w hw
          · have hf := fromH_in m hh
            have ht := toH_in m hh
            have cf : ((fromH es h).toNat : Int) = fromH es h := Int.toNat_of_nonneg hf.1
            have ct : ((toH es h).toNat : Int) = toH es h := Int.toNat_of_nonneg ht.1
            by_cases r : fromH es h ∈ (bfs g es k).ord
            · have := hbad (h : Int) (List.mem_flatMap.2 ⟨_, r, outV_of hh rfl hf.1⟩)
              unfold badH at this
              rw [Int.toNat_natCast] at this
              simpa using this
            · have r2 : toH es h ∉ (bfs g es k).ord := fun z => r ((mem _).2 (((mem _).1 z).trans (Reach.one hh).symm))
              have g1 := (get (toH es h).toNat (by omega)).2 (by rw [ct]; exact r2)
              have g2 := (get (fromH es h).toNat (by omega)).2 (by rw [cf]; exact r)
              rw [g2] at q
              rw [g1, g2]
              exact I.edge h hh q
          · by_cases e : v < k
            · have hv3 : (v : Int) ∉ (bfs g es k).ord := fun z => by
                have r := ((mem _).1 z).symm
                exact hneg ((I.set k (by omega)).2 ⟨v, e, r⟩)
              rw [(get v hv2).2 hv3]
              exact I.first v e hv2 hf
            · obtain rfl : v = k := by omega
              have hvm := (mem v).2 (.start _)
              rw [(get v hv2).1 hvm]
              have := b.fs
              rw [Int.toNat_natCast] at this
              rw [this]; rfl
    · cases h
/-- If there are no sides, a round that shows it. -/
theorem sK_round {g : Int} {es : Es} (m : MayN g es) : ∀ k, k ≤ g.toNat → ∀ {l : List Int}, sK g es k = .inr l →
    ∃ u, Chain es l u u ∧ l.length % 2 = 1 ∧ HalfIn es l ∧ (edgesOf l).Nodup ∧ l.length ≤ 2 * g.toNat
  | 0, _, l, h => by cases h
  | k + 1, hk, l, h => by
    rw [sK] at h
    split at h
    · rename_i s0 e
      have I := sK_SI m k (by omega) e
      unfold sStep at h
      split at h
      · cases h
      · rename_i hneg
        have h0 : (0 : Int) ≤ (k : Int) := by omega
        have h1 : ((k : Nat) : Int) < g := by omega
        have b := bfs_BI m h0 h1
        split at h
        · rename_i hh hbad
          obtain rfl := Sum.inr.inj h
          unfold firstBad at hbad
          have hb1 := List.find?_some hbad
          have hb2 := List.mem_of_find?_eq_some hbad
          obtain ⟨w, hw, hx⟩ := List.mem_flatMap.1 hb2
          have hwr := b.rng w hw
          obtain ⟨n, rfl, hn, hf⟩ := outV_mem hwr.1 hx
          have hto := (bfs_done m h0 h1 hn (hf ▸ hw)).1
          have hfm : fromH es n ∈ (bfs g es k).ord := hf ▸ hw
          have hr : ∀ w ∈ (bfs g es k).ord, 0 ≤ w ∧ w.toNat < g.toNat := fun w hw => by have := b.rng w hw; omega
          have get := fun (v : Int) (hv : v ∈ (bfs g es k).ord) => (sFill_get (bfs g es k).far g.toNat (bfs g es k).ord s0 I.len hr v.toNat (hr v hv).2).1 (by rw [Int.toNat_of_nonneg (hr v hv).1]; exact hv)
          unfold badH at hb1
          rw [Int.toNat_natCast, get _ hto, get _ hfm, beq_iff_eq] at hb1
          have a := b.farB hto
          have c := b.farB hfm
          have := round_facts b hn hto hfm (by omega)
          exact ⟨_, this⟩
        · cases h
    · obtain rfl := Sum.inr.inj h
      rename_i l' e
      exact sK_round m k (by omega) e
end Go.Proofs.Ytmcloipjlihhlaa.N
