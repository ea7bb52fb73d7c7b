/- Package walk: a way that goes round an edge, a shortest cycle; law 6 begins. Conditions: none. -/
import Derived.Test.YtmcloipjlihhlaaNWalk2
namespace Go.Proofs.Ytmcloipjlihhlaa.N
open Go.X Go.Proofs.Ytmcloipjlihhlaa
set_option maxRecDepth 100000

def rho (e h : Nat) : Nat := if h < 2 * e then h else h + 2
def unrho (e h : Nat) : Nat := if h < 2 * e then h else h - 2
theorem rho_unrho {e h : Nat} (hh : h / 2 ≠ e) : rho e (unrho e h) = h := by
  unfold rho unrho
  by_cases q : h < 2 * e
  · rw [if_pos q, if_pos q]
  · rw [if_neg q, if_neg (by omega)]; omega
theorem rho_div (e h : Nat) : rho e h / 2 ≠ e := by unfold rho; split <;> omega
theorem rho_end (es : Es) {e h : Nat} : es.getD (rho e h / 2) (0, 0) = (es.eraseIdx e).getD (h / 2) (0, 0) := by
  simp only [List.getD_eq_getElem?_getD, List.getElem?_eraseIdx]
  unfold rho
  by_cases q : h < 2 * e
  · rw [if_pos q, if_pos (by omega)]
  · rw [if_neg q, if_neg (by omega), show (h + 2) / 2 = h / 2 + 1 by omega]
theorem rho_mod (e h : Nat) : rho e h % 2 = h % 2 := by unfold rho; split <;> omega
theorem from_rho (es : Es) (e h : Nat) : fromH es (rho e h) = fromH (es.eraseIdx e) h := by unfold fromH; rw [rho_end, rho_mod]
theorem to_rho (es : Es) (e h : Nat) : toH es (rho e h) = toH (es.eraseIdx e) h := by unfold toH; rw [rho_end, rho_mod]
theorem erase_len {es : Es} {e : Nat} (he : e < es.length) : (es.eraseIdx e).length = es.length - 1 := by rw [List.length_eraseIdx, if_pos he]
theorem rho_lt {es : Es} {e h : Nat} (he : e < es.length) (hh : h < 2 * (es.eraseIdx e).length) : rho e h < 2 * es.length := by
  rw [erase_len he] at hh
  unfold rho; split <;> omega
theorem unrho_lt {es : Es} {e h : Nat} (he : e < es.length) (hh : h < 2 * es.length) (hd : h / 2 ≠ e) : unrho e h < 2 * (es.eraseIdx e).length := by
  rw [erase_len he]
  unfold unrho; split <;> omega
theorem may_erase {g : Int} {es : Es} (m : MayN g es) (e : Nat) : MayN g (es.eraseIdx e) := by
  refine ⟨m.g0, m.g1, ?_, fun i x hx => ?_⟩
  · have := m.m
    rw [List.length_eraseIdx]; split <;> omega
  · rw [List.getElem?_eraseIdx] at hx
    split at hx
    · exact m.e _ _ hx
    · exact m.e _ _ hx
def rhoI (e : Nat) (x : Int) : Int := if x < 0 then x else ((rho e x.toNat : Nat) : Int)
theorem rhoI_nat (e h : Nat) : rhoI e (h : Int) = ((rho e h : Nat) : Int) := by unfold rhoI; rw [if_neg (by omega), Int.toNat_natCast]
structure WT where
  q : List Int
  by' : List Int
  seen : List Bool
def wH (es : Es) (e : Nat) (t : WT) (h : Int) : WT :=
  if h.toNat / 2 = e then t else if t.seen.getD (toH es h.toNat).toNat false then t else ⟨t.q ++ [toH es h.toNat], t.by'.set (toH es h.toNat).toNat h, t.seen.set (toH es h.toNat).toNat true⟩
def wStart (g s : Int) : WT := ⟨[s], List.replicate g.toNat (-1), (List.replicate g.toNat false).set s.toNat true⟩
def wK (g : Int) (es : Es) (e : Nat) (s t : Int) : Nat → WT
  | 0 => wStart g s
  | k + 1 => if k < (wK g es e s t k).q.length ∧ (wK g es e s t k).seen.getD t.toNat false = false then (outV es ((wK g es e s t k).q.getD k 0)).foldl (wH es e) (wK g es e s t k) else wK g es e s t k
def wEnd (g : Int) (es : Es) (e : Nat) (s t : Int) : WT := wK g es e s t g.toNat
def backL (es : Es) (by' : List Int) (s : Int) : Nat → Int → List Int
  | 0, _ => []
  | k + 1, v => if v = s then [] else by'.getD v.toNat 0 :: backL es by' s k (fromH es (by'.getD v.toNat 0).toNat)
def wayM (g : Int) (es : Es) (e : Nat) (s t : Int) : List Int :=
  if (wEnd g es e s t).seen.getD t.toNat false then (backL es (wEnd g es e s t).by' s g.toNat t).reverse else []
/-- What breadth first finds without the edge, as it is written here. -/
def wOf (e : Nat) (t : BT) : WT := ⟨t.ord, t.by'.map (rhoI e), t.far.map fun x => decide (0 ≤ x)⟩
theorem getD_map {l : List Int} {α : Type} {f : Int → α} {d : α} {i : Nat} (h : i < l.length) : (l.map f).getD i d = f (l.getD i 0) := by
  simp [List.getD_eq_getElem?_getD, List.getElem?_map, List.getElem?_eq_getElem h]
theorem wOf_start {g s : Int} (e : Nat) : wOf e (bStart g s) = wStart g s := by
  unfold wOf wStart bStart
  congr 1
  · rw [List.map_replicate]; rfl
  · rw [List.map_set, List.map_replicate]; rfl
theorem wH_rho {g s v : Int} {es : Es} {e : Nat} {t : BT} {h : Nat} (he : e < es.length) (m : MayN g es) (i : BI g (es.eraseIdx e) s t) (hv : v ∈ t.ord) (hh : h < 2 * (es.eraseIdx e).length) : wH es e (wOf e t) (rho e h : Nat) = wOf e (bH (es.eraseIdx e) v t h) := by
  have hw := toH_in (may_erase m e) hh
  have hvr := i.rng v hv
  have hvf := (i.mem v hvr.1 hvr.2).2 hv
  unfold wH bH
  rw [Int.toNat_natCast, Int.toNat_natCast, if_neg (rho_div e h), to_rho]
  have es1 : (wOf e t).seen.getD (toH (es.eraseIdx e) h).toNat false = decide (0 ≤ t.far.getD (toH (es.eraseIdx e) h).toNat 0) := getD_map (by rw [i.lf]; omega)
  rw [es1]
  by_cases q : t.far.getD (toH (es.eraseIdx e) h).toNat 0 < 0
  · have hd2 : decide (0 ≤ t.far.getD v.toNat 0 + 1) = true := decide_eq_true (by omega)
    rw [decide_eq_false (show ¬ 0 ≤ t.far.getD (toH (es.eraseIdx e) h).toNat 0 by omega), if_neg (by decide), if_pos q]
    unfold wOf
    simp only [List.map_set, rhoI_nat, hd2]
  · rw [decide_eq_true (show 0 ≤ t.far.getD (toH (es.eraseIdx e) h).toNat 0 by omega), if_pos rfl, if_neg q]
theorem wH_skip {es : Es} {e h : Nat} {t : WT} (hh : h / 2 = e) : wH es e t (h : Int) = t := by unfold wH; rw [Int.toNat_natCast, if_pos hh]
/-- One half-edge more. -/
theorem wH_step {g s v : Int} {es : Es} {e : Nat} {t : BT} {h : Nat} (he : e < es.length) (m : MayN g es) (i : BI g (es.eraseIdx e) s t) (hv : v ∈ t.ord) (hh : h < 2 * es.length) (hf : fromH es h = v) :
    ∃ t', wH es e (wOf e t) (h : Int) = wOf e t' ∧ BI g (es.eraseIdx e) s t' ∧ v ∈ t'.ord := by
  by_cases q : h / 2 = e
  · exact ⟨t, wH_skip q, i, hv⟩
  · have h1 := unrho_lt he hh q
    have h2 := rho_unrho q
    have hf2 : fromH (es.eraseIdx e) (unrho e h) = v := by rw [← from_rho, h2, hf]
    refine ⟨bH (es.eraseIdx e) v t (unrho e h), ?_, i.stepH (may_erase m e) hv h1 hf2, bH_ord _ hv⟩
    rw [← wH_rho he m i hv h1, h2]
theorem wFold {g s v : Int} {es : Es} {e : Nat} (he : e < es.length) (m : MayN g es) : ∀ (l : List Int) (t : BT), (∀ x ∈ l, ∃ n : Nat, x = n ∧ n < 2 * es.length ∧ fromH es n = v) → BI g (es.eraseIdx e) s t → v ∈ t.ord →
    ∃ t', l.foldl (wH es e) (wOf e t) = wOf e t' ∧ BI g (es.eraseIdx e) s t' ∧ v ∈ t'.ord
  | [], t, _, i, hv => ⟨t, rfl, i, hv⟩
  | x :: l, t, hl, i, hv => by
    obtain ⟨n, rfl, hn, hf⟩ := hl x (by simp)
    obtain ⟨t', e1, i1, hv1⟩ := wH_step he m i hv hn hf
    rw [List.foldl_cons, e1]
    exact wFold he m l t' (fun y hy => hl y (List.mem_cons_of_mem _ hy)) i1 hv1
theorem wK_BI {g s t : Int} {es : Es} {e : Nat} (he : e < es.length) (m : MayN g es) (h0 : 0 ≤ s) (h1 : s < g) : ∀ k, ∃ b, wK g es e s t k = wOf e b ∧ BI g (es.eraseIdx e) s b
  | 0 => ⟨bStart g s, (wOf_start e).symm, BI.start h0 h1⟩
  | k + 1 => by
    obtain ⟨b, e1, i⟩ := wK_BI (t := t) he m h0 h1 k
    rw [wK]
    split
    · rename_i q
      rw [e1] at q ⊢
      have hv : (wOf e b).q.getD k 0 ∈ b.ord := by
        have : k < b.ord.length := q.1
        show b.ord.getD k 0 ∈ b.ord
        rw [List.getD_eq_getElem?_getD, List.getElem?_eq_getElem this]
        exact List.getElem_mem this
      obtain ⟨b', e2, i2, _⟩ := wFold he m (outV es ((wOf e b).q.getD k 0)) b (fun x hx => outV_mem (i.rng _ hv).1 hx) i hv
      exact ⟨b', e2, i2⟩
    · exact ⟨b, e1, i⟩
theorem wK_stay {g s t : Int} {es : Es} {e k : Nat} (h : ¬ (k < (wK g es e s t k).q.length ∧ (wK g es e s t k).seen.getD t.toNat false = false)) : ∀ d, wK g es e s t (k + d) = wK g es e s t k
  | 0 => rfl
  | d + 1 => by
    have ih := wK_stay h d
    rw [← Nat.add_assoc, wK, if_neg, ih]
    rw [ih]
    exact fun q => h ⟨by omega, q.2⟩
theorem getD_ofB {l : List Bool} {i : Nat} {x : Bool} (h : l[i]? = some x) : l.getD i false = x := by simp [List.getD_eq_getElem?_getD, h]
theorem okWithout {g s t : Int} {es : Es} {e : Nat} {R : List Int → Bool → Prop} (m : MayN g es) (he : e < es.length) (h0 : 0 ≤ s) (h1 : s < g) (t0 : 0 ≤ t) (t1 : t < g) (hst : t ≠ s) (hR : R (wayM g es e s t) (wayM g es e s t).isEmpty) : Ok183 g es (outsA g es) e s t R := by
  apply ok183
  unfold T183
  have m0 := m.g0
  have m1 := m.g1
  have m3 := m.m
  refine okFilled m0 (by omega) ⟨m0, by omega, h0, by omega, fun b sn => b = (wEnd g es e s t).by' ∧ sn = (wEnd g es e s t).seen, ?_, ?_⟩
  · refine ⟨fun q i b sn => ∃ k : Nat, i = k ∧ k ≤ (wK g es e s t k).q.length ∧ q = (wK g es e s t k).q ∧ b = (wK g es e s t k).by' ∧ sn = (wK g es e s t k).seen, fun _ i _ _ => (g - i).toNat, ⟨0, rfl, Nat.zero_le _, rfl, rfl, rfl⟩, ?_⟩
    rintro _ _ _ _ ⟨k, rfl, hk, rfl, rfl, rfl⟩
    obtain ⟨b, eb, i⟩ := wK_BI (t := t) he m h0 h1 k
    have il := i.len
    have eq : (wK g es e s t k).q = b.ord := by rw [eb]; rfl
    have ebl : (wK g es e s t k).by'.length = g.toNat := by rw [eb]; show (b.by'.map _).length = _; rw [List.length_map, i.lb]
    have esl : (wK g es e s t k).seen.length = g.toNat := by rw [eb]; show (b.far.map _).length = _; rw [List.length_map, i.lf]
    have fin : ¬ (k < (wK g es e s t k).q.length ∧ (wK g es e s t k).seen.getD t.toNat false = false) → (wK g es e s t k).by' = (wEnd g es e s t).by' ∧ (wK g es e s t k).seen = (wEnd g es e s t).seen := fun q => by
      have := wK_stay q (g.toNat - k)
      rw [show k + (g.toNat - k) = g.toNat by rw [eq] at hk; omega] at this
      unfold wEnd
      rw [this]; exact ⟨rfl, rfl⟩
    refine cnd_dec (fun hlt => ⟨t0, by omega, fun x hx => cnd_not (fun q => ?_) fun q => ?_⟩) fun hlt => ?_
    · have hx := getD_ofB hx
      rw [q] at hx
      refine ⟨by omega, hlt, fun v hv => ?_⟩
      rw [Int.toNat_natCast] at hv
      have hvm : v ∈ b.ord := by rw [← eq]; exact List.mem_of_getElem? hv
      have hvr := i.rng v hvm
      refine ⟨hvr.1, by rw [outsA_len]; omega, fun l hl => ?_⟩
      obtain rfl := outsA_get hvr.2 hvr.1 hl
      have hol : (outV es v).length ≤ 2 * es.length := outL_len _ _ _
      refine ⟨fun q x bb sn => ∃ (j : Nat) (c : BT), x = j ∧ j ≤ (outV es v).length ∧ ((outV es v).take j).foldl (wH es e) (wK g es e s t k) = wOf e c ∧ BI g (es.eraseIdx e) s c ∧ v ∈ c.ord ∧ k < c.ord.length ∧ q = (wOf e c).q ∧ bb = (wOf e c).by' ∧ sn = (wOf e c).seen, fun _ x _ _ => ((outV es v).length - x).toNat, ⟨0, b, rfl, Nat.zero_le _, by rw [← eb]; rfl, i, hvm, by rw [← eq]; omega, eq, by rw [eb], by rw [eb]⟩, ?_⟩
      rintro _ _ _ _ ⟨j, c, rfl, hj, hfold, ic, hvc, hkc, rfl, rfl, rfl⟩
      have icl := ic.len
      refine cnd_dec (fun hlt2 => ?_) fun hlt2 => ?_
      · refine ⟨fun q bb sn => ∃ c' : BT, ((outV es v).take (j + 1)).foldl (wH es e) (wK g es e s t k) = wOf e c' ∧ BI g (es.eraseIdx e) s c' ∧ v ∈ c'.ord ∧ k < c'.ord.length ∧ q = (wOf e c').q ∧ bb = (wOf e c').by' ∧ sn = (wOf e c').seen, ⟨by omega, hlt2, fun x hx2 => ?_⟩, ?_⟩
        · rw [Int.toNat_natCast] at hx2
          obtain ⟨n, rfl, hn, hf⟩ := outV_mem hvr.1 (List.mem_of_getElem? hx2)
          have hw := toH_in m hn
          have hfold2 : ((outV es v).take (j + 1)).foldl (wH es e) (wK g es e s t k) = wH es e (wOf e c) n := by
            rw [List.take_add_one, hx2, List.foldl_append, hfold]; rfl
          have cl : (wOf e c).seen.length = g.toNat := by show (c.far.map _).length = _; rw [List.length_map, ic.lf]
          have cb : (wOf e c).by'.length = g.toNat := by show (c.by'.map _).length = _; rw [List.length_map, ic.lb]
          have same : wH es e (wOf e c) n = wOf e c → ∃ c' : BT, ((outV es v).take (j + 1)).foldl (wH es e) (wK g es e s t k) = wOf e c' ∧ BI g (es.eraseIdx e) s c' ∧ v ∈ c'.ord ∧ k < c'.ord.length ∧ (wOf e c).q = (wOf e c').q ∧ (wOf e c).by' = (wOf e c').by' ∧ (wOf e c).seen = (wOf e c').seen :=
            fun q => ⟨c, hfold2.trans q, ic, hvc, hkc, rfl, rfl, rfl⟩
          refine okToW hn (by omega) ⟨by decide, ?_⟩
          rw [half_div n (by omega)]
          refine cnd_ne (fun q2 => ⟨hw.1, by omega, fun y hy => ?_⟩) fun q2 => same (wH_skip (by omega))
          have hy := getD_ofB hy
          refine ⟨fun q bb sn => ∃ c' : BT, ((outV es v).take (j + 1)).foldl (wH es e) (wK g es e s t k) = wOf e c' ∧ BI g (es.eraseIdx e) s c' ∧ v ∈ c'.ord ∧ k < c'.ord.length ∧ q = (wOf e c').q ∧ bb = (wOf e c').by' ∧ sn = (wOf e c').seen, cnd_not (fun q3 => ?_) (fun q3 => same ?_), fun _ _ _ q => q⟩
          · obtain ⟨c', e3, i3, hv3⟩ := wH_step he m ic hvc hn hf
            have e4 : wH es e (wOf e c) n = ⟨(wOf e c).q ++ [toH es n], (wOf e c).by'.set (toH es n).toNat n, (wOf e c).seen.set (toH es n).toNat true⟩ := by
              unfold wH
              rw [Int.toNat_natCast, if_neg (by omega), if_neg (by rw [hy, q3]; decide)]
            rw [e3] at e4
            refine ⟨hw.1, by rw [List.length_replicate]; omega, by show c.ord.length + 1 < _; omega, c', by rw [hfold2, e3], i3, hv3, ?_, by rw [e4], by rw [e4], by rw [e4]⟩
            have : c'.ord = c.ord ++ [toH es n] := congrArg WT.q e4
            rw [this]; simp; omega
          · unfold wH
            rw [Int.toNat_natCast, if_neg (by omega), if_pos (by rw [hy, q3])]
        · rintro _ _ _ ⟨c', hfold2, i3, hv3, hk3, rfl, rfl, rfl⟩
          rw [wr (by omega) (by omega)]
          exact ⟨⟨j + 1, c', by simp, by omega, hfold2, i3, hv3, hk3, rfl, rfl, rfl⟩, by dsimp only; omega⟩
      · have : j = (outV es v).length := by omega
        subst this
        rw [List.take_length] at hfold
        rw [wr (by omega) (by omega)]
        have e5 : wK g es e s t (k + 1) = wOf e c := by
          rw [wK, if_pos ⟨by omega, hx⟩, List.getD_eq_getElem?_getD, hv]
          exact hfold
        exact ⟨⟨k + 1, by simp, by rw [e5]; show k + 1 ≤ c.ord.length; omega, by rw [e5], by rw [e5], by rw [e5]⟩, by dsimp only; omega⟩
    · have hx := getD_ofB hx
      rw [q] at hx
      exact fin fun z => by rw [hx] at z; exact absurd z.2 (by decide)
    · exact fin fun z => hlt (by omega)
  · rintro _ _ ⟨rfl, rfl⟩
    obtain ⟨b, eb, i⟩ := wK_BI (t := t) he m h0 h1 g.toNat
    have eE : wEnd g es e s t = wOf e b := eb
    unfold wayM at hR
    rw [eE] at hR ⊢
    have il := i.len
    have cl : (wOf e b).seen.length = g.toNat := by show (b.far.map _).length = _; rw [List.length_map, i.lf]
    have cb : (wOf e b).by'.length = g.toNat := by show (b.by'.map _).length = _; rw [List.length_map, i.lb]
    refine ⟨t0, by omega, fun x hx => ?_⟩
    have hx := getD_ofB hx
    refine cnd_not (fun q => ?_) fun q => ?_
    · rw [hx, q] at hR; exact hR
    · rw [hx, q, if_pos rfl] at hR
      have htm : t ∈ b.ord := by
        have : (wOf e b).seen.getD t.toNat false = decide (0 ≤ b.far.getD t.toNat 0) := getD_map (by rw [i.lf]; omega)
        rw [hx, q] at this
        exact (i.mem t t0 t1).1 (by simpa using this.symm)
      have btf := i.bnd t t0 t1
      have hne : 0 < (backL es (wOf e b).by' s g.toNat t).length := by
        obtain ⟨k, hk⟩ : ∃ k, g.toNat = k + 1 := ⟨g.toNat - 1, by omega⟩
        rw [hk, backL, if_neg hst]; simp
      refine ⟨fun bk v => v ∈ b.ord ∧ (bk.length : Int) + b.far.getD v.toNat 0 = b.far.getD t.toNat 0 ∧ bk ++ backL es (wOf e b).by' s (g.toNat - bk.length) v = backL es (wOf e b).by' s g.toNat t, fun _ v => (b.far.getD v.toNat 0).toNat, ⟨htm, by simp, by simp⟩, ?_⟩
      rintro bk v ⟨hv, hl, hb⟩
      have hvr := i.rng v hv
      have hvf := (i.mem v hvr.1 hvr.2).2 hv
      refine cnd_ne (fun q2 => ⟨hvr.1, by rw [List.length_replicate]; omega, fun y hy => ?_⟩) fun q2 => ?_
      · have hy := getD_of hy
        obtain ⟨h, e1, hh, ht, hf, hfar⟩ := i.tree v hv q2
        have ff := (i.mem _ (i.rng _ hf).1 (i.rng _ hf).2).2 hf
        have ey : y = ((rho e h : Nat) : Int) := by
          rw [← hy]
          have : (wOf e b).by'.getD v.toNat 0 = rhoI e (b.by'.getD v.toNat 0) := getD_map (by rw [i.lb]; omega)
          rw [this, e1, rhoI_nat]
        have hy2 := hy
        subst ey
        have hrl := rho_lt he hh
        rw [xor_one (by omega)]
        refine ⟨by omega, okToW (mate_lt hrl) (by omega) ?_⟩
        rw [to_mate, from_rho]
        refine ⟨⟨hf, by rw [List.length_append, List.length_singleton]; omega, ?_⟩, by dsimp only; omega⟩
        rw [← hb]
        have e2 : g.toNat - bk.length = (g.toNat - (bk ++ [((rho e h : Nat) : Int)]).length) + 1 := by rw [List.length_append, List.length_singleton]; omega
        rw [e2, backL, if_neg q2, hy2, Int.toNat_natCast, from_rho, List.append_assoc]
        rfl
      · have e2 : backL es (wOf e b).by' s (g.toNat - bk.length) v = [] := by
          cases g.toNat - bk.length with
          | zero => rfl
          | succ k => rw [backL, if_pos q2]
        rw [e2, List.append_nil] at hb
        rw [← hb] at hR hne
        have hbl : bk.length ≤ 100000 := by omega
        clear e2 hb hl
        rw [wr (by omega) (by omega)]
        refine ⟨fun i2 k2 b2 => ∃ a : Nat, i2 = a ∧ k2 = (bk.length : Int) - 1 - a ∧ a ≤ bk.length ∧ b2.length = bk.length ∧ ∀ j, j < bk.length → b2[j]? = if j < a ∨ bk.length - 1 - j < a then bk[bk.length - 1 - j]? else bk[j]?, fun i2 _ _ => ((bk.length : Int) - i2).toNat, ⟨0, rfl, by omega, Nat.zero_le _, rfl, fun j hj => by rw [if_neg (by omega)]⟩, ?_⟩
        rintro _ _ b2 ⟨a, rfl, rfl, ha, hl2, hget⟩
        refine cnd_dec (fun q3 => ⟨by omega, by omega, fun u hu => ⟨by omega, by omega, fun w hw => ?_⟩⟩) fun q3 => fun nl hnl => ?_
        · rw [Int.toNat_natCast] at hw ⊢
          have ek : ((bk.length : Int) - 1 - (a : Int)).toNat = bk.length - 1 - a := by omega
          rw [ek] at hu ⊢
          rw [wr (x := (a : Int) + 1) (by omega) (by omega), wr (by omega) (by omega)]
          rw [hget _ (by omega), if_neg (by omega)] at hu hw
          refine ⟨⟨a + 1, by simp, by omega, by omega, by simp [hl2], fun j hj => ?_⟩, by dsimp only; omega⟩
          rw [List.getElem?_set, List.getElem?_set, List.length_set]
          by_cases z1 : bk.length - 1 - a = j
          · rw [if_pos z1, if_pos (by omega), if_pos (by omega), show bk.length - 1 - j = a by omega, hw]
          · rw [if_neg z1]
            by_cases z2 : a = j
            · rw [if_pos z2, if_pos (by omega), if_pos (by omega), show bk.length - 1 - j = bk.length - 1 - a by omega, hu]
            · rw [if_neg z2, hget j hj]
              by_cases z3 : j < a ∨ bk.length - 1 - j < a
              · rw [if_pos z3, if_pos (by omega)]
              · rw [if_neg z3, if_neg (by omega)]
        · have e3 : b2 = bk.reverse := by
            apply List.ext_getElem?
            intro j
            by_cases hj : j < bk.length
            · rw [hget j hj, List.getElem?_reverse hj]
              by_cases z : j < a ∨ bk.length - 1 - j < a
              · rw [if_pos z]
              · rw [if_neg z, show bk.length - 1 - j = j by omega]
            · rw [List.getElem?_eq_none (by omega), List.getElem?_eq_none (by simp; omega)]
          have e4 : nl = bk.reverse.isEmpty := by
            have hne2 : bk.reverse.isEmpty = false := by
              cases hbk : bk.reverse with
              | nil => have := congrArg List.length hbk; simp at this; subst this; simp at hne
              | cons a l => rfl
            rw [hne2, ← Bool.not_eq_true]
            intro z
            have := hnl z; omega
          rw [e3, e4]; exact hR
def rStep (g : Int) (es : Es) (e : Nat) (best : List Int) : List Int ⊕ List Int :=
  if (es.getD e (0, 0)).1 = (es.getD e (0, 0)).2 then .inr [((2 * e : Nat) : Int)] else
  if (wayM g es e (es.getD e (0, 0)).2 (es.getD e (0, 0)).1).isEmpty = false ∧ (best.isEmpty = true ∨ (wayM g es e (es.getD e (0, 0)).2 (es.getD e (0, 0)).1).length + 1 < best.length) then .inl (((2 * e : Nat) : Int) :: wayM g es e (es.getD e (0, 0)).2 (es.getD e (0, 0)).1) else .inl best
def rK (g : Int) (es : Es) : Nat → List Int ⊕ List Int
  | 0 => .inl []
  | k + 1 => match rK g es k with
    | .inl best => rStep g es k best
    | .inr l => .inr l
theorem rK_stay {g : Int} {es : Es} {k : Nat} {l : List Int} (h : rK g es k = .inr l) : ∀ d, rK g es (k + d) = .inr l
  | 0 => h
  | d + 1 => by rw [← Nat.add_assoc, rK, rK_stay h d]
def ringM (g : Int) (es : Es) : List Int × Int := match rK g es es.length with
  | .inl best => if best.isEmpty then ([], 14) else (best, 0)
  | .inr l => (l, 0)
theorem wayM_len {g s t : Int} {es : Es} {e : Nat} : (wayM g es e s t).length ≤ g.toNat := by
  have : ∀ (k : Nat) (v : Int) (b : List Int), (backL es b s k v).length ≤ k := fun k => by
    induction k with
    | zero => intro v b; exact Nat.le_refl _
    | succ k ih =>
      intro v b
      rw [backL]
      split
      · simp
      · have := ih (fromH es (b.getD v.toNat 0).toNat) b
        simp only [List.length_cons]; omega
  unfold wayM
  split
  · rw [List.length_reverse]; exact this _ _ _
  · simp
theorem okRing {g : Int} {es : Es} {R : List Int → Int → Prop} (bad : mayB g es = false → R [] 1) (good : mayB g es = true → R (ringM g es).1 (ringM g es).2) : Ok93 g es R := by
  apply ok93
  unfold T93
  refine okMay (cnd_not (fun q => bad q) fun q => ?_)
  have m := mayN q
  have m0 := m.g0
  have m1 := m.g1
  have m3 := m.m
  have good := good q
  refine okOfW m ⟨fun best bn x => ∃ k : Nat, x = k ∧ k ≤ es.length ∧ rK g es k = .inl best ∧ bn = best.isEmpty ∧ best.length ≤ 100000, fun _ _ x => ((es.length : Int) - x).toNat, ⟨0, rfl, Nat.zero_le _, rfl, rfl, by simp⟩, ?_⟩
  rintro best _ _ ⟨k, rfl, hk, hb, rfl, hbl⟩
  refine cnd_dec (fun hlt => ?_) fun hlt => ?_
  · have e1 : rK g es (k + 1) = rStep g es k best := by rw [rK, hb]
    refine ⟨fun _ _ b2 bn => rK g es (k + 1) = .inl b2 ∧ bn = b2.isEmpty ∧ b2.length ≤ 100000, ⟨by omega, hlt, fun x hx => ?_⟩, ?_⟩
    · rw [Int.toNat_natCast] at hx
      have ex : es.getD k (0, 0) = x := by simp [List.getD, hx]
      have hxr := m.e k x hx
      rw [wr (x := (2 : Int) * (k : Int)) (by omega) (by omega), show (2 : Int) * (k : Int) = ((2 * k : Nat) : Int) by omega]
      unfold rStep at e1
      rw [ex] at e1
      refine cnd_eq (fun q2 => ?_) fun q2 => ?_
      · rw [if_pos q2] at e1
        have e7 := rK_stay e1 (es.length - (k + 1))
        rw [show k + 1 + (es.length - (k + 1)) = es.length by omega] at e7
        unfold ringM at good
        rw [e7] at good
        exact good
      · rw [if_neg q2] at e1
        have wl := wayM_len (g := g) (s := x.2) (t := x.1) (es := es) (e := k)
        refine okWithout m (by omega) hxr.2.1 hxr.2.2 hxr.1.1 hxr.1.2 q2 ?_
        generalize wayM g es k x.2 x.1 = way at *
        have nlf : ∀ (nl : Bool), (nl = true → (1 + way.length) = 0) → nl = (((2 * k : Nat) : Int) :: way).isEmpty := fun nl h => by
          show nl = false
          rw [← Bool.not_eq_true]
          intro z; have := h z; omega
        refine cnd_not (fun q3 => cnd_b (fun q4 => ⟨by omega, fun nl hnl => ?_⟩) fun q4 => ?_) fun q3 => ?_
        · rw [if_pos ⟨q3, .inl q4⟩] at e1
          exact ⟨e1, nlf nl hnl, by simp; omega⟩
        · refine ⟨fun b2 bn => rK g es (k + 1) = .inl b2 ∧ bn = b2.isEmpty ∧ b2.length ≤ 100000, ?_, ?_⟩
          · rw [wr (x := (way.length : Int) + 1) (by omega) (by omega)]
            refine cnd_dec (fun q5 => ⟨by omega, fun nl hnl => ?_⟩) fun q5 => ?_
            · rw [if_pos ⟨q3, .inr (by omega)⟩] at e1
              exact ⟨e1, nlf nl hnl, by simp; omega⟩
            · rw [if_neg (fun z => z.2.elim (fun y => by rw [q4] at y; cases y) fun y => q5 (by omega))] at e1
              exact ⟨e1, rfl, hbl⟩
          · rintro b2 bn ⟨e2, e3, e4⟩
            rw [wr (by omega) (by omega)]
            exact ⟨⟨k + 1, by simp, by omega, e2, e3, e4⟩, by dsimp only; omega⟩
        · rw [if_neg (fun z => by rw [q3] at z; cases z.1)] at e1
          exact ⟨e1, rfl, hbl⟩
    · rintro _ _ b2 bn ⟨e2, e3, e4⟩
      rw [wr (by omega) (by omega)]
      exact ⟨⟨k + 1, by simp, by omega, e2, e3, e4⟩, by dsimp only; omega⟩
  · have : k = es.length := by omega
    subst this
    unfold ringM at good
    rw [hb] at good
    refine cnd_b (fun q2 => ?_) fun q2 => ?_
    · simp only [q2, if_true] at good; exact good
    · simp only [q2, Bool.false_eq_true, if_false] at good; exact good
end Go.Proofs.Ytmcloipjlihhlaa.N
