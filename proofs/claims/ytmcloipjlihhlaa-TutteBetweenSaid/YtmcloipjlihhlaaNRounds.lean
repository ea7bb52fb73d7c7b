/- Rounds: both texts yield the same, bit for bit. Conditions: none. -/
import Derived.Test.YtmcloipjlihhlaaNFloat
import Derived.Test.YtmcloipjlihhlaaNNet
namespace Go.Proofs.Ytmcloipjlihhlaa.N
open Go.X Go.Proofs.Ytmcloipjlihhlaa
set_option maxRecDepth 100000

abbrev Spots := List (Nat × Nat)
/-- A sum, one by one. -/
def sumK (f : Nat → Nat × Nat) : Nat → Nat × Nat
  | 0 => (0, 0)
  | 1 => f 0
  | k + 2 => (addM (sumK f (k + 1)).1 (f (k + 1)).1, addM (sumK f (k + 1)).2 (f (k + 1)).2)
/-- Where the node stands that a half-edge comes to. -/
def spotH (es : Es) (now : Spots) (h : Int) : Nat × Nat := now.getD (toH es h.toNat).toNat (0, 0)
def lenF (n : Nat) : Nat := (FloatKind.f64).nearest ((n : Nat) : Int)
def midstM (es : Es) (now : Spots) (hs : List Int) : Nat × Nat :=
  (cleanM (divM (sumK (fun k => spotH es now (hs.getD k 0)) hs.length).1 (lenF hs.length)), cleanM (divM (sumK (fun k => spotH es now (hs.getD k 0)) hs.length).2 (lenF hs.length)))
/-- Half-edges of the net. -/
def HsIn (es : Es) (hs : List Int) : Prop := ∀ x ∈ hs, ∃ n : Nat, x = n ∧ n < 2 * es.length
theorem outL_in (es : Es) (v : Nat) : HsIn es (outL es (2 * es.length) v) := fun x hx => by
  obtain ⟨n, h1, h2, _⟩ := outL_mem hx
  exact ⟨n, h1, h2⟩

theorem okMidst {g : Int} {es : Es} {now : Spots} {hs : List Int} {R : Nat → Nat → Prop} (m : MayN g es) (hn : (now.length : Int) = g) (hi : HsIn es hs) (hl : hs.length ≤ 100000) (h : R (midstM es now hs).1 (midstM es now hs).2) : Ok142 g es now hs R := by
  apply ok142
  unfold T142
  have m3 := m.m
  have hf : ∀ k, hs[k]? = some (hs.getD k 0) ∨ hs.length ≤ k := fun k => by
    by_cases hk : k < hs.length
    · left; simp [List.getD, List.getElem?_eq_getElem hk]
    · right; omega
  refine ⟨fun x c0 c1 => ∃ k : Nat, x = k ∧ k ≤ hs.length ∧ feq c0 (sumK (fun k => spotH es now (hs.getD k 0)) k).1 ∧ feq c1 (sumK (fun k => spotH es now (hs.getD k 0)) k).2, fun x _ _ => ((hs.length : Int) - x).toNat, ⟨0, rfl, by omega, .inl rfl, .inl rfl⟩, ?_⟩
  rintro _ c0 c1 ⟨k, rfl, hk, f0, f1⟩
  refine cnd_dec (fun hlt => ⟨by omega, hlt, fun hh hx => ?_⟩) fun hlt => ?_
  · rw [Int.toNat_natCast] at hx
    have hg : hs.getD k 0 = hh := by simp [List.getD, hx]
    obtain ⟨n, rfl, hn2⟩ := hi hh (List.mem_of_getElem? hx)
    have ht := toH_in m hn2
    have e : nth2 (es.getD (n / 2) (0, 0)) (1 - ((n % 2 : Nat) : Int)) = toH es n := rfl
    rw [half_div n (by omega), half_mod, wr (x := 1 - _) (by omega) (by omega)]
    refine ⟨by decide, by decide, by omega, by omega, by omega, by omega, fun x hx2 => ?_⟩
    rw [Int.toNat_natCast, half_at hn2] at hx2
    obtain rfl := Option.some.inj hx2
    rw [e]
    refine ⟨ht.1, by omega, fun sp hsp => ?_⟩
    have hsp2 : spotH es now (hs.getD k 0) = sp := by rw [hg]; simp [spotH, List.getD, hsp]
    refine ⟨fun a b => feq a (sumK (fun k => spotH es now (hs.getD k 0)) (k + 1)).1 ∧ feq b (sumK (fun k => spotH es now (hs.getD k 0)) (k + 1)).2, cnd_eq (fun hk0 => ?_) (fun hk0 => ?_), ?_⟩
    · have : k = 0 := by omega
      subst this
      simp only [sumK]
      rw [hsp2]
      exact ⟨.inl rfl, .inl rfl⟩
    · obtain ⟨k', rfl⟩ : ∃ k', k = k' + 1 := ⟨k - 1, by omega⟩
      intro r hr r2 hr2
      simp only [sumK]
      rw [hsp2]
      exact ⟨feq.add f0 (.inl rfl) hr, feq.add f1 (.inl rfl) hr2⟩
    · rintro a b ⟨g0, g1⟩
      rw [wr (by omega) (by omega)]
      exact ⟨⟨k + 1, by simp, by omega, g0, g1⟩, by dsimp only; omega⟩
  · have : k = hs.length := by omega
    subst this
    have c0' : ∀ {r}, FRes .f64 c0 (lenF hs.length) (F64.div c0 (lenF hs.length)) r → cleanM r = (midstM es now hs).1 := fun hr => (feq.div f0 hr).clean
    have c1' : ∀ {r}, FRes .f64 c1 (lenF hs.length) (F64.div c1 (lenF hs.length)) r → cleanM r = (midstM es now hs).2 := fun hr => (feq.div f1 hr).clean
    refine ⟨fun a b => a = (midstM es now hs).1 ∧ b = (midstM es now hs).2, ⟨fun r hr => ⟨?_, fun r2 hr2 => ?_⟩, fun r hr r2 hr2 => ?_⟩, ?_⟩
    · exact okClean fun r2 hr2 => okClean ⟨c0' hr, c1' hr2⟩
    · exact okClean (okClean ⟨c0' hr, c1' hr2⟩)
    · exact okClean (okClean ⟨c0' hr2, c1' hr⟩)
    · rintro _ _ ⟨rfl, rfl⟩; exact h

/-- One round; some. -/
def stepAt (es : Es) (held : List Bool) (now : Spots) (v : Nat) : Nat × Nat :=
  if held.getD v false || (outL es (2 * es.length) v).isEmpty then now.getD v (0, 0) else midstM es now (outL es (2 * es.length) v)
def stepM (es : Es) (held : List Bool) (now : Spots) : Spots := (List.range now.length).map (stepAt es held now)
def roundsI (es : Es) (held : List Bool) (at' : Spots) : Nat → Spots
  | 0 => at'
  | k + 1 => stepM es held (roundsI es held at' k)
theorem stepM_len (es : Es) (held : List Bool) (now : Spots) : (stepM es held now).length = now.length := by simp [stepM]
theorem roundsI_len (es : Es) (held : List Bool) (at' : Spots) : ∀ k, (roundsI es held at' k).length = at'.length
  | 0 => rfl
  | k + 1 => by rw [roundsI, stepM_len, roundsI_len es held at' k]
def roundsR (g : Int) (es : Es) (at' : Spots) (held : List Bool) (k : Int) : Spots × Int :=
  if !mayB g es || ((at'.length : Int) != g) || ((held.length : Int) != g) || decide (k < 0) then ([], 1)
  else if decide (k > 4096) || decide (k * (g + 2 * es.length) > 16777216) then ([], 3)
  else (roundsI es held at' k.toNat, 0)

/-- As far as v, a list is as it shall be. -/
structure UpTo (st s : Spots) (v : Nat) : Prop where
  len : s.length = st.length
  pre : ∀ i, i < v → s[i]? = st[i]?
theorem UpTo.zero {st s : Spots} (h : s.length = st.length) : UpTo st s 0 := ⟨h, by omega⟩
theorem UpTo.set {st s : Spots} {v : Nat} {x : Nat × Nat} (u : UpTo st s v) (hx : st[v]? = some x) : UpTo st (s.set v x) (v + 1) := by
  refine ⟨by simp [u.len], fun i hi => ?_⟩
  rw [List.getElem?_set]
  split
  · rename_i e; subst e
    have := (List.getElem?_eq_some_iff.1 hx).1
    rw [if_pos (by rw [u.len]; exact this), hx]
  · exact u.pre i (by omega)
theorem UpTo.all {st s : Spots} (u : UpTo st s st.length) : s = st := by
  apply List.ext_getElem?
  intro i
  by_cases hi : i < st.length
  · exact u.pre i hi
  · rw [List.getElem?_eq_none (by rw [u.len]; omega), List.getElem?_eq_none (by omega)]
theorem stepM_get {es : Es} {held : List Bool} {now : Spots} {v : Nat} (hv : v < now.length) : (stepM es held now)[v]? = some (stepAt es held now v) := by simp [stepM, hv]

theorem okRounds {g : Int} {es : Es} {at' : Spots} {held : List Bool} {k : Int} {R : Spots → Int → Prop} (h : R (roundsR g es at' held k).1 (roundsR g es at' held k).2) : Ok46 g es at' held k R := by
  apply ok46
  unfold T46
  refine okMay (cnd_not (fun hm => ?_) fun hm => cnd_ne (fun h1 => ?_) fun h1 => cnd_ne (fun h2 => ?_) fun h2 => cnd_dec (fun h3 => ?_) fun h3 => cnd_dec (fun h4 => ?_) fun h4 => ?_)
  · simpa [roundsR, hm] using h
  · simpa [roundsR, hm, h1] using h
  · simpa [roundsR, hm, h1, h2] using h
  · simpa [roundsR, hm, h1, h2, h3] using h
  · simpa [roundsR, hm, h1, h2, h3, h4] using h
  have m := mayN hm
  have m0 := m.g0
  have m1 := m.g1
  have m3 := m.m
  have hb : 0 ≤ g + 2 * (es.length : Int) ∧ g + 2 * (es.length : Int) ≤ 8000 := by omega
  have hk : 0 ≤ k * (g + 2 * (es.length : Int)) ∧ k * (g + 2 * (es.length : Int)) ≤ 4096 * 8000 :=
    ⟨Int.mul_nonneg (by omega) hb.1, Int.mul_le_mul (by omega) hb.2 hb.1 (by omega)⟩
  rw [wr (x := (2 : Int) * _) (by omega) (by omega), wr (x := g + _) (by omega) (by omega), wr (x := k * _) (by omega) (by omega)]
  refine cnd_dec (fun h5 => ?_) fun h5 => ?_
  · simpa [roundsR, hm, h1, h2, h3, h4, h5] using h
  have hR : roundsR g es at' held k = (roundsI es held at' k.toNat, 0) := by simp [roundsR, hm, h1, h2, h3, h4, h5]
  rw [hR] at h
  refine okOutsT m ?_
  refine ⟨fun a b => a = at' ∧ b.length = at'.length, ⟨⟨by omega, by omega, by omega, by simp, by simp; omega⟩, by omega, by omega, by omega, by simp, by simp; omega⟩, ?_⟩
  rintro now thn ⟨rfl, hth⟩
  refine ⟨fun a b i => ∃ j : Nat, i = j ∧ (j : Int) ≤ k ∧ a = roundsI es held now j ∧ b.length = now.length, fun _ _ i => (k - i).toNat, ⟨0, rfl, by omega, rfl, hth⟩, ?_⟩
  rintro _ thn2 _ ⟨j, rfl, hj, rfl, hth2⟩
  refine cnd_dec (fun hlt => ?_) fun hlt => ?_
  · have hnl := roundsI_len es held now j
    have hnl2 := stepM_len es held (roundsI es held now j)
    generalize hcur : roundsI es held now j = cur at *
    refine ⟨fun i s => ∃ v : Nat, i = v ∧ v ≤ g.toNat ∧ UpTo (stepM es held cur) s v, fun i _ => (g - i).toNat, ⟨0, rfl, by omega, UpTo.zero (by omega)⟩, ?_⟩
    rintro _ s ⟨v, rfl, hv, u⟩
    rw [outsM_len]
    refine cnd_dec (fun hlt2 => ?_) fun hlt2 => ?_
    · have hst := stepM_get (es := es) (held := held) (now := cur) (v := v) (by omega)
      have hsl := u.len
      refine ⟨fun s2 => UpTo (stepM es held cur) s2 (v + 1), ⟨by omega, hlt2, fun row hrow => ⟨by omega, by omega, fun cv hcv => ⟨by omega, by omega, by omega, by omega, fun hd hhd => ?_⟩⟩⟩, ?_⟩
      · rw [Int.toNat_natCast] at hrow hcv hhd ⊢
        rw [outsM_get (by omega)] at hrow
        obtain rfl := Option.some.inj hrow
        have hcv2 : cur.getD v (0, 0) = cv := by simp [List.getD, hcv]
        have hhd2 : held.getD v false = hd := by simp [List.getD, hhd]
        refine cnd_not (fun h6 => ⟨fun s2 => UpTo (stepM es held cur) s2 (v + 1), cnd_dec (fun h7 => ?_) (fun h7 => ?_), fun _ x => x⟩) fun h6 => ?_
        · have hne : (outL es (2 * es.length) v).isEmpty = false := by
            rw [List.isEmpty_eq_false_iff]; intro e; rw [e] at h7; simp at h7
          have hl := outL_len es (2 * es.length) v
          refine okMidst m (by omega) (outL_in es v) (by omega) ⟨by omega, by omega, ?_⟩
          rw [List.set_set]
          exact u.set (by rw [hst, stepAt, hhd2, h6, hne]; rfl)
        · have hne : (outL es (2 * es.length) v).isEmpty = true := by
            rw [List.isEmpty_iff]; exact List.eq_nil_of_length_eq_zero (by omega)
          exact u.set (by rw [hst, stepAt, hne, hcv2]; simp)
        · exact u.set (by rw [hst, stepAt, hhd2, h6, hcv2]; simp)
      · intro s2 u2
        rw [wr (by omega) (by omega)]
        exact ⟨⟨v + 1, by simp, by omega, u2⟩, by dsimp only; omega⟩
    · have hve : v = (stepM es held cur).length := by omega
      subst hve
      rw [u.all, wr (by omega) (by omega)]
      exact ⟨⟨j + 1, by simp, by omega, by rw [roundsI, hcur], by omega⟩, by dsimp only; omega⟩
  · have : j = k.toNat := by omega
    subst this
    exact h

theorem okRoundsR {g : Int} {es : Es} {at' : Spots} {held : List Bool} {k : Int} {R : Spots → Int → Prop} (hat : at'.length ≤ 1000000) (h : R (roundsR g es at' held k).1 (roundsR g es at' held k).2) : Ok47 g es at' held k R := by
  apply ok47
  unfold T47
  refine ⟨R [] 1, ?_, fun x => x⟩
  refine okMayR (cnd_not (fun hm => ?_) fun hm => cnd_ne (fun h1 => ?_) fun h1 => cnd_ne (fun h2 => ?_) fun h2 => cnd_dec (fun h3 => ?_) fun h3 => cnd_dec (fun h4 => ?_) fun h4 => ?_)
  · simpa [roundsR, hm] using h
  · simpa [roundsR, hm, h1] using h
  · simpa [roundsR, hm, h1, h2] using h
  · simpa [roundsR, hm, h1, h2, h3] using h
  · simpa [roundsR, hm, h1, h2, h3, h4] using h
  have m := mayN hm
  have m0 := m.g0
  have m1 := m.g1
  have m3 := m.m
  have hb : 0 ≤ g + 2 * (es.length : Int) ∧ g + 2 * (es.length : Int) ≤ 8000 := by omega
  have hk : 0 ≤ k * (g + 2 * (es.length : Int)) ∧ k * (g + 2 * (es.length : Int)) ≤ 4096 * 8000 :=
    ⟨Int.mul_nonneg (by omega) hb.1, Int.mul_le_mul (by omega) hb.2 hb.1 (by omega)⟩
  rw [wr (x := (2 : Int) * _) (by omega) (by omega), wr (x := g + _) (by omega) (by omega), wr (x := k * _) (by omega) (by omega)]
  refine cnd_dec (fun h5 => ?_) fun h5 => ?_
  · simpa [roundsR, hm, h1, h2, h3, h4, h5] using h
  have hR : roundsR g es at' held k = (roundsI es held at' k.toNat, 0) := by simp [roundsR, hm, h1, h2, h3, h4, h5]
  rw [hR] at h
  refine ⟨by omega, okOutsR m ?_⟩
  refine ⟨fun a i => ∃ j : Nat, i = j ∧ (j : Int) ≤ k ∧ a = roundsI es held at' j, fun _ i => (k - i).toNat, ⟨0, rfl, by omega, by simp [roundsI]⟩, ?_⟩
  rintro _ _ ⟨j, rfl, hj, rfl⟩
  refine cnd_dec (fun hlt => ?_) fun hlt => ?_
  · have hnl := roundsI_len es held at' j
    have hnl2 := stepM_len es held (roundsI es held at' j)
    generalize hcur : roundsI es held at' j = cur at *
    refine ⟨by omega, fun i s => ∃ v : Nat, i = v ∧ v ≤ g.toNat ∧ UpTo (stepM es held cur) s v ∧ ∀ i, v ≤ i → s[i]? = cur[i]?, fun i _ => (g - i).toNat, ⟨0, rfl, by omega, UpTo.zero (by simp; omega), by simp⟩, ?_⟩
    rintro _ s ⟨v, rfl, hv, u, rest⟩
    refine cnd_dec (fun hlt2 => ?_) fun hlt2 => ?_
    · have hst := stepM_get (es := es) (held := held) (now := cur) (v := v) (by omega)
      have hsl := u.len
      have hcv : cur[v]? = some (cur.getD v (0, 0)) := by simp [List.getD, List.getElem?_eq_getElem (show v < cur.length by omega)]
      -- what stays as it was
      have same : (stepM es held cur)[v]? = cur[v]? → UpTo (stepM es held cur) s (v + 1) ∧ ∀ i, v + 1 ≤ i → s[i]? = cur[i]? := fun e =>
        ⟨⟨hsl, fun i hi => by
          by_cases hiv : i = v
          · subst hiv; rw [rest i (Nat.le_refl _), e]
          · exact u.pre i (by omega)⟩, fun i hi => rest i (by omega)⟩
      refine ⟨fun s2 => UpTo (stepM es held cur) s2 (v + 1) ∧ ∀ i, v + 1 ≤ i → s2[i]? = cur[i]?, ⟨by omega, by omega, fun hd hhd => ?_⟩, ?_⟩
      · rw [Int.toNat_natCast] at hhd ⊢
        have hhd2 : held.getD v false = hd := by simp [List.getD, hhd]
        refine cnd_b (fun h6 => same ?_) fun h6 => ⟨by omega, by rw [outsM_len]; omega, fun row hrow => ?_⟩
        · rw [hst, stepAt, hhd2, h6, hcv]; rfl
        · rw [outsM_get (by omega)] at hrow
          obtain rfl := Option.some.inj hrow
          have hl := outL_len es (2 * es.length) v
          have hin := outL_in es v
          have hget : ∀ j, j < (outL es (2 * es.length) v).length → ∃ n : Nat, (outL es (2 * es.length) v)[j]? = some (n : Int) ∧ (outL es (2 * es.length) v).getD j 0 = n ∧ n < 2 * es.length := fun j hj => by
            obtain ⟨n, e1, e2⟩ := hin _ (List.getElem_mem hj)
            exact ⟨n, by rw [List.getElem?_eq_getElem hj, e1], by simp [List.getD, List.getElem?_eq_getElem hj, e1], e2⟩
          clear hrow
          generalize hrow : outL es (2 * es.length) v = row at *
          refine cnd_eq (fun h7 => same ?_) fun h7 => ?_
          · have hne : row.isEmpty = true := by
              rw [List.isEmpty_iff]; exact List.eq_nil_of_length_eq_zero (by omega)
            rw [hst, stepAt, hrow, hne, hcv]; simp
          · refine ⟨fun a b => a = (spotH es cur (row.getD 0 0)).1 ∧ b = (spotH es cur (row.getD 0 0)).2, ⟨by omega, by rw [outsM_len]; omega, fun row2 hrow2 => ⟨by omega, ?_, fun x hx => ?_⟩⟩, ?_⟩
            · rw [outsM_get (by omega), hrow] at hrow2
              obtain rfl := Option.some.inj hrow2
              omega
            · rw [outsM_get (by omega), hrow] at hrow2
              obtain rfl := Option.some.inj hrow2
              obtain ⟨n, e1, e2, e3⟩ := hget 0 (by omega)
              rw [show (0 : Int).toNat = 0 from rfl, e1] at hx
              obtain rfl := Option.some.inj hx
              have ht := toH_in m e3
              refine okTo e3 (by omega) ⟨ht.1, by omega, fun sp hsp => ?_⟩
              have : spotH es cur (row.getD 0 0) = sp := by rw [e2]; simp [spotH, List.getD, hsp]
              rw [this]; exact ⟨rfl, rfl⟩
            · rintro _ _ ⟨rfl, rfl⟩
              refine ⟨fun j c0 c1 => ∃ i : Nat, j = i ∧ 1 ≤ i ∧ i ≤ row.length ∧ feq c0 (sumK (fun k => spotH es cur (row.getD k 0)) i).1 ∧ feq c1 (sumK (fun k => spotH es cur (row.getD k 0)) i).2, fun j _ _ => ((row.length : Int) - j).toNat, ⟨1, rfl, by omega, by omega, .inl rfl, .inl rfl⟩, ?_⟩
              rintro _ c0 c1 ⟨i, rfl, hi1, hi2, f0, f1⟩
              refine cnd_dec (fun hlt3 => ?_) fun hlt3 => ?_
              · refine ⟨fun a b => a = (spotH es cur (row.getD i 0)).1 ∧ b = (spotH es cur (row.getD i 0)).2, ⟨by omega, by rw [outsM_len]; omega, fun row2 hrow2 => ⟨by omega, ?_, fun x hx => ?_⟩⟩, ?_⟩
                · rw [outsM_get (by omega), hrow] at hrow2
                  obtain rfl := Option.some.inj hrow2
                  omega
                · rw [outsM_get (by omega), hrow] at hrow2
                  obtain rfl := Option.some.inj hrow2
                  obtain ⟨n, e1, e2, e3⟩ := hget i (by omega)
                  rw [Int.toNat_natCast, e1] at hx
                  obtain rfl := Option.some.inj hx
                  have ht := toH_in m e3
                  refine okTo e3 (by omega) ⟨ht.1, by omega, fun sp hsp => ?_⟩
                  have : spotH es cur (row.getD i 0) = sp := by rw [e2]; simp [spotH, List.getD, hsp]
                  rw [this]; exact ⟨rfl, rfl⟩
                · rintro _ _ ⟨rfl, rfl⟩ r hr r2 hr2
                  rw [wr (by omega) (by omega)]
                  obtain ⟨i', rfl⟩ : ∃ i', i = i' + 1 := ⟨i - 1, by omega⟩
                  exact ⟨⟨i' + 1 + 1, by simp, by omega, by omega, feq.add f0 (.inl rfl) hr, feq.add f1 (.inl rfl) hr2⟩, by dsimp only; omega⟩
              · have : i = row.length := by omega
                subst this
                have c0' : ∀ {r}, FRes .f64 c0 (lenF row.length) (F64.div c0 (lenF row.length)) r → cleanM r = (midstM es cur row).1 := fun hr => (feq.div f0 hr).clean
                have c1' : ∀ {r}, FRes .f64 c1 (lenF row.length) (F64.div c1 (lenF row.length)) r → cleanM r = (midstM es cur row).2 := fun hr => (feq.div f1 hr).clean
                have hne : row.isEmpty = false := by
                  rw [List.isEmpty_eq_false_iff]; intro e; rw [e] at h7; simp at h7
                have fin : ∀ a b, a = (midstM es cur row).1 → b = (midstM es cur row).2 → 0 ≤ (v : Int) ∧ (v : Int) < (((0 + cur.length) : Nat) : Int) ∧ UpTo (stepM es held cur) (s.set v (a, b)) (v + 1) ∧ ∀ i, v + 1 ≤ i → (s.set v (a, b))[i]? = cur[i]? := by
                  rintro _ _ rfl rfl
                  refine ⟨by omega, by omega, u.set (by rw [hst, stepAt, hrow, hhd2, h6, hne]; rfl), fun i hi => ?_⟩
                  rw [List.getElem?_set_ne (by omega)]
                  exact rest i (by omega)
                refine ⟨fun r hr => ⟨?_, fun r2 hr2 => ?_⟩, fun r hr r2 hr2 => ?_⟩
                · exact okCleanR fun r2 hr2 => okCleanR (fin _ _ (c0' hr) (c1' hr2))
                · exact okCleanR (okCleanR (fin _ _ (c0' hr) (c1' hr2)))
                · exact okCleanR (okCleanR (fin _ _ (c0' hr2) (c1' hr)))
      · rintro s2 ⟨u2, rest2⟩
        rw [wr (by omega) (by omega)]
        exact ⟨⟨v + 1, by simp, by omega, u2, rest2⟩, by dsimp only; omega⟩
    · have hve : v = (stepM es held cur).length := by omega
      subst hve
      rw [u.all, wr (by omega) (by omega)]
      exact ⟨⟨j + 1, by simp, by omega, by rw [roundsI, hcur]⟩, by dsimp only; omega⟩
  · have : j = k.toNat := by omega
    subst this
    exact h
end Go.Proofs.Ytmcloipjlihhlaa.N
