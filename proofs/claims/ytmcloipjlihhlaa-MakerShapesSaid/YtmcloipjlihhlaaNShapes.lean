/- MakerShapes. Conditions: none. -/
import Derived.Test.YtmcloipjlihhlaaNShape
namespace Go.Proofs.Ytmcloipjlihhlaa.N
open Go.X Go.Proofs.Ytmcloipjlihhlaa Go.Proofs.Ytmcloipjlihhlaa.N.M
set_option maxRecDepth 100000

theorem row_le {w h y : Nat} (hy : y < h) : (y : Int) * w + w ≤ (h : Int) * w := by
  have := Nat.mul_le_mul_right w (show y + 1 ≤ h from hy)
  rw [Nat.add_mul, Nat.one_mul] at this
  have : ((y * w + w : Nat) : Int) ≤ ((h * w : Nat) : Int) := by omega
  rw [Int.natCast_add, Int.natCast_mul, Int.natCast_mul] at this
  exact this
theorem gridV_lt {w h y x : Nat} (hw : 3 ≤ w) {e : Int × Int} (q : e ∈ gridV w h y x) : e.1 = (y : Int) * w + x ∧ e.1 < e.2 := by
  unfold gridV at q
  rcases List.mem_append.1 q with q | q
  · split at q
    · obtain rfl := List.mem_singleton.1 q
      exact ⟨rfl, by dsimp only; omega⟩
    · cases q
  · split at q
    · obtain rfl := List.mem_singleton.1 q
      exact ⟨rfl, by dsimp only; omega⟩
    · cases q
theorem grid_net {w h : Nat} (h1 : 3 ≤ w) (h2 : w ≤ 40) (h3 : 1 ≤ h) (h4 : h ≤ 20) : NetOK ((w : Int) * h) (gridE w h) := by
  have hwh : w * h ≤ 40 * 20 := Nat.mul_le_mul h2 h4
  have e1 : h * (w - 1) ≤ 20 * 39 := Nat.mul_le_mul h4 (by omega)
  have e2 : (h - 1) * w ≤ 19 * 40 := Nat.mul_le_mul (by omega) h2
  have ec : (w : Int) * h = ((w * h : Nat) : Int) := (Int.natCast_mul _ _).symm
  have ec2 : (w : Int) * h = (h : Int) * w := Int.mul_comm _ _
  refine ⟨mayN_of (by omega) (by omega) (by rw [grid_len (by omega) h3]; omega) fun e he => ?_, one_part (by have : 1 ≤ w * h := Nat.mul_pos (by omega) h3; omega) fun v hv hvn => ?_, fun e he => ?_, ?_⟩
  · obtain ⟨y, x, hy, hx, q⟩ := mem_gridE.1 he
    have r := row_le (w := w) hy
    have p0 : 0 ≤ (y : Int) * w := Int.mul_nonneg (by omega) (by omega)
    rcases q with ⟨q, rfl⟩ | ⟨q, rfl⟩
    · dsimp only; omega
    · have r2 := row_le (w := w) (y := y + 1) q
      rw [Int.natCast_add, Int.add_mul, Int.natCast_one, Int.one_mul] at r2
      dsimp only; omega
  · have hd := Nat.div_add_mod v w
    have hlt := Nat.mod_lt v (show 0 < w by omega)
    have hvd : v / w < h := Nat.div_lt_of_lt_mul (by rw [ec] at hvn; omega)
    have cv : ((v / w : Nat) : Int) * w + ((v % w : Nat) : Int) = (v : Int) := by
      have : ((w * (v / w) + v % w : Nat) : Int) = (v : Int) := by rw [hd]
      rw [Int.natCast_add, Int.natCast_mul, Int.mul_comm] at this
      exact this
    by_cases z : v % w = 0
    · have hq : 0 < v / w := by
        apply Nat.pos_of_ne_zero
        intro z2
        rw [z, z2] at hd; omega
      refine ⟨v - w, by omega, ?_⟩
      have := reach_edge (mem_gridE.2 ⟨v / w - 1, v % w, by omega, hlt, .inr ⟨by omega, rfl⟩⟩ : ((((v / w - 1 : Nat) : Int)) * w + ((v % w : Nat) : Int), (((v / w - 1 : Nat) : Int)) * w + ((v % w : Nat) : Int) + w) ∈ gridE w h)
      dsimp only at this
      have e3 : ((v / w - 1 : Nat) : Int) * w = ((v / w : Nat) : Int) * w - w := by
        rw [show ((v / w - 1 : Nat) : Int) = ((v / w : Nat) : Int) - 1 by omega, Int.sub_mul, Int.one_mul]
      rw [e3] at this
      have hwv : w ≤ v := by
        have := Nat.mul_le_mul_left w hq
        rw [Nat.mul_one] at this; omega
      rw [show ((v / w : Nat) : Int) * w - w + ((v % w : Nat) : Int) = ((v - w : Nat) : Int) by omega, show ((v - w : Nat) : Int) + w = (v : Int) by omega] at this
      exact this
    · refine ⟨v - 1, by omega, ?_⟩
      have := reach_edge (mem_gridE.2 ⟨v / w, v % w - 1, hvd, by omega, .inl ⟨by omega, rfl⟩⟩ : (((v / w : Nat) : Int) * w + ((v % w - 1 : Nat) : Int), ((v / w : Nat) : Int) * w + ((v % w - 1 : Nat) : Int) + 1) ∈ gridE w h)
      dsimp only at this
      rw [show ((v / w : Nat) : Int) * w + ((v % w - 1 : Nat) : Int) = ((v - 1 : Nat) : Int) by omega, show ((v - 1 : Nat) : Int) + 1 = (v : Int) by omega] at this
      exact this
  · unfold gridE at he
    obtain ⟨y, _, he⟩ := mem_rowsE.1 he
    obtain ⟨x, _, he⟩ := mem_rowsE.1 he
    have := gridV_lt h1 he
    omega
  · unfold gridE
    refine nodup_rowsE (fun y hy => nodup_rowsE (fun x hx => ?_) fun i j hij hj e he f hf => ?_) fun y y' hyy hy' e he f hf => ?_
    · unfold gridV
      refine nodup_app (by split <;> simp) (by split <;> simp) fun e he f hf => ?_
      split at he
      · split at hf
        · obtain rfl := List.mem_singleton.1 he
          obtain rfl := List.mem_singleton.1 hf
          exact ends_ne (by dsimp only; omega)
        · cases hf
      · cases he
    · have a := gridV_lt h1 he
      have b := gridV_lt h1 hf
      exact ends_ne (by omega)
    · obtain ⟨x, hx, he⟩ := mem_rowsE.1 he
      obtain ⟨x', hx', hf⟩ := mem_rowsE.1 hf
      have a := gridV_lt h1 he
      have b := gridV_lt h1 hf
      have r := row_le (w := w) hyy
      exact ends_ne (by omega)

/-! ### Looking at a net -/
theorem okMinMax {a b : Int} {R : Int → Int → Prop} (h : R (min a b) (max a b)) : Ok198 a b R := by
  apply ok198
  unfold T198
  refine cnd_dec (fun q => ?_) fun q => ?_
  · rw [show min a b = b by omega, show max a b = a by omega] at h; exact h
  · rw [show min a b = a by omega, show max a b = b by omega] at h; exact h
theorem okTwice {g : Int} {es : Es} {k : Nat} {R : Bool → Prop} (hk : k < es.length) (hl : es.length ≤ 100000) (s : Simple es) (h : R false) : Ok118 g es k R := by
  apply ok118
  unfold T118
  refine ⟨fun i => ∃ j : Nat, i = j, fun i => ((k : Int) - i).toNat, ⟨0, rfl⟩, ?_⟩
  rintro _ ⟨j, rfl⟩
  refine cnd_dec (fun hlt => ⟨by omega, by omega, fun x hx => ⟨by omega, by omega, fun y hy => okMinMax (okMinMax ?_)⟩⟩) fun _ => h
  rw [Int.toNat_natCast] at hx hy
  have hne : ends x ≠ ends y := nodup_get s.twice (i := j) (j := k) (by omega) (by simp [hx]) (by simp [hy])
  refine cnd_b (fun q => ?_) fun _ => ?_
  · rw [Bool.and_eq_true, beq_iff_eq, beq_iff_eq] at q
    exact absurd (by unfold ends; rw [q.1, q.2]) hne
  · rw [wr (by omega) (by omega)]
    exact ⟨⟨j + 1, by simp⟩, by dsimp only; omega⟩
def degM (n : Nat) (es : Es) (k : Nat) : List Int := (List.range n).map fun v => ((outL es k v).length : Int)
theorem degM_get {n : Nat} {es : Es} {k v : Nat} (hv : v < n) : (degM n es k)[v]? = some ((outL es k v).length : Int) := by simp [degM, hv]
theorem degM_len (n : Nat) (es : Es) (k : Nat) : (degM n es k).length = n := by simp [degM]
theorem degM_zero (n : Nat) (es : Es) : degM n es 0 = List.replicate n 0 := by
  apply List.ext_getElem?
  intro i
  by_cases h : i < n
  · rw [degM_get h, List.getElem?_replicate, if_pos h]; simp [outL]
  · rw [List.getElem?_eq_none (by rw [degM_len]; omega), List.getElem?_eq_none (by simp; omega)]
theorem degM_succ {n : Nat} {es : Es} {k v : Nat} (hv : fromH es k = (v : Int)) : (degM n es k).set v (((outL es k v).length : Int) + 1) = degM n es (k + 1) := by
  apply List.ext_getElem?
  intro i
  rw [List.getElem?_set]
  by_cases hi : i < n
  · rw [degM_get hi, degM_get hi, outL_succ]
    by_cases e : v = i
    · subst e; simp [hv, degM_len, hi]
    · rw [if_neg e, if_neg (by rw [hv]; omega)]
  · rw [List.getElem?_eq_none (by rw [degM_len]; omega), List.getElem?_eq_none (by rw [degM_len]; omega)]
    simp [degM_len]
    omega
theorem okDegs {g : Int} {es : Es} {R : List Int → Prop} (m : MayN g es) (h : R (degM g.toNat es (2 * es.length))) : Ok119 g es R := by
  apply ok119
  unfold T119
  have m0 := m.g0
  have m1 := m.g1
  have m3 := m.m
  rw [wr (x := (2 : Int) * _) (by omega) (by omega)]
  refine ⟨m0, by omega, fun x d => ∃ k : Nat, x = k ∧ k ≤ 2 * es.length ∧ d = degM g.toNat es k, fun x _ => (2 * (es.length : Int) - x).toNat, ⟨0, rfl, Nat.zero_le _, (degM_zero _ _).symm⟩, ?_⟩
  rintro _ _ ⟨k, rfl, hk, rfl⟩
  refine cnd_dec (fun hlt => ?_) fun hlt => ?_
  · have hf := fromH_in m (h := k) (by omega)
    refine okFrom (by omega) (by omega) ⟨hf.1, by omega, fun x hx => ?_⟩
    rw [degM_get (by omega)] at hx
    obtain rfl := Option.some.inj hx
    have := outL_len es k (fromH es k).toNat
    rw [wr (x := ((outL es k (fromH es k).toNat).length : Int) + 1) (by omega) (by omega), degM_succ (by omega), wr (by omega) (by omega)]
    exact ⟨⟨k + 1, by simp, by omega, rfl⟩, by dsimp only; omega⟩
  · have : k = 2 * es.length := by omega
    subst this; exact h
theorem okLookS {g : Int} {es : Es} {R : Int → Int → Int → Int → Bool → Prop} (m : MayN g es) (s : Simple es) (h : ∀ a b : Int, (∀ d : Nat, 1 ≤ g → (∀ v : Nat, v < g.toNat → (outL es (2 * es.length) v).length = d) → a = d ∧ b = d) → R 0 0 a b true) : Ok29 g es R := by
  apply ok29
  unfold T29
  have m0 := m.g0
  have m1 := m.g1
  have m3 := m.m
  refine ⟨fun i c0 c1 c2 c3 c4 => ∃ k : Nat, i = k ∧ k ≤ es.length ∧ c0 = 0 ∧ c1 = 0 ∧ c2 = 0 ∧ c3 = 0 ∧ c4 = false, fun i _ _ _ _ _ => ((es.length : Int) - i).toNat, ⟨0, rfl, Nat.zero_le _, rfl, rfl, rfl, rfl, rfl⟩, ?_⟩
  rintro _ _ _ _ _ _ ⟨k, rfl, hk, rfl, rfl, rfl, rfl, rfl⟩
  refine cnd_dec (fun hlt => ⟨by omega, hlt, fun x hx => ?_⟩) fun hlt => ?_
  · rw [Int.toNat_natCast] at hx
    have hx2 := List.mem_of_getElem? hx
    refine ⟨fun c0 c1 c2 c3 c4 => c0 = 0 ∧ c1 = 0 ∧ c2 = 0 ∧ c3 = 0 ∧ c4 = false, cnd_eq (fun q => absurd q (s.loop x hx2)) (fun _ => ⟨rfl, rfl, rfl, rfl, rfl⟩), ?_⟩
    rintro _ _ _ _ _ ⟨rfl, rfl, rfl, rfl, rfl⟩
    refine okTwice (by omega) (by omega) s ⟨fun c0 c1 c2 c3 c4 => c0 = 0 ∧ c1 = 0 ∧ c2 = 0 ∧ c3 = 0 ∧ c4 = false, cnd_b (fun q => by cases q) (fun _ => ⟨rfl, rfl, rfl, rfl, rfl⟩), ?_⟩
    rintro _ _ _ _ _ ⟨rfl, rfl, rfl, rfl, rfl⟩
    rw [wr (by omega) (by omega)]
    exact ⟨⟨k + 1, by simp, by omega, rfl, rfl, rfl, rfl, rfl⟩, by dsimp only; omega⟩
  · refine okDegs m ?_
    have dl := degM_len g.toNat es (2 * es.length)
    refine ⟨fun v c0 c1 c2 c3 c4 => ∃ k : Nat, v = k ∧ k ≤ g.toNat ∧ c0 = 0 ∧ c1 = 0 ∧ c4 = false ∧ ∀ d : Nat, (∀ v : Nat, v < g.toNat → (outL es (2 * es.length) v).length = d) → (k = 0 → c3 = 0) ∧ (0 < k → c2 = d ∧ c3 = d), fun v _ _ _ _ _ => (g - v).toNat, ⟨0, rfl, Nat.zero_le _, rfl, rfl, rfl, fun d _ => ⟨fun _ => rfl, fun q => by omega⟩⟩, ?_⟩
    rintro _ _ _ c2 c3 _ ⟨v, rfl, hv, rfl, rfl, rfl, hd⟩
    refine cnd_dec (fun hlt2 => ?_) fun hlt2 => ?_
    · have hvg : v < g.toNat := by omega
      have key : ∀ (y : Int), (degM g.toNat es (2 * es.length))[v]? = some y → y = ((outL es (2 * es.length) v).length : Int) := fun y hy => by
        rw [degM_get hvg] at hy; exact (Option.some.inj hy).symm
      refine ⟨fun c0 c1 c2' c3' c4 => c0 = 0 ∧ c1 = 0 ∧ c4 = false ∧ c3' = c3 ∧ ∀ d : Nat, (∀ v : Nat, v < g.toNat → (outL es (2 * es.length) v).length = d) → c2' = d, ?_, ?_⟩
      · refine cnd_eq (fun q => ⟨by omega, hlt2, fun y hy => ?_⟩) fun q => ⟨by omega, hlt2, fun y hy => ?_⟩
        · rw [Int.toNat_natCast] at hy
          have := key y hy
          exact ⟨rfl, rfl, rfl, rfl, fun d hd2 => by rw [this, hd2 v hvg]⟩
        · rw [Int.toNat_natCast] at hy
          have hy2 := key y hy
          refine ⟨fun c0 c1 c2' c3' c4 => c0 = 0 ∧ c1 = 0 ∧ c4 = false ∧ c3' = c3 ∧ ∀ d : Nat, (∀ v : Nat, v < g.toNat → (outL es (2 * es.length) v).length = d) → c2' = d, cnd_dec (fun q2 => ⟨by omega, hlt2, fun z hz => ?_⟩) (fun q2 => ?_), fun _ _ _ _ _ z => z⟩
          · rw [Int.toNat_natCast] at hz
            have := key z hz
            exact ⟨rfl, rfl, rfl, rfl, fun d hd2 => by rw [this, hd2 v hvg]⟩
          · exact ⟨rfl, rfl, rfl, rfl, fun d hd2 => ((hd d hd2).2 (by omega)).1⟩
      · rintro _ _ c2' _ _ ⟨rfl, rfl, rfl, rfl, hc⟩
        refine ⟨by omega, hlt2, fun y hy => ?_⟩
        rw [Int.toNat_natCast] at hy
        have hy2 := key y hy
        rw [wr (by omega) (by omega)]
        refine ⟨⟨v + 1, by simp, by omega, rfl, rfl, rfl, fun d hd2 => ⟨fun q => by omega, fun _ => ⟨hc d hd2, ?_⟩⟩⟩, by dsimp only; omega⟩
        have hyd : y = d := by rw [hy2, hd2 v hvg]
        have a := hd d hd2
        by_cases z : v = 0
        · have := a.1 z
          rw [this, hyd]
          split <;> omega
        · have := (a.2 (by omega)).2
          rw [this, hyd]
          split <;> omega
    · refine ⟨fun b => b = true, cnd_eq (fun _ => rfl) (fun q => absurd rfl q), ?_⟩
      rintro _ rfl
      exact h c2 c3 fun d hg hd2 => (hd d hd2).2 (by omega)

/-! ### Degrees of a prism -/
def cnt (es : Es) (v : Nat) : Nat := es.countP (fun x => x.1 == (v : Int)) + es.countP (fun x => x.2 == (v : Int))
theorem cnt_app (a b : Es) (v : Nat) : cnt (a ++ b) v = cnt a v + cnt b v := by
  unfold cnt
  rw [List.countP_append, List.countP_append]; omega
theorem outL_cnt (es : Es) (v : Nat) : ∀ k, k ≤ es.length → (outL es (2 * k) v).length = cnt (es.take k) v
  | 0, _ => rfl
  | k + 1, hk => by
    have ih := outL_cnt es v k (by omega)
    have hx : es[k]? = some (es[k]'(by omega)) := List.getElem?_eq_getElem (by omega)
    generalize es[k]'(by omega) = x at hx
    obtain ⟨a, _, b, _⟩ := half_of hx
    rw [show 2 * (k + 1) = 2 * k + 1 + 1 by omega, outL_succ, outL_succ, a, b, List.take_add_one, hx, cnt_app, ← ih]
    unfold cnt
    simp only [Option.toList, List.countP_cons, List.countP_nil]
    by_cases h1 : x.1 = (v : Int)
    · by_cases h2 : x.2 = (v : Int)
      · simp [h1, h2]
      · simp [h1, h2]
    · by_cases h2 : x.2 = (v : Int)
      · simp [h1, h2]
      · simp [h1, h2]
theorem count_range (a : Int) (v : Int) : ∀ n : Nat, (List.range n).countP (fun (i : Nat) => decide (a + (i : Int) = v)) = if a ≤ v ∧ v < a + n then 1 else 0
  | 0 => by rw [if_neg (by omega)]; rfl
  | n + 1 => by
    rw [List.range_succ, List.countP_append, count_range a v n]
    simp only [List.countP_cons, List.countP_nil, decide_eq_true_eq]
    repeat' split
    all_goals omega
theorem countP_rangeE {f : Nat → Int × Int} {p : Int × Int → Bool} {a v : Int} (n : Nat) (h : ∀ i, p (f i) = decide (a + (i : Int) = v)) : (rangeE f n).countP p = if a ≤ v ∧ v < a + n then 1 else 0 := by
  unfold rangeE
  rw [List.countP_map, ← count_range a v n]
  apply List.countP_congr
  intro i _
  simp only [Function.comp, h]
theorem cnt_ring {a n v : Nat} (hn : 3 ≤ n) : cnt (ringE a n) v = if a ≤ v ∧ v < a + n then 2 else 0 := by
  unfold ringE
  rw [cnt_app]
  unfold cnt
  rw [countP_rangeE (a := a) (v := v) (n - 1) (fun i => by rw [Bool.eq_iff_iff]; simp), countP_rangeE (a := (a : Int) + 1) (v := v) (n - 1) (fun i => by rw [Bool.eq_iff_iff]; simp; omega)]
  simp only [List.countP_cons, List.countP_nil]
  have e1 : ((a : Int) + n - 1 == (v : Int)) = decide ((a : Int) + n - 1 = v) := by rw [Bool.eq_iff_iff]; simp
  have e2 : ((a : Int) == (v : Int)) = decide ((a : Int) = v) := by rw [Bool.eq_iff_iff]; simp
  rw [e1, e2]
  by_cases c1 : a ≤ v ∧ v < a + n
  · rw [if_pos c1]
    by_cases c2 : a = v
    · rw [if_pos (show (a : Int) ≤ v ∧ (v : Int) < a + ((n - 1 : Nat) : Int) by omega), if_neg (show ¬ ((a : Int) + 1 ≤ v ∧ (v : Int) < a + 1 + ((n - 1 : Nat) : Int)) by omega), decide_eq_true (show (a : Int) = v by omega), decide_eq_false (show ¬ (a : Int) + n - 1 = v by omega)]
      rfl
    · by_cases c3 : v + 1 = a + n
      · rw [if_neg (show ¬ ((a : Int) ≤ v ∧ (v : Int) < a + ((n - 1 : Nat) : Int)) by omega), if_pos (show (a : Int) + 1 ≤ v ∧ (v : Int) < a + 1 + ((n - 1 : Nat) : Int) by omega), decide_eq_true (show (a : Int) + n - 1 = v by omega), decide_eq_false (show ¬ (a : Int) = v by omega)]
        rfl
      · rw [if_pos (show (a : Int) ≤ v ∧ (v : Int) < a + ((n - 1 : Nat) : Int) by omega), if_pos (show (a : Int) + 1 ≤ v ∧ (v : Int) < a + 1 + ((n - 1 : Nat) : Int) by omega), decide_eq_false (show ¬ (a : Int) + n - 1 = v by omega), decide_eq_false (show ¬ (a : Int) = v by omega)]
        rfl
  · rw [if_neg c1, if_neg (show ¬ ((a : Int) ≤ v ∧ (v : Int) < a + ((n - 1 : Nat) : Int)) by omega), if_neg (show ¬ ((a : Int) + 1 ≤ v ∧ (v : Int) < a + 1 + ((n - 1 : Nat) : Int)) by omega), decide_eq_false (show ¬ (a : Int) + n - 1 = v by omega), decide_eq_false (show ¬ (a : Int) = v by omega)]
    rfl
theorem prism_deg {n : Nat} (hn : 3 ≤ n) {v : Nat} (hv : v < 2 * n) : (outL (prismE n) (2 * (prismE n).length) v).length = 3 := by
  rw [outL_cnt _ _ _ (Nat.le_refl _), List.take_length]
  unfold prismE
  rw [cnt_app, cnt_app]
  have r1 := cnt_ring (a := 0) (v := v) hn
  have r2 := cnt_ring (a := n) (v := v) hn
  rw [show ((0 : Nat) : Int) = 0 from rfl] at r1
  rw [r1, r2]
  unfold cnt
  rw [countP_rangeE (a := 0) (v := v) n (fun i => by rw [Bool.eq_iff_iff]; simp), countP_rangeE (a := n) (v := v) n (fun i => by rw [Bool.eq_iff_iff]; simp)]
  by_cases q : v < n
  · rw [if_pos (by omega), if_neg (by omega), if_pos (by omega), if_neg (by omega)]
  · rw [if_neg (by omega), if_pos (by omega), if_neg (by omega), if_pos (by omega)]
end Go.Proofs.Ytmcloipjlihhlaa.N
