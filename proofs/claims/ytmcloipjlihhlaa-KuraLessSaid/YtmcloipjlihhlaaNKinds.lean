/- Each kind of net, by the program and by the document: the same. Conditions: none. -/
import Derived.Test.YtmcloipjlihhlaaTKind
import Derived.Test.YtmcloipjlihhlaaTMakerL
import Derived.Test.YtmcloipjlihhlaaNNames
import Derived.Test.YtmcloipjlihhlaaNMade
set_option linter.unusedSimpArgs false
set_option linter.unusedVariables false
namespace Go.Proofs.Ytmcloipjlihhlaa.N
open Go.X Go.Proofs.Ytmcloipjlihhlaa
set_option maxRecDepth 100000

/-! ### Words of the document's text -/
theorem okToo1 {a : Int} {R : Bool → Prop} (h : R (decide (a > 4096))) : Ok128 [a] R := by
  apply ok128
  unfold T128
  refine ⟨fun i => i = 0 ∨ (i = 1 ∧ ¬ a > 4096), fun i => (2 - i).toNat, .inl rfl, ?_⟩
  rintro i (rfl | ⟨rfl, q⟩)
  · refine cnd_dec (fun _ => ⟨by decide, by simp, fun x hx => ?_⟩) fun q => absurd (by simp) q
    obtain rfl : a = x := Option.some.inj hx
    refine cnd_dec (fun q => ?_) fun q => ?_
    · rw [decide_eq_true q] at h; exact h
    · exact ⟨.inr ⟨by decide, q⟩, by decide⟩
  · refine cnd_dec (fun q2 => absurd q2 (by simp)) fun _ => ?_
    rw [decide_eq_false q] at h; exact h
theorem okMadeR {n : Int} {es : Es} {R : Int → Es → Int → Prop} (bad : mayB n es = false → R 0 [] 3) (good : mayB n es = true → R n es 0) : Ok129 n es R := by
  apply ok129
  unfold T129
  exact okMayR (cnd_not bad good)
theorem may_yes {n : Int} {es : Es} (h0 : 0 ≤ n) (h1 : n ≤ 1024) (hl : es.length ≤ 3072) (h : ∀ x ∈ es, (0 ≤ x.1 ∧ x.1 < n) ∧ 0 ≤ x.2 ∧ x.2 < n) : mayB n es = true :=
  mayB_iff.2 ⟨⟨h0, h1⟩, hl, fun x hx => endB_iff.2 (h x hx)⟩
theorem may_big {n : Int} {es : Es} (h : 1024 < n) : mayB n es = false := by
  rw [← Bool.not_eq_true]; intro q
  have := (mayB_iff.1 q).1; omega
theorem may_long {n : Int} {es : Es} (h : 3072 < es.length) : mayB n es = false := by
  rw [← Bool.not_eq_true]; intro q
  have := (mayB_iff.1 q).2.1; omega
theorem okRingR {l : Es} {at' n : Int} {R : Es → Prop} (hl : l.length ≤ 100000) (a0 : 0 ≤ at') (a1 : at' ≤ 10000) (n1 : 1 ≤ n) (n2 : n ≤ 10000) (h : R (l ++ ringE at' n.toNat)) : Ok130 l at' n R := by
  apply ok130
  unfold T130
  refine ⟨fun es i => ∃ j : Nat, i = j ∧ (j : Int) ≤ n - 1 ∧ es = l ++ rangeE (fun i => (at' + i, at' + i + 1)) j, fun _ i => (n - i).toNat, ⟨0, rfl, by omega, by simp [rangeE]⟩, ?_⟩
  rintro _ _ ⟨j, rfl, hj, rfl⟩
  have hlen : (l ++ rangeE (fun i => (at' + (i : Int), at' + (i : Int) + 1)) j).length = l.length + j := by simp [rangeE_len]
  rw [wr (x := (j : Int) + 1) (by omega) (by omega)]
  refine cnd_dec (fun hlt => ?_) fun hlt => ?_
  · rw [wr (x := at' + (j : Int)) (by omega) (by omega), wr (x := at' + (j : Int) + 1) (by omega) (by omega)]
    refine ⟨by omega, ⟨j + 1, by simp, by omega, ?_⟩, by dsimp only; omega⟩
    rw [rangeE_succ, List.append_assoc]
  · have hj2 : j = n.toNat - 1 := by omega
    subst hj2
    rw [wr (x := at' + n) (by omega) (by omega), wr (x := at' + n - 1) (by omega) (by omega), List.append_assoc]
    have : ringE at' n.toNat = rangeE (fun i => (at' + (i : Int), at' + (i : Int) + 1)) (n.toNat - 1) ++ [(at' + n - 1, at')] := by
      unfold ringE
      rw [Int.toNat_of_nonneg (by omega)]
    rw [← this]
    exact ⟨by omega, h⟩
theorem memR {f : Nat → Int × Int} {n : Nat} {x : Int × Int} (h : x ∈ rangeE f n) : ∃ i, i < n ∧ f i = x := by
  unfold rangeE at h
  obtain ⟨i, hi, e⟩ := List.mem_map.1 h
  exact ⟨i, List.mem_range.1 hi, e⟩
theorem memRows {f : Nat → List (Int × Int)} {x : Int × Int} : ∀ {n : Nat}, x ∈ rowsE f n → ∃ i, i < n ∧ x ∈ f i
  | 0, h => by cases h
  | n + 1, h => by
    rw [rowsE] at h
    rcases List.mem_append.1 h with h | h
    · obtain ⟨i, hi, q⟩ := memRows h; exact ⟨i, by omega, q⟩
    · exact ⟨n, by omega, h⟩
theorem memRing {a : Int} {n : Nat} {x : Int × Int} (h : x ∈ ringE a n) : (∃ i : Nat, i + 1 < n ∧ x = (a + i, a + i + 1)) ∨ x = (a + n - 1, a) := by
  unfold ringE at h
  rcases List.mem_append.1 h with h | h
  · obtain ⟨i, hi, e⟩ := memR h
    exact .inl ⟨i, by omega, e.symm⟩
  · exact .inr (by simpa using h)
abbrev K3 := Int × Es × Int
def sayK (R : Int → Es → Int → Prop) (k : K3) : Prop := R k.1 k.2.1 k.2.2
/-- What stands first in the document's text. -/
theorem pre {Q1 : Int → Prop → Prop} {Q2 : Prop} {x0 : Bool} {W : (Int → Int → Es → Prop) → Bool → Prop} (c : Int) (hx : ∀ J : Int → Int → Es → Prop, J c 0 [] → W J x0) (h : ∃ Jv : Prop, Q1 c Jv ∧ (Jv → Q2)) :
    ∃ Jv2 : Int → Int → Es → Prop, (∃ Jv8 : Bool → Prop, Jv8 x0 ∧ ∀ x3 : Bool, Jv8 x3 → W Jv2 x3) ∧ ∀ (least2 c0 : Int) (c1 : Es), Jv2 least2 c0 c1 → ∃ Jv10 : Prop, Q1 least2 Jv10 ∧ (Jv10 → Q2) :=
  ⟨fun l _ _ => l = c, ⟨fun b => b = x0, rfl, fun b e => e ▸ hx _ rfl⟩, fun l _ _ e => e ▸ h⟩

/-! ### Path -/
def kPath (a : Int) : K3 := if a < 1 then (0, [], 1) else if 1024 < a then (0, [], 3) else (a, pathE' a.toNat, 0)
theorem size_l {least x n m : Int} (h : x < least) : sizeE least [x] n m = 1 := by
  unfold sizeE
  rw [if_pos (by simpa using h)]
theorem size_g {least x n m : Int} (h : ¬ x < least) (h2 : 3072 < x ∨ 1024 < n ∨ 3072 < m) : sizeE least [x] n m = 3 := by
  unfold sizeE
  rw [if_neg (by simpa using h)]
  by_cases q : 3072 < x
  · rw [if_pos (by simpa using q)]
  · rw [if_neg (by simp; omega)]
    by_cases q2 : 1024 < n
    · rw [if_pos q2]
    · rw [if_neg q2, if_pos (by omega)]
theorem size_k {least x n m : Int} (h1 : ¬ x < least) (h2 : x ≤ 3072) (h3 : n ≤ 1024) (h4 : m ≤ 3072) : sizeE least [x] n m = 0 := by
  unfold sizeE
  rw [if_neg (by simpa using h1), if_neg (by simp; omega), if_neg (by omega), if_neg (by omega)]
theorem makePath {a : Int} {R : Int → Es → Int → Prop} (h : sayK R (kPath a)) : Ok136 a R := by
  unfold kPath at h
  by_cases h1 : a < 1
  · rw [if_pos h1] at h
    have e := size_l (least := 1) (n := a) (m := IntKind.i64.wrap (a - 1)) h1
    exact okPathM (fun _ => by rw [e]; exact h) fun q => by rw [e] at q; cases q
  · rw [if_neg h1] at h
    by_cases h2 : 1024 < a
    · rw [if_pos h2] at h
      have e := size_g (least := 1) (n := a) (m := IntKind.i64.wrap (a - 1)) h1 (.inr (.inl h2))
      exact okPathM (fun _ => by rw [e]; exact h) fun q => by rw [e] at q; cases q
    · rw [if_neg h2] at h
      have e : sizeE 1 [a] a (IntKind.i64.wrap (a - 1)) = 0 := size_k h1 (by omega) (by omega) (by rw [wr (by omega) (by omega)]; omega)
      exact okPathM (fun q => absurd e q) fun _ => h
theorem kindPath {a b seed : Int} {R : Int → Es → Int → Prop} (h : sayK R (kPath a)) : Ok38 (⟨#[112, 97, 116, 104]⟩ : ByteArray) a b seed R := by
  apply ok38
  unfold T38
  simp only [cndT, cndF, nm_path_path, nm_path_cycle, nm_path_complete, nm_path_two, nm_path_grid, nm_path_wheel, nm_path_prism, nm_path_bond, nm_path_random, nm_path_stack, Bool.not_true, Bool.not_false]
  unfold kPath at h
  refine pre 1 (fun J j => cndT ▸ j) ⟨¬ a < 1, cnd_dec (fun q => by rw [if_pos q] at h; exact h) (fun q => q), fun h1 => ⟨a ≤ 4096, okToo1 (cnd_dec (fun q => by rw [if_neg h1, if_pos (by omega)] at h; exact h) fun q => by omega), fun h2 => ?_⟩⟩
  rw [if_neg h1] at h
  refine ⟨fun l i => ∃ j : Nat, i = j ∧ (j : Int) ≤ a - 1 ∧ l = rangeE (fun i => ((i : Int), (i : Int) + 1)) j, fun _ i => (a - i).toNat, ⟨0, rfl, by omega, rfl⟩, ?_⟩
  rintro _ _ ⟨j, rfl, hj, rfl⟩
  rw [wr (x := (j : Int) + 1) (by omega) (by omega)]
  refine cnd_dec (fun hlt => ?_) fun hlt => ?_
  · exact ⟨by rw [rangeE_len]; omega, ⟨j + 1, by simp, by omega, (rangeE_succ _ j).symm⟩, by dsimp only; omega⟩
  · have hj2 : j = a.toNat - 1 := by omega
    subst hj2
    refine okMadeR (fun q => ?_) fun q => ?_
    · by_cases z : 1024 < a
      · rw [if_pos z] at h; exact h
      · exfalso
        rw [may_yes (by omega) (by omega) (by rw [rangeE_len]; omega) fun x hx => by
          obtain ⟨i, hi, rfl⟩ := memR hx
          dsimp only; omega] at q
        cases q
    · by_cases z : 1024 < a
      · rw [may_big z] at q; cases q
      · rw [if_neg z] at h; exact h

/-! ### Cycle -/
def kCycle (a : Int) : K3 := if a < 1 then (0, [], 1) else if 1024 < a then (0, [], 3) else (a, ringE 0 a.toNat, 0)
theorem makeCycle {a : Int} {R : Int → Es → Int → Prop} (h : sayK R (kCycle a)) : Ok30 a R := by
  unfold kCycle at h
  by_cases h1 : a < 1
  · rw [if_pos h1] at h
    have e := size_l (least := 1) (n := a) (m := a) h1
    exact okCycle (fun _ => by rw [e]; exact h) fun q => by rw [e] at q; cases q
  · rw [if_neg h1] at h
    by_cases h2 : 1024 < a
    · rw [if_pos h2] at h
      have e := size_g (least := 1) (n := a) (m := a) h1 (.inr (.inl h2))
      exact okCycle (fun _ => by rw [e]; exact h) fun q => by rw [e] at q; cases q
    · rw [if_neg h2] at h
      have e : sizeE 1 [a] a a = 0 := size_k h1 (by omega) (by omega) (by omega)
      exact okCycle (fun q => absurd e q) fun _ => h
theorem kindCycle {a b seed : Int} {R : Int → Es → Int → Prop} (h : sayK R (kCycle a)) : Ok38 (⟨#[99, 121, 99, 108, 101]⟩ : ByteArray) a b seed R := by
  apply ok38
  unfold T38
  simp only [cndT, cndF, nm_cycle_path, nm_cycle_cycle, nm_cycle_complete, nm_cycle_two, nm_cycle_grid, nm_cycle_wheel, nm_cycle_prism, nm_cycle_bond, nm_cycle_random, nm_cycle_stack, Bool.not_true, Bool.not_false]
  unfold kCycle at h
  refine pre 1 (fun J j => cndT ▸ j) ⟨¬ a < 1, cnd_dec (fun q => by rw [if_pos q] at h; exact h) (fun q => q), fun h1 => ⟨a ≤ 4096, okToo1 (cnd_dec (fun q => by rw [if_neg h1, if_pos (by omega)] at h; exact h) fun q => by omega), fun h2 => ?_⟩⟩
  rw [if_neg h1] at h
  refine okRingR (by simp) (by omega) (by omega) (by omega) (by omega) ?_
  rw [List.nil_append]
  refine okMadeR (fun q => ?_) fun q => ?_
  · by_cases z : 1024 < a
    · rw [if_pos z] at h; exact h
    · exfalso
      rw [may_yes (by omega) (by omega) (by rw [ringE_len _ _ (by omega)]; omega) fun x hx => by
        rcases memRing hx with ⟨i, hi, rfl⟩ | rfl
        · dsimp only; omega
        · dsimp only; omega] at q
      cases q
  · by_cases z : 1024 < a
    · rw [may_big z] at q; cases q
    · rw [if_neg z] at h; exact h

/-! ### Wheel, prism, bond -/
def kWheel (a : Int) : K3 := if a < 3 then (0, [], 1) else if 1023 < a then (0, [], 3) else (a + 1, wheelE a.toNat, 0)
theorem makeWheel {a : Int} {R : Int → Es → Int → Prop} (h : sayK R (kWheel a)) : Ok31 a R := by
  unfold kWheel at h
  by_cases h1 : a < 3
  · rw [if_pos h1] at h
    have e := size_l (least := 3) (n := IntKind.i64.wrap (minN a + 1)) (m := IntKind.i64.wrap (2 * minN a)) h1
    exact okWheel (fun _ => by rw [e]; exact h) fun q => by rw [e] at q; cases q
  · rw [if_neg h1] at h
    have mn : 0 ≤ minN a ∧ minN a ≤ 3072 ∧ (a ≤ 3072 → minN a = a) ∧ (3072 < a → minN a = 3072) := by unfold minN; split <;> omega
    by_cases h2 : 1023 < a
    · rw [if_pos h2] at h
      have e : sizeE 3 [a] (IntKind.i64.wrap (minN a + 1)) (IntKind.i64.wrap (2 * minN a)) = 3 := by
        refine size_g h1 ?_
        rw [wr (by omega) (by omega)]
        by_cases z : 3072 < a
        · exact .inl z
        · right; left
          have := mn.2.2.1 (by omega); omega
      exact okWheel (fun _ => by rw [e]; exact h) fun q => by rw [e] at q; cases q
    · rw [if_neg h2] at h
      have em := mn.2.2.1 (by omega)
      have e : sizeE 3 [a] (IntKind.i64.wrap (minN a + 1)) (IntKind.i64.wrap (2 * minN a)) = 0 := by
        rw [em, wr (x := a + 1) (by omega) (by omega), wr (by omega) (by omega)]
        exact size_k h1 (by omega) (by omega) (by omega)
      exact okWheel (fun q => absurd e q) fun _ => h
theorem kindWheel {a b seed : Int} {R : Int → Es → Int → Prop} (h : sayK R (kWheel a)) : Ok38 (⟨#[119, 104, 101, 101, 108]⟩ : ByteArray) a b seed R := by
  apply ok38
  unfold T38
  simp only [cndT, cndF, nm_wheel_path, nm_wheel_cycle, nm_wheel_complete, nm_wheel_two, nm_wheel_grid, nm_wheel_wheel, nm_wheel_prism, nm_wheel_bond, nm_wheel_random, nm_wheel_stack, Bool.not_true, Bool.not_false]
  unfold kWheel at h
  refine pre 3 (fun J j => cndF ▸ ⟨fun b => b = true, rfl, fun b e => e ▸ cndT ▸ j⟩) ⟨¬ a < 3, cnd_dec (fun q => by rw [if_pos q] at h; exact h) (fun q => q), fun h1 => ⟨a ≤ 4096, okToo1 (cnd_dec (fun q => by rw [if_neg h1, if_pos (by omega)] at h; exact h) fun q => by omega), fun h2 => ?_⟩⟩
  rw [if_neg h1] at h
  have rl := ringE_len 0 a.toNat (by omega)
  refine okRingR (by simp) (by omega) (by omega) (by omega) (by omega) ?_
  rw [List.nil_append]
  refine ⟨fun l i => ∃ j : Nat, i = j ∧ (j : Int) ≤ a ∧ l = ringE 0 a.toNat ++ rangeE (fun i => ((a.toNat : Int), (i : Int))) j, fun _ i => (a - i).toNat, ⟨0, rfl, by omega, by simp [rangeE]⟩, ?_⟩
  rintro _ _ ⟨j, rfl, hj, rfl⟩
  refine cnd_dec (fun hlt => ?_) fun hlt => ?_
  · rw [wr (x := (j : Int) + 1) (by omega) (by omega)]
    refine ⟨by rw [List.length_append, rangeE_len, rl]; omega, ⟨j + 1, by simp, by omega, ?_⟩, by dsimp only; omega⟩
    rw [rangeE_succ, List.append_assoc, Int.toNat_of_nonneg (by omega)]
  · have hj2 : j = a.toNat := by omega
    subst hj2
    rw [wr (by omega) (by omega)]
    have ew : ringE 0 a.toNat ++ rangeE (fun i => ((a.toNat : Int), (i : Int))) a.toNat = wheelE a.toNat := rfl
    rw [ew]
    refine okMadeR (fun q => ?_) fun q => ?_
    · by_cases z : 1023 < a
      · rw [if_pos z] at h; exact h
      · exfalso
        rw [may_yes (by omega) (by omega) (by rw [← ew, List.length_append, rangeE_len, rl]; omega) fun x hx => by
          rcases List.mem_append.1 hx with hx | hx
          · rcases memRing hx with ⟨i, hi, rfl⟩ | rfl
            · dsimp only; omega
            · dsimp only; omega
          · obtain ⟨i, hi, rfl⟩ := memR hx
            dsimp only; omega] at q
        cases q
    · by_cases z : 1023 < a
      · rw [may_big (by omega)] at q; cases q
      · rw [if_neg z] at h; exact h
def kPrism (a : Int) : K3 := if a < 3 then (0, [], 1) else if 512 < a then (0, [], 3) else (2 * a, prismE a.toNat, 0)
theorem makePrism {a : Int} {R : Int → Es → Int → Prop} (h : sayK R (kPrism a)) : Ok32 a R := by
  unfold kPrism at h
  by_cases h1 : a < 3
  · rw [if_pos h1] at h
    have e := size_l (least := 3) (n := IntKind.i64.wrap (2 * minN a)) (m := IntKind.i64.wrap (3 * minN a)) h1
    exact okPrism (fun _ => by rw [e]; exact h) fun q => by rw [e] at q; cases q
  · rw [if_neg h1] at h
    have mn : 0 ≤ minN a ∧ minN a ≤ 3072 ∧ (a ≤ 3072 → minN a = a) ∧ (3072 < a → minN a = 3072) := by unfold minN; split <;> omega
    by_cases h2 : 512 < a
    · rw [if_pos h2] at h
      have e : sizeE 3 [a] (IntKind.i64.wrap (2 * minN a)) (IntKind.i64.wrap (3 * minN a)) = 3 := by
        refine size_g h1 ?_
        rw [wr (by omega) (by omega)]
        by_cases z : 3072 < a
        · exact .inl z
        · right; left
          have := mn.2.2.1 (by omega); omega
      exact okPrism (fun _ => by rw [e]; exact h) fun q => by rw [e] at q; cases q
    · rw [if_neg h2] at h
      have em := mn.2.2.1 (by omega)
      have e : sizeE 3 [a] (IntKind.i64.wrap (2 * minN a)) (IntKind.i64.wrap (3 * minN a)) = 0 := by
        rw [em, wr (x := 2 * a) (by omega) (by omega), wr (by omega) (by omega)]
        exact size_k h1 (by omega) (by omega) (by omega)
      exact okPrism (fun q => absurd e q) fun _ => h
theorem kindPrism {a b seed : Int} {R : Int → Es → Int → Prop} (h : sayK R (kPrism a)) : Ok38 (⟨#[112, 114, 105, 115, 109]⟩ : ByteArray) a b seed R := by
  apply ok38
  unfold T38
  simp only [cndT, cndF, nm_prism_path, nm_prism_cycle, nm_prism_complete, nm_prism_two, nm_prism_grid, nm_prism_wheel, nm_prism_prism, nm_prism_bond, nm_prism_random, nm_prism_stack, Bool.not_true, Bool.not_false]
  unfold kPrism at h
  refine pre 3 (fun J j => cndF ▸ ⟨fun b => b = true, rfl, fun b e => e ▸ cndT ▸ j⟩) ⟨¬ a < 3, cnd_dec (fun q => by rw [if_pos q] at h; exact h) (fun q => q), fun h1 => ⟨a ≤ 4096, okToo1 (cnd_dec (fun q => by rw [if_neg h1, if_pos (by omega)] at h; exact h) fun q => by omega), fun h2 => ?_⟩⟩
  rw [if_neg h1] at h
  have rl := ringE_len 0 a.toNat (by omega)
  have rl2 := ringE_len a a.toNat (by omega)
  refine okRingR (by simp) (by omega) (by omega) (by omega) (by omega) (okRingR (by rw [List.nil_append, rl]; omega) (by omega) (by omega) (by omega) (by omega) ?_)
  rw [List.nil_append]
  refine ⟨fun l i => ∃ j : Nat, i = j ∧ (j : Int) ≤ a ∧ l = ringE 0 a.toNat ++ ringE a a.toNat ++ rangeE (fun i => ((i : Int), (a.toNat : Int) + i)) j, fun _ i => (a - i).toNat, ⟨0, rfl, by omega, by simp [rangeE]⟩, ?_⟩
  rintro _ _ ⟨j, rfl, hj, rfl⟩
  refine cnd_dec (fun hlt => ?_) fun hlt => ?_
  · rw [wr (x := (j : Int) + 1) (by omega) (by omega), wr (x := a + (j : Int)) (by omega) (by omega)]
    refine ⟨by rw [List.length_append, List.length_append, rangeE_len, rl, rl2]; omega, ⟨j + 1, by simp, by omega, ?_⟩, by dsimp only; omega⟩
    rw [rangeE_succ, ← List.append_assoc, Int.toNat_of_nonneg (by omega)]
  · have hj2 : j = a.toNat := by omega
    subst hj2
    rw [wr (by omega) (by omega)]
    have ew : ringE 0 a.toNat ++ ringE a a.toNat ++ rangeE (fun i => ((i : Int), (a.toNat : Int) + i)) a.toNat = prismE a.toNat := by
      unfold prismE; rw [Int.toNat_of_nonneg (by omega)]
    have hlen : (prismE a.toNat).length = 3 * a.toNat := by rw [← ew, List.length_append, List.length_append, rangeE_len, rl, rl2]; omega
    rw [ew]
    refine okMadeR (fun q => ?_) fun q => ?_
    · by_cases z : 512 < a
      · rw [if_pos z] at h; exact h
      · exfalso
        rw [may_yes (by omega) (by omega) (by rw [hlen]; omega) fun x hx => by
          rw [← ew] at hx
          rcases List.mem_append.1 hx with hx | hx
          · rcases List.mem_append.1 hx with hx | hx
            · rcases memRing hx with ⟨i, hi, rfl⟩ | rfl
              · dsimp only; omega
              · dsimp only; omega
            · rcases memRing hx with ⟨i, hi, rfl⟩ | rfl
              · dsimp only; omega
              · dsimp only; omega
          · obtain ⟨i, hi, rfl⟩ := memR hx
            dsimp only; omega] at q
        cases q
    · by_cases z : 512 < a
      · rw [may_big (by omega)] at q; cases q
      · rw [if_neg z] at h; exact h
def kBond (a : Int) : K3 := if a < 1 then (0, [], 1) else if 3072 < a then (0, [], 3) else (2, bondE a.toNat, 0)
theorem makeBond {a : Int} {R : Int → Es → Int → Prop} (h : sayK R (kBond a)) : Ok137 a R := by
  unfold kBond at h
  by_cases h1 : a < 1
  · rw [if_pos h1] at h
    have e := size_l (least := 1) (n := 2) (m := a) h1
    exact okBond (fun _ => by rw [e]; exact h) fun q => by rw [e] at q; cases q
  · rw [if_neg h1] at h
    by_cases h2 : 3072 < a
    · rw [if_pos h2] at h
      have e := size_g (least := 1) (n := 2) (m := a) h1 (.inl h2)
      exact okBond (fun _ => by rw [e]; exact h) fun q => by rw [e] at q; cases q
    · rw [if_neg h2] at h
      have e : sizeE 1 [a] 2 a = 0 := size_k h1 (by omega) (by omega) (by omega)
      exact okBond (fun q => absurd e q) fun _ => h
theorem kindBond {a b seed : Int} {R : Int → Es → Int → Prop} (h : sayK R (kBond a)) : Ok38 (⟨#[98, 111, 110, 100]⟩ : ByteArray) a b seed R := by
  apply ok38
  unfold T38
  simp only [cndT, cndF, nm_bond_path, nm_bond_cycle, nm_bond_complete, nm_bond_two, nm_bond_grid, nm_bond_wheel, nm_bond_prism, nm_bond_bond, nm_bond_random, nm_bond_stack, Bool.not_true, Bool.not_false]
  unfold kBond at h
  refine pre 1 (fun J j => cndT ▸ j) ⟨¬ a < 1, cnd_dec (fun q => by rw [if_pos q] at h; exact h) (fun q => q), fun h1 => ⟨a ≤ 4096, okToo1 (cnd_dec (fun q => by rw [if_neg h1, if_pos (by omega)] at h; exact h) fun q => by omega), fun h2 => ?_⟩⟩
  rw [if_neg h1] at h
  refine ⟨fun l i => ∃ j : Nat, i = j ∧ (j : Int) ≤ a ∧ l = rangeE (fun _ => (0, 1)) j, fun _ i => (a - i).toNat, ⟨0, rfl, by omega, rfl⟩, ?_⟩
  rintro _ _ ⟨j, rfl, hj, rfl⟩
  refine cnd_dec (fun hlt => ?_) fun hlt => ?_
  · rw [wr (x := (j : Int) + 1) (by omega) (by omega)]
    exact ⟨by rw [rangeE_len]; omega, ⟨j + 1, by simp, by omega, (rangeE_succ _ j).symm⟩, by dsimp only; omega⟩
  · have hj2 : j = a.toNat := by omega
    subst hj2
    refine okMadeR (fun q => ?_) fun q => ?_
    · by_cases z : 3072 < a
      · rw [if_pos z] at h; exact h
      · exfalso
        rw [may_yes (by omega) (by omega) (by rw [rangeE_len]; omega) fun x hx => by
          obtain ⟨i, hi, rfl⟩ := memR hx
          dsimp only; omega] at q
        cases q
    · by_cases z : 3072 < a
      · rw [may_long (by rw [rangeE_len]; omega)] at q; cases q
      · rw [if_neg z] at h; exact h
end Go.Proofs.Ytmcloipjlihhlaa.N
