/- The kinds that draw: random and stack. Conditions: none. -/
import Derived.Test.YtmcloipjlihhlaaNKinds2
set_option linter.unusedSimpArgs false
set_option linter.unusedVariables false
namespace Go.Proofs.Ytmcloipjlihhlaa.N
open Go.X Go.Proofs.Ytmcloipjlihhlaa
set_option maxRecDepth 100000

def dieS (s : Int) : Int := IntKind.u64.wrap (IntKind.u64.wrap (s * 6364136223846793005) + 1442695040888963407)
def dieR (s n : Int) : Int := IntKind.i64.wrap (Int.tmod (Int.fdiv s (2 ^ (min (Int.toNat (33 : Int)) 64))) (IntKind.u64.wrap n))
theorem w64_pos (x : Int) : 0 ≤ IntKind.u64.wrap x := by rw [IntKind.wrap_u64]; omega
theorem w64_id {x : Int} (h : 0 ≤ x) (h' : x < 18446744073709551616) : IntKind.u64.wrap x = x := by rw [IntKind.wrap_u64]; omega
theorem dieR_lim {s n : Int} (hs : 0 ≤ s) (hn : 1 ≤ n) (hn' : n ≤ 1000000) : 0 ≤ dieR s n ∧ dieR s n < n := by
  unfold dieR
  rw [w64_id (x := n) (by omega) (by omega)]
  have h1 : 0 ≤ Int.fdiv s (2 ^ (min (Int.toNat (33 : Int)) 64)) := Int.fdiv_nonneg hs (by decide)
  generalize Int.fdiv s (2 ^ (min (Int.toNat (33 : Int)) 64)) = y at *
  have h2 := Int.tmod_nonneg n h1
  have h3 := Int.tmod_lt_of_pos y (show 0 < n by omega)
  rw [wr (by omega) (by omega)]
  exact ⟨h2, h3⟩
theorem dieL {s n : Int} (hn : 1 ≤ n) (hn' : n ≤ 1000000) : 0 ≤ dieR (dieS s) n ∧ dieR (dieS s) n < n := dieR_lim (w64_pos _) hn hn'
theorem okDie {s n : Int} {R : Int → Int → Prop} (hn : 1 ≤ n) (hn' : n ≤ 1000000) (h : R (dieS s) (dieR (dieS s) n)) : Ok116 s n R := by
  apply ok116
  unfold T116
  exact ⟨by decide, by rw [w64_id (by omega) (by omega)]; omega, h⟩
theorem okDieR {s n : Int} {R : Int → Int → Prop} (hn : 1 ≤ n) (hn' : n ≤ 1000000) (h : R (dieS s) (dieR (dieS s) n)) : Ok199 s n R := by
  apply ok199
  unfold T199
  exact ⟨by decide, by rw [w64_id (by omega) (by omega)]; omega, h⟩

/-! ### Random -/
def rndS (s : Int) : Nat → Int
  | 0 => s
  | k + 1 => dieS (dieS (rndS s k))
def rndE (n s : Int) : Nat → Es
  | 0 => []
  | k + 1 => rndE n s k ++ [(dieR (dieS (rndS s k)) n, dieR (dieS (dieS (rndS s k))) n)]
theorem rndE_len (n s : Int) : ∀ k, (rndE n s k).length = k
  | 0 => rfl
  | k + 1 => by rw [rndE, List.length_append, rndE_len n s k]; rfl
theorem rndE_in {n s : Int} (h1 : 1 ≤ n) (h2 : n ≤ 1000000) : ∀ k, ∀ x ∈ rndE n s k, (0 ≤ x.1 ∧ x.1 < n) ∧ 0 ≤ x.2 ∧ x.2 < n
  | 0, x, h => by cases h
  | k + 1, x, h => by
    rw [rndE] at h
    rcases List.mem_append.1 h with h | h
    · exact rndE_in h1 h2 k x h
    · rcases List.mem_singleton.1 h with rfl
      exact ⟨dieL h1 h2, dieL h1 h2⟩
def kRandom (a b s : Int) : K3 := if a < 1 ∨ b < 0 then (0, [], 1) else if 1024 < a ∨ 3072 < b then (0, [], 3) else (a, rndE a s b.toNat, 0)
theorem makeRandom {a b s : Int} {R : Int → Es → Int → Prop} (h : sayK R (kRandom a b s)) : Ok138 a b s R := by
  apply ok138
  unfold T138
  have mx : (if (0 : Int) > b then (0 : Int) else b) = max 0 b := by rw [Int.max_def]; split <;> split <;> omega
  rw [mx]
  refine okSize (by simp) ⟨fun e => e = if b < 0 then 1 else sizeE 1 [a] a (max 0 b), cnd_dec (fun q => by rw [if_pos q]) (fun q => by rw [if_neg q]), ?_⟩
  rintro _ rfl
  unfold kRandom at h
  by_cases h0 : b < 0
  · rw [if_pos (.inr h0)] at h
    rw [if_pos h0]
    exact ok112_202 (fun _ => h) fun q => by cases q
  rw [if_neg h0]
  by_cases h1 : a < 1
  · rw [if_pos (.inl h1)] at h
    have e := size_l (least := 1) (n := a) (m := max 0 b) h1
    exact ok112_202 (fun _ => by rw [e]; exact h) fun q => by rw [e] at q; cases q
  rw [if_neg (by omega)] at h
  by_cases h2 : 1024 < a ∨ 3072 < b
  · rw [if_pos h2] at h
    have e : sizeE 1 [a] a (max 0 b) = 3 := size_g h1 (by omega)
    exact ok112_202 (fun _ => by rw [e]; exact h) fun q => by rw [e] at q; cases q
  rw [if_neg h2] at h
  have e : sizeE 1 [a] a (max 0 b) = 0 := size_k h1 (by omega) (by omega) (by omega)
  refine ok112_202 (fun q => absurd e q) fun _ => ?_
  apply ok202
  unfold T202
  refine ⟨fun i n es y => ∃ j : Nat, i = j ∧ (j : Int) ≤ b ∧ n = a ∧ es = rndE a s j ∧ y = rndS s j, fun i _ _ _ => (b - i).toNat, ⟨0, rfl, by omega, rfl, rfl, rfl⟩, ?_⟩
  rintro _ _ _ _ ⟨j, rfl, hj, rfl, rfl, rfl⟩
  refine cnd_dec (fun hlt => okDie (by omega) (by omega) (okDie (by omega) (by omega) (okTo' (by rw [rndE_len]; omega) ?_))) fun hlt => ?_
  · rw [wr (by omega) (by omega)]
    exact ⟨⟨j + 1, by simp, by omega, rfl, rfl, rfl⟩, by dsimp only; omega⟩
  · have hj2 : j = b.toNat := by omega
    subst hj2; exact h
theorem kindRandom {a b seed : Int} {R : Int → Es → Int → Prop} (h : sayK R (kRandom a b seed)) : Ok38 (⟨#[114, 97, 110, 100, 111, 109]⟩ : ByteArray) a b seed R := by
  apply ok38
  unfold T38
  simp only [cndT, cndF, nm_random_path, nm_random_cycle, nm_random_complete, nm_random_two, nm_random_grid, nm_random_wheel, nm_random_prism, nm_random_bond, nm_random_random, nm_random_stack, Bool.not_true, Bool.not_false]
  unfold kRandom at h
  refine pre 1 (fun J j => cndT ▸ j) ⟨¬ (a < 1 ∨ b < 0), cnd_dec (fun q => by rw [if_pos (.inl q)] at h; exact h) (fun q => cnd_dec (fun q2 => by rw [if_pos (.inr q2)] at h; exact h) fun q2 => by omega), fun h1 => ⟨a ≤ 4096 ∧ b ≤ 4096, okToo1 (cnd_dec (fun q => by rw [if_neg h1, if_pos (by omega)] at h; exact h) fun q => okToo1 (cnd_dec (fun q2 => by rw [if_neg h1, if_pos (by omega)] at h; exact h) fun q2 => by omega)), fun h2 => ?_⟩⟩
  rw [if_neg h1] at h
  apply ok134
  unfold T134
  refine ⟨fun es y i => ∃ j : Nat, i = j ∧ (j : Int) ≤ b ∧ es = rndE a seed j ∧ y = rndS seed j, fun _ _ i => (b - i).toNat, ⟨0, rfl, by omega, rfl, rfl⟩, ?_⟩
  rintro _ _ _ ⟨j, rfl, hj, rfl, rfl⟩
  refine cnd_dec (fun hlt => okDieR (by omega) (by omega) (okDieR (by omega) (by omega) ⟨by rw [rndE_len]; omega, ?_⟩)) fun hlt => ?_
  · rw [wr (by omega) (by omega)]
    exact ⟨⟨j + 1, by simp, by omega, rfl, rfl⟩, by dsimp only; omega⟩
  · have hj2 : j = b.toNat := by omega
    subst hj2
    refine okMadeR (fun q => ?_) fun q => ?_
    · by_cases z : 1024 < a ∨ 3072 < b
      · rw [if_pos z] at h; exact h
      · exfalso
        rw [may_yes (by omega) (by omega) (by rw [rndE_len]; omega) (rndE_in (by omega) (by omega) _)] at q
        cases q
    · by_cases z : 1024 < a ∨ 3072 < b
      · rcases z with z | z
        · rw [may_big z] at q; cases q
        · rw [may_long (by rw [rndE_len]; omega)] at q; cases q
      · rw [if_neg z] at h; exact h

/-! ### Stack -/
abbrev T3 := Int × Int × Int
structure SK where
  s : Int
  ts : List T3
  es : Es
def SK.at (q : SK) : Nat := (dieR (dieS q.s) q.ts.length).toNat
def SK.tri (q : SK) : T3 := q.ts.getD q.at (0, 0, 0)
def SK.step (q : SK) (v : Int) : SK :=
  ⟨dieS q.s, q.ts.set q.at (q.tri.1, q.tri.2.1, v) ++ [(q.tri.2.1, q.tri.2.2, v), (q.tri.2.2, q.tri.1, v)], q.es ++ [(v, q.tri.1), (v, q.tri.2.1), (v, q.tri.2.2)]⟩
def SK.run (seed : Int) : Nat → SK
  | 0 => ⟨seed, [(0, 1, 2), (0, 2, 1)], ringE 0 3⟩
  | k + 1 => (SK.run seed k).step ((3 + k : Nat) : Int)
theorem skLen (seed : Int) : ∀ k, (SK.run seed k).ts.length = 2 + 2 * k ∧ (SK.run seed k).es.length = 3 + 3 * k
  | 0 => ⟨rfl, ringE_len 0 3 (by omega)⟩
  | k + 1 => by
    obtain ⟨h1, h2⟩ := skLen seed k
    simp [SK.run, SK.step, h1, h2]; omega
theorem skAt {q : SK} (h1 : 1 ≤ q.ts.length) (h2 : q.ts.length ≤ 100000) : dieR (dieS q.s) q.ts.length = q.at ∧ q.at < q.ts.length ∧ q.ts[q.at]? = some q.tri := by
  have := dieL (s := q.s) (n := q.ts.length) (by omega) (by omega)
  have e : q.at = (dieR (dieS q.s) q.ts.length).toNat := rfl
  have hlt : q.at < q.ts.length := by omega
  exact ⟨by omega, hlt, by simp [SK.tri, List.getD, List.getElem?_eq_getElem hlt]⟩
def triIn (n : Int) (t : T3) : Prop := (0 ≤ t.1 ∧ t.1 < n) ∧ (0 ≤ t.2.1 ∧ t.2.1 < n) ∧ 0 ≤ t.2.2 ∧ t.2.2 < n
theorem skIn (seed : Int) : ∀ k, k ≤ 10000 → (∀ t ∈ (SK.run seed k).ts, triIn (3 + k) t) ∧ ∀ x ∈ (SK.run seed k).es, (0 ≤ x.1 ∧ x.1 < 3 + (k : Int)) ∧ 0 ≤ x.2 ∧ x.2 < 3 + (k : Int)
  | 0, _ => by
    refine ⟨fun t ht => ?_, fun x hx => ?_⟩
    · simp [SK.run] at ht
      rcases ht with rfl | rfl <;> simp [triIn]
    · rcases memRing hx with ⟨i, hi, rfl⟩ | rfl
      · dsimp only; omega
      · dsimp only; omega
  | k + 1, hk => by
    obtain ⟨h1, h2⟩ := skIn seed k (by omega)
    have L := skLen seed k
    obtain ⟨_, a1, a2⟩ := skAt (q := SK.run seed k) (by omega) (by omega)
    have ti := h1 _ (List.mem_of_getElem? a2)
    rw [show SK.run seed (k + 1) = (SK.run seed k).step ((3 + k : Nat) : Int) from rfl]
    generalize SK.run seed k = q at *
    unfold triIn at ti
    refine ⟨fun t ht => ?_, fun x hx => ?_⟩
    · rcases List.mem_append.1 ht with ht | ht
      · rcases List.mem_or_eq_of_mem_set ht with ht | rfl
        · have := h1 t ht
          unfold triIn at *; omega
        · unfold triIn; dsimp only; omega
      · simp at ht
        rcases ht with rfl | rfl
        · unfold triIn; dsimp only; omega
        · unfold triIn; dsimp only; omega
    · rcases List.mem_append.1 hx with hx | hx
      · have := h2 x hx; omega
      · simp at hx
        rcases hx with rfl | rfl | rfl
        · dsimp only; omega
        · dsimp only; omega
        · dsimp only; omega
def kStack (a s : Int) : K3 := if a < 3 then (0, [], 1) else if 1024 < a then (0, [], 3) else (a, (SK.run s (a - 3).toNat).es, 0)
theorem makeStack {a s : Int} {R : Int → Es → Int → Prop} (h : sayK R (kStack a s)) : Ok28 a s R := by
  apply ok28
  unfold T28
  have mn : (if (3072 : Int) < a then (3072 : Int) else a) = min 3072 a := by rw [Int.min_def]; split <;> split <;> omega
  rw [mn]
  refine okSize (by simp) ?_
  unfold kStack at h
  by_cases h1 : a < 3
  · rw [if_pos h1] at h
    have e := size_l (least := 3) (n := a) (m := IntKind.i64.wrap (IntKind.i64.wrap (3 * min 3072 a) - 6)) h1
    exact ok112_114 (fun _ => by rw [e]; exact h) fun q => by rw [e] at q; cases q
  rw [if_neg h1] at h
  rw [wr (x := 3 * min 3072 a) (by omega) (by omega), wr (x := 3 * min 3072 a - 6) (by omega) (by omega)]
  by_cases h2 : 1024 < a
  · rw [if_pos h2] at h
    have e : sizeE 3 [a] a (3 * min 3072 a - 6) = 3 := size_g h1 (by omega)
    exact ok112_114 (fun _ => by rw [e]; exact h) fun q => by rw [e] at q; cases q
  rw [if_neg h2] at h
  have e : sizeE 3 [a] a (3 * min 3072 a - 6) = 0 := size_k h1 (by omega) (by omega) (by omega)
  refine ok112_114 (fun q => absurd e q) fun _ => ?_
  apply ok114
  unfold T114
  refine okRing' (by simp) (by omega) (by omega) (by omega) (by omega) ?_
  rw [List.nil_append]
  refine ⟨fun ts v n es y => ∃ j : Nat, v = (3 + j : Nat) ∧ (3 + j : Int) ≤ a ∧ a = n ∧ ts = (SK.run s j).ts ∧ es = (SK.run s j).es ∧ y = (SK.run s j).s, fun _ v _ _ _ => (a - v).toNat, ⟨0, rfl, by omega, rfl, rfl, rfl, rfl⟩, ?_⟩
  rintro _ _ _ _ _ ⟨j, rfl, hj, rfl, rfl, rfl, rfl⟩
  have L := skLen s j
  refine cnd_dec (fun hlt => okDie (by omega) (by omega) ?_) fun hlt => ?_
  · obtain ⟨r1, r2, r3⟩ := skAt (q := SK.run s j) (by omega) (by omega)
    have er : SK.run s (j + 1) = (SK.run s j).step ((3 + j : Nat) : Int) := rfl
    generalize hq : SK.run s j = q at *
    rw [r1, Int.toNat_natCast]
    refine ⟨by omega, by omega, fun t ht => ?_⟩
    obtain rfl : q.tri = t := by rw [r3] at ht; exact Option.some.inj ht
    refine ⟨fun x n es => ∃ i : Nat, x = i ∧ i ≤ 3 ∧ a = n ∧ es = q.es ++ ([(((3 + j : Nat) : Int), q.tri.1), (((3 + j : Nat) : Int), q.tri.2.1), (((3 + j : Nat) : Int), q.tri.2.2)]).take i, fun x _ _ => (3 - x).toNat, ⟨0, rfl, by omega, rfl, by simp⟩, ?_⟩
    rintro _ _ _ ⟨i, rfl, hi, rfl, rfl⟩
    refine cnd_dec (fun hlt2 => ?_) fun hlt2 => ?_
    · obtain ⟨u, hu1, hu2⟩ : ∃ u : Int, (#[Value.int .i64 q.tri.1, .int .i64 q.tri.2.1, .int .i64 q.tri.2.2])[i]? = some (.int .i64 u) ∧ ([(((3 + j : Nat) : Int), q.tri.1), (((3 + j : Nat) : Int), q.tri.2.1), (((3 + j : Nat) : Int), q.tri.2.2)]).take (i + 1) = ([(((3 + j : Nat) : Int), q.tri.1), (((3 + j : Nat) : Int), q.tri.2.1), (((3 + j : Nat) : Int), q.tri.2.2)]).take i ++ [(((3 + j : Nat) : Int), u)] := by
        have : i = 0 ∨ i = 1 ∨ i = 2 := by omega
        rcases this with rfl | rfl | rfl
        · exact ⟨_, rfl, rfl⟩
        · exact ⟨_, rfl, rfl⟩
        · exact ⟨_, rfl, rfl⟩
      refine ⟨by omega, by omega, u, by simpa using hu1, okTo' (by rw [List.length_append, List.length_take]; simp; omega) ?_⟩
      rw [wr (by omega) (by omega)]
      refine ⟨⟨i + 1, by simp, by omega, rfl, ?_⟩, by dsimp only; omega⟩
      rw [List.append_assoc, ← hu2]
    · have hi3 : i = 3 := by omega
      subst hi3
      rw [wr (by omega) (by omega)]
      refine ⟨by omega, ⟨j + 1, by omega, by omega, rfl, ?_, ?_, ?_⟩, by dsimp only; omega⟩
      · rw [er]; rfl
      · rw [er]; rfl
      · rw [er]; rfl
  · have hj2 : j = (a - 3).toNat := by omega
    subst hj2; exact h
theorem kindStack {a b seed : Int} {R : Int → Es → Int → Prop} (h : sayK R (kStack a seed)) : Ok38 (⟨#[115, 116, 97, 99, 107]⟩ : ByteArray) a b seed R := by
  apply ok38
  unfold T38
  simp only [cndT, cndF, nm_stack_path, nm_stack_cycle, nm_stack_complete, nm_stack_two, nm_stack_grid, nm_stack_wheel, nm_stack_prism, nm_stack_bond, nm_stack_random, nm_stack_stack, Bool.not_true, Bool.not_false]
  unfold kStack at h
  refine pre 3 (fun J j => cndF ▸ ⟨fun b => b = true, rfl, fun b e => e ▸ cndT ▸ j⟩) ⟨¬ a < 3, cnd_dec (fun q => by rw [if_pos q] at h; exact h) (fun q => q), fun h1 => ⟨a ≤ 4096, okToo1 (cnd_dec (fun q => by rw [if_neg h1, if_pos (by omega)] at h; exact h) fun q => by omega), fun h2 => ?_⟩⟩
  rw [if_neg h1] at h
  apply ok135
  unfold T135
  refine cnd_dec (fun q => by rw [if_pos q] at h; exact h) fun q => ?_
  rw [if_neg q] at h
  refine okRingR (by simp) (by omega) (by omega) (by omega) (by omega) ?_
  rw [List.nil_append]
  refine ⟨fun es ts y v => ∃ j : Nat, v = (3 + j : Nat) ∧ (3 + j : Int) ≤ a ∧ ts = (SK.run seed j).ts ∧ es = (SK.run seed j).es ∧ y = (SK.run seed j).s, fun _ _ _ v => (a - v).toNat, ⟨0, rfl, by omega, rfl, rfl, rfl⟩, ?_⟩
  rintro _ _ _ _ ⟨j, rfl, hj, rfl, rfl, rfl⟩
  have L := skLen seed j
  refine cnd_dec (fun hlt => okDieR (by omega) (by omega) ?_) fun hlt => ?_
  · obtain ⟨r1, r2, r3⟩ := skAt (q := SK.run seed j) (by omega) (by omega)
    have er : SK.run seed (j + 1) = (SK.run seed j).step ((3 + j : Nat) : Int) := rfl
    generalize hq : SK.run seed j = q at *
    rw [r1, Int.toNat_natCast]
    refine ⟨by omega, by omega, fun t ht => ?_⟩
    obtain rfl : q.tri = t := by rw [r3] at ht; exact Option.some.inj ht
    rw [wr (by omega) (by omega)]
    refine ⟨by omega, by omega, ⟨j + 1, by omega, by omega, ?_, ?_, ?_⟩, by dsimp only; omega⟩
    · rw [er]; rfl
    · rw [er]; rfl
    · rw [er]; rfl
  · have hj2 : j = (a - 3).toNat := by omega
    subst hj2
    refine okMadeR (fun q2 => ?_) fun _ => h
    have I := skIn seed (a - 3).toNat (by omega)
    rw [may_yes (by omega) (by omega) (by omega) fun x hx => by have := I.2 x hx; omega] at q2
    cases q2
end Go.Proofs.Ytmcloipjlihhlaa.N
