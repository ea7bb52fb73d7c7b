/- Snap, Spots, Eq: both texts as plain functions. Conditions: none. -/
import Derived.Test.YtmcloipjlihhlaaNRounds
namespace Go.Proofs.Ytmcloipjlihhlaa.N
open Go.X Go.Proofs.Ytmcloipjlihhlaa
set_option maxRecDepth 100000

theorem read_mag {x : Nat} {s : Bool} {m : Nat} {i : Int} (h : F64.read x = .number s m i) : m < 2 ^ 53 := by
  have hb : F64.binade = 2 ^ 52 := by decide
  have hs : F64.signWeight = 2 ^ 63 := by decide
  unfold Ieee.Format.read at h
  simp only [hb, hs] at h
  split at h
  · cases h; omega
  · split at h
    · cases h
      have : x % 2 ^ 63 % 2 ^ 52 < 2 ^ 52 := Nat.mod_lt _ (by decide)
      omega
    · split at h <;> cases h
theorem cut_zero_le (s : Bool) (n d : Nat) : Ieee.Toward.zero.cut s n d ≤ n := by
  unfold Ieee.Toward.cut
  simp only [Bool.toNat_false, Nat.add_zero]
  exact Nat.div_le_self _ _
abbrev LO : Nat := 13920626448202203136
abbrev HI : Nat := 4697254411347427328
theorem read_lo : F64.read LO = .number true (2 ^ 52) (-32) := by decide
theorem read_hi : F64.read HI = .number false (2 ^ 52) (-32) := by decide
theorem shl_le {m n : Nat} {a b : Nat} (h : m <<< b ≤ n) (hab : a ≤ b) : m <<< a ≤ n := by
  rw [Nat.shiftLeft_eq] at *
  exact Nat.le_trans (Nat.mul_le_mul_left m (Nat.pow_le_pow_right (by decide) hab)) h
theorem toInt_small {y : Nat} (hn : isNaN y = false) (hlo : (F64.order y LO == some .lt) = false) (hhi : (F64.order y HI == some .gt) = false) : ∃ m, (F64.read y).toInt .zero = some m ∧ -(2 ^ 53) ≤ m ∧ m ≤ 2 ^ 53 := by
  unfold isNaN at hn
  unfold Ieee.Format.order at hlo hhi
  rw [read_lo] at hlo
  rw [read_hi] at hhi
  have hN : (FloatKind.f64.format.read y) = F64.read y := rfl
  rw [hN] at hn
  cases hr : F64.read y with
  | nan s t => rw [hr] at hn; simp [Ieee.Datum.isNaN] at hn
  | infinity s =>
    rw [hr] at hlo hhi
    cases s <;> simp [Ieee.Datum.order] at hlo hhi
  | number s m i =>
    rw [hr] at hlo hhi
    have hm := read_mag hr
    refine ⟨_, rfl, ?_⟩
    have hc := cut_zero_le s (m <<< i.toNat) (-i).toNat
    have hle : m <<< i.toNat ≤ 2 ^ 53 := by
      by_cases hi : i ≤ 0
      · have : i.toNat = 0 := by omega
        rw [this]; simp; omega
      · have hmin : min i (-32) = -32 := by omega
        simp only [Ieee.Datum.order, hmin] at hlo hhi
        have e : ((-32 : Int) - -32).toNat = 0 := by decide
        rw [e] at hlo hhi
        simp only [Ieee.signed, Nat.shiftLeft_zero, if_true, Bool.false_eq_true, if_false] at hlo hhi
        cases s
        · simp only [Bool.false_eq_true, if_false] at hlo hhi
          have : ¬ ((2 ^ 52 : Nat) : Int) < ((m <<< (i - -32).toNat : Nat) : Int) := by
            intro hc2
            rw [Std.compare_eq_gt.2 hc2] at hhi
            simp at hhi
          exact shl_le (b := (i - -32).toNat) (by omega) (by omega)
        · simp only [if_true] at hlo hhi
          have : ¬ (-((m <<< (i - -32).toNat : Nat) : Int)) < -((2 ^ 52 : Nat) : Int) := by
            intro hc2
            rw [Std.compare_eq_lt.2 hc2] at hlo
            simp at hlo
          exact shl_le (b := (i - -32).toNat) (by omega) (by omega)
    generalize Ieee.Toward.zero.cut s (m <<< i.toNat) (-i).toNat = z at *
    unfold Ieee.signed
    rw [Nat.shiftLeft_zero]
    split <;> omega
theorem f2i_det {y : Nat} {r : Int} (hn : isNaN y = false) (hlo : (F64.order y LO == some .lt) = false) (hhi : (F64.order y HI == some .gt) = false) (h : F2I .f64 y .i64 r) : r = ((F64.read y).toInt .zero).getD 0 := by
  obtain ⟨m, hm, h1, h2⟩ := toInt_small hn hlo hhi
  have e1 : IntKind.i64.min = -(2 ^ 63) := by decide
  have e2 : IntKind.i64.max = 2 ^ 63 - 1 := by decide
  have hm2 : (FloatKind.f64.decode y).toInt .zero = some m := hm
  unfold F2I at h
  rw [hm2, e1, e2] at h
  rw [hm]
  rcases h with ⟨m', he, _, _, rfl⟩ | ⟨hno, _⟩
  · rw [Option.some.inj he]; rfl
  · exact absurd ⟨by omega, by omega⟩ (hno m rfl)

/-- A number, snapped. -/
def snapOne (x sc : Nat) : Int × Int :=
  if isNaN (mulM x sc) then (0, 17) else
  if isNaN (rte (mulM x sc)) then (0, 17) else
  if F64.order (rte (mulM x sc)) LO == some .lt then (0, 2) else
  if F64.order (rte (mulM x sc)) HI == some .gt then (0, 2) else (((F64.read (rte (mulM x sc))).toInt .zero).getD 0, 0)
theorem snapT {x sc r r2 : Nat} {R : Int → Int → Prop} (h : R (snapOne x sc).1 (snapOne x sc).2) (hr : FRes .f64 x sc (F64.mul x sc) r) (h1 : isNaN r = true → isNaN r2 = true) (h2 : isNaN r = false → r2 = rte r) :
    cnd (F64.order r2 r2 != some .eq) (R 0 17) (cnd (F64.order r2 LO == some .lt) (R 0 2) (cnd (F64.order r2 HI == some .gt) (R 0 2) (∀ r3 : Int, F2I .f64 r2 .i64 r3 → R r3 0))) := by
  rw [order_ne]
  have hf : feq r (mulM x sc) := fres hr
  cases hy : isNaN (mulM x sc)
  · have hry : r = mulM x sc := by
      rcases hf with e | ⟨_, e⟩
      · exact e
      · rw [hy] at e; cases e
    obtain rfl : r2 = rte r := h2 (by rw [hry, hy])
    subst hry
    refine cnd_b (fun q => ?_) fun q => cnd_b (fun q2 => ?_) fun q2 => cnd_b (fun q3 => ?_) fun q3 => fun r3 h3 => ?_
    · simpa [snapOne, hy, q] using h
    · simpa [snapOne, hy, q, q2] using h
    · simpa [snapOne, hy, q, q2, q3] using h
    · rw [f2i_det q q2 q3 h3]
      simpa [snapOne, hy, q, q2, q3] using h
  · have q : isNaN r2 = true := h1 (by rw [hf.nan, hy])
    rw [q]
    simpa [snapOne, hy, cnd] using h
theorem okWhole {x sc : Nat} {R : Int → Int → Prop} (h : R (snapOne x sc).1 (snapOne x sc).2) : Ok144 x sc R := by
  apply ok144
  unfold T144
  exact fun r hr => ⟨_, rte_ext r, fun v ⟨r2, e, h1, h2⟩ => ⟨r2, e, snapT h hr h1 h2⟩⟩
theorem okSnapOne {x sc : Nat} {R : Int → Int → Prop} (h : R (snapOne x sc).1 (snapOne x sc).2) : Ok145 x sc R := by
  apply ok145
  unfold T145
  exact fun r hr => ⟨_, rte_ext r, fun v ⟨r2, e, h1, h2⟩ => ⟨r2, e, snapT h hr h1 h2⟩⟩
def snapE (sc : Nat) (p : Nat × Nat) : Int := if (snapOne p.1 sc).2 = 0 then (snapOne p.2 sc).2 else (snapOne p.1 sc).2
def snapV (sc : Nat) (p : Nat × Nat) : Int × Int := ((snapOne p.1 sc).1, (snapOne p.2 sc).1)
def snapR (at' : Spots) (sc : Nat) : List (Int × Int) × Int :=
  if at'.length > 1024 then ([], 1) else
  match at'.find? (fun p => decide (snapE sc p ≠ 0)) with
  | some p => ([], snapE sc p)
  | none => (at'.map (snapV sc), 0)
theorem snapR_big {at' : Spots} {sc : Nat} (h : at'.length > 1024) : snapR at' sc = ([], 1) := by simp [snapR, h]
theorem snapR_bad {at' : Spots} {sc k : Nat} {p : Nat × Nat} (h : at'.length ≤ 1024) (hp : at'[k]? = some p) (ha : ∀ q ∈ at'.take k, snapE sc q = 0) (hb : snapE sc p ≠ 0) : snapR at' sc = ([], snapE sc p) := by
  have : at'.find? (fun p => decide (snapE sc p ≠ 0)) = some p := by
    rw [List.find?_eq_some_iff_append]
    obtain ⟨hk, e⟩ := List.getElem?_eq_some_iff.1 hp
    refine ⟨by simpa using hb, at'.take k, at'.drop (k + 1), ?_, fun q hq => by simp [ha q hq]⟩
    rw [← e, List.getElem_cons_drop, List.take_append_drop]
  unfold snapR
  rw [if_neg (by omega), this]
theorem snapR_ok {at' : Spots} {sc : Nat} (h : at'.length ≤ 1024) (ha : ∀ q ∈ at', snapE sc q = 0) : snapR at' sc = (at'.map (snapV sc), 0) := by
  have : at'.find? (fun p => decide (snapE sc p ≠ 0)) = none := by
    rw [List.find?_eq_none]
    intro q hq
    simp [ha q hq]
  unfold snapR
  rw [if_neg (by omega), this]
theorem take_ok {at' : Spots} {sc k : Nat} {p : Nat × Nat} (hp : at'[k]? = some p) (ha : ∀ q ∈ at'.take k, snapE sc q = 0) (hb : snapE sc p = 0) : ∀ q ∈ at'.take (k + 1), snapE sc q = 0 := by
  rw [List.take_add_one, hp]
  intro q hq
  rcases List.mem_append.1 hq with h | h
  · exact ha q h
  · simp at h; exact h ▸ hb
theorem take_map {at' : Spots} {sc k : Nat} {p : Nat × Nat} (hp : at'[k]? = some p) : (at'.take k).map (snapV sc) ++ [((snapOne p.1 sc).1, (snapOne p.2 sc).1)] = (at'.take (k + 1)).map (snapV sc) := by
  rw [List.take_add_one, hp]; simp [snapV]
theorem okSnap {at' : Spots} {sc : Nat} {R : List (Int × Int) → Int → Prop} (h : R (snapR at' sc).1 (snapR at' sc).2) : Ok48 at' sc R := by
  apply ok48
  unfold T48
  refine cnd_dec (fun h1 => ?_) fun h1 => ?_
  · rw [snapR_big (by omega)] at h; exact h
  refine ⟨fun l i => ∃ k : Nat, i = k ∧ k ≤ at'.length ∧ l = (at'.take k).map (snapV sc) ∧ ∀ q ∈ at'.take k, snapE sc q = 0, fun _ i => ((at'.length : Int) - i).toNat, ⟨0, rfl, by omega, by simp, by simp⟩, ?_⟩
  rintro _ _ ⟨k, rfl, hk, rfl, ha⟩
  refine cnd_dec (fun hlt => ⟨by omega, hlt, fun p hp => ?_⟩) fun hlt => ?_
  · rw [Int.toNat_natCast] at hp
    refine okWhole (okWhole ⟨fun v => v = snapE sc p, cnd_eq (fun q => ?_) fun q => ?_, ?_⟩)
    · simp [snapE, q]
    · simp [snapE, q]
    · rintro _ rfl
      refine cnd_ne (fun q => ?_) fun q => ?_
      · rw [snapR_bad (by omega) hp ha q] at h; exact h
      · rw [wr (by omega) (by omega), take_map hp]
        exact ⟨by simp; omega, ⟨k + 1, by simp, by omega, rfl, take_ok hp ha (by omega)⟩, by dsimp only; omega⟩
  · have hke : k = at'.length := by omega
    subst hke
    rw [List.take_length] at *
    rw [snapR_ok (by omega) ha] at h; exact h
theorem okSnapR {at' : Spots} {sc : Nat} {R : List (Int × Int) → Int → Prop} (h : R (snapR at' sc).1 (snapR at' sc).2) : Ok49 at' sc R := by
  apply ok49
  unfold T49
  refine cnd_dec (fun h1 => ?_) fun h1 => ?_
  · rw [snapR_big (by omega)] at h; exact h
  refine ⟨fun l i => ∃ k : Nat, i = k ∧ k ≤ at'.length ∧ l = (at'.take k).map (snapV sc) ∧ ∀ q ∈ at'.take k, snapE sc q = 0, fun _ i => ((at'.length : Int) - i).toNat, ⟨0, rfl, by omega, by simp, by simp⟩, ?_⟩
  rintro _ _ ⟨k, rfl, hk, rfl, ha⟩
  refine cnd_dec (fun hlt => ⟨by omega, hlt, fun p hp => ?_⟩) fun hlt => ?_
  · rw [Int.toNat_natCast] at hp
    refine okSnapOne (cnd_ne (fun q => ?_) fun q => okSnapOne (cnd_ne (fun q2 => ?_) fun q2 => ?_))
    · have e : snapE sc p = (snapOne p.1 sc).2 := by simp [snapE, q]
      rw [snapR_bad (by omega) hp ha (by rw [e]; exact q), e] at h; exact h
    · have e : snapE sc p = (snapOne p.2 sc).2 := by simp [snapE, q]
      rw [snapR_bad (by omega) hp ha (by rw [e]; exact q2), e] at h; exact h
    · have e : snapE sc p = 0 := by simp [snapE, q, q2]
      rw [wr (by omega) (by omega), take_map hp]
      exact ⟨by simp; omega, ⟨k + 1, by simp, by omega, rfl, take_ok hp ha e⟩, by dsimp only; omega⟩
  · have hke : k = at'.length := by omega
    subst hke
    rw [List.take_length] at *
    rw [snapR_ok (by omega) ha] at h; exact h

/-! ### Eq, Spots, IsNaN -/
theorem okIsNaN {x : Nat} {R : Bool → Prop} (h : R (isNaN x)) : Ok57 x R := by
  apply ok57
  unfold T57
  rw [order_ne]; exact h
theorem okEq {a b : Spots} {R : Bool → Prop} (hl : a.length ≤ 100000000) (h : R (a == b)) : Ok50 a b R := by
  apply ok50
  unfold T50
  have no : a ≠ b → R false := fun e => by
    have : (a == b) = false := by simpa using e
    rw [this] at h; exact h
  refine cnd_ne (fun h1 => no (fun e => h1 (by rw [e]))) fun h1 => ?_
  have h1 : a.length = b.length := by omega
  refine ⟨fun i => ∃ k : Nat, i = k ∧ k ≤ a.length ∧ ∀ j, j < k → a[j]? = b[j]?, fun i => ((a.length : Int) - i).toNat, ⟨0, rfl, by omega, by omega⟩, ?_⟩
  rintro _ ⟨k, rfl, hk, he⟩
  refine cnd_dec (fun hlt => ⟨by omega, hlt, fun x hx => ⟨by omega, by omega, fun y hy => ?_⟩⟩) fun hlt => ?_
  · rw [Int.toNat_natCast] at hx hy
    refine okBits (cnd_not (fun q => no ?_) fun q => okBits (cnd_not (fun q2 => no ?_) fun q2 => ?_))
    · rintro rfl; rw [hx] at hy; obtain rfl := Option.some.inj hy; simp at q
    · rintro rfl; rw [hx] at hy; obtain rfl := Option.some.inj hy; simp at q2
    · have : x = y := Prod.ext (by simpa using q) (by simpa using q2)
      subst this
      rw [wr (by omega) (by omega)]
      refine ⟨⟨k + 1, by simp, by omega, fun j hj => ?_⟩, by dsimp only; omega⟩
      by_cases e : j = k
      · subst e; rw [hx, hy]
      · exact he j (by omega)
  · have : a = b := by
      apply List.ext_getElem?
      intro i
      by_cases hi : i < k
      · exact he i hi
      · rw [List.getElem?_eq_none (by omega), List.getElem?_eq_none (by omega)]
    subst this
    simpa using h
/-- Spots of bits, two by two. -/
def spotsM (us : List Int) (k : Nat) : Spots := (List.range k).map fun j => ((us.getD (2 * j) 0).toNat, (us.getD (2 * j + 1) 0).toNat)
def spotsOf (us : List Int) : Spots := spotsM us (us.length / 2)
theorem spotsM_succ (us : List Int) (k : Nat) : spotsM us (k + 1) = spotsM us k ++ [((us.getD (2 * k) 0).toNat, (us.getD (2 * k + 1) 0).toNat)] := by
  simp [spotsM, List.range_succ]
theorem spotsM_len (us : List Int) (k : Nat) : (spotsM us k).length = k := by simp [spotsM]
theorem okSpots {us : List Int} {R : Spots → Prop} (hl : us.length ≤ 100000000) (h : R (spotsOf us)) : Ok44 us R := by
  apply ok44
  unfold T44
  refine ⟨fun l i => ∃ k : Nat, i = 2 * k ∧ 2 * k ≤ us.length ∧ l = spotsM us k, fun _ i => ((us.length : Int) - i).toNat, ⟨0, rfl, by omega, rfl⟩, ?_⟩
  rintro _ _ ⟨k, rfl, hk, rfl⟩
  rw [wr (by omega) (by omega), wr (by omega) (by omega)]
  refine cnd_dec (fun hlt => ⟨by omega, by omega, fun x hx => ⟨by omega, by omega, fun y hy => callE_of (frombits_ext _) ⟨_, rfl, callE_of (frombits_ext _) ⟨_, rfl, ?_⟩⟩⟩⟩) fun hlt => ?_
  · have e1 : us.getD (2 * k) 0 = x := by
      have : (2 * (k : Int)).toNat = 2 * k := by omega
      rw [this] at hx; simp [List.getD, hx]
    have e2 : us.getD (2 * k + 1) 0 = y := by
      have : (2 * (k : Int) + 1).toNat = 2 * k + 1 := by omega
      rw [this] at hy; simp [List.getD, hy]
    refine ⟨by rw [spotsM_len]; omega, ⟨k + 1, by omega, by omega, by rw [spotsM_succ, e1, e2]⟩, by dsimp only; omega⟩
  · have : us.length / 2 = k := by omega
    unfold spotsOf at h
    rw [this] at h; exact h
end Go.Proofs.Ytmcloipjlihhlaa.N
