/- Numbers of 64 bits as natural numbers: shifts, masks, wraps. Conditions: none. -/
import Derived.Test.YtfjflbapojgbhaaGreatDoorWBr
namespace Go.Proofs.YtfjflbapojgbhaaGreatDoor.N
open Go.X Go.Proofs.YtfjflbapojgbhaaGreatDoor
set_option maxRecDepth 100000

theorem powN (k : Nat) : ((2 : Int) ^ k) = ((2 ^ k : Nat) : Int) := by rw [Int.natCast_pow]; rfl
theorem shr (a k : Nat) : Int.fdiv (a : Int) (2 ^ k) = ((a / 2 ^ k : Nat) : Int) := by
  rw [powN, Int.fdiv_eq_ediv_of_nonneg _ (Int.natCast_nonneg _)]; rfl
theorem shrI (a : Int) (k : Nat) : Int.fdiv a (2 ^ k) = a / 2 ^ k := Int.fdiv_eq_ediv_of_nonneg _ (by rw [powN]; exact Int.natCast_nonneg _)
theorem wrapU (a : Nat) : IntKind.u64.wrap (a : Int) = ((a % 18446744073709551616 : Nat) : Int) := by rw [IntKind.wrap_u64]; omega
theorem wrapU' {a : Nat} (h : a < 18446744073709551616) : IntKind.u64.wrap (a : Int) = (a : Int) := by rw [IntKind.wrap_u64]; omega
theorem wrapS (a b : Nat) (hb : b ≤ 18446744073709551616) : IntKind.u64.wrap ((a : Int) - (b : Int)) = (((a + 18446744073709551616 - b) % 18446744073709551616 : Nat) : Int) := by rw [IntKind.wrap_u64]; omega
theorem wrapSL {a b : Nat} (h : b ≤ a) (ha : a < 18446744073709551616) : IntKind.u64.wrap ((a : Int) - (b : Int)) = ((a - b : Nat) : Int) := by rw [IntKind.wrap_u64]; omega
theorem and_i64 (x : Int) (m : Nat) (hm : m < 9223372036854775808) : bits .and .i64 x (m : Int) = (((x % 18446744073709551616).toNat &&& m : Nat) : Int) := by
  show IntKind.i64.wrap ((BitVec.ofInt 64 x &&& BitVec.ofInt 64 (m : Int)).toNat : Int) = _
  rw [BitVec.toNat_and, BitVec.toNat_ofInt, BitVec.ofInt_natCast, BitVec.toNat_ofNat, Nat.mod_eq_of_lt (show m < 2 ^ 64 by omega)]
  have h1 : (x % 18446744073709551616).toNat &&& m ≤ m := Nat.and_le_right
  have e : (x % ((2 ^ 64 : Nat) : Int)) = x % 18446744073709551616 := rfl
  rw [e, IntKind.wrap_i64]; omega
theorem and63 (x : Int) : bits .and .i64 x 63 = (((x % 64).toNat : Nat) : Int) := by
  have := and_i64 x 63 (by decide)
  have e : (x % 18446744073709551616).toNat &&& 63 = (x % 18446744073709551616).toNat % 64 := Nat.and_two_pow_sub_one_eq_mod _ 6
  rw [e] at this
  rw [show ((63 : Int)) = ((63 : Nat) : Int) from rfl, this]; omega
theorem and1 (x : Int) : bits .and .i64 x 1 = (((x % 2).toNat : Nat) : Int) := by
  have := and_i64 x 1 (by decide)
  have e : (x % 18446744073709551616).toNat &&& 1 = (x % 18446744073709551616).toNat % 2 := Nat.and_two_pow_sub_one_eq_mod _ 1
  rw [e] at this
  rw [show ((1 : Int)) = ((1 : Nat) : Int) from rfl, this]; omega
theorem and2047 (x : Int) : bits .and .i64 x 2047 = (((x % 2048).toNat : Nat) : Int) := by
  have := and_i64 x 2047 (by decide)
  have e : (x % 18446744073709551616).toNat &&& 2047 = (x % 18446744073709551616).toNat % 2048 := Nat.and_two_pow_sub_one_eq_mod _ 11
  rw [e] at this
  rw [show ((2047 : Int)) = ((2047 : Nat) : Int) from rfl, this]; omega
theorem and1u (a : Nat) (ha : a < 18446744073709551616) : bits .and .u64 (a : Int) 1 = ((a % 2 : Nat) : Int) := by
  have := bits_and_u64_nat a 1 ha (by decide)
  rw [show ((1 : Int)) = ((1 : Nat) : Int) from rfl, this, show a &&& 1 = a % 2 from Nat.and_two_pow_sub_one_eq_mod _ 1]
theorem and52 (a : Nat) (ha : a < 18446744073709551616) : bits .and .u64 (a : Int) 4503599627370495 = ((a % 4503599627370496 : Nat) : Int) := by
  have := bits_and_u64_nat a 4503599627370495 ha (by decide)
  rw [show ((4503599627370495 : Int)) = ((4503599627370495 : Nat) : Int) from rfl, this, show a &&& 4503599627370495 = a % 4503599627370496 from Nat.and_two_pow_sub_one_eq_mod _ 52]
theorem or52 (a : Nat) (ha : a < 4503599627370496) : bits .or .u64 (a : Int) 4503599627370496 = ((a + 4503599627370496 : Nat) : Int) := by
  have := bits_or_u64_nat a 4503599627370496 (by omega) (by decide)
  rw [show ((4503599627370496 : Int)) = ((4503599627370496 : Nat) : Int) from rfl, this]
  have h : a ||| 2 ^ 52 = a + 2 ^ 52 := by
    have := Nat.two_pow_add_eq_or_of_lt (i := 52) (b := a) (by omega) 1
    rw [Nat.mul_one] at this
    rw [Nat.or_comm, ← this]; omega
  exact congrArg _ h
def usc (x hi lo s : Nat) : Nat :=
  let H := x * hi / 18446744073709551616
  let M := x * hi % 18446744073709551616
  if H / 2 ^ s * 2 ^ s = H then
    let m2 := x * lo / 18446744073709551616
    ((H + 18446744073709551616 - (if M < m2 then 1 else 0)) % 18446744073709551616 / 2 ^ s) ||| (if (M + 18446744073709551616 - m2) % 18446744073709551616 > 1 then 1 else 0)
  else (H / 2 ^ s) ||| 1
theorem ok124N {x y : Nat} {R : Int → Int → Prop} (hx : x < 18446744073709551616) (hy : y < 18446744073709551616) (r : R ((x * y / 18446744073709551616 : Nat) : Int) ((x * y % 18446744073709551616 : Nat) : Int)) : Ok124 x y R :=
  ok124' (by omega) (by omega) (by omega) (by omega) r
theorem ok87' {b : Bool} {R : Int → Prop} (r : R (((if b then 1 else 0 : Nat)) : Int)) : Ok87 b R := by
  apply ok87; unfold T87
  cases b
  · exact cnd_f rfl r
  · exact cnd_t rfl r
theorem ok104' {b : Bool} {R : Int → Prop} (r : R (((if b then 1 else 0 : Nat)) : Int)) : Ok104 b R := by
  apply ok104; unfold T104
  cases b
  · exact cnd_f rfl r
  · exact cnd_t rfl r
theorem div_lt64 {x y : Nat} (hx : x < 18446744073709551616) (hy : y < 18446744073709551616) : x * y / 18446744073709551616 < 18446744073709551616 :=
  Nat.div_lt_of_lt_mul (Nat.mul_lt_mul'' hx hy)
theorem usc_lt {x hi lo s : Nat} (hx : x < 18446744073709551616) (hh : hi < 18446744073709551616) : usc x hi lo s < 18446744073709551616 := by
  have h64 : ((18446744073709551616 : Nat)) = 2 ^ 64 := by decide
  have hd := div_lt64 hx hh
  unfold usc
  simp only []
  rw [h64] at *
  have hs : ∀ a : Nat, a < 2 ^ 64 → a / 2 ^ s < 2 ^ 64 := fun a ha => Nat.lt_of_le_of_lt (Nat.div_le_self _ _) ha
  split
  · exact Nat.or_lt_two_pow (hs _ (Nat.mod_lt _ (by decide))) (by split <;> decide)
  · exact Nat.or_lt_two_pow (hs _ hd) (by decide)
theorem ok98' {x hi lo : Nat} {s : Int} {R : Int → Prop} (hx : x < 18446744073709551616) (hh : hi < 18446744073709551616) (hl : lo < 18446744073709551616) (r : R ((usc x hi lo (s % 64).toNat : Nat) : Int)) : Ok98 x hi lo s R := by
  apply ok98
  unfold T98
  refine ok124N hx hh ?_
  have hk : (s % 64).toNat < 64 := by omega
  have hd := div_lt64 hx hh
  have hd2 := div_lt64 hx hl
  have hmin : min (((s % 64).toNat : Nat) : Int).toNat 64 = (s % 64).toNat := by omega
  have h64 : ((18446744073709551616 : Nat)) = 2 ^ 64 := by decide
  rw [and63, hmin]
  generalize (s % 64).toNat = k at *
  have hM : x * hi % 18446744073709551616 < 18446744073709551616 := Nat.mod_lt _ (by decide)
  unfold usc at r
  simp only [] at r
  generalize x * hi / 18446744073709551616 = H at *
  generalize x * hi % 18446744073709551616 = M at *
  have hq : H / 2 ^ k < 18446744073709551616 := Nat.lt_of_le_of_lt (Nat.div_le_self _ _) hd
  refine ⟨Int.natCast_nonneg _, Int.natCast_nonneg _, ?_⟩
  rw [shr, powN, ← Int.natCast_mul, wrapU' (Nat.lt_of_le_of_lt (Nat.div_mul_le_self _ _) hd)]
  refine cnd_ne (fun e => ?_) fun e => ?_
  · rw [if_neg (fun h => e (by rw [h]))] at r
    refine ⟨Int.natCast_nonneg _, ?_⟩
    have := bits_or_u64_nat (H / 2 ^ k) 1 hq (by decide)
    rw [show ((1 : Int)) = ((1 : Nat) : Int) from rfl, this]
    exact r
  · rw [if_pos (Int.ofNat_inj.1 e)] at r
    refine ok124N hx hl ?_
    generalize x * lo / 18446744073709551616 = m2 at *
    refine ok87' ⟨Int.natCast_nonneg _, ok87' ?_⟩
    have c1 : ∀ c : Nat, c ≤ 1 → (IntKind.u64.wrap ((H : Int) - (c : Int))) = (((H + 18446744073709551616 - c) % 18446744073709551616 : Nat) : Int) := fun c hc => wrapS H c (by omega)
    rw [c1 _ (by split <;> omega), wrapS M m2 (by omega), ← powN, shr]
    have hle : ∀ c : Nat, (H + 18446744073709551616 - c) % 18446744073709551616 / 2 ^ k < 18446744073709551616 := fun c => Nat.lt_of_le_of_lt (Nat.div_le_self _ _) (Nat.mod_lt _ (by decide))
    rw [bits_or_u64_nat _ _ (hle _) (by split <;> omega)]
    have e1 : (decide ((M : Int) < (m2 : Int))) = decide (M < m2) := by simp
    have e2 : (decide ((((M + 18446744073709551616 - m2) % 18446744073709551616 : Nat) : Int) > 1)) = decide ((M + 18446744073709551616 - m2) % 18446744073709551616 > 1) := by
      rw [decide_eq_decide]; omega
    rw [e1, e2]
    simpa using r
end Go.Proofs.YtfjflbapojgbhaaGreatDoor.N
